import Derived.Test.YtldbgghcailgfaaProg
import Derived.Test.YtldbgghcailgfaaGA
set_option linter.unusedVariables false
set_option linter.unusedSimpArgs false
set_option maxRecDepth 10000
set_option maxHeartbeats 4000000
namespace GW
open Go Go.RowKit Go.Proofs Go.Proofs.Try
noncomputable section
abbrev fork_Cache_Account.Ty : Type := ((List ((List Int) × L34)) × (List ((List Int) × Int))) → (List Int) → Option (((List Int) × Int × (List Int) × (List Int) × (List ((List Int) × (List Int)))) × Bool)
def fork_Cache_Account.Ctr (s : fork_Cache_Account.Ty) : Prop := ∀ (x1 : (List ((List Int) × L34)) × (List ((List Int) × Int))) (x2 : List Int) (ch_0_0 : Nat) (ch_0_1 : Nat) (ch_0_2 : Nat) (r : ((List Int) × Int × (List Int) × (List Int) × (List ((List Int) × (List Int)))) × Bool), Ct (C := ((Option Addr) × Nat × Nat × (Option Addr) × Nat × Nat)) Try.prog 15 (s x1 x2 = some r) [Res.cells ch_0_0 76 [.one (.map (some ch_0_1)), .one (.map (some ch_0_2))], Res.map true (Ty.arr .u8 20) true Y34 ch_0_1 x1.1, Res.map true (Ty.arr .u8 20) false yi ch_0_2 x1.2] [(.p ch_0_0), (.agg [.b20 x2])] (fun ch => (.tup [(true, [.b20 r.1.1, .w r.1.2.1, .w4 r.1.2.2.1, .s ch.1 ch.2.1 ch.2.2.1, .s ch.2.2.2.1 ch.2.2.2.2.1 ch.2.2.2.2.2]), (false, [.b r.2])])) fun ch => [Res.row yb 5 ch.1 ch.2.1 ch.2.2.1 r.1.2.2.2.1, Res.row Y71 71 ch.2.2.2.1 ch.2.2.2.2.1 ch.2.2.2.2.2 r.1.2.2.2.2, Res.cells ch_0_0 76 [.one (.map (some ch_0_1)), .one (.map (some ch_0_2))], Res.map true (Ty.arr .u8 20) true Y34 ch_0_1 x1.1, Res.map true (Ty.arr .u8 20) false yi ch_0_2 x1.2]
def fork_Cache_Account.j1 (x1 : (List ((List Int) × L34)) × (List ((List Int) × Int))) (x2 : List Int) : Option (((List Int) × Int × (List Int) × (List Int) × (List ((List Int) × (List Int)))) × Bool) := if ((lk (aget x1.1 x2) ([0, 0, 0, 0, 0, 0, 0, 0, 0, 0, 0, 0, 0, 0, 0, 0, 0, 0, 0, 0], 0, [0, 0, 0, 0], ([] : List Int), ([] : List ((List Int) × (List Int))))).2) = true then ((fork_own.f ((lk (aget x1.1 x2) ([0, 0, 0, 0, 0, 0, 0, 0, 0, 0, 0, 0, 0, 0, 0, 0, 0, 0, 0, 0], 0, [0, 0, 0, 0], ([] : List Int), ([] : List ((List Int) × (List Int))))).1)).bind fun t1 => (some (t1, true))) else (some ((x2, 0, [0, 0, 0, 0], ([] : List Int), ([] : List ((List Int) × (List Int)))), false))
def fork_Cache_Account.f (x1 : (List ((List Int) × L34)) × (List ((List Int) × Int))) (x2 : List Int) : Option (((List Int) × Int × (List Int) × (List Int) × (List ((List Int) × (List Int)))) × Bool) := fork_Cache_Account.j1 x1 x2
theorem fork_Cache_Account.ok : fork_Cache_Account.Ctr (fork_Cache_Account.f) := by
 intro x1 x2 ch_0_0 ch_0_1 ch_0_2 r h0 mi w0 ok hm
 delta fork_Cache_Account.f at h0
 refine c_enterZ (n := 24) ok hm func15 rfl rfl rfl fun b0 hb a S => c_region (s_box S rfl rfl rfl fun g1 a w S => s_alloc S Z34 rfl ⟨rfl, rfl, rfl, rfl, rfl, trivial⟩ rfl fun g2 a w S => s_assign S rfl rfl fun a S => c_end (wp_seq (c_region (s_move S rfl rfl fun a S => s_nep S (b := true) rfl rfl underlying36 rfl rfl fun a S => c_end (c_condT S rfl rfl (wp_seq_k fun K1 hK1 => ?_))))))
 have j1 : ∀ m g4 g5 g6 A1 cp1 A2 cp2 a w, St 24 m b0 [(7, (.b ((lk (aget x1.1 x2) (z20, 0, [0, 0, 0, 0], ([] : List Int), ([] : List ((List Int) × (List Int))))).2))), (6, (.p g4)), (4, (.p g5)), (3, (.p g6))] [Res.cells g4 34 [.b20 (((lk (aget x1.1 x2) (z20, 0, [0, 0, 0, 0], ([] : List Int), ([] : List ((List Int) × (List Int))))).1).1), .w (((lk (aget x1.1 x2) (z20, 0, [0, 0, 0, 0], ([] : List Int), ([] : List ((List Int) × (List Int))))).1).2.1), .w4 (((lk (aget x1.1 x2) (z20, 0, [0, 0, 0, 0], ([] : List Int), ([] : List ((List Int) × (List Int))))).1).2.2.1), .q yb A1 cp1 (((lk (aget x1.1 x2) (z20, 0, [0, 0, 0, 0], ([] : List Int), ([] : List ((List Int) × (List Int))))).1).2.2.2.1), .q Y71 A2 cp2 (((lk (aget x1.1 x2) (z20, 0, [0, 0, 0, 0], ([] : List Int), ([] : List ((List Int) × (List Int))))).1).2.2.2.2)], Res.cells g5 34 [.b20 z20, .w 0, .w4 [0, 0, 0, 0], .s none 0 0, .s none 0 0], Res.cells g6 28 [.b20 x2], Res.cells ch_0_0 76 [.one (.map (some ch_0_1)), .one (.map (some ch_0_2))], Res.map true (Ty.arr .u8 20) true Y34 ch_0_1 x1.1, Res.map true (Ty.arr .u8 20) false yi ch_0_2 x1.2] a w → fork_Cache_Account.j1 x1 x2 = some r → K1 a w := by
  intro m g4 g5 g6 A1 cp1 A2 cp2 a w S h0
  delta fork_Cache_Account.j1 at h0
  refine hK1 a w (c_region (s_move S rfl rfl fun a S => c_end ?_))
  rcases ite_of h0 with ⟨c1, h1⟩ | ⟨c1, h1⟩
  ·refine c_condT S rfl c1 (c_region (s_loada S rfl .h T34 (s' := [.b20 (((lk (aget x1.1 x2) (z20, 0, [0, 0, 0, 0], ([] : List Int), ([] : List ((List Int) × (List Int))))).1).1), .w (((lk (aget x1.1 x2) (z20, 0, [0, 0, 0, 0], ([] : List Int), ([] : List ((List Int) × (List Int))))).1).2.1), .w4 (((lk (aget x1.1 x2) (z20, 0, [0, 0, 0, 0], ([] : List Int), ([] : List ((List Int) × (List Int))))).1).2.2.1), .q yb A1 cp1 (((lk (aget x1.1 x2) (z20, 0, [0, 0, 0, 0], ([] : List Int), ([] : List ((List Int) × (List Int))))).1).2.2.2.1), .q Y71 A2 cp2 (((lk (aget x1.1 x2) (z20, 0, [0, 0, 0, 0], ([] : List Int), ([] : List ((List Int) × (List Int))))).1).2.2.2.2)]) rfl rfl fun a S => bindX h1 fun t1 et1 h2 => s_callX S (ds' := [(.agg [.b20 (((lk (aget x1.1 x2) (z20, 0, [0, 0, 0, 0], ([] : List Int), ([] : List ((List Int) × (List Int))))).1).1), .w (((lk (aget x1.1 x2) (z20, 0, [0, 0, 0, 0], ([] : List Int), ([] : List ((List Int) × (List Int))))).1).2.1), .w4 (((lk (aget x1.1 x2) (z20, 0, [0, 0, 0, 0], ([] : List Int), ([] : List ((List Int) × (List Int))))).1).2.2.1), .q yb A1 cp1 (((lk (aget x1.1 x2) (z20, 0, [0, 0, 0, 0], ([] : List Int), ([] : List ((List Int) × (List Int))))).1).2.2.2.1), .q Y71 A2 cp2 (((lk (aget x1.1 x2) (z20, 0, [0, 0, 0, 0], ([] : List Int), ([] : List ((List Int) × (List Int))))).1).2.2.2.2)])]) (ds := [(.agg [.b20 (((lk (aget x1.1 x2) (z20, 0, [0, 0, 0, 0], ([] : List Int), ([] : List ((List Int) × (List Int))))).1).1), .w (((lk (aget x1.1 x2) (z20, 0, [0, 0, 0, 0], ([] : List Int), ([] : List ((List Int) × (List Int))))).1).2.1), .w4 (((lk (aget x1.1 x2) (z20, 0, [0, 0, 0, 0], ([] : List Int), ([] : List ((List Int) × (List Int))))).1).2.2.1), .q yb A1 cp1 (((lk (aget x1.1 x2) (z20, 0, [0, 0, 0, 0], ([] : List Int), ([] : List ((List Int) × (List Int))))).1).2.2.2.1), .q Y71 A2 cp2 (((lk (aget x1.1 x2) (z20, 0, [0, 0, 0, 0], ([] : List Int), ([] : List ((List Int) × (List Int))))).1).2.2.2.2)])]) [] [Res.cells g4 34 [.b20 (((lk (aget x1.1 x2) (z20, 0, [0, 0, 0, 0], ([] : List Int), ([] : List ((List Int) × (List Int))))).1).1), .w (((lk (aget x1.1 x2) (z20, 0, [0, 0, 0, 0], ([] : List Int), ([] : List ((List Int) × (List Int))))).1).2.1), .w4 (((lk (aget x1.1 x2) (z20, 0, [0, 0, 0, 0], ([] : List Int), ([] : List ((List Int) × (List Int))))).1).2.2.1), .q yb A1 cp1 (((lk (aget x1.1 x2) (z20, 0, [0, 0, 0, 0], ([] : List Int), ([] : List ((List Int) × (List Int))))).1).2.2.2.1), .q Y71 A2 cp2 (((lk (aget x1.1 x2) (z20, 0, [0, 0, 0, 0], ([] : List Int), ([] : List ((List Int) × (List Int))))).1).2.2.2.2)], Res.cells g5 34 [.b20 z20, .w 0, .w4 [0, 0, 0, 0], .s none 0 0, .s none 0 0], Res.cells g6 28 [.b20 x2], Res.cells ch_0_0 76 [.one (.map (some ch_0_1)), .one (.map (some ch_0_2))], Res.map true (Ty.arr .u8 20) true Y34 ch_0_1 x1.1, Res.map true (Ty.arr .u8 20) false yi ch_0_2 x1.2] (fun (ch : (Option Addr) × Nat × Nat × (Option Addr) × Nat × Nat) => ((.agg [.b20 t1.1, .w t1.2.1, .w4 t1.2.2.1, .s ch.1 ch.2.1 ch.2.2.1, .s ch.2.2.2.1 ch.2.2.2.2.1 ch.2.2.2.2.2]) : D)) (fun (ch : (Option Addr) × Nat × Nat × (Option Addr) × Nat × Nat) => [Res.row yb 5 ch.1 ch.2.1 ch.2.2.1 t1.2.2.2.1, Res.row Y71 71 ch.2.2.2.1 ch.2.2.2.2.1 ch.2.2.2.2.2 t1.2.2.2.2]) (fun (ch : (Option Addr) × Nat × Nat × (Option Addr) × Nat × Nat) => [Res.row yb 5 ch.1 ch.2.1 ch.2.2.1 t1.2.2.2.1, Res.row Y71 71 ch.2.2.2.1 ch.2.2.2.2.1 ch.2.2.2.2.2 t1.2.2.2.2, Res.cells g4 34 [.b20 (((lk (aget x1.1 x2) (z20, 0, [0, 0, 0, 0], ([] : List Int), ([] : List ((List Int) × (List Int))))).1).1), .w (((lk (aget x1.1 x2) (z20, 0, [0, 0, 0, 0], ([] : List Int), ([] : List ((List Int) × (List Int))))).1).2.1), .w4 (((lk (aget x1.1 x2) (z20, 0, [0, 0, 0, 0], ([] : List Int), ([] : List ((List Int) × (List Int))))).1).2.2.1), .q yb A1 cp1 (((lk (aget x1.1 x2) (z20, 0, [0, 0, 0, 0], ([] : List Int), ([] : List ((List Int) × (List Int))))).1).2.2.2.1), .q Y71 A2 cp2 (((lk (aget x1.1 x2) (z20, 0, [0, 0, 0, 0], ([] : List Int), ([] : List ((List Int) × (List Int))))).1).2.2.2.2)], Res.cells g5 34 [.b20 z20, .w 0, .w4 [0, 0, 0, 0], .s none 0 0, .s none 0 0], Res.cells g6 28 [.b20 x2], Res.cells ch_0_0 76 [.one (.map (some ch_0_1)), .one (.map (some ch_0_2))], Res.map true (Ty.arr .u8 20) true Y34 ch_0_1 x1.1, Res.map true (Ty.arr .u8 20) false yi ch_0_2 x1.2]) (fun _ => rfl) N31 rfl rfl (fun ok => ok) (.c0 (.c0 (.c0 (.c0 (.c0 (.c0 .n)))))) rfl (fork_own.ok ((lk (aget x1.1 x2) (z20, 0, [0, 0, 0, 0], ([] : List Int), ([] : List ((List Int) × (List Int))))).1) A1 cp1 A2 cp2 t1 et1 _ _) fun ch1 m le1 a w S => s_store S rfl rfl rfl (s' := [.b20 t1.1, .w t1.2.1, .w4 t1.2.2.1, .s ch1.1 ch1.2.1 ch1.2.2.1, .s ch1.2.2.2.1 ch1.2.2.2.2.1 ch1.2.2.2.2.2]) .h3 T34 rfl rfl fun w S => s_assign S rfl rfl fun a S => c_end (wp_ret (x_thenR ?_))))
   obtain rfl := Option.some.inj h2
   exact b_ret2 (d1 := (.agg [.b20 t1.1, .w t1.2.1, .w4 t1.2.2.1, .s ch1.1 ch1.2.1 ch1.2.2.1, .s ch1.2.2.2.1 ch1.2.2.2.2.1 ch1.2.2.2.2.2])) (d2 := (.b true)) S rfl (resD_cell rfl .h3 T34 rfl rfl) rfl fun ok1 ok2 => S.retX (Hx := []) hb _ _ ((ch1.1, ch1.2.1, ch1.2.2.1, ch1.2.2.2.1, ch1.2.2.2.2.1, ch1.2.2.2.2.2) : (Option Addr) × Nat × Nat × (Option Addr) × Nat × Nat) (.c0 (.c0 (.c3 (.c3 (.c3 .n))))) ⟨ok1, ⟨ok2, trivial⟩, trivial⟩
  ·refine c_condF S rfl c1 (wp_skip (x_thenN (c_region (s_loada S rfl .h2 T28 (s' := [.b20 x2]) rfl rfl fun a S => s_bldS S (ds := [(0, (.agg [.b20 x2]))]) (zs := [.b20 z20, .w 0, .w4 [0, 0, 0, 0], .s none 0 0, .s none 0 0]) (s' := [.b20 x2, .w 0, .w4 [0, 0, 0, 0], .s none 0 0, .s none 0 0]) rfl underlying34 P34 Z34 ⟨rfl, rfl, rfl, rfl, rfl, trivial⟩ rfl rfl fun a S => s_store S rfl rfl rfl (s' := [.b20 x2, .w 0, .w4 [0, 0, 0, 0], .s none 0 0, .s none 0 0]) .h1 T34 rfl rfl fun w S => s_assign S rfl rfl fun a S => c_end (wp_ret ?_)))))
   replace S := S.nilrow yb 5
   replace S := S.nilrow Y71 71
   obtain rfl := Option.some.inj h1
   exact b_ret2 (d1 := (.agg [.b20 x2, .w 0, .w4 [0, 0, 0, 0], .s none 0 0, .s none 0 0])) (d2 := (.b false)) S rfl (resD_cell rfl .h3 T34 rfl rfl) rfl fun ok1 ok2 => S.retX (Hx := []) hb _ _ ((none, 0, 0, none, 0, 0) : (Option Addr) × Nat × Nat × (Option Addr) × Nat × Nat) (.c1 (.c0 (.c3 (.c3 (.c3 .n))))) ⟨ok1, ⟨ok2, trivial⟩, trivial⟩
 refine c_heldS S (.take 0 (.take 1 (.take 2 (.take 3 (.take 4 (.alts (.run 5 true (.alts (.run 6 true (.alts (.run 7 true (.alts (.run 8 true (.alts (.run 9 true (.alts (.run 10 true (.take 11 .done) .nil)) .nil)) (.run 9 true (.alts (.run 8 true (.alts (.run 10 true (.take 11 .done) .nil)) (.run 10 true (.alts (.run 8 true (.take 11 .done) .nil)) .nil))) .nil))) (.run 8 true (.alts (.run 7 true (.alts (.run 9 true (.alts (.run 10 true (.take 11 .done) .nil)) .nil)) (.run 9 true (.alts (.run 7 true (.alts (.run 10 true (.take 11 .done) .nil)) .nil)) .nil))) (.run 9 true (.alts (.run 7 true (.alts (.run 8 true (.alts (.run 10 true (.take 11 .done) .nil)) (.run 10 true (.alts (.run 8 true (.take 11 .done) .nil)) .nil))) (.run 8 true (.alts (.run 7 true (.alts (.run 10 true (.take 11 .done) .nil)) .nil)) .nil))) .nil)))) (.run 9 true (.alts (.run 6 true (.alts (.run 7 true (.alts (.run 8 true (.alts (.run 10 true (.take 11 .done) .nil)) (.run 10 true (.alts (.run 8 true (.take 11 .done) .nil)) .nil))) (.run 8 true (.alts (.run 7 true (.alts (.run 10 true (.take 11 .done) .nil)) .nil)) .nil))) .nil)) .nil))) (.run 9 true (.alts (.run 5 true (.alts (.run 6 true (.alts (.run 7 true (.alts (.run 8 true (.alts (.run 10 true (.take 11 .done) .nil)) (.run 10 true (.alts (.run 8 true (.take 11 .done) .nil)) .nil))) (.run 8 true (.alts (.run 7 true (.alts (.run 10 true (.take 11 .done) .nil)) .nil)) .nil))) .nil)) .nil)) .nil)))))))) 12 [Res.cells g2 34 [.b20 z20, .w 0, .w4 [0, 0, 0, 0], .s none 0 0, .s none 0 0], Res.cells g1 28 [.b20 x2], Res.cells ch_0_0 76 [.one (.map (some ch_0_1)), .one (.map (some ch_0_2))]] (.c0 (.c0 (.c0 .n))) ⟨Res.stay_cells, Res.stay_cells, Res.stay_cells, trivial⟩ [(3, (.p g1)), (0, (.p ch_0_0))] (subR rfl) (by kernel_rfl) (by kernel_rfl) fun w S CL hw le => ?_
 refine h_move S CL hw le (subR rfl) rfl rfl rfl trivial fun a S CL => h_nilchk S CL hw le (subR rfl) rfl rfl rfl rfl trivial fun a S CL => h_fieldAddr S CL hw le (subR rfl) rfl I76_0 T73 (by decide) rfl rfl rfl trivial fun a S CL => h_load1 S CL hw le (subR rfl) rfl .h2 T73 (v := (.map (some ch_0_1))) rfl rfl rfl trivial fun a S CL => h_loada S CL hw le (subR rfl) rfl .h1 T28 (s' := [.b20 x2]) rfl rfl rfl trivial fun a S CL => h_alts ?_
 refine h_runO S rfl trivial ?_ ?_
 ·refine s_lookO S (z := (z20, 0, [0, 0, 0, 0], ([] : List Int), ([] : List ((List Int) × (List Int))))) (k := x2) rfl .h3 ((), (), (), (none, 0), (none, 0)) rfl (fun h => ⟨(), rfl, h⟩) underlying73 KT28 Z34 ⟨rfl, rfl, rfl, ⟨Nat.le_refl _, Nat.zero_le _, RdS.nil _ _ _, RdS.mono _ _ _⟩, ⟨Nat.le_refl _, Nat.zero_le _, RdS.nil _ _ _, RdS.mono _ _ _⟩, trivial⟩ rfl fun ch2 a S => ?_
  replace hw := CL.again hw S (.c0 (.c0 (.c0 .n))) le
  refine h_back ⟨fun _ => hw, ?_⟩
  refine h_alts ?_
  refine h_runO S rfl trivial ?_ ?_
  ·refine s_move S rfl rfl fun a S => ?_
   replace hw := CL.again hw S (.c0 (.c0 (.c0 .n))) le
   refine h_back ⟨fun _ => hw, ?_⟩
   refine h_alts ?_
   refine h_runO S rfl trivial ?_ ?_
   ·refine s_extract S rfl rfl rfl rfl fun a S => ?_
    replace hw := CL.again hw S (.c0 (.c0 (.c0 .n))) le
    refine h_back ⟨fun _ => hw, ?_⟩
    refine h_alts ?_
    refine h_runO S rfl trivial ?_ ?_
    ·refine s_extract S rfl rfl rfl rfl fun a S => ?_
     replace hw := CL.again hw S (.c0 (.c0 (.c0 .n))) le
     refine h_back ⟨fun _ => hw, ?_⟩
     replace CL := CL.add (t := 18) (d := (.b ((lk (aget x1.1 x2) (z20, 0, [0, 0, 0, 0], ([] : List Int), ([] : List ((List Int) × (List Int))))).2))) S rfl rfl
     refine h_run' S rfl trivial (s_alloc S Z34 rfl ⟨rfl, rfl, rfl, rfl, rfl, trivial⟩ rfl fun g7 a w S => ?_)
     replace hw := CL.again hw S (.c1 (.c1 (.c1 .n))) le
     refine h_back ⟨fun _ => hw, ?_⟩
     refine h_run' S rfl trivial (s_store S rfl rfl rfl (s' := [.b20 (((lk (aget x1.1 x2) (z20, 0, [0, 0, 0, 0], ([] : List Int), ([] : List ((List Int) × (List Int))))).1).1), .w (((lk (aget x1.1 x2) (z20, 0, [0, 0, 0, 0], ([] : List Int), ([] : List ((List Int) × (List Int))))).1).2.1), .w4 (((lk (aget x1.1 x2) (z20, 0, [0, 0, 0, 0], ([] : List Int), ([] : List ((List Int) × (List Int))))).1).2.2.1), .q yb ch2.2.2.2.1.1 ch2.2.2.2.1.2 (((lk (aget x1.1 x2) (z20, 0, [0, 0, 0, 0], ([] : List Int), ([] : List ((List Int) × (List Int))))).1).2.2.2.1), .q Y71 ch2.2.2.2.2.1 ch2.2.2.2.2.2 (((lk (aget x1.1 x2) (z20, 0, [0, 0, 0, 0], ([] : List Int), ([] : List ((List Int) × (List Int))))).1).2.2.2.2)]) .h T34 rfl rfl fun w S => ?_)
     replace hw := CL.again hw S (.c1 (.c1 (.c1 .n))) le
     refine h_back ⟨fun _ => hw, ?_⟩
     refine h_assign S CL hw le (subR rfl) rfl rfl rfl trivial fun a S CL => ?_
     refine h_done ?_; clear CL hw le
     refine x_thenN ?_
     exact j1 _ g7 g2 g1 ch2.2.2.2.1.1 ch2.2.2.2.1.2 ch2.2.2.2.2.1 ch2.2.2.2.2.2 a w (S.sb rfl (.c0 (.c0 (.c0 (.c0 (.c0 (.c0 .n))))))) h0
    refine h_runO S rfl trivial ?_ ?_
    ·refine s_alloc S Z34 rfl ⟨rfl, rfl, rfl, rfl, rfl, trivial⟩ rfl fun g7 a w S => ?_
     replace hw := CL.again hw S (.c1 (.c1 (.c1 .n))) le
     refine h_back ⟨fun _ => hw, ?_⟩
     refine h_alts ?_
     refine h_runO S rfl trivial ?_ ?_
     ·refine s_extract S rfl rfl rfl rfl fun a S => ?_
      replace hw := CL.again hw S (.c1 (.c1 (.c1 .n))) le
      refine h_back ⟨fun _ => hw, ?_⟩
      replace CL := CL.add (t := 18) (d := (.b ((lk (aget x1.1 x2) (z20, 0, [0, 0, 0, 0], ([] : List Int), ([] : List ((List Int) × (List Int))))).2))) S rfl rfl
      refine h_run' S rfl trivial (s_store S rfl rfl rfl (s' := [.b20 (((lk (aget x1.1 x2) (z20, 0, [0, 0, 0, 0], ([] : List Int), ([] : List ((List Int) × (List Int))))).1).1), .w (((lk (aget x1.1 x2) (z20, 0, [0, 0, 0, 0], ([] : List Int), ([] : List ((List Int) × (List Int))))).1).2.1), .w4 (((lk (aget x1.1 x2) (z20, 0, [0, 0, 0, 0], ([] : List Int), ([] : List ((List Int) × (List Int))))).1).2.2.1), .q yb ch2.2.2.2.1.1 ch2.2.2.2.1.2 (((lk (aget x1.1 x2) (z20, 0, [0, 0, 0, 0], ([] : List Int), ([] : List ((List Int) × (List Int))))).1).2.2.2.1), .q Y71 ch2.2.2.2.2.1 ch2.2.2.2.2.2 (((lk (aget x1.1 x2) (z20, 0, [0, 0, 0, 0], ([] : List Int), ([] : List ((List Int) × (List Int))))).1).2.2.2.2)]) .h T34 rfl rfl fun w S => ?_)
      replace hw := CL.again hw S (.c1 (.c1 (.c1 .n))) le
      refine h_back ⟨fun _ => hw, ?_⟩
      refine h_assign S CL hw le (subR rfl) rfl rfl rfl trivial fun a S CL => ?_
      refine h_done ?_; clear CL hw le
      refine x_thenN ?_
      exact j1 _ g7 g2 g1 ch2.2.2.2.1.1 ch2.2.2.2.1.2 ch2.2.2.2.2.1 ch2.2.2.2.2.2 a w (S.sb rfl (.c0 (.c0 (.c0 (.c0 (.c0 (.c0 .n))))))) h0
     refine h_runO S rfl trivial ?_ ?_
     ·refine s_store S rfl rfl rfl (s' := [.b20 (((lk (aget x1.1 x2) (z20, 0, [0, 0, 0, 0], ([] : List Int), ([] : List ((List Int) × (List Int))))).1).1), .w (((lk (aget x1.1 x2) (z20, 0, [0, 0, 0, 0], ([] : List Int), ([] : List ((List Int) × (List Int))))).1).2.1), .w4 (((lk (aget x1.1 x2) (z20, 0, [0, 0, 0, 0], ([] : List Int), ([] : List ((List Int) × (List Int))))).1).2.2.1), .q yb ch2.2.2.2.1.1 ch2.2.2.2.1.2 (((lk (aget x1.1 x2) (z20, 0, [0, 0, 0, 0], ([] : List Int), ([] : List ((List Int) × (List Int))))).1).2.2.2.1), .q Y71 ch2.2.2.2.2.1 ch2.2.2.2.2.2 (((lk (aget x1.1 x2) (z20, 0, [0, 0, 0, 0], ([] : List Int), ([] : List ((List Int) × (List Int))))).1).2.2.2.2)]) .h T34 rfl rfl fun w S => ?_
      replace hw := CL.again hw S (.c1 (.c1 (.c1 .n))) le
      refine h_back ⟨fun _ => hw, ?_⟩
      refine h_run' S rfl trivial (s_extract S rfl rfl rfl rfl fun a S => ?_)
      replace hw := CL.again hw S (.c1 (.c1 (.c1 .n))) le
      refine h_back ⟨fun _ => hw, ?_⟩
      replace CL := CL.add (t := 18) (d := (.b ((lk (aget x1.1 x2) (z20, 0, [0, 0, 0, 0], ([] : List Int), ([] : List ((List Int) × (List Int))))).2))) S rfl rfl
      refine h_assign S CL hw le (subR rfl) rfl rfl rfl trivial fun a S CL => ?_
      refine h_done ?_; clear CL hw le
      refine x_thenN ?_
      exact j1 _ g7 g2 g1 ch2.2.2.2.1.1 ch2.2.2.2.1.2 ch2.2.2.2.2.1 ch2.2.2.2.2.2 a w (S.sb rfl (.c0 (.c0 (.c0 (.c0 (.c0 (.c0 .n))))))) h0
     exact h_nil
    exact h_nil
   refine h_runO S rfl trivial ?_ ?_
   ·refine s_extract S rfl rfl rfl rfl fun a S => ?_
    replace hw := CL.again hw S (.c0 (.c0 (.c0 .n))) le
    refine h_back ⟨fun _ => hw, ?_⟩
    replace CL := CL.add (t := 18) (d := (.b ((lk (aget x1.1 x2) (z20, 0, [0, 0, 0, 0], ([] : List Int), ([] : List ((List Int) × (List Int))))).2))) S rfl rfl
    refine h_alts ?_
    refine h_runO S rfl trivial ?_ ?_
    ·refine s_extract S rfl rfl rfl rfl fun a S => ?_
     replace hw := CL.again hw S (.c0 (.c0 (.c0 .n))) le
     refine h_back ⟨fun _ => hw, ?_⟩
     refine h_run' S rfl trivial (s_alloc S Z34 rfl ⟨rfl, rfl, rfl, rfl, rfl, trivial⟩ rfl fun g7 a w S => ?_)
     replace hw := CL.again hw S (.c1 (.c1 (.c1 .n))) le
     refine h_back ⟨fun _ => hw, ?_⟩
     refine h_run' S rfl trivial (s_store S rfl rfl rfl (s' := [.b20 (((lk (aget x1.1 x2) (z20, 0, [0, 0, 0, 0], ([] : List Int), ([] : List ((List Int) × (List Int))))).1).1), .w (((lk (aget x1.1 x2) (z20, 0, [0, 0, 0, 0], ([] : List Int), ([] : List ((List Int) × (List Int))))).1).2.1), .w4 (((lk (aget x1.1 x2) (z20, 0, [0, 0, 0, 0], ([] : List Int), ([] : List ((List Int) × (List Int))))).1).2.2.1), .q yb ch2.2.2.2.1.1 ch2.2.2.2.1.2 (((lk (aget x1.1 x2) (z20, 0, [0, 0, 0, 0], ([] : List Int), ([] : List ((List Int) × (List Int))))).1).2.2.2.1), .q Y71 ch2.2.2.2.2.1 ch2.2.2.2.2.2 (((lk (aget x1.1 x2) (z20, 0, [0, 0, 0, 0], ([] : List Int), ([] : List ((List Int) × (List Int))))).1).2.2.2.2)]) .h T34 rfl rfl fun w S => ?_)
     replace hw := CL.again hw S (.c1 (.c1 (.c1 .n))) le
     refine h_back ⟨fun _ => hw, ?_⟩
     refine h_assign S CL hw le (subR rfl) rfl rfl rfl trivial fun a S CL => ?_
     refine h_done ?_; clear CL hw le
     refine x_thenN ?_
     exact j1 _ g7 g2 g1 ch2.2.2.2.1.1 ch2.2.2.2.1.2 ch2.2.2.2.2.1 ch2.2.2.2.2.2 a w (S.sb rfl (.c0 (.c0 (.c0 (.c0 (.c0 (.c0 .n))))))) h0
    refine h_runO S rfl trivial ?_ ?_
    ·refine s_alloc S Z34 rfl ⟨rfl, rfl, rfl, rfl, rfl, trivial⟩ rfl fun g7 a w S => ?_
     replace hw := CL.again hw S (.c1 (.c1 (.c1 .n))) le
     refine h_back ⟨fun _ => hw, ?_⟩
     refine h_run' S rfl trivial (s_extract S rfl rfl rfl rfl fun a S => ?_)
     replace hw := CL.again hw S (.c1 (.c1 (.c1 .n))) le
     refine h_back ⟨fun _ => hw, ?_⟩
     refine h_run' S rfl trivial (s_store S rfl rfl rfl (s' := [.b20 (((lk (aget x1.1 x2) (z20, 0, [0, 0, 0, 0], ([] : List Int), ([] : List ((List Int) × (List Int))))).1).1), .w (((lk (aget x1.1 x2) (z20, 0, [0, 0, 0, 0], ([] : List Int), ([] : List ((List Int) × (List Int))))).1).2.1), .w4 (((lk (aget x1.1 x2) (z20, 0, [0, 0, 0, 0], ([] : List Int), ([] : List ((List Int) × (List Int))))).1).2.2.1), .q yb ch2.2.2.2.1.1 ch2.2.2.2.1.2 (((lk (aget x1.1 x2) (z20, 0, [0, 0, 0, 0], ([] : List Int), ([] : List ((List Int) × (List Int))))).1).2.2.2.1), .q Y71 ch2.2.2.2.2.1 ch2.2.2.2.2.2 (((lk (aget x1.1 x2) (z20, 0, [0, 0, 0, 0], ([] : List Int), ([] : List ((List Int) × (List Int))))).1).2.2.2.2)]) .h T34 rfl rfl fun w S => ?_)
     replace hw := CL.again hw S (.c1 (.c1 (.c1 .n))) le
     refine h_back ⟨fun _ => hw, ?_⟩
     refine h_assign S CL hw le (subR rfl) rfl rfl rfl trivial fun a S CL => ?_
     refine h_done ?_; clear CL hw le
     refine x_thenN ?_
     exact j1 _ g7 g2 g1 ch2.2.2.2.1.1 ch2.2.2.2.1.2 ch2.2.2.2.2.1 ch2.2.2.2.2.2 a w (S.sb rfl (.c0 (.c0 (.c0 (.c0 (.c0 (.c0 .n))))))) h0
    exact h_nil
   refine h_runO S rfl trivial ?_ ?_
   ·refine s_alloc S Z34 rfl ⟨rfl, rfl, rfl, rfl, rfl, trivial⟩ rfl fun g7 a w S => ?_
    replace hw := CL.again hw S (.c1 (.c1 (.c1 .n))) le
    refine h_back ⟨fun _ => hw, ?_⟩
    refine h_alts ?_
    refine h_runO S rfl trivial ?_ ?_
    ·refine s_extract S rfl rfl rfl rfl fun a S => ?_
     replace hw := CL.again hw S (.c1 (.c1 (.c1 .n))) le
     refine h_back ⟨fun _ => hw, ?_⟩
     refine h_alts ?_
     refine h_runO S rfl trivial ?_ ?_
     ·refine s_extract S rfl rfl rfl rfl fun a S => ?_
      replace hw := CL.again hw S (.c1 (.c1 (.c1 .n))) le
      refine h_back ⟨fun _ => hw, ?_⟩
      replace CL := CL.add (t := 18) (d := (.b ((lk (aget x1.1 x2) (z20, 0, [0, 0, 0, 0], ([] : List Int), ([] : List ((List Int) × (List Int))))).2))) S rfl rfl
      refine h_run' S rfl trivial (s_store S rfl rfl rfl (s' := [.b20 (((lk (aget x1.1 x2) (z20, 0, [0, 0, 0, 0], ([] : List Int), ([] : List ((List Int) × (List Int))))).1).1), .w (((lk (aget x1.1 x2) (z20, 0, [0, 0, 0, 0], ([] : List Int), ([] : List ((List Int) × (List Int))))).1).2.1), .w4 (((lk (aget x1.1 x2) (z20, 0, [0, 0, 0, 0], ([] : List Int), ([] : List ((List Int) × (List Int))))).1).2.2.1), .q yb ch2.2.2.2.1.1 ch2.2.2.2.1.2 (((lk (aget x1.1 x2) (z20, 0, [0, 0, 0, 0], ([] : List Int), ([] : List ((List Int) × (List Int))))).1).2.2.2.1), .q Y71 ch2.2.2.2.2.1 ch2.2.2.2.2.2 (((lk (aget x1.1 x2) (z20, 0, [0, 0, 0, 0], ([] : List Int), ([] : List ((List Int) × (List Int))))).1).2.2.2.2)]) .h T34 rfl rfl fun w S => ?_)
      replace hw := CL.again hw S (.c1 (.c1 (.c1 .n))) le
      refine h_back ⟨fun _ => hw, ?_⟩
      refine h_assign S CL hw le (subR rfl) rfl rfl rfl trivial fun a S CL => ?_
      refine h_done ?_; clear CL hw le
      refine x_thenN ?_
      exact j1 _ g7 g2 g1 ch2.2.2.2.1.1 ch2.2.2.2.1.2 ch2.2.2.2.2.1 ch2.2.2.2.2.2 a w (S.sb rfl (.c0 (.c0 (.c0 (.c0 (.c0 (.c0 .n))))))) h0
     refine h_runO S rfl trivial ?_ ?_
     ·refine s_store S rfl rfl rfl (s' := [.b20 (((lk (aget x1.1 x2) (z20, 0, [0, 0, 0, 0], ([] : List Int), ([] : List ((List Int) × (List Int))))).1).1), .w (((lk (aget x1.1 x2) (z20, 0, [0, 0, 0, 0], ([] : List Int), ([] : List ((List Int) × (List Int))))).1).2.1), .w4 (((lk (aget x1.1 x2) (z20, 0, [0, 0, 0, 0], ([] : List Int), ([] : List ((List Int) × (List Int))))).1).2.2.1), .q yb ch2.2.2.2.1.1 ch2.2.2.2.1.2 (((lk (aget x1.1 x2) (z20, 0, [0, 0, 0, 0], ([] : List Int), ([] : List ((List Int) × (List Int))))).1).2.2.2.1), .q Y71 ch2.2.2.2.2.1 ch2.2.2.2.2.2 (((lk (aget x1.1 x2) (z20, 0, [0, 0, 0, 0], ([] : List Int), ([] : List ((List Int) × (List Int))))).1).2.2.2.2)]) .h T34 rfl rfl fun w S => ?_
      replace hw := CL.again hw S (.c1 (.c1 (.c1 .n))) le
      refine h_back ⟨fun _ => hw, ?_⟩
      refine h_run' S rfl trivial (s_extract S rfl rfl rfl rfl fun a S => ?_)
      replace hw := CL.again hw S (.c1 (.c1 (.c1 .n))) le
      refine h_back ⟨fun _ => hw, ?_⟩
      replace CL := CL.add (t := 18) (d := (.b ((lk (aget x1.1 x2) (z20, 0, [0, 0, 0, 0], ([] : List Int), ([] : List ((List Int) × (List Int))))).2))) S rfl rfl
      refine h_assign S CL hw le (subR rfl) rfl rfl rfl trivial fun a S CL => ?_
      refine h_done ?_; clear CL hw le
      refine x_thenN ?_
      exact j1 _ g7 g2 g1 ch2.2.2.2.1.1 ch2.2.2.2.1.2 ch2.2.2.2.2.1 ch2.2.2.2.2.2 a w (S.sb rfl (.c0 (.c0 (.c0 (.c0 (.c0 (.c0 .n))))))) h0
     exact h_nil
    refine h_runO S rfl trivial ?_ ?_
    ·refine s_extract S rfl rfl rfl rfl fun a S => ?_
     replace hw := CL.again hw S (.c1 (.c1 (.c1 .n))) le
     refine h_back ⟨fun _ => hw, ?_⟩
     replace CL := CL.add (t := 18) (d := (.b ((lk (aget x1.1 x2) (z20, 0, [0, 0, 0, 0], ([] : List Int), ([] : List ((List Int) × (List Int))))).2))) S rfl rfl
     refine h_run' S rfl trivial (s_extract S rfl rfl rfl rfl fun a S => ?_)
     replace hw := CL.again hw S (.c1 (.c1 (.c1 .n))) le
     refine h_back ⟨fun _ => hw, ?_⟩
     refine h_run' S rfl trivial (s_store S rfl rfl rfl (s' := [.b20 (((lk (aget x1.1 x2) (z20, 0, [0, 0, 0, 0], ([] : List Int), ([] : List ((List Int) × (List Int))))).1).1), .w (((lk (aget x1.1 x2) (z20, 0, [0, 0, 0, 0], ([] : List Int), ([] : List ((List Int) × (List Int))))).1).2.1), .w4 (((lk (aget x1.1 x2) (z20, 0, [0, 0, 0, 0], ([] : List Int), ([] : List ((List Int) × (List Int))))).1).2.2.1), .q yb ch2.2.2.2.1.1 ch2.2.2.2.1.2 (((lk (aget x1.1 x2) (z20, 0, [0, 0, 0, 0], ([] : List Int), ([] : List ((List Int) × (List Int))))).1).2.2.2.1), .q Y71 ch2.2.2.2.2.1 ch2.2.2.2.2.2 (((lk (aget x1.1 x2) (z20, 0, [0, 0, 0, 0], ([] : List Int), ([] : List ((List Int) × (List Int))))).1).2.2.2.2)]) .h T34 rfl rfl fun w S => ?_)
     replace hw := CL.again hw S (.c1 (.c1 (.c1 .n))) le
     refine h_back ⟨fun _ => hw, ?_⟩
     refine h_assign S CL hw le (subR rfl) rfl rfl rfl trivial fun a S CL => ?_
     refine h_done ?_; clear CL hw le
     refine x_thenN ?_
     exact j1 _ g7 g2 g1 ch2.2.2.2.1.1 ch2.2.2.2.1.2 ch2.2.2.2.2.1 ch2.2.2.2.2.2 a w (S.sb rfl (.c0 (.c0 (.c0 (.c0 (.c0 (.c0 .n))))))) h0
    exact h_nil
   exact h_nil
  refine h_runO S rfl trivial ?_ ?_
  ·refine s_alloc S Z34 rfl ⟨rfl, rfl, rfl, rfl, rfl, trivial⟩ rfl fun g7 a w S => ?_
   replace hw := CL.again hw S (.c1 (.c1 (.c1 .n))) le
   refine h_back ⟨fun _ => hw, ?_⟩
   refine h_run' S rfl trivial (s_move S rfl rfl fun a S => ?_)
   replace hw := CL.again hw S (.c1 (.c1 (.c1 .n))) le
   refine h_back ⟨fun _ => hw, ?_⟩
   refine h_alts ?_
   refine h_runO S rfl trivial ?_ ?_
   ·refine s_extract S rfl rfl rfl rfl fun a S => ?_
    replace hw := CL.again hw S (.c1 (.c1 (.c1 .n))) le
    refine h_back ⟨fun _ => hw, ?_⟩
    refine h_alts ?_
    refine h_runO S rfl trivial ?_ ?_
    ·refine s_extract S rfl rfl rfl rfl fun a S => ?_
     replace hw := CL.again hw S (.c1 (.c1 (.c1 .n))) le
     refine h_back ⟨fun _ => hw, ?_⟩
     replace CL := CL.add (t := 18) (d := (.b ((lk (aget x1.1 x2) (z20, 0, [0, 0, 0, 0], ([] : List Int), ([] : List ((List Int) × (List Int))))).2))) S rfl rfl
     refine h_run' S rfl trivial (s_store S rfl rfl rfl (s' := [.b20 (((lk (aget x1.1 x2) (z20, 0, [0, 0, 0, 0], ([] : List Int), ([] : List ((List Int) × (List Int))))).1).1), .w (((lk (aget x1.1 x2) (z20, 0, [0, 0, 0, 0], ([] : List Int), ([] : List ((List Int) × (List Int))))).1).2.1), .w4 (((lk (aget x1.1 x2) (z20, 0, [0, 0, 0, 0], ([] : List Int), ([] : List ((List Int) × (List Int))))).1).2.2.1), .q yb ch2.2.2.2.1.1 ch2.2.2.2.1.2 (((lk (aget x1.1 x2) (z20, 0, [0, 0, 0, 0], ([] : List Int), ([] : List ((List Int) × (List Int))))).1).2.2.2.1), .q Y71 ch2.2.2.2.2.1 ch2.2.2.2.2.2 (((lk (aget x1.1 x2) (z20, 0, [0, 0, 0, 0], ([] : List Int), ([] : List ((List Int) × (List Int))))).1).2.2.2.2)]) .h T34 rfl rfl fun w S => ?_)
     replace hw := CL.again hw S (.c1 (.c1 (.c1 .n))) le
     refine h_back ⟨fun _ => hw, ?_⟩
     refine h_assign S CL hw le (subR rfl) rfl rfl rfl trivial fun a S CL => ?_
     refine h_done ?_; clear CL hw le
     refine x_thenN ?_
     exact j1 _ g7 g2 g1 ch2.2.2.2.1.1 ch2.2.2.2.1.2 ch2.2.2.2.2.1 ch2.2.2.2.2.2 a w (S.sb rfl (.c0 (.c0 (.c0 (.c0 (.c0 (.c0 .n))))))) h0
    refine h_runO S rfl trivial ?_ ?_
    ·refine s_store S rfl rfl rfl (s' := [.b20 (((lk (aget x1.1 x2) (z20, 0, [0, 0, 0, 0], ([] : List Int), ([] : List ((List Int) × (List Int))))).1).1), .w (((lk (aget x1.1 x2) (z20, 0, [0, 0, 0, 0], ([] : List Int), ([] : List ((List Int) × (List Int))))).1).2.1), .w4 (((lk (aget x1.1 x2) (z20, 0, [0, 0, 0, 0], ([] : List Int), ([] : List ((List Int) × (List Int))))).1).2.2.1), .q yb ch2.2.2.2.1.1 ch2.2.2.2.1.2 (((lk (aget x1.1 x2) (z20, 0, [0, 0, 0, 0], ([] : List Int), ([] : List ((List Int) × (List Int))))).1).2.2.2.1), .q Y71 ch2.2.2.2.2.1 ch2.2.2.2.2.2 (((lk (aget x1.1 x2) (z20, 0, [0, 0, 0, 0], ([] : List Int), ([] : List ((List Int) × (List Int))))).1).2.2.2.2)]) .h T34 rfl rfl fun w S => ?_
     replace hw := CL.again hw S (.c1 (.c1 (.c1 .n))) le
     refine h_back ⟨fun _ => hw, ?_⟩
     refine h_run' S rfl trivial (s_extract S rfl rfl rfl rfl fun a S => ?_)
     replace hw := CL.again hw S (.c1 (.c1 (.c1 .n))) le
     refine h_back ⟨fun _ => hw, ?_⟩
     replace CL := CL.add (t := 18) (d := (.b ((lk (aget x1.1 x2) (z20, 0, [0, 0, 0, 0], ([] : List Int), ([] : List ((List Int) × (List Int))))).2))) S rfl rfl
     refine h_assign S CL hw le (subR rfl) rfl rfl rfl trivial fun a S CL => ?_
     refine h_done ?_; clear CL hw le
     refine x_thenN ?_
     exact j1 _ g7 g2 g1 ch2.2.2.2.1.1 ch2.2.2.2.1.2 ch2.2.2.2.2.1 ch2.2.2.2.2.2 a w (S.sb rfl (.c0 (.c0 (.c0 (.c0 (.c0 (.c0 .n))))))) h0
    exact h_nil
   refine h_runO S rfl trivial ?_ ?_
   ·refine s_extract S rfl rfl rfl rfl fun a S => ?_
    replace hw := CL.again hw S (.c1 (.c1 (.c1 .n))) le
    refine h_back ⟨fun _ => hw, ?_⟩
    replace CL := CL.add (t := 18) (d := (.b ((lk (aget x1.1 x2) (z20, 0, [0, 0, 0, 0], ([] : List Int), ([] : List ((List Int) × (List Int))))).2))) S rfl rfl
    refine h_run' S rfl trivial (s_extract S rfl rfl rfl rfl fun a S => ?_)
    replace hw := CL.again hw S (.c1 (.c1 (.c1 .n))) le
    refine h_back ⟨fun _ => hw, ?_⟩
    refine h_run' S rfl trivial (s_store S rfl rfl rfl (s' := [.b20 (((lk (aget x1.1 x2) (z20, 0, [0, 0, 0, 0], ([] : List Int), ([] : List ((List Int) × (List Int))))).1).1), .w (((lk (aget x1.1 x2) (z20, 0, [0, 0, 0, 0], ([] : List Int), ([] : List ((List Int) × (List Int))))).1).2.1), .w4 (((lk (aget x1.1 x2) (z20, 0, [0, 0, 0, 0], ([] : List Int), ([] : List ((List Int) × (List Int))))).1).2.2.1), .q yb ch2.2.2.2.1.1 ch2.2.2.2.1.2 (((lk (aget x1.1 x2) (z20, 0, [0, 0, 0, 0], ([] : List Int), ([] : List ((List Int) × (List Int))))).1).2.2.2.1), .q Y71 ch2.2.2.2.2.1 ch2.2.2.2.2.2 (((lk (aget x1.1 x2) (z20, 0, [0, 0, 0, 0], ([] : List Int), ([] : List ((List Int) × (List Int))))).1).2.2.2.2)]) .h T34 rfl rfl fun w S => ?_)
    replace hw := CL.again hw S (.c1 (.c1 (.c1 .n))) le
    refine h_back ⟨fun _ => hw, ?_⟩
    refine h_assign S CL hw le (subR rfl) rfl rfl rfl trivial fun a S CL => ?_
    refine h_done ?_; clear CL hw le
    refine x_thenN ?_
    exact j1 _ g7 g2 g1 ch2.2.2.2.1.1 ch2.2.2.2.1.2 ch2.2.2.2.2.1 ch2.2.2.2.2.2 a w (S.sb rfl (.c0 (.c0 (.c0 (.c0 (.c0 (.c0 .n))))))) h0
   exact h_nil
  exact h_nil
 refine h_runO S rfl trivial ?_ ?_
 ·refine s_alloc S Z34 rfl ⟨rfl, rfl, rfl, rfl, rfl, trivial⟩ rfl fun g7 a w S => ?_
  replace hw := CL.again hw S (.c1 (.c1 (.c1 .n))) le
  refine h_back ⟨fun _ => hw, ?_⟩
  refine h_run' S rfl trivial (s_lookO S (z := (z20, 0, [0, 0, 0, 0], ([] : List Int), ([] : List ((List Int) × (List Int))))) (k := x2) rfl .h4 ((), (), (), (none, 0), (none, 0)) rfl (fun h => ⟨(), rfl, h⟩) underlying73 KT28 Z34 ⟨rfl, rfl, rfl, ⟨Nat.le_refl _, Nat.zero_le _, RdS.nil _ _ _, RdS.mono _ _ _⟩, ⟨Nat.le_refl _, Nat.zero_le _, RdS.nil _ _ _, RdS.mono _ _ _⟩, trivial⟩ rfl fun ch2 a S => ?_)
  replace hw := CL.again hw S (.c1 (.c1 (.c1 .n))) le
  refine h_back ⟨fun _ => hw, ?_⟩
  refine h_run' S rfl trivial (s_move S rfl rfl fun a S => ?_)
  replace hw := CL.again hw S (.c1 (.c1 (.c1 .n))) le
  refine h_back ⟨fun _ => hw, ?_⟩
  refine h_alts ?_
  refine h_runO S rfl trivial ?_ ?_
  ·refine s_extract S rfl rfl rfl rfl fun a S => ?_
   replace hw := CL.again hw S (.c1 (.c1 (.c1 .n))) le
   refine h_back ⟨fun _ => hw, ?_⟩
   refine h_alts ?_
   refine h_runO S rfl trivial ?_ ?_
   ·refine s_extract S rfl rfl rfl rfl fun a S => ?_
    replace hw := CL.again hw S (.c1 (.c1 (.c1 .n))) le
    refine h_back ⟨fun _ => hw, ?_⟩
    replace CL := CL.add (t := 18) (d := (.b ((lk (aget x1.1 x2) (z20, 0, [0, 0, 0, 0], ([] : List Int), ([] : List ((List Int) × (List Int))))).2))) S rfl rfl
    refine h_run' S rfl trivial (s_store S rfl rfl rfl (s' := [.b20 (((lk (aget x1.1 x2) (z20, 0, [0, 0, 0, 0], ([] : List Int), ([] : List ((List Int) × (List Int))))).1).1), .w (((lk (aget x1.1 x2) (z20, 0, [0, 0, 0, 0], ([] : List Int), ([] : List ((List Int) × (List Int))))).1).2.1), .w4 (((lk (aget x1.1 x2) (z20, 0, [0, 0, 0, 0], ([] : List Int), ([] : List ((List Int) × (List Int))))).1).2.2.1), .q yb ch2.2.2.2.1.1 ch2.2.2.2.1.2 (((lk (aget x1.1 x2) (z20, 0, [0, 0, 0, 0], ([] : List Int), ([] : List ((List Int) × (List Int))))).1).2.2.2.1), .q Y71 ch2.2.2.2.2.1 ch2.2.2.2.2.2 (((lk (aget x1.1 x2) (z20, 0, [0, 0, 0, 0], ([] : List Int), ([] : List ((List Int) × (List Int))))).1).2.2.2.2)]) .h T34 rfl rfl fun w S => ?_)
    replace hw := CL.again hw S (.c1 (.c1 (.c1 .n))) le
    refine h_back ⟨fun _ => hw, ?_⟩
    refine h_assign S CL hw le (subR rfl) rfl rfl rfl trivial fun a S CL => ?_
    refine h_done ?_; clear CL hw le
    refine x_thenN ?_
    exact j1 _ g7 g2 g1 ch2.2.2.2.1.1 ch2.2.2.2.1.2 ch2.2.2.2.2.1 ch2.2.2.2.2.2 a w (S.sb rfl (.c0 (.c0 (.c0 (.c0 (.c0 (.c0 .n))))))) h0
   refine h_runO S rfl trivial ?_ ?_
   ·refine s_store S rfl rfl rfl (s' := [.b20 (((lk (aget x1.1 x2) (z20, 0, [0, 0, 0, 0], ([] : List Int), ([] : List ((List Int) × (List Int))))).1).1), .w (((lk (aget x1.1 x2) (z20, 0, [0, 0, 0, 0], ([] : List Int), ([] : List ((List Int) × (List Int))))).1).2.1), .w4 (((lk (aget x1.1 x2) (z20, 0, [0, 0, 0, 0], ([] : List Int), ([] : List ((List Int) × (List Int))))).1).2.2.1), .q yb ch2.2.2.2.1.1 ch2.2.2.2.1.2 (((lk (aget x1.1 x2) (z20, 0, [0, 0, 0, 0], ([] : List Int), ([] : List ((List Int) × (List Int))))).1).2.2.2.1), .q Y71 ch2.2.2.2.2.1 ch2.2.2.2.2.2 (((lk (aget x1.1 x2) (z20, 0, [0, 0, 0, 0], ([] : List Int), ([] : List ((List Int) × (List Int))))).1).2.2.2.2)]) .h T34 rfl rfl fun w S => ?_
    replace hw := CL.again hw S (.c1 (.c1 (.c1 .n))) le
    refine h_back ⟨fun _ => hw, ?_⟩
    refine h_run' S rfl trivial (s_extract S rfl rfl rfl rfl fun a S => ?_)
    replace hw := CL.again hw S (.c1 (.c1 (.c1 .n))) le
    refine h_back ⟨fun _ => hw, ?_⟩
    replace CL := CL.add (t := 18) (d := (.b ((lk (aget x1.1 x2) (z20, 0, [0, 0, 0, 0], ([] : List Int), ([] : List ((List Int) × (List Int))))).2))) S rfl rfl
    refine h_assign S CL hw le (subR rfl) rfl rfl rfl trivial fun a S CL => ?_
    refine h_done ?_; clear CL hw le
    refine x_thenN ?_
    exact j1 _ g7 g2 g1 ch2.2.2.2.1.1 ch2.2.2.2.1.2 ch2.2.2.2.2.1 ch2.2.2.2.2.2 a w (S.sb rfl (.c0 (.c0 (.c0 (.c0 (.c0 (.c0 .n))))))) h0
   exact h_nil
  refine h_runO S rfl trivial ?_ ?_
  ·refine s_extract S rfl rfl rfl rfl fun a S => ?_
   replace hw := CL.again hw S (.c1 (.c1 (.c1 .n))) le
   refine h_back ⟨fun _ => hw, ?_⟩
   replace CL := CL.add (t := 18) (d := (.b ((lk (aget x1.1 x2) (z20, 0, [0, 0, 0, 0], ([] : List Int), ([] : List ((List Int) × (List Int))))).2))) S rfl rfl
   refine h_run' S rfl trivial (s_extract S rfl rfl rfl rfl fun a S => ?_)
   replace hw := CL.again hw S (.c1 (.c1 (.c1 .n))) le
   refine h_back ⟨fun _ => hw, ?_⟩
   refine h_run' S rfl trivial (s_store S rfl rfl rfl (s' := [.b20 (((lk (aget x1.1 x2) (z20, 0, [0, 0, 0, 0], ([] : List Int), ([] : List ((List Int) × (List Int))))).1).1), .w (((lk (aget x1.1 x2) (z20, 0, [0, 0, 0, 0], ([] : List Int), ([] : List ((List Int) × (List Int))))).1).2.1), .w4 (((lk (aget x1.1 x2) (z20, 0, [0, 0, 0, 0], ([] : List Int), ([] : List ((List Int) × (List Int))))).1).2.2.1), .q yb ch2.2.2.2.1.1 ch2.2.2.2.1.2 (((lk (aget x1.1 x2) (z20, 0, [0, 0, 0, 0], ([] : List Int), ([] : List ((List Int) × (List Int))))).1).2.2.2.1), .q Y71 ch2.2.2.2.2.1 ch2.2.2.2.2.2 (((lk (aget x1.1 x2) (z20, 0, [0, 0, 0, 0], ([] : List Int), ([] : List ((List Int) × (List Int))))).1).2.2.2.2)]) .h T34 rfl rfl fun w S => ?_)
   replace hw := CL.again hw S (.c1 (.c1 (.c1 .n))) le
   refine h_back ⟨fun _ => hw, ?_⟩
   refine h_assign S CL hw le (subR rfl) rfl rfl rfl trivial fun a S CL => ?_
   refine h_done ?_; clear CL hw le
   refine x_thenN ?_
   exact j1 _ g7 g2 g1 ch2.2.2.2.1.1 ch2.2.2.2.1.2 ch2.2.2.2.2.1 ch2.2.2.2.2.2 a w (S.sb rfl (.c0 (.c0 (.c0 (.c0 (.c0 (.c0 .n))))))) h0
  exact h_nil
 exact h_nil
abbrev smithyref13_Same.Ty : Type := ((List Int) × Int × (List Int) × (List Int) × (List ((List Int) × (List Int)))) → ((List Int) × Int × (List Int) × (List Int) × (List ((List Int) × (List Int)))) → Option Bool
def smithyref13_Same.Ctr (s : smithyref13_Same.Ty) : Prop := ∀ (x1 : (List Int) × Int × (List Int) × (List Int) × (List ((List Int) × (List Int)))) (x2 : (List Int) × Int × (List Int) × (List Int) × (List ((List Int) × (List Int)))) (ch_0_0 : Option Addr) (ch_0_1 : Nat) (ch_0_2 : Option Addr) (ch_0_3 : Nat) (ch_1_0 : Option Addr) (ch_1_1 : Nat) (ch_1_2 : Option Addr) (ch_1_3 : Nat) (r : Bool), Ct (C := Unit) Try.prog 16 (s x1 x2 = some r) [] [(.agg [.b20 x1.1, .w x1.2.1, .w4 x1.2.2.1, .q yb ch_0_0 ch_0_1 x1.2.2.2.1, .q Y71 ch_0_2 ch_0_3 x1.2.2.2.2]), (.agg [.b20 x2.1, .w x2.2.1, .w4 x2.2.2.1, .q yb ch_1_0 ch_1_1 x2.2.2.2.1, .q Y71 ch_1_2 ch_1_3 x2.2.2.2.2])] (fun _ => (.b r)) fun _ => []
def smithyref13_Same.j2 : Option Bool := some true
def smithyref13_Same.b1 (x1 : (List Int) × Int × (List Int) × (List Int) × (List ((List Int) × (List Int)))) (x2 : (List Int) × Int × (List Int) × (List Int) × (List ((List Int) × (List Int)))) (rec1 : Int → Option Bool) (y5 : Int) : Option Bool := if (decide (y5 < ((x1.2.2.2.2).length : Int))) = true then (if (0 : Int) ≤ y5 ∧ y5 < ((x1.2.2.2.2).length : Int) then (if (0 : Int) ≤ y5 ∧ y5 < ((x2.2.2.2.2).length : Int) then (if (!(decide (gt x1.2.2.2.2 y5 = gt x2.2.2.2.2 y5))) = true then (some false) else (rec1 (wr .i64 (y5 + 1)))) else none) else none) else smithyref13_Same.j2
def smithyref13_Same.l1 (x1 : (List Int) × Int × (List Int) × (List Int) × (List ((List Int) × (List Int)))) (x2 : (List Int) × Int × (List Int) × (List Int) × (List ((List Int) × (List Int)))) : Nat → Int → Option Bool
  | 0, _ => none
  | q + 1, y5 => smithyref13_Same.b1 x1 x2 (smithyref13_Same.l1 x1 x2 q) y5
def smithyref13_Same.j1 (k : Nat) (x1 : (List Int) × Int × (List Int) × (List Int) × (List ((List Int) × (List Int)))) (x2 : (List Int) × Int × (List Int) × (List Int) × (List ((List Int) × (List Int)))) (y1 : Bool) : Option Bool := if y1 = true then (some false) else (smithyref13_Same.l1 x1 x2 k 0)
def smithyref13_Same.f (k : Nat) (x1 : (List Int) × Int × (List Int) × (List Int) × (List ((List Int) × (List Int)))) (x2 : (List Int) × Int × (List Int) × (List Int) × (List ((List Int) × (List Int)))) : Option Bool := if (!(decide (x1.1 = x2.1))) = true then (smithyref13_Same.j1 k x1 x2 true) else (if (x1.2.1 != x2.2.1) = true then (smithyref13_Same.j1 k x1 x2 true) else (if (!(decide (x1.2.2.1 = x2.2.2.1))) = true then (smithyref13_Same.j1 k x1 x2 true) else (if (!((bstr x1.2.2.2.1).toList == (bstr x2.2.2.2.1).toList)) = true then (smithyref13_Same.j1 k x1 x2 true) else (smithyref13_Same.j1 k x1 x2 (((x1.2.2.2.2).length : Int) != ((x2.2.2.2.2).length : Int))))))
theorem smithyref13_Same.ok (k : Nat) : smithyref13_Same.Ctr (smithyref13_Same.f k) := by
 intro x1 x2 ch_0_0 ch_0_1 ch_0_2 ch_0_3 ch_1_0 ch_1_1 ch_1_2 ch_1_3 r h0 mi w0 ok hm
 delta smithyref13_Same.f at h0
 refine c_enterZ (n := 61) ok hm func16 rfl rfl rfl fun b0 hb a S => c_region (s_box S rfl rfl rfl fun g1 a w S => s_box S rfl rfl rfl fun g2 a w S => s_assign S rfl rfl fun a S => c_end (wp_seq (wp_seq_k fun K1 hK1 => ?_)))
 have j1 : ∀ m y1 g3 g4 a w, St 61 m b0 [(42, (.b y1)), (3, (.p g3)), (2, (.p g4))] [Res.cells g3 34 [.b20 x2.1, .w x2.2.1, .w4 x2.2.2.1, .q yb ch_1_0 ch_1_1 x2.2.2.2.1, .q Y71 ch_1_2 ch_1_3 x2.2.2.2.2], Res.cells g4 34 [.b20 x1.1, .w x1.2.1, .w4 x1.2.2.1, .q yb ch_0_0 ch_0_1 x1.2.2.2.1, .q Y71 ch_0_2 ch_0_3 x1.2.2.2.2]] a w → smithyref13_Same.j1 k x1 x2 y1 = some r → K1 a w := by
  intro m y1 g3 g4 a w S h0
  delta smithyref13_Same.j1 at h0
  refine hK1 a w ?_
  rcases ite_of h0 with ⟨c1, h1⟩ | ⟨c1, h1⟩
  ·refine c_condT S rfl c1 (c_region (s_assign S rfl rfl fun a S => c_end (wp_ret (x_thenR ?_))))
   obtain rfl := Option.some.inj h1
   exact b_ret1 (d := (.b false)) S rfl rfl (S.rt hb)
  ·refine c_condF S rfl c1 (wp_skip (x_thenN (wp_seq_k fun K2 hK2 => ?_)))
   have j2 : ∀ m a w, St 61 m b0 [] [] a w → smithyref13_Same.j2 = some r → K2 a w := by
    intro m a w S h0
    delta smithyref13_Same.j2 at h0
    refine hK2 a w (c_region (s_assign S rfl rfl fun a S => c_end (wp_ret ?_)))
    obtain rfl := Option.some.inj h0
    exact b_ret1 (d := (.b true)) S rfl rfl (S.rt hb)
   refine c_region (s_fieldAddr S rfl I34_4 T32 (by decide) rfl rfl fun a S => s_loadSl S rfl .h1 T32 (A := ch_0_2) (len := (x1.2.2.2.2).length) (cap := ch_0_3) rfl rfl fun a S => s_lenS S rfl underlying32 rfl fun a S => s_move S rfl rfl fun a S => c_end (wp_block ?_))
   refine c_loop (fun q1 a w => ∃ m y5 g15 g16, St 61 m b0 [(46, (.i y5)), (45, (.i ((x1.2.2.2.2).length : Int))), (3, (.p g15)), (2, (.p g16))] [Res.cells g15 34 [.b20 x2.1, .w x2.2.1, .w4 x2.2.2.1, .q yb ch_1_0 ch_1_1 x2.2.2.2.1, .q Y71 ch_1_2 ch_1_3 x2.2.2.2.2], Res.cells g16 34 [.b20 x1.1, .w x1.2.1, .w4 x1.2.2.1, .q yb ch_0_0 ch_0_1 x1.2.2.2.1, .q Y71 ch_0_2 ch_0_3 x1.2.2.2.2]] a w ∧ smithyref13_Same.l1 x1 x2 q1 y5 = some r) ?_ ?_ (k := k) ⟨_, 0, g3, g4, (S.sb rfl (.c0 (.c0 .n))), h1⟩
   ·rintro a w ⟨m, y5, g15, g16, S, h0⟩
    exact (nomatch (show (none : Option Bool) = some r from h0))
   ·clear S h1
    rintro q1 a w ⟨m, y5, g15, g16, S, h0⟩
    replace h0 : smithyref13_Same.b1 x1 x2 (smithyref13_Same.l1 x1 x2 q1) y5 = some r := h0
    delta smithyref13_Same.b1 at h0
    refine c_region (s_bin S rfl rfl rfl rfl fun a S => c_end (wp_seq ?_))
    rcases ite_of h0 with ⟨c2, h1⟩ | ⟨c2, h1⟩
    ·refine c_condT S rfl c2 (wp_skip (x_thenN (wp_seq (wp_block (c_region (s_move S rfl rfl fun a S => s_assign S rfl rfl fun a S => c_end ?_))))))
     refine wp_seq (c_heldS S (.take 0 (.take 1 (.take 2 (.take 3 (.take 4 (.take 5 (.take 6 (.take 7 (.take 8 (.take 9 (.take 10 .done))))))))))) 11 [Res.cells g15 34 [.b20 x2.1, .w x2.2.1, .w4 x2.2.2.1, .q yb ch_1_0 ch_1_1 x2.2.2.2.1, .q Y71 ch_1_2 ch_1_3 x2.2.2.2.2], Res.cells g16 34 [.b20 x1.1, .w x1.2.1, .w4 x1.2.2.1, .q yb ch_0_0 ch_0_1 x1.2.2.2.1, .q Y71 ch_0_2 ch_0_3 x1.2.2.2.2]] (.c0 (.c0 .n)) ⟨Res.stay_cells, Res.stay_cells, trivial⟩ [(5, (.i y5)), (3, (.p g15)), (2, (.p g16))] (subR rfl) (by kernel_rfl) (by kernel_rfl) ?_); clear S; intro w S CL hw le
     refine h_fieldAddr S CL hw le (subR rfl) rfl I34_4 T32 (by decide) rfl rfl rfl trivial fun a S CL => h_loadSl S CL hw le (subR rfl) rfl .h1 T32 (A := ch_0_2) (len := (x1.2.2.2.2).length) (cap := ch_0_3) rfl rfl rfl trivial fun a S CL => h_move S CL hw le (subR rfl) rfl rfl rfl trivial fun a S CL => ?_
     obtain ⟨c3, h2⟩ := chk_of h1; clear h1
     refine h_iaddrS S CL hw le (subR rfl) rfl rfl rfl underlying32 T71 c3.1 c3.2 rfl rfl trivial fun p1 a S CL => h_ldA S CL hw le (subR rfl) (fun (c : Unit × Unit) => [.w4 ((gt x1.2.2.2.2 y5).1), .w4 ((gt x1.2.2.2.2 y5).2)]) rfl T71 (fun _ => rfl) rfl rfl trivial fun ch1 a S CL => ?_
     refine h_fieldAddr S CL hw le (subR rfl) rfl I34_4 T32 (by decide) rfl rfl rfl trivial fun a S CL => h_loadSl S CL hw le (subR rfl) rfl .h T32 (A := ch_1_2) (len := (x2.2.2.2.2).length) (cap := ch_1_3) rfl rfl rfl trivial fun a S CL => h_move S CL hw le (subR rfl) rfl rfl rfl trivial fun a S CL => ?_
     obtain ⟨c4, h3⟩ := chk_of h2; clear h2
     refine h_iaddrS S CL hw le (subR rfl) rfl rfl rfl underlying32 T71 c4.1 c4.2 rfl rfl trivial fun p2 a S CL => h_ldA S CL hw le (subR rfl) (fun (c : Unit × Unit) => [.w4 ((gt x2.2.2.2.2 y5).1), .w4 ((gt x2.2.2.2.2 y5).2)]) rfl T71 (fun _ => rfl) rfl rfl trivial fun ch2 a S CL => ?_
     refine h_neS S CL hw le (subR rfl) (ty' := Y71) (p := gt x1.2.2.2.2 y5) (q := gt x2.2.2.2.2 y5) ((), ()) ((), ()) rfl rfl E71 rfl Q71 rfl rfl trivial fun a S CL => ?_
     refine h_done ?_; clear CL hw le
     refine x_thenN ?_
     rcases ite_of h3 with ⟨c5, h4⟩ | ⟨c5, h4⟩
     ·refine c_condT S rfl c5 (c_region (s_assign S rfl rfl fun a S => c_end (wp_ret (x_blockR (x_thenR (x_thenR (x_blockR (x_thenR ?_))))))))
      obtain rfl := Option.some.inj h4
      exact b_ret1 (d := (.b false)) S rfl rfl (S.rt hb)
     ·refine c_condF S rfl c5 (wp_skip (x_blockN (x_thenN (c_region' (s_bin S rfl rfl rfl rfl fun a S => s_move S rfl rfl fun a S => c_end' (x_thenN ?_))))))
      exact ⟨_, (wr .i64 (y5 + 1)), g15, g16, (S.sb rfl (.c0 (.c0 .n))), h4⟩
    ·refine c_condF S rfl c2 (wp_exit (x_thenX (x_thenX (x_blockX (x_thenN ?_)))))
     exact j2 _ a w (S.sub trivial .nil) h1
 refine c_region' (s_fieldAddr S rfl I34_0 T28 (by decide) rfl rfl fun a S => s_loada S rfl .h1 T28 (s' := [.b20 x1.1]) rfl rfl fun a S => s_fieldAddr S rfl I34_0 T28 (by decide) rfl rfl fun a S => s_loada S rfl .h T28 (s' := [.b20 x2.1]) rfl rfl fun a S => s_nea S rfl rfl underlying28 underlying5 T5 Q28 rfl fun a S => s_move S rfl rfl fun a S => ?_)
 rcases ite_of h0 with ⟨c6, h1⟩ | ⟨c6, h1⟩
 ·refine s_gF S (b := (!(decide (x1.1 = x2.1)))) rfl rfl c6 rfl fun a S => s_gF S (b := (!(decide (x1.1 = x2.1)))) rfl rfl c6 rfl fun a S => s_gF S (b := (!(decide (x1.1 = x2.1)))) rfl rfl c6 rfl fun a S => s_gF S (b := (!(decide (x1.1 = x2.1)))) rfl rfl c6 rfl fun a S => s_gF S (b := (!(decide (x1.1 = x2.1)))) rfl rfl c6 rfl fun a S => s_pick S (b := true) (hc_of rfl c6) rfl rfl fun a S => s_move S rfl rfl fun a S => s_gF S (b := true) rfl rfl rfl rfl fun a S => s_gF S (b := true) rfl rfl rfl rfl fun a S => s_gF S (b := true) rfl rfl rfl rfl fun a S => s_gF S (b := true) rfl rfl rfl rfl fun a S => s_gF S (b := true) rfl rfl rfl rfl fun a S => s_pick S (b := true) (hc_of rfl rfl) rfl rfl fun a S => s_move S rfl rfl fun a S => s_gF S (b := true) rfl rfl rfl rfl fun a S => s_gF S (b := true) rfl rfl rfl rfl fun a S => s_gF S (b := true) rfl rfl rfl rfl fun a S => s_gF S (b := true) rfl rfl rfl rfl fun a S => s_gF S (b := true) rfl rfl rfl rfl fun a S => s_gF S (b := true) rfl rfl rfl rfl fun a S => s_gF S (b := true) rfl rfl rfl rfl fun a S => s_pick S (b := true) (hc_of rfl rfl) rfl rfl fun a S => s_move S rfl rfl fun a S => s_gF S (b := true) rfl rfl rfl rfl fun a S => s_gF S (b := true) rfl rfl rfl rfl fun a S => s_gF S (b := true) rfl rfl rfl rfl fun a S => s_gF S (b := true) rfl rfl rfl rfl fun a S => s_gF S (b := true) rfl rfl rfl rfl fun a S => s_gF S (b := true) rfl rfl rfl rfl fun a S => s_gF S (b := true) rfl rfl rfl rfl fun a S => s_pick S (b := true) (hc_of rfl rfl) rfl rfl fun a S => c_end' (x_thenN ?_)
  exact j1 _ true g2 g1 a w (S.sb rfl (.c0 (.c0 .n))) h1
 ·refine s_gT S (b := (!(decide (x1.1 = x2.1)))) rfl rfl c6 (s_fieldAddr S rfl I34_1 T29 (by decide) rfl rfl fun a S => s_gT S (b := (!(decide (x1.1 = x2.1)))) rfl rfl c6 (s_load1 S rfl .h1 T29 (v := (.int .u64 x1.2.1)) rfl rfl fun a S => s_gT S (b := (!(decide (x1.1 = x2.1)))) rfl rfl c6 (s_fieldAddr S rfl I34_1 T29 (by decide) rfl rfl fun a S => s_gT S (b := (!(decide (x1.1 = x2.1)))) rfl rfl c6 (s_load1 S rfl .h T29 (v := (.int .u64 x2.2.1)) rfl rfl fun a S => s_gT S (b := (!(decide (x1.1 = x2.1)))) rfl rfl c6 (s_bin S rfl rfl rfl rfl fun a S => s_pick S (b := false) (hc_of rfl c6) rfl rfl fun a S => s_move S rfl rfl fun a S => ?_)))))
  rcases ite_of h1 with ⟨c7, h2⟩ | ⟨c7, h2⟩
  ·refine s_gF S (b := (x1.2.1 != x2.2.1)) rfl rfl c7 rfl fun a S => s_gF S (b := (x1.2.1 != x2.2.1)) rfl rfl c7 rfl fun a S => s_gF S (b := (x1.2.1 != x2.2.1)) rfl rfl c7 rfl fun a S => s_gF S (b := (x1.2.1 != x2.2.1)) rfl rfl c7 rfl fun a S => s_gF S (b := (x1.2.1 != x2.2.1)) rfl rfl c7 rfl fun a S => s_pick S (b := true) (hc_of rfl c7) rfl rfl fun a S => s_move S rfl rfl fun a S => s_gF S (b := true) rfl rfl rfl rfl fun a S => s_gF S (b := true) rfl rfl rfl rfl fun a S => s_gF S (b := true) rfl rfl rfl rfl fun a S => s_gF S (b := true) rfl rfl rfl rfl fun a S => s_gF S (b := true) rfl rfl rfl rfl fun a S => s_gF S (b := true) rfl rfl rfl rfl fun a S => s_gF S (b := true) rfl rfl rfl rfl fun a S => s_pick S (b := true) (hc_of rfl rfl) rfl rfl fun a S => s_move S rfl rfl fun a S => s_gF S (b := true) rfl rfl rfl rfl fun a S => s_gF S (b := true) rfl rfl rfl rfl fun a S => s_gF S (b := true) rfl rfl rfl rfl fun a S => s_gF S (b := true) rfl rfl rfl rfl fun a S => s_gF S (b := true) rfl rfl rfl rfl fun a S => s_gF S (b := true) rfl rfl rfl rfl fun a S => s_gF S (b := true) rfl rfl rfl rfl fun a S => s_pick S (b := true) (hc_of rfl rfl) rfl rfl fun a S => c_end' (x_thenN ?_)
   exact j1 _ true g2 g1 a w (S.sb rfl (.c0 (.c0 .n))) h2
  ·refine s_gT S (b := (x1.2.1 != x2.2.1)) rfl rfl c7 (s_fieldAddr S rfl I34_2 T31 (by decide) rfl rfl fun a S => s_gT S (b := (x1.2.1 != x2.2.1)) rfl rfl c7 (s_loada S rfl .h1 T31 (s' := [.w4 x1.2.2.1]) rfl rfl fun a S => s_gT S (b := (x1.2.1 != x2.2.1)) rfl rfl c7 (s_fieldAddr S rfl I34_2 T31 (by decide) rfl rfl fun a S => s_gT S (b := (x1.2.1 != x2.2.1)) rfl rfl c7 (s_loada S rfl .h T31 (s' := [.w4 x2.2.2.1]) rfl rfl fun a S => s_gT S (b := (x1.2.1 != x2.2.1)) rfl rfl c7 (s_nea S rfl rfl underlying31 underlying29 T29 Q31 rfl fun a S => s_pick S (b := false) (hc_of rfl c7) rfl rfl fun a S => s_move S rfl rfl fun a S => ?_)))))
   rcases ite_of h2 with ⟨c8, h3⟩ | ⟨c8, h3⟩
   ·refine s_gF S (b := (!(decide (x1.2.2.1 = x2.2.2.1)))) rfl rfl c8 rfl fun a S => s_gF S (b := (!(decide (x1.2.2.1 = x2.2.2.1)))) rfl rfl c8 rfl fun a S => s_gF S (b := (!(decide (x1.2.2.1 = x2.2.2.1)))) rfl rfl c8 rfl fun a S => s_gF S (b := (!(decide (x1.2.2.1 = x2.2.2.1)))) rfl rfl c8 rfl fun a S => s_gF S (b := (!(decide (x1.2.2.1 = x2.2.2.1)))) rfl rfl c8 rfl fun a S => s_gF S (b := (!(decide (x1.2.2.1 = x2.2.2.1)))) rfl rfl c8 rfl fun a S => s_gF S (b := (!(decide (x1.2.2.1 = x2.2.2.1)))) rfl rfl c8 rfl fun a S => s_pick S (b := true) (hc_of rfl c8) rfl rfl fun a S => s_move S rfl rfl fun a S => s_gF S (b := true) rfl rfl rfl rfl fun a S => s_gF S (b := true) rfl rfl rfl rfl fun a S => s_gF S (b := true) rfl rfl rfl rfl fun a S => s_gF S (b := true) rfl rfl rfl rfl fun a S => s_gF S (b := true) rfl rfl rfl rfl fun a S => s_gF S (b := true) rfl rfl rfl rfl fun a S => s_gF S (b := true) rfl rfl rfl rfl fun a S => s_pick S (b := true) (hc_of rfl rfl) rfl rfl fun a S => c_end' (x_thenN ?_)
    exact j1 _ true g2 g1 a w (S.sb rfl (.c0 (.c0 .n))) h3
   ·refine s_gT S (b := (!(decide (x1.2.2.1 = x2.2.2.1)))) rfl rfl c8 (s_fieldAddr S rfl I34_3 T24 (by decide) rfl rfl fun a S => s_gT S (b := (!(decide (x1.2.2.1 = x2.2.2.1)))) rfl rfl c8 (s_loadSl S rfl .h1 T24 (A := ch_0_0) (len := (x1.2.2.2.1).length) (cap := ch_0_1) rfl rfl fun a S => s_gT S (b := (!(decide (x1.2.2.1 = x2.2.2.1)))) rfl rfl c8 (s_strS S rfl rfl underlying24 underlying5 underlying9 rfl fun a S => s_gT S (b := (!(decide (x1.2.2.1 = x2.2.2.1)))) rfl rfl c8 (s_fieldAddr S rfl I34_3 T24 (by decide) rfl rfl fun a S => s_gT S (b := (!(decide (x1.2.2.1 = x2.2.2.1)))) rfl rfl c8 (s_loadSl S rfl .h T24 (A := ch_1_0) (len := (x2.2.2.2.1).length) (cap := ch_1_1) rfl rfl fun a S => s_gT S (b := (!(decide (x1.2.2.1 = x2.2.2.1)))) rfl rfl c8 (s_strS S rfl rfl underlying24 underlying5 underlying9 rfl fun a S => s_gT S (b := (!(decide (x1.2.2.1 = x2.2.2.1)))) rfl rfl c8 (s_neT S rfl rfl rfl fun a S => s_pick S (b := false) (hc_of rfl c8) rfl rfl fun a S => s_move S rfl rfl fun a S => ?_)))))))
    rcases ite_of h3 with ⟨c9, h4⟩ | ⟨c9, h4⟩
    ·refine s_gF S (b := (!((bstr x1.2.2.2.1).toList == (bstr x2.2.2.2.1).toList))) rfl rfl c9 rfl fun a S => s_gF S (b := (!((bstr x1.2.2.2.1).toList == (bstr x2.2.2.2.1).toList))) rfl rfl c9 rfl fun a S => s_gF S (b := (!((bstr x1.2.2.2.1).toList == (bstr x2.2.2.2.1).toList))) rfl rfl c9 rfl fun a S => s_gF S (b := (!((bstr x1.2.2.2.1).toList == (bstr x2.2.2.2.1).toList))) rfl rfl c9 rfl fun a S => s_gF S (b := (!((bstr x1.2.2.2.1).toList == (bstr x2.2.2.2.1).toList))) rfl rfl c9 rfl fun a S => s_gF S (b := (!((bstr x1.2.2.2.1).toList == (bstr x2.2.2.2.1).toList))) rfl rfl c9 rfl fun a S => s_gF S (b := (!((bstr x1.2.2.2.1).toList == (bstr x2.2.2.2.1).toList))) rfl rfl c9 rfl fun a S => s_pick S (b := true) (hc_of rfl c9) rfl rfl fun a S => c_end' (x_thenN ?_)
     exact j1 _ true g2 g1 a w (S.sb rfl (.c0 (.c0 .n))) h4
    ·refine s_gT S (b := (!((bstr x1.2.2.2.1).toList == (bstr x2.2.2.2.1).toList))) rfl rfl c9 (s_fieldAddr S rfl I34_4 T32 (by decide) rfl rfl fun a S => s_gT S (b := (!((bstr x1.2.2.2.1).toList == (bstr x2.2.2.2.1).toList))) rfl rfl c9 (s_loadSl S rfl .h1 T32 (A := ch_0_2) (len := (x1.2.2.2.2).length) (cap := ch_0_3) rfl rfl fun a S => s_gT S (b := (!((bstr x1.2.2.2.1).toList == (bstr x2.2.2.2.1).toList))) rfl rfl c9 (s_lenS S rfl underlying32 rfl fun a S => s_gT S (b := (!((bstr x1.2.2.2.1).toList == (bstr x2.2.2.2.1).toList))) rfl rfl c9 (s_fieldAddr S rfl I34_4 T32 (by decide) rfl rfl fun a S => s_gT S (b := (!((bstr x1.2.2.2.1).toList == (bstr x2.2.2.2.1).toList))) rfl rfl c9 (s_loadSl S rfl .h T32 (A := ch_1_2) (len := (x2.2.2.2.2).length) (cap := ch_1_3) rfl rfl fun a S => s_gT S (b := (!((bstr x1.2.2.2.1).toList == (bstr x2.2.2.2.1).toList))) rfl rfl c9 (s_lenS S rfl underlying32 rfl fun a S => s_gT S (b := (!((bstr x1.2.2.2.1).toList == (bstr x2.2.2.2.1).toList))) rfl rfl c9 (s_bin S rfl rfl rfl rfl fun a S => s_pick S (b := false) (hc_of rfl c9) rfl rfl fun a S => c_end' (x_thenN ?_))))))))
     exact j1 _ (((x1.2.2.2.2).length : Int) != ((x2.2.2.2.2).length : Int)) g2 g1 a w (S.sb rfl (.c0 (.c0 .n))) h4
abbrev smithylaw15_ForkWays.Ty : Type := (List L34) → (List (List Int)) → (List Int) → Option Bool
def smithylaw15_ForkWays.Ctr (s : smithylaw15_ForkWays.Ty) : Prop := ∀ (x1 : List L34) (x2 : List (List Int)) (x3 : List Int) (ch_0_0 : Option Addr) (ch_0_1 : Nat) (ch_1_0 : Option Addr) (ch_1_1 : Nat) (ch_2_0 : Option Addr) (ch_2_1 : Nat) (r : Bool), Ct (C := Unit) Try.prog 3 (s x1 x2 x3 = some r) [] [(.q Y34 ch_0_0 ch_0_1 x1), (.q (Ty.arr .u8 20) ch_1_0 ch_1_1 x2), (.q yb ch_2_0 ch_2_1 x3)] (fun _ => (.b r)) fun _ => []
def smithylaw15_ForkWays.j4 : Option Bool := some true
def smithylaw15_ForkWays.j5 (y63 : Int) (rec1 : Int → Option Bool) (y64 : Bool) : Option Bool := if y64 = true then (some false) else (rec1 (wr .i64 (y63 + 1)))
def smithylaw15_ForkWays.b1 (k : Nat) (x2 : List (List Int)) (y52 : List ((List Int) × L34)) (y53 : List ((List Int) × Int)) (y54 : List ((List Int) × L34)) (y55 : List ((List Int) × Int)) (rec1 : Int → Option Bool) (y63 : Int) : Option Bool := if (decide (y63 < ((x2).length : Int))) = true then (if (0 : Int) ≤ y63 ∧ y63 < ((x2).length : Int) then ((fork_Cache_Account.f (y54, y55) (gt x2 y63)).bind fun t5 => ((fork_Cache_Account.f (y52, y53) (gt x2 y63)).bind fun t6 => (if (!t5.2) = true then (smithylaw15_ForkWays.j5 y63 rec1 true) else (if (!t6.2) = true then (smithylaw15_ForkWays.j5 y63 rec1 true) else ((smithyref13_Same.f k t5.1 t6.1).bind fun t8 => (smithylaw15_ForkWays.j5 y63 rec1 (!t8))))))) else none) else smithylaw15_ForkWays.j4
def smithylaw15_ForkWays.l1 (k : Nat) (x2 : List (List Int)) (y52 : List ((List Int) × L34)) (y53 : List ((List Int) × Int)) (y54 : List ((List Int) × L34)) (y55 : List ((List Int) × Int)) : Nat → Int → Option Bool
  | 0, _ => none
  | q + 1, y63 => smithylaw15_ForkWays.b1 k x2 y52 y53 y54 y55 (smithylaw15_ForkWays.l1 k x2 y52 y53 y54 y55 q) y63
def smithylaw15_ForkWays.j3 (k : Nat) (x2 : List (List Int)) (y52 : List ((List Int) × L34)) (y53 : List ((List Int) × Int)) (y54 : List ((List Int) × L34)) (y55 : List ((List Int) × Int)) : Option Bool := smithylaw15_ForkWays.l1 k x2 y52 y53 y54 y55 k 0
def smithylaw15_ForkWays.j6 (y108 : Int) (rec2 : Int → (List ((List Int) × L34)) → (List ((List Int) × Int)) → (List ((List Int) × L34)) → (List ((List Int) × Int)) → Option Bool) (y128 : List ((List Int) × L34)) (y129 : List ((List Int) × Int)) (y130 : List ((List Int) × L34)) (y131 : List ((List Int) × Int)) : Option Bool := rec2 (wr .i64 (y108 + 1)) y128 y129 y130 y131
def smithylaw15_ForkWays.j10 (y108 : Int) (rec2 : Int → (List ((List Int) × L34)) → (List ((List Int) × Int)) → (List ((List Int) × L34)) → (List ((List Int) × Int)) → Option Bool) (y137 : List ((List Int) × L34)) (y138 : List ((List Int) × Int)) (y144 : Bool) (y145 : List ((List Int) × L34)) (y146 : List ((List Int) × Int)) : Option Bool := if y144 = true then (some false) else (smithylaw15_ForkWays.j6 y108 rec2 y145 y146 y137 y138)
def smithylaw15_ForkWays.j9 (k : Nat) (x2 : List (List Int)) (y108 : Int) (y109 : List ((List Int) × L34)) (y110 : List ((List Int) × Int)) (rec2 : Int → (List ((List Int) × L34)) → (List ((List Int) × Int)) → (List ((List Int) × L34)) → (List ((List Int) × Int)) → Option Bool) (y137 : List ((List Int) × L34)) (y138 : List ((List Int) × Int)) (y139 : List Int) (y140 : Int) (y141 : List Int) (y142 : List Int) (y143 : List ((List Int) × (List Int))) : Option Bool := (fork_Cache_Want.f (y109, y110) (gt x2 (wr .i64 ((wr .i64 (((x2).length : Int) - 1)) - y108)))).bind fun t15 => (if (t15.1 == 3) = true then ((fork_Cache_Fill.f k t15.2 (y139, y140, y141, y142, y143)).bind fun t16 => (smithylaw15_ForkWays.j10 y108 rec2 y137 y138 (!t16.1) t16.2.1 t16.2.2)) else (smithylaw15_ForkWays.j10 y108 rec2 y137 y138 false t15.2.1 t15.2.2))
def smithylaw15_ForkWays.j8 (k : Nat) (x1 : List L34) (x2 : List (List Int)) (y108 : Int) (y109 : List ((List Int) × L34)) (y110 : List ((List Int) × Int)) (rec2 : Int → (List ((List Int) × L34)) → (List ((List Int) × Int)) → (List ((List Int) × L34)) → (List ((List Int) × Int)) → Option Bool) (y137 : List ((List Int) × L34)) (y138 : List ((List Int) × Int)) : Option Bool := if (0 : Int) ≤ (wr .i64 ((wr .i64 (((x2).length : Int) - 1)) - y108)) ∧ (wr .i64 ((wr .i64 (((x2).length : Int) - 1)) - y108)) < ((x2).length : Int) then ((smithyref13_Find.f k x1 (gt x2 (wr .i64 ((wr .i64 (((x2).length : Int) - 1)) - y108)))).bind fun t12 => (if (!t12.2) = true then (smithylaw15_ForkWays.j9 k x2 y108 y109 y110 rec2 y137 y138 (gt x2 (wr .i64 ((wr .i64 (((x2).length : Int) - 1)) - y108))) 0 [0, 0, 0, 0] ([] : List Int) ([] : List ((List Int) × (List Int)))) else (smithylaw15_ForkWays.j9 k x2 y108 y109 y110 rec2 y137 y138 t12.1.1 t12.1.2.1 t12.1.2.2.1 t12.1.2.2.2.1 t12.1.2.2.2.2))) else none
def smithylaw15_ForkWays.j12 (k : Nat) (x1 : List L34) (x2 : List (List Int)) (y108 : Int) (y109 : List ((List Int) × L34)) (y110 : List ((List Int) × Int)) (rec2 : Int → (List ((List Int) × L34)) → (List ((List Int) × Int)) → (List ((List Int) × L34)) → (List ((List Int) × Int)) → Option Bool) (y132 : List Int) (y133 : Int) (y134 : List Int) (y135 : List Int) (y136 : List ((List Int) × (List Int))) (y158 : List ((List Int) × L34)) (y159 : List ((List Int) × Int)) : Option Bool := (fork_Cache_Fill.f k (y158, y159) (y132, y133, y134, y135, y136)).bind fun t18 => (if (!t18.1) = true then (some false) else (smithylaw15_ForkWays.j8 k x1 x2 y108 y109 y110 rec2 t18.2.1 t18.2.2))
def smithylaw15_ForkWays.j13 (y167 : Int) (rec3 : Int → (List ((List Int) × L34)) → (List ((List Int) × Int)) → Option Bool) (y170 : List ((List Int) × L34)) (y171 : List ((List Int) × Int)) : Option Bool := rec3 (wr .i64 (y167 + 1)) y170 y171
def smithylaw15_ForkWays.b3 (k : Nat) (x1 : List L34) (x2 : List (List Int)) (y108 : Int) (y109 : List ((List Int) × L34)) (y110 : List ((List Int) × Int)) (rec2 : Int → (List ((List Int) × L34)) → (List ((List Int) × Int)) → (List ((List Int) × L34)) → (List ((List Int) × Int)) → Option Bool) (y132 : List Int) (y133 : Int) (y134 : List Int) (y135 : List Int) (y136 : List ((List Int) × (List Int))) (y147 : Int) (rec3 : Int → (List ((List Int) × L34)) → (List ((List Int) × Int)) → Option Bool) (y167 : Int) (y168 : List ((List Int) × L34)) (y169 : List ((List Int) × Int)) : Option Bool := if (decide (y167 < y147)) = true then ((fork_Cache_Fail.f (y168, y169) (gt x2 y108)).bind fun t21 => (if (t21.1 == 5) = true then ((fork_Cache_Want.f t21.2 (gt x2 y108)).bind fun t22 => (smithylaw15_ForkWays.j13 y167 rec3 t22.2.1 t22.2.2)) else (smithylaw15_ForkWays.j13 y167 rec3 t21.2.1 t21.2.2))) else (smithylaw15_ForkWays.j12 k x1 x2 y108 y109 y110 rec2 y132 y133 y134 y135 y136 y168 y169)
def smithylaw15_ForkWays.l3 (k : Nat) (x1 : List L34) (x2 : List (List Int)) (y108 : Int) (y109 : List ((List Int) × L34)) (y110 : List ((List Int) × Int)) (rec2 : Int → (List ((List Int) × L34)) → (List ((List Int) × Int)) → (List ((List Int) × L34)) → (List ((List Int) × Int)) → Option Bool) (y132 : List Int) (y133 : Int) (y134 : List Int) (y135 : List Int) (y136 : List ((List Int) × (List Int))) (y147 : Int) : Nat → Int → (List ((List Int) × L34)) → (List ((List Int) × Int)) → Option Bool
  | 0, _, _, _ => none
  | q + 1, y167, y168, y169 => smithylaw15_ForkWays.b3 k x1 x2 y108 y109 y110 rec2 y132 y133 y134 y135 y136 y147 (smithylaw15_ForkWays.l3 k x1 x2 y108 y109 y110 rec2 y132 y133 y134 y135 y136 y147 q) y167 y168 y169
def smithylaw15_ForkWays.j11 (k : Nat) (x1 : List L34) (x2 : List (List Int)) (y108 : Int) (y109 : List ((List Int) × L34)) (y110 : List ((List Int) × Int)) (rec2 : Int → (List ((List Int) × L34)) → (List ((List Int) × Int)) → (List ((List Int) × L34)) → (List ((List Int) × Int)) → Option Bool) (y132 : List Int) (y133 : Int) (y134 : List Int) (y135 : List Int) (y136 : List ((List Int) × (List Int))) (t17 : Int × ((List ((List Int) × L34)) × (List ((List Int) × Int)))) (y147 : Int) : Option Bool := smithylaw15_ForkWays.l3 k x1 x2 y108 y109 y110 rec2 y132 y133 y134 y135 y136 y147 k 0 t17.2.1 t17.2.2
def smithylaw15_ForkWays.j7 (k : Nat) (x1 : List L34) (x2 : List (List Int)) (x3 : List Int) (y108 : Int) (y109 : List ((List Int) × L34)) (y110 : List ((List Int) × Int)) (y111 : List ((List Int) × L34)) (y112 : List ((List Int) × Int)) (rec2 : Int → (List ((List Int) × L34)) → (List ((List Int) × Int)) → (List ((List Int) × L34)) → (List ((List Int) × Int)) → Option Bool) (y132 : List Int) (y133 : Int) (y134 : List Int) (y135 : List Int) (y136 : List ((List Int) × (List Int))) : Option Bool := (fork_Cache_Want.f (y111, y112) (gt x2 y108)).bind fun t17 => (if (t17.1 == 3) = true then (if (decide (y108 < ((x3).length : Int))) = true then (if (0 : Int) ≤ y108 ∧ y108 < ((x3).length : Int) then (smithylaw15_ForkWays.j11 k x1 x2 y108 y109 y110 rec2 y132 y133 y134 y135 y136 t17 (Int.tmod (wr .i64 (rd x3 y108)) 20)) else none) else (smithylaw15_ForkWays.j11 k x1 x2 y108 y109 y110 rec2 y132 y133 y134 y135 y136 t17 0)) else (smithylaw15_ForkWays.j8 k x1 x2 y108 y109 y110 rec2 t17.2.1 t17.2.2))
def smithylaw15_ForkWays.b2 (k : Nat) (x1 : List L34) (x2 : List (List Int)) (x3 : List Int) (rec2 : Int → (List ((List Int) × L34)) → (List ((List Int) × Int)) → (List ((List Int) × L34)) → (List ((List Int) × Int)) → Option Bool) (y108 : Int) (y109 : List ((List Int) × L34)) (y110 : List ((List Int) × Int)) (y111 : List ((List Int) × L34)) (y112 : List ((List Int) × Int)) : Option Bool := if (decide (y108 < ((x2).length : Int))) = true then (if (0 : Int) ≤ y108 ∧ y108 < ((x2).length : Int) then ((smithyref13_Find.f k x1 (gt x2 y108)).bind fun t9 => (if (!t9.2) = true then (smithylaw15_ForkWays.j7 k x1 x2 x3 y108 y109 y110 y111 y112 rec2 (gt x2 y108) 0 [0, 0, 0, 0] ([] : List Int) ([] : List ((List Int) × (List Int)))) else (smithylaw15_ForkWays.j7 k x1 x2 x3 y108 y109 y110 y111 y112 rec2 t9.1.1 t9.1.2.1 t9.1.2.2.1 t9.1.2.2.2.1 t9.1.2.2.2.2))) else none) else (smithylaw15_ForkWays.j3 k x2 y109 y110 y111 y112)
def smithylaw15_ForkWays.l2 (k : Nat) (x1 : List L34) (x2 : List (List Int)) (x3 : List Int) : Nat → Int → (List ((List Int) × L34)) → (List ((List Int) × Int)) → (List ((List Int) × L34)) → (List ((List Int) × Int)) → Option Bool
  | 0, _, _, _, _, _ => none
  | q + 1, y108, y109, y110, y111, y112 => smithylaw15_ForkWays.b2 k x1 x2 x3 (smithylaw15_ForkWays.l2 k x1 x2 x3 q) y108 y109 y110 y111 y112
def smithylaw15_ForkWays.j2 (k : Nat) (x1 : List L34) (x2 : List (List Int)) (x3 : List Int) : Option Bool := (fork_New.f).bind fun t2 => ((fork_New.f).bind fun t3 => ((smithylaw15_fixed.f k).bind fun t4 => (if (!t4) = true then (some false) else (smithylaw15_ForkWays.l2 k x1 x2 x3 k 0 t3.1 t3.2 t2.1 t2.2))))
def smithylaw15_ForkWays.b4 (k : Nat) (x1 : List L34) (x2 : List (List Int)) (x3 : List Int) (rec4 : Int → Option Bool) (y173 : Int) : Option Bool := if (decide (y173 < ((x1).length : Int))) = true then (if (0 : Int) ≤ y173 ∧ y173 < ((x1).length : Int) then ((smithyref13_Right.f k (gt x1 y173)).bind fun t25 => (if (!t25) = true then ((smithylaw15_fixed.f k).bind fun t26 => (some t26)) else (rec4 (wr .i64 (y173 + 1))))) else none) else (smithylaw15_ForkWays.j2 k x1 x2 x3)
def smithylaw15_ForkWays.l4 (k : Nat) (x1 : List L34) (x2 : List (List Int)) (x3 : List Int) : Nat → Int → Option Bool
  | 0, _ => none
  | q + 1, y173 => smithylaw15_ForkWays.b4 k x1 x2 x3 (smithylaw15_ForkWays.l4 k x1 x2 x3 q) y173
def smithylaw15_ForkWays.j1 (k : Nat) (x1 : List L34) (x2 : List (List Int)) (x3 : List Int) (y1 : Bool) : Option Bool := if y1 = true then ((smithylaw15_fixed.f k).bind fun t1 => (some t1)) else (smithylaw15_ForkWays.l4 k x1 x2 x3 k 0)
def smithylaw15_ForkWays.f (k : Nat) (x1 : List L34) (x2 : List (List Int)) (x3 : List Int) : Option Bool := (smithyref13_Great.f k x1).bind fun t27 => (if t27 = true then (smithylaw15_ForkWays.j1 k x1 x2 x3 true) else (smithylaw15_ForkWays.j1 k x1 x2 x3 (decide (100 < ((x2).length : Int)))))
theorem smithylaw15_ForkWays.ok (k : Nat) : smithylaw15_ForkWays.Ctr (smithylaw15_ForkWays.f k) := by
 intro x1 x2 x3 ch_0_0 ch_0_1 ch_1_0 ch_1_1 ch_2_0 ch_2_1 r h0 mi w0 ok hm
 delta smithylaw15_ForkWays.f at h0
 refine c_enterZ (n := 162) ok hm func3 rfl rfl rfl fun b0 hb a S => c_region (s_assign S rfl rfl fun a S => c_end (wp_seq (wp_seq_k fun K1 hK1 => ?_)))
 have j1 : ∀ m y1 a w, St 162 m b0 [(31, (.b y1)), (0, (.q Y34 ch_0_0 ch_0_1 x1)), (1, (.q (Ty.arr .u8 20) ch_1_0 ch_1_1 x2)), (2, (.q yb ch_2_0 ch_2_1 x3))] [] a w → smithylaw15_ForkWays.j1 k x1 x2 x3 y1 = some r → K1 a w := by
  intro m y1 a w S h0
  delta smithylaw15_ForkWays.j1 at h0
  refine hK1 a w ?_
  rcases ite_of h0 with ⟨c1, h1⟩ | ⟨c1, h1⟩
  ·refine c_condT S rfl c1 (c_region (bindX h1 fun t1 et1 h2 => s_callP S _ N8 rfl rfl (smithylaw15_fixed.ok k t1 et1 _ _) fun ch1 m le1 a w S => s_assign S rfl rfl fun a S => c_end (wp_ret (x_thenR ?_))))
   obtain rfl := Option.some.inj h2
   exact b_ret1 (d := (.b t1)) S rfl rfl (S.rt hb)
  ·refine c_condF S rfl c1 (wp_skip (x_thenN (wp_seq_k fun K2 hK2 => ?_)))
   have j2 : ∀ m a w, St 162 m b0 [(0, (.q Y34 ch_0_0 ch_0_1 x1)), (1, (.q (Ty.arr .u8 20) ch_1_0 ch_1_1 x2)), (2, (.q yb ch_2_0 ch_2_1 x3))] [] a w → smithylaw15_ForkWays.j2 k x1 x2 x3 = some r → K2 a w := by
    intro m a w S h0
    delta smithylaw15_ForkWays.j2 at h0
    refine hK2 a w (c_region (bindX h0 fun t2 et2 h1 => s_callX S (ds' := []) (ds := []) [] [] (fun (ch : Nat × Nat × Nat) => ((.v (.pointer (some ⟨ch.1, 0, none⟩))) : D)) (fun (ch : Nat × Nat × Nat) => [Res.cells ch.1 76 [.one (.map (some ch.2.1)), .one (.map (some ch.2.2))], Res.map true (Ty.arr .u8 20) true Y34 ch.2.1 t2.1, Res.map true (Ty.arr .u8 20) false yi ch.2.2 t2.2]) (fun (ch : Nat × Nat × Nat) => [Res.cells ch.1 76 [.one (.map (some ch.2.1)), .one (.map (some ch.2.2))], Res.map true (Ty.arr .u8 20) true Y34 ch.2.1 t2.1, Res.map true (Ty.arr .u8 20) false yi ch.2.2 t2.2]) (fun _ => rfl) N10 rfl rfl (fun ok => ok) .nil rfl (fork_New.ok t2 et2 _ _) fun ch2 m le1 a w S => bindX h1 fun t3 et3 h2 => s_callX S (ds' := []) (ds := []) [] [Res.cells ch2.1 76 [.one (.map (some ch2.2.1)), .one (.map (some ch2.2.2))], Res.map true (Ty.arr .u8 20) true Y34 ch2.2.1 t2.1, Res.map true (Ty.arr .u8 20) false yi ch2.2.2 t2.2] (fun (ch : Nat × Nat × Nat) => ((.v (.pointer (some ⟨ch.1, 0, none⟩))) : D)) (fun (ch : Nat × Nat × Nat) => [Res.cells ch.1 76 [.one (.map (some ch.2.1)), .one (.map (some ch.2.2))], Res.map true (Ty.arr .u8 20) true Y34 ch.2.1 t3.1, Res.map true (Ty.arr .u8 20) false yi ch.2.2 t3.2]) (fun (ch : Nat × Nat × Nat) => [Res.cells ch.1 76 [.one (.map (some ch.2.1)), .one (.map (some ch.2.2))], Res.map true (Ty.arr .u8 20) true Y34 ch.2.1 t3.1, Res.map true (Ty.arr .u8 20) false yi ch.2.2 t3.2, Res.cells ch2.1 76 [.one (.map (some ch2.2.1)), .one (.map (some ch2.2.2))], Res.map true (Ty.arr .u8 20) true Y34 ch2.2.1 t2.1, Res.map true (Ty.arr .u8 20) false yi ch2.2.2 t2.2]) (fun _ => rfl) N10 rfl rfl (fun ok => ok) (.c0 (.c0 (.c0 .n))) rfl (fork_New.ok t3 et3 _ _) fun ch3 m le1 a w S => s_assign S rfl rfl fun a S => s_assign S rfl rfl fun a S => c_end (wp_seq (c_region (s_move S rfl rfl fun a S => s_eqp S (b := false) rfl rfl underlying36 rfl rfl fun a S => s_move S rfl rfl fun a S => s_gT S (b := false) rfl rfl rfl (s_move S rfl rfl fun a S => s_gT S (b := false) rfl rfl rfl (s_eqp S (b := false) rfl rfl underlying36 rfl rfl fun a S => s_pick S (b := false) (hc_of rfl rfl) rfl rfl fun a S => s_move S rfl rfl fun a S => s_gT S (b := false) rfl rfl rfl (bindX h2 fun t4 et4 h3 => s_callP S _ N8 rfl rfl (smithylaw15_fixed.ok k t4 et4 _ _) fun ch4 m le1 a w S => s_gT S (b := false) rfl rfl rfl (s_not S rfl rfl fun a S => s_pick S (b := false) (hc_of rfl rfl) rfl rfl fun a S => c_end ?_)))))))))
    rcases ite_of h3 with ⟨c2, h4⟩ | ⟨c2, h4⟩
    ·refine c_condT S rfl c2 (c_region (s_assign S rfl rfl fun a S => c_end (wp_ret (x_thenR ?_))))
     obtain rfl := Option.some.inj h4
     exact b_ret1 (d := (.b false)) S rfl rfl (S.rt hb)
    ·refine c_condF S rfl c2 (wp_skip (x_thenN (wp_seq_k fun K3 hK3 => ?_)))
     have j3 : ∀ m g1 g2 g3 y52 g4 y53 g5 y54 g6 y55 a w, St 162 m b0 [(10, (.p g1)), (9, (.p g2)), (1, (.q (Ty.arr .u8 20) ch_1_0 ch_1_1 x2))] [Res.cells g1 76 [.one (.map (some g3)), .one (.map (some g4))], Res.map true (Ty.arr .u8 20) true Y34 g3 y52, Res.map true (Ty.arr .u8 20) false yi g4 y53, Res.cells g2 76 [.one (.map (some g5)), .one (.map (some g6))], Res.map true (Ty.arr .u8 20) true Y34 g5 y54, Res.map true (Ty.arr .u8 20) false yi g6 y55] a w → smithylaw15_ForkWays.j3 k x2 y52 y53 y54 y55 = some r → K3 a w := by
      intro m g1 g2 g3 y52 g4 y53 g5 y54 g6 y55 a w S h0
      delta smithylaw15_ForkWays.j3 at h0
      refine hK3 a w (wp_seq_k fun K4 hK4 => ?_)
      have j4 : ∀ m a w, St 162 m b0 [] [] a w → smithylaw15_ForkWays.j4 = some r → K4 a w := by
       intro m a w S h0
       delta smithylaw15_ForkWays.j4 at h0
       refine hK4 a w (c_region (s_assign S rfl rfl fun a S => c_end (wp_ret ?_)))
       obtain rfl := Option.some.inj h0
       exact b_ret1 (d := (.b true)) S rfl rfl (S.rt hb)
      refine c_region (s_move S rfl rfl fun a S => s_lenS S rfl underlying23 rfl fun a S => s_move S rfl rfl fun a S => c_end (wp_block ?_))
      refine c_loop (fun q1 a w => ∃ m y63 g73 g74 g75 g76 g77 g78, St 162 m b0 [(133, (.i y63)), (132, (.i ((x2).length : Int))), (131, (.q (Ty.arr .u8 20) ch_1_0 ch_1_1 x2)), (10, (.p g73)), (9, (.p g74))] [Res.cells g73 76 [.one (.map (some g75)), .one (.map (some g76))], Res.map true (Ty.arr .u8 20) true Y34 g75 y52, Res.map true (Ty.arr .u8 20) false yi g76 y53, Res.cells g74 76 [.one (.map (some g77)), .one (.map (some g78))], Res.map true (Ty.arr .u8 20) true Y34 g77 y54, Res.map true (Ty.arr .u8 20) false yi g78 y55] a w ∧ smithylaw15_ForkWays.l1 k x2 y52 y53 y54 y55 q1 y63 = some r) ?_ ?_ (k := k) ⟨_, 0, g1, g2, g3, g4, g5, g6, (S.sb rfl (.c0 (.c0 (.c0 (.c0 (.c0 (.c0 .n))))))), h0⟩
      ·rintro a w ⟨m, y63, g73, g74, g75, g76, g77, g78, S, h0⟩
       exact (nomatch (show (none : Option Bool) = some r from h0))
      ·clear S h0
       rintro q1 a w ⟨m, y63, g73, g74, g75, g76, g77, g78, S, h0⟩
       replace h0 : smithylaw15_ForkWays.b1 k x2 y52 y53 y54 y55 (smithylaw15_ForkWays.l1 k x2 y52 y53 y54 y55 q1) y63 = some r := h0
       delta smithylaw15_ForkWays.b1 at h0
       refine c_region (s_bin S rfl rfl rfl rfl fun a S => c_end (wp_seq ?_))
       rcases ite_of h0 with ⟨c3, h1⟩ | ⟨c3, h1⟩
       ·refine c_condT S rfl c3 (wp_skip (x_thenN (wp_seq (wp_block (c_region ?_)))))
        obtain ⟨c4, h2⟩ := chk_of h1; clear h1
        refine s_iaddrS S rfl rfl rfl underlying23 T28 c4.1 c4.2 rfl fun p1 a S => s_ldA S (fun (c : Unit) => [.b20 (gt x2 y63)]) rfl T28 (fun _ => rfl) rfl fun ch5 a S => ?_
        refine s_alloc S Z28 rfl ⟨rfl, trivial⟩ rfl fun g79 a w S => s_store S rfl rfl rfl (s' := [.b20 (gt x2 y63)]) .h T28 rfl rfl fun w S => c_end (c_region (s_move S rfl rfl fun a S => s_loada S rfl .h T28 (s' := [.b20 (gt x2 y63)]) rfl rfl fun a S => bindX h2 fun t5 et5 h3 => s_callX S (ds' := [(.p g74), (.agg [.b20 (gt x2 y63)])]) (ds := [(.p g74), (.agg [.b20 (gt x2 y63)])]) [Res.cells g74 76 [.one (.map (some g77)), .one (.map (some g78))], Res.map true (Ty.arr .u8 20) true Y34 g77 y54, Res.map true (Ty.arr .u8 20) false yi g78 y55] [Res.cells g79 28 [.b20 (gt x2 y63)], Res.cells g73 76 [.one (.map (some g75)), .one (.map (some g76))], Res.map true (Ty.arr .u8 20) true Y34 g75 y52, Res.map true (Ty.arr .u8 20) false yi g76 y53] (fun (ch : (Option Addr) × Nat × Nat × (Option Addr) × Nat × Nat) => ((.tup [(true, [.b20 t5.1.1, .w t5.1.2.1, .w4 t5.1.2.2.1, .s ch.1 ch.2.1 ch.2.2.1, .s ch.2.2.2.1 ch.2.2.2.2.1 ch.2.2.2.2.2]), (false, [.b t5.2])]) : D)) (fun (ch : (Option Addr) × Nat × Nat × (Option Addr) × Nat × Nat) => [Res.row yb 5 ch.1 ch.2.1 ch.2.2.1 t5.1.2.2.2.1, Res.row Y71 71 ch.2.2.2.1 ch.2.2.2.2.1 ch.2.2.2.2.2 t5.1.2.2.2.2, Res.cells g74 76 [.one (.map (some g77)), .one (.map (some g78))], Res.map true (Ty.arr .u8 20) true Y34 g77 y54, Res.map true (Ty.arr .u8 20) false yi g78 y55]) (fun (ch : (Option Addr) × Nat × Nat × (Option Addr) × Nat × Nat) => [Res.row yb 5 ch.1 ch.2.1 ch.2.2.1 t5.1.2.2.2.1, Res.row Y71 71 ch.2.2.2.1 ch.2.2.2.2.1 ch.2.2.2.2.2 t5.1.2.2.2.2, Res.cells g74 76 [.one (.map (some g77)), .one (.map (some g78))], Res.map true (Ty.arr .u8 20) true Y34 g77 y54, Res.map true (Ty.arr .u8 20) false yi g78 y55, Res.cells g79 28 [.b20 (gt x2 y63)], Res.cells g73 76 [.one (.map (some g75)), .one (.map (some g76))], Res.map true (Ty.arr .u8 20) true Y34 g75 y52, Res.map true (Ty.arr .u8 20) false yi g76 y53]) (fun _ => rfl) N15 rfl rfl (fun ok => ok) (.c4 (.c4 (.c4 (.c0 (.c0 (.c0 (.c0 .n))))))) rfl (fork_Cache_Account.ok (y54, y55) (gt x2 y63) g74 g77 g78 t5 et5 _ _) fun ch6 m le1 a w S => s_move S rfl rfl fun a S => s_extract S rfl rfl rfl rfl fun a S => s_extract S rfl rfl rfl rfl fun a S => s_alloc S Z34 rfl ⟨rfl, rfl, rfl, rfl, rfl, trivial⟩ rfl fun g80 a w S => s_store S rfl rfl rfl (s' := [.b20 t5.1.1, .w t5.1.2.1, .w4 t5.1.2.2.1, .s ch6.1 ch6.2.1 ch6.2.2.1, .s ch6.2.2.2.1 ch6.2.2.2.2.1 ch6.2.2.2.2.2]) .h T34 rfl rfl fun w S => s_assign S rfl rfl fun a S => c_end (c_region (s_move S rfl rfl fun a S => s_loada S rfl .h6 T28 (s' := [.b20 (gt x2 y63)]) rfl rfl fun a S => bindX h3 fun t6 et6 h4 => s_callX S (ds' := [(.p g73), (.agg [.b20 (gt x2 y63)])]) (ds := [(.p g73), (.agg [.b20 (gt x2 y63)])]) [Res.cells g73 76 [.one (.map (some g75)), .one (.map (some g76))], Res.map true (Ty.arr .u8 20) true Y34 g75 y52, Res.map true (Ty.arr .u8 20) false yi g76 y53] [Res.cells g80 34 [.b20 t5.1.1, .w t5.1.2.1, .w4 t5.1.2.2.1, .s ch6.1 ch6.2.1 ch6.2.2.1, .s ch6.2.2.2.1 ch6.2.2.2.2.1 ch6.2.2.2.2.2], Res.row yb 5 ch6.1 ch6.2.1 ch6.2.2.1 t5.1.2.2.2.1, Res.row Y71 71 ch6.2.2.2.1 ch6.2.2.2.2.1 ch6.2.2.2.2.2 t5.1.2.2.2.2, Res.cells g74 76 [.one (.map (some g77)), .one (.map (some g78))], Res.map true (Ty.arr .u8 20) true Y34 g77 y54, Res.map true (Ty.arr .u8 20) false yi g78 y55, Res.cells g79 28 [.b20 (gt x2 y63)]] (fun (ch : (Option Addr) × Nat × Nat × (Option Addr) × Nat × Nat) => ((.tup [(true, [.b20 t6.1.1, .w t6.1.2.1, .w4 t6.1.2.2.1, .s ch.1 ch.2.1 ch.2.2.1, .s ch.2.2.2.1 ch.2.2.2.2.1 ch.2.2.2.2.2]), (false, [.b t6.2])]) : D)) (fun (ch : (Option Addr) × Nat × Nat × (Option Addr) × Nat × Nat) => [Res.row yb 5 ch.1 ch.2.1 ch.2.2.1 t6.1.2.2.2.1, Res.row Y71 71 ch.2.2.2.1 ch.2.2.2.2.1 ch.2.2.2.2.2 t6.1.2.2.2.2, Res.cells g73 76 [.one (.map (some g75)), .one (.map (some g76))], Res.map true (Ty.arr .u8 20) true Y34 g75 y52, Res.map true (Ty.arr .u8 20) false yi g76 y53]) (fun (ch : (Option Addr) × Nat × Nat × (Option Addr) × Nat × Nat) => [Res.row yb 5 ch.1 ch.2.1 ch.2.2.1 t6.1.2.2.2.1, Res.row Y71 71 ch.2.2.2.1 ch.2.2.2.2.1 ch.2.2.2.2.2 t6.1.2.2.2.2, Res.cells g73 76 [.one (.map (some g75)), .one (.map (some g76))], Res.map true (Ty.arr .u8 20) true Y34 g75 y52, Res.map true (Ty.arr .u8 20) false yi g76 y53, Res.cells g80 34 [.b20 t5.1.1, .w t5.1.2.1, .w4 t5.1.2.2.1, .s ch6.1 ch6.2.1 ch6.2.2.1, .s ch6.2.2.2.1 ch6.2.2.2.2.1 ch6.2.2.2.2.2], Res.row yb 5 ch6.1 ch6.2.1 ch6.2.2.1 t5.1.2.2.2.1, Res.row Y71 71 ch6.2.2.2.1 ch6.2.2.2.2.1 ch6.2.2.2.2.2 t5.1.2.2.2.2, Res.cells g74 76 [.one (.map (some g77)), .one (.map (some g78))], Res.map true (Ty.arr .u8 20) true Y34 g77 y54, Res.map true (Ty.arr .u8 20) false yi g78 y55, Res.cells g79 28 [.b20 (gt x2 y63)]]) (fun _ => rfl) N15 rfl rfl (fun ok => ok) (.c7 (.c7 (.c7 (.c0 (.c0 (.c0 (.c0 (.c0 (.c0 (.c0 .n)))))))))) rfl (fork_Cache_Account.ok (y52, y53) (gt x2 y63) g73 g75 g76 t6 et6 _ _) fun ch7 m le1 a w S => s_move S rfl rfl fun a S => s_extract S rfl rfl rfl rfl fun a S => s_extract S rfl rfl rfl rfl fun a S => s_alloc S Z34 rfl ⟨rfl, rfl, rfl, rfl, rfl, trivial⟩ rfl fun g81 a w S => s_store S rfl rfl rfl (s' := [.b20 t6.1.1, .w t6.1.2.1, .w4 t6.1.2.2.1, .s ch7.1 ch7.2.1 ch7.2.2.1, .s ch7.2.2.2.1 ch7.2.2.2.2.1 ch7.2.2.2.2.2]) .h T34 rfl rfl fun w S => s_assign S rfl rfl fun a S => c_end (wp_seq_k fun K5 hK5 => ?_)))))
        have j5 : ∀ m y64 g82 g83 g84 g85 g86 g87 a w, St 162 m b0 [(160, (.b y64)), (133, (.i y63)), (132, (.i ((x2).length : Int))), (131, (.q (Ty.arr .u8 20) ch_1_0 ch_1_1 x2)), (10, (.p g82)), (9, (.p g83))] [Res.cells g82 76 [.one (.map (some g84)), .one (.map (some g85))], Res.map true (Ty.arr .u8 20) true Y34 g84 y52, Res.map true (Ty.arr .u8 20) false yi g85 y53, Res.cells g83 76 [.one (.map (some g86)), .one (.map (some g87))], Res.map true (Ty.arr .u8 20) true Y34 g86 y54, Res.map true (Ty.arr .u8 20) false yi g87 y55] a w → smithylaw15_ForkWays.j5 y63 (smithylaw15_ForkWays.l1 k x2 y52 y53 y54 y55 q1) y64 = some r → K5 a w := by
         intro m y64 g82 g83 g84 g85 g86 g87 a w S h0
         delta smithylaw15_ForkWays.j5 at h0
         refine hK5 a w ?_
         rcases ite_of h0 with ⟨c5, h1⟩ | ⟨c5, h1⟩
         ·refine c_condT S rfl c5 (c_region (s_assign S rfl rfl fun a S => c_end (wp_ret (x_blockR (x_thenR (x_thenR (x_blockR (x_thenR ?_))))))))
          obtain rfl := Option.some.inj h1
          exact b_ret1 (d := (.b false)) S rfl rfl (S.rt hb)
         ·refine c_condF S rfl c5 (wp_skip (x_blockN (x_thenN (c_region' (s_bin S rfl rfl rfl rfl fun a S => s_move S rfl rfl fun a S => c_end' (x_thenN ?_))))))
          exact ⟨_, (wr .i64 (y63 + 1)), g82, g83, g84, g85, g86, g87, (S.sb rfl (.c0 (.c0 (.c0 (.c0 (.c0 (.c0 .n))))))), h1⟩
        refine c_region' (s_move S rfl rfl fun a S => s_not S rfl rfl fun a S => s_move S rfl rfl fun a S => ?_)
        rcases ite_of h4 with ⟨c6, h5⟩ | ⟨c6, h5⟩
        ·refine s_gF S (b := (!t5.2)) rfl rfl c6 rfl fun a S => s_gF S (b := (!t5.2)) rfl rfl c6 rfl fun a S => s_pick S (b := true) (hc_of rfl c6) rfl rfl fun a S => s_move S rfl rfl fun a S => s_gF S (b := true) rfl rfl rfl rfl fun a S => s_gF S (b := true) rfl rfl rfl rfl fun a S => s_gF S (b := true) rfl rfl rfl rfl fun a S => s_gF S (b := true) rfl rfl rfl rfl fun a S => s_pick S (b := true) (hc_of rfl rfl) rfl rfl fun a S => c_end' (x_thenN ?_)
         exact j5 _ true g73 g74 g75 g76 g77 g78 a w (S.sb rfl (.c3 (.c3 (.c3 (.c6 (.c6 (.c6 .n))))))) h5
        ·refine s_gT S (b := (!t5.2)) rfl rfl c6 (s_move S rfl rfl fun a S => s_gT S (b := (!t5.2)) rfl rfl c6 (s_not S rfl rfl fun a S => s_pick S (b := false) (hc_of rfl c6) rfl rfl fun a S => s_move S rfl rfl fun a S => ?_))
         rcases ite_of h5 with ⟨c7, h6⟩ | ⟨c7, h6⟩
         ·refine s_gF S (b := (!t6.2)) rfl rfl c7 rfl fun a S => s_gF S (b := (!t6.2)) rfl rfl c7 rfl fun a S => s_gF S (b := (!t6.2)) rfl rfl c7 rfl fun a S => s_gF S (b := (!t6.2)) rfl rfl c7 rfl fun a S => s_pick S (b := true) (hc_of rfl c7) rfl rfl fun a S => c_end' (x_thenN ?_)
          exact j5 _ true g73 g74 g75 g76 g77 g78 a w (S.sb rfl (.c3 (.c3 (.c3 (.c6 (.c6 (.c6 .n))))))) h6
         ·refine s_gT S (b := (!t6.2)) rfl rfl c7 (s_loada S rfl .h6 T34 (s' := [.b20 t5.1.1, .w t5.1.2.1, .w4 t5.1.2.2.1, .s ch6.1 ch6.2.1 ch6.2.2.1, .s ch6.2.2.2.1 ch6.2.2.2.2.1 ch6.2.2.2.2.2]) rfl rfl fun a S => s_gT S (b := (!t6.2)) rfl rfl c7 (s_loada S rfl .h T34 (s' := [.b20 t6.1.1, .w t6.1.2.1, .w4 t6.1.2.2.1, .s ch7.1 ch7.2.1 ch7.2.2.1, .s ch7.2.2.2.1 ch7.2.2.2.2.1 ch7.2.2.2.2.2]) rfl rfl fun a S => s_gT S (b := (!t6.2)) rfl rfl c7 ?_))
          replace S := S.rowfro .h7
          obtain ⟨m, le1, S, hro⟩ := S
          replace S := S.slot (u := 156) (d' := (.agg [.b20 t5.1.1, .w t5.1.2.1, .w4 t5.1.2.2.1, .q yb ch6.1 ch6.2.2.1 t5.1.2.2.2.1, .s ch6.2.2.2.1 ch6.2.2.2.2.1 ch6.2.2.2.2.2])) rfl (by simp [D.val, pd, cellsOf, Seg.cells, hro.2.1]) (by have h := (S.get 156 (.agg [.b20 t5.1.1, .w t5.1.2.1, .w4 t5.1.2.2.1, .s ch6.1 ch6.2.1 ch6.2.2.1, .s ch6.2.2.2.1 ch6.2.2.2.2.1 ch6.2.2.2.2.2]) rfl).2; exact ⟨h.1, h.2.1, h.2.2.1, ⟨by have := hro.2.2.1; omega, hro.2.2.2, hro.1, RdS.mono _ _ _⟩, h.2.2.2.2.1, trivial⟩)
          replace S := S.slot (u := 141) (d' := (.agg [.b20 t5.1.1, .w t5.1.2.1, .w4 t5.1.2.2.1, .q yb ch6.1 ch6.2.2.1 t5.1.2.2.2.1, .s ch6.2.2.2.1 ch6.2.2.2.2.1 ch6.2.2.2.2.2])) rfl (by simp [D.val, pd, cellsOf, Seg.cells, hro.2.1]) (by have h := (S.get 141 (.agg [.b20 t5.1.1, .w t5.1.2.1, .w4 t5.1.2.2.1, .s ch6.1 ch6.2.1 ch6.2.2.1, .s ch6.2.2.2.1 ch6.2.2.2.2.1 ch6.2.2.2.2.2]) rfl).2; exact ⟨h.1, h.2.1, h.2.2.1, ⟨by have := hro.2.2.1; omega, hro.2.2.2, hro.1, RdS.mono _ _ _⟩, h.2.2.2.2.1, trivial⟩)
          replace S := S.cellro (s' := [.b20 t5.1.1, .w t5.1.2.1, .w4 t5.1.2.2.1, .q yb ch6.1 ch6.2.2.1 t5.1.2.2.2.1, .s ch6.2.2.2.1 ch6.2.2.2.2.1 ch6.2.2.2.2.2]) .h6 (by simp [cellsOf, Seg.cells, hro.2.1]) (fun h => ⟨h.1, h.2.1, h.2.2.1, ⟨by have := hro.2.2.1; omega, hro.2.2.2, hro.1, RdS.mono _ _ _⟩, h.2.2.2.2.1, trivial⟩)
          replace S := S.rowfro .h7
          obtain ⟨m, le1, S, hro⟩ := S
          replace S := S.slot (u := 141) (d' := (.agg [.b20 t5.1.1, .w t5.1.2.1, .w4 t5.1.2.2.1, .q yb ch6.1 ch6.2.2.1 t5.1.2.2.2.1, .q Y71 ch6.2.2.2.1 ch6.2.2.2.2.2 t5.1.2.2.2.2])) rfl (by simp [D.val, pd, cellsOf, Seg.cells, hro.2.1]) (by have h := (S.get 141 (.agg [.b20 t5.1.1, .w t5.1.2.1, .w4 t5.1.2.2.1, .q yb ch6.1 ch6.2.2.1 t5.1.2.2.2.1, .s ch6.2.2.2.1 ch6.2.2.2.2.1 ch6.2.2.2.2.2]) rfl).2; exact ⟨h.1, h.2.1, h.2.2.1, h.2.2.2.1, ⟨by have := hro.2.2.1; omega, hro.2.2.2, hro.1, RdS.mono _ _ _⟩, trivial⟩)
          replace S := S.slot (u := 156) (d' := (.agg [.b20 t5.1.1, .w t5.1.2.1, .w4 t5.1.2.2.1, .q yb ch6.1 ch6.2.2.1 t5.1.2.2.2.1, .q Y71 ch6.2.2.2.1 ch6.2.2.2.2.2 t5.1.2.2.2.2])) rfl (by simp [D.val, pd, cellsOf, Seg.cells, hro.2.1]) (by have h := (S.get 156 (.agg [.b20 t5.1.1, .w t5.1.2.1, .w4 t5.1.2.2.1, .q yb ch6.1 ch6.2.2.1 t5.1.2.2.2.1, .s ch6.2.2.2.1 ch6.2.2.2.2.1 ch6.2.2.2.2.2]) rfl).2; exact ⟨h.1, h.2.1, h.2.2.1, h.2.2.2.1, ⟨by have := hro.2.2.1; omega, hro.2.2.2, hro.1, RdS.mono _ _ _⟩, trivial⟩)
          replace S := S.cellro (s' := [.b20 t5.1.1, .w t5.1.2.1, .w4 t5.1.2.2.1, .q yb ch6.1 ch6.2.2.1 t5.1.2.2.2.1, .q Y71 ch6.2.2.2.1 ch6.2.2.2.2.2 t5.1.2.2.2.2]) .h6 (by simp [cellsOf, Seg.cells, hro.2.1]) (fun h => ⟨h.1, h.2.1, h.2.2.1, h.2.2.2.1, ⟨by have := hro.2.2.1; omega, hro.2.2.2, hro.1, RdS.mono _ _ _⟩, trivial⟩)
          replace S := S.rowfro .h1
          obtain ⟨m, le1, S, hro⟩ := S
          replace S := S.slot (u := 157) (d' := (.agg [.b20 t6.1.1, .w t6.1.2.1, .w4 t6.1.2.2.1, .q yb ch7.1 ch7.2.2.1 t6.1.2.2.2.1, .s ch7.2.2.2.1 ch7.2.2.2.2.1 ch7.2.2.2.2.2])) rfl (by simp [D.val, pd, cellsOf, Seg.cells, hro.2.1]) (by have h := (S.get 157 (.agg [.b20 t6.1.1, .w t6.1.2.1, .w4 t6.1.2.2.1, .s ch7.1 ch7.2.1 ch7.2.2.1, .s ch7.2.2.2.1 ch7.2.2.2.2.1 ch7.2.2.2.2.2]) rfl).2; exact ⟨h.1, h.2.1, h.2.2.1, ⟨by have := hro.2.2.1; omega, hro.2.2.2, hro.1, RdS.mono _ _ _⟩, h.2.2.2.2.1, trivial⟩)
          replace S := S.slot (u := 147) (d' := (.agg [.b20 t6.1.1, .w t6.1.2.1, .w4 t6.1.2.2.1, .q yb ch7.1 ch7.2.2.1 t6.1.2.2.2.1, .s ch7.2.2.2.1 ch7.2.2.2.2.1 ch7.2.2.2.2.2])) rfl (by simp [D.val, pd, cellsOf, Seg.cells, hro.2.1]) (by have h := (S.get 147 (.agg [.b20 t6.1.1, .w t6.1.2.1, .w4 t6.1.2.2.1, .s ch7.1 ch7.2.1 ch7.2.2.1, .s ch7.2.2.2.1 ch7.2.2.2.2.1 ch7.2.2.2.2.2]) rfl).2; exact ⟨h.1, h.2.1, h.2.2.1, ⟨by have := hro.2.2.1; omega, hro.2.2.2, hro.1, RdS.mono _ _ _⟩, h.2.2.2.2.1, trivial⟩)
          replace S := S.cellro (s' := [.b20 t6.1.1, .w t6.1.2.1, .w4 t6.1.2.2.1, .q yb ch7.1 ch7.2.2.1 t6.1.2.2.2.1, .s ch7.2.2.2.1 ch7.2.2.2.2.1 ch7.2.2.2.2.2]) .h (by simp [cellsOf, Seg.cells, hro.2.1]) (fun h => ⟨h.1, h.2.1, h.2.2.1, ⟨by have := hro.2.2.1; omega, hro.2.2.2, hro.1, RdS.mono _ _ _⟩, h.2.2.2.2.1, trivial⟩)
          replace S := S.rowfro .h1
          obtain ⟨m, le1, S, hro⟩ := S
          replace S := S.slot (u := 147) (d' := (.agg [.b20 t6.1.1, .w t6.1.2.1, .w4 t6.1.2.2.1, .q yb ch7.1 ch7.2.2.1 t6.1.2.2.2.1, .q Y71 ch7.2.2.2.1 ch7.2.2.2.2.2 t6.1.2.2.2.2])) rfl (by simp [D.val, pd, cellsOf, Seg.cells, hro.2.1]) (by have h := (S.get 147 (.agg [.b20 t6.1.1, .w t6.1.2.1, .w4 t6.1.2.2.1, .q yb ch7.1 ch7.2.2.1 t6.1.2.2.2.1, .s ch7.2.2.2.1 ch7.2.2.2.2.1 ch7.2.2.2.2.2]) rfl).2; exact ⟨h.1, h.2.1, h.2.2.1, h.2.2.2.1, ⟨by have := hro.2.2.1; omega, hro.2.2.2, hro.1, RdS.mono _ _ _⟩, trivial⟩)
          replace S := S.slot (u := 157) (d' := (.agg [.b20 t6.1.1, .w t6.1.2.1, .w4 t6.1.2.2.1, .q yb ch7.1 ch7.2.2.1 t6.1.2.2.2.1, .q Y71 ch7.2.2.2.1 ch7.2.2.2.2.2 t6.1.2.2.2.2])) rfl (by simp [D.val, pd, cellsOf, Seg.cells, hro.2.1]) (by have h := (S.get 157 (.agg [.b20 t6.1.1, .w t6.1.2.1, .w4 t6.1.2.2.1, .q yb ch7.1 ch7.2.2.1 t6.1.2.2.2.1, .s ch7.2.2.2.1 ch7.2.2.2.2.1 ch7.2.2.2.2.2]) rfl).2; exact ⟨h.1, h.2.1, h.2.2.1, h.2.2.2.1, ⟨by have := hro.2.2.1; omega, hro.2.2.2, hro.1, RdS.mono _ _ _⟩, trivial⟩)
          replace S := S.cellro (s' := [.b20 t6.1.1, .w t6.1.2.1, .w4 t6.1.2.2.1, .q yb ch7.1 ch7.2.2.1 t6.1.2.2.2.1, .q Y71 ch7.2.2.2.1 ch7.2.2.2.2.2 t6.1.2.2.2.2]) .h (by simp [cellsOf, Seg.cells, hro.2.1]) (fun h => ⟨h.1, h.2.1, h.2.2.1, h.2.2.2.1, ⟨by have := hro.2.2.1; omega, hro.2.2.2, hro.1, RdS.mono _ _ _⟩, trivial⟩)
          refine bindX h6 fun t8 et8 h7 => s_callP S _ N16 rfl rfl (smithyref13_Same.ok k t5.1 t6.1 ch6.1 ch6.2.2.1 ch6.2.2.2.1 ch6.2.2.2.2.2 ch7.1 ch7.2.2.1 ch7.2.2.2.1 ch7.2.2.2.2.2 t8 et8 _ _) fun ch8 m le1 a w S => s_gT S (b := (!t6.2)) rfl rfl c7 (s_not S rfl rfl fun a S => s_pick S (b := false) (hc_of rfl c7) rfl rfl fun a S => c_end' (x_thenN ?_))
          exact j5 _ (!t8) g73 g74 g75 g76 g77 g78 a w (S.sb rfl (.c1 (.c1 (.c1 (.c2 (.c2 (.c2 .n))))))) h7
       ·refine c_condF S rfl c3 (wp_exit (x_thenX (x_thenX (x_blockX (x_thenN ?_)))))
        exact j4 _ a w (S.sub trivial .nil) h1
     refine c_region (s_move S rfl rfl fun a S => s_lenS S rfl underlying23 rfl fun a S => s_move S rfl rfl fun a S => c_end (wp_block ?_))
     refine c_loop (fun q2 a w => ∃ m y108 g282 g283 g284 y109 g285 y110 g286 y111 g287 y112, St 162 m b0 [(58, (.i y108)), (57, (.i ((x2).length : Int))), (56, (.q (Ty.arr .u8 20) ch_1_0 ch_1_1 x2)), (10, (.p g282)), (9, (.p g283)), (0, (.q Y34 ch_0_0 ch_0_1 x1)), (1, (.q (Ty.arr .u8 20) ch_1_0 ch_1_1 x2)), (2, (.q yb ch_2_0 ch_2_1 x3))] [Res.cells g282 76 [.one (.map (some g284)), .one (.map (some g285))], Res.map true (Ty.arr .u8 20) true Y34 g284 y109, Res.map true (Ty.arr .u8 20) false yi g285 y110, Res.cells g283 76 [.one (.map (some g286)), .one (.map (some g287))], Res.map true (Ty.arr .u8 20) true Y34 g286 y111, Res.map true (Ty.arr .u8 20) false yi g287 y112] a w ∧ smithylaw15_ForkWays.l2 k x1 x2 x3 q2 y108 y109 y110 y111 y112 = some r) ?_ ?_ (k := k) ⟨_, 0, ch3.1, ch2.1, ch3.2.1, t3.1, ch3.2.2, t3.2, ch2.2.1, t2.1, ch2.2.2, t2.2, (S.sb rfl (.c0 (.c0 (.c0 (.c0 (.c0 (.c0 .n))))))), h4⟩
     ·rintro a w ⟨m, y108, g282, g283, g284, y109, g285, y110, g286, y111, g287, y112, S, h0⟩
      exact (nomatch (show (none : Option Bool) = some r from h0))
     ·clear S h4
      rintro q2 a w ⟨m, y108, g282, g283, g284, y109, g285, y110, g286, y111, g287, y112, S, h0⟩
      replace h0 : smithylaw15_ForkWays.b2 k x1 x2 x3 (smithylaw15_ForkWays.l2 k x1 x2 x3 q2) y108 y109 y110 y111 y112 = some r := h0
      delta smithylaw15_ForkWays.b2 at h0
      refine c_region (s_bin S rfl rfl rfl rfl fun a S => c_end (wp_seq ?_))
      rcases ite_of h0 with ⟨c8, h1⟩ | ⟨c8, h1⟩
      ·refine c_condT S rfl c8 (wp_skip (x_thenN (wp_seq_k fun K6 hK6 => ?_)))
       have j6 : ∀ m g373 g374 g375 y128 g376 y129 g377 y130 g378 y131 a w, St 162 m b0 [(58, (.i y108)), (57, (.i ((x2).length : Int))), (56, (.q (Ty.arr .u8 20) ch_1_0 ch_1_1 x2)), (10, (.p g373)), (9, (.p g374)), (0, (.q Y34 ch_0_0 ch_0_1 x1)), (1, (.q (Ty.arr .u8 20) ch_1_0 ch_1_1 x2)), (2, (.q yb ch_2_0 ch_2_1 x3))] [Res.cells g373 76 [.one (.map (some g375)), .one (.map (some g376))], Res.map true (Ty.arr .u8 20) true Y34 g375 y128, Res.map true (Ty.arr .u8 20) false yi g376 y129, Res.cells g374 76 [.one (.map (some g377)), .one (.map (some g378))], Res.map true (Ty.arr .u8 20) true Y34 g377 y130, Res.map true (Ty.arr .u8 20) false yi g378 y131] a w → smithylaw15_ForkWays.j6 y108 (smithylaw15_ForkWays.l2 k x1 x2 x3 q2) y128 y129 y130 y131 = some r → K6 a w := by
        intro m g373 g374 g375 y128 g376 y129 g377 y130 g378 y131 a w S h0
        delta smithylaw15_ForkWays.j6 at h0
        refine hK6 a w (c_region' (s_bin S rfl rfl rfl rfl fun a S => s_move S rfl rfl fun a S => c_end' (x_thenN ?_)))
        exact ⟨_, (wr .i64 (y108 + 1)), g373, g374, g375, y128, g376, y129, g377, y130, g378, y131, (S.sb rfl (.c0 (.c0 (.c0 (.c0 (.c0 (.c0 .n))))))), h0⟩
       refine wp_block (c_region (s_move S rfl rfl fun a S => ?_))
       obtain ⟨c9, h2⟩ := chk_of h1; clear h1
       refine s_iaddrS S rfl rfl rfl underlying23 T28 c9.1 c9.2 rfl fun p2 a S => s_ldA S (fun (c : Unit) => [.b20 (gt x2 y108)]) rfl T28 (fun _ => rfl) rfl fun ch9 a S => ?_
       refine s_alloc S Z28 rfl ⟨rfl, trivial⟩ rfl fun g379 a w S => s_assign S rfl rfl fun a S => s_store S rfl rfl rfl (s' := [.b20 (gt x2 y108)]) .h T28 rfl rfl fun w S => c_end (c_region (s_move S rfl rfl fun a S => s_loada S rfl .h T28 (s' := [.b20 (gt x2 y108)]) rfl rfl fun a S => bindX h2 fun t9 et9 h3 => s_callP S _ N11 rfl rfl (smithyref13_Find.ok k x1 (gt x2 y108) ch_0_0 ch_0_1 t9 et9 _ _) fun ch10 m le1 a w S => s_move S rfl rfl fun a S => s_extract S rfl rfl rfl rfl fun a S => s_extract S rfl rfl rfl rfl fun a S => s_alloc S Z34 rfl ⟨rfl, rfl, rfl, rfl, rfl, trivial⟩ rfl fun g380 a w S => s_store S rfl rfl rfl (s' := [.b20 t9.1.1, .w t9.1.2.1, .w4 t9.1.2.2.1, .q yb ch10.1 ch10.2.1 t9.1.2.2.2.1, .q Y71 ch10.2.2.1 ch10.2.2.2 t9.1.2.2.2.2]) .h T34 rfl rfl fun w S => s_assign S rfl rfl fun a S => c_end (wp_seq_k fun K7 hK7 => ?_)))
       have j7 : ∀ m g381 g382 g383 g384 y132 y133 y134 A1 cp1 y135 A2 cp2 y136 g385 g386 g387 g388 a w, St 162 m b0 [(13, (.p g381)), (11, (.i y108)), (12, (.p g382)), (58, (.i y108)), (57, (.i ((x2).length : Int))), (56, (.q (Ty.arr .u8 20) ch_1_0 ch_1_1 x2)), (10, (.p g383)), (9, (.p g384)), (0, (.q Y34 ch_0_0 ch_0_1 x1)), (1, (.q (Ty.arr .u8 20) ch_1_0 ch_1_1 x2)), (2, (.q yb ch_2_0 ch_2_1 x3))] [Res.cells g381 34 [.b20 y132, .w y133, .w4 y134, .q yb A1 cp1 y135, .q Y71 A2 cp2 y136], Res.cells g382 28 [.b20 (gt x2 y108)], Res.cells g383 76 [.one (.map (some g385)), .one (.map (some g386))], Res.map true (Ty.arr .u8 20) true Y34 g385 y109, Res.map true (Ty.arr .u8 20) false yi g386 y110, Res.cells g384 76 [.one (.map (some g387)), .one (.map (some g388))], Res.map true (Ty.arr .u8 20) true Y34 g387 y111, Res.map true (Ty.arr .u8 20) false yi g388 y112] a w → smithylaw15_ForkWays.j7 k x1 x2 x3 y108 y109 y110 y111 y112 (smithylaw15_ForkWays.l2 k x1 x2 x3 q2) y132 y133 y134 y135 y136 = some r → K7 a w := by
        intro m g381 g382 g383 g384 y132 y133 y134 A1 cp1 y135 A2 cp2 y136 g385 g386 g387 g388 a w S h0
        delta smithylaw15_ForkWays.j7 at h0
        refine hK7 a w (wp_seq_k fun K8 hK8 => ?_)
        have j8 : ∀ m g442 g443 g444 g445 g446 y137 g447 y138 a w, St 162 m b0 [(11, (.i y108)), (58, (.i y108)), (57, (.i ((x2).length : Int))), (56, (.q (Ty.arr .u8 20) ch_1_0 ch_1_1 x2)), (10, (.p g442)), (9, (.p g443)), (0, (.q Y34 ch_0_0 ch_0_1 x1)), (1, (.q (Ty.arr .u8 20) ch_1_0 ch_1_1 x2)), (2, (.q yb ch_2_0 ch_2_1 x3))] [Res.cells g443 76 [.one (.map (some g446)), .one (.map (some g447))], Res.map true (Ty.arr .u8 20) true Y34 g446 y137, Res.map true (Ty.arr .u8 20) false yi g447 y138, Res.cells g442 76 [.one (.map (some g444)), .one (.map (some g445))], Res.map true (Ty.arr .u8 20) true Y34 g444 y109, Res.map true (Ty.arr .u8 20) false yi g445 y110] a w → smithylaw15_ForkWays.j8 k x1 x2 y108 y109 y110 (smithylaw15_ForkWays.l2 k x1 x2 x3 q2) y137 y138 = some r → K8 a w := by
         intro m g442 g443 g444 g445 g446 y137 g447 y138 a w S h0
         delta smithylaw15_ForkWays.j8 at h0
         refine hK8 a w (c_region (s_move S rfl rfl fun a S => s_move S rfl rfl fun a S => s_lenS S rfl underlying23 rfl fun a S => s_bin S rfl rfl rfl rfl fun a S => s_move S rfl rfl fun a S => s_bin S rfl rfl rfl rfl fun a S => ?_))
         obtain ⟨c10, h1⟩ := chk_of h0; clear h0
         refine s_iaddrS S rfl rfl rfl underlying23 T28 c10.1 c10.2 rfl fun p3 a S => s_ldA S (fun (c : Unit) => [.b20 (gt x2 (wr .i64 ((wr .i64 (((x2).length : Int) - 1)) - y108)))]) rfl T28 (fun _ => rfl) rfl fun ch13 a S => ?_
         refine s_alloc S Z28 rfl ⟨rfl, trivial⟩ rfl fun g448 a w S => s_store S rfl rfl rfl (s' := [.b20 (gt x2 (wr .i64 ((wr .i64 (((x2).length : Int) - 1)) - y108)))]) .h T28 rfl rfl fun w S => c_end (c_region (s_move S rfl rfl fun a S => s_loada S rfl .h T28 (s' := [.b20 (gt x2 (wr .i64 ((wr .i64 (((x2).length : Int) - 1)) - y108)))]) rfl rfl fun a S => bindX h1 fun t12 et12 h2 => s_callP S _ N11 rfl rfl (smithyref13_Find.ok k x1 (gt x2 (wr .i64 ((wr .i64 (((x2).length : Int) - 1)) - y108))) ch_0_0 ch_0_1 t12 et12 _ _) fun ch14 m le1 a w S => s_move S rfl rfl fun a S => s_extract S rfl rfl rfl rfl fun a S => s_extract S rfl rfl rfl rfl fun a S => s_alloc S Z34 rfl ⟨rfl, rfl, rfl, rfl, rfl, trivial⟩ rfl fun g449 a w S => s_store S rfl rfl rfl (s' := [.b20 t12.1.1, .w t12.1.2.1, .w4 t12.1.2.2.1, .q yb ch14.1 ch14.2.1 t12.1.2.2.2.1, .q Y71 ch14.2.2.1 ch14.2.2.2 t12.1.2.2.2.2]) .h T34 rfl rfl fun w S => s_assign S rfl rfl fun a S => c_end (wp_seq_k fun K9 hK9 => ?_)))
         have j9 : ∀ m g450 g451 g452 g453 y139 y140 y141 A3 cp3 y142 A4 cp4 y143 g454 g455 g456 g457 a w, St 162 m b0 [(17, (.p g450)), (16, (.p g451)), (58, (.i y108)), (57, (.i ((x2).length : Int))), (56, (.q (Ty.arr .u8 20) ch_1_0 ch_1_1 x2)), (10, (.p g452)), (9, (.p g453)), (0, (.q Y34 ch_0_0 ch_0_1 x1)), (1, (.q (Ty.arr .u8 20) ch_1_0 ch_1_1 x2)), (2, (.q yb ch_2_0 ch_2_1 x3))] [Res.cells g450 34 [.b20 y139, .w y140, .w4 y141, .q yb A3 cp3 y142, .q Y71 A4 cp4 y143], Res.cells g451 28 [.b20 (gt x2 (wr .i64 ((wr .i64 (((x2).length : Int) - 1)) - y108)))], Res.cells g453 76 [.one (.map (some g456)), .one (.map (some g457))], Res.map true (Ty.arr .u8 20) true Y34 g456 y137, Res.map true (Ty.arr .u8 20) false yi g457 y138, Res.cells g452 76 [.one (.map (some g454)), .one (.map (some g455))], Res.map true (Ty.arr .u8 20) true Y34 g454 y109, Res.map true (Ty.arr .u8 20) false yi g455 y110] a w → smithylaw15_ForkWays.j9 k x2 y108 y109 y110 (smithylaw15_ForkWays.l2 k x1 x2 x3 q2) y137 y138 y139 y140 y141 y142 y143 = some r → K9 a w := by
          intro m g450 g451 g452 g453 y139 y140 y141 A3 cp3 y142 A4 cp4 y143 g454 g455 g456 g457 a w S h0
          delta smithylaw15_ForkWays.j9 at h0
          refine hK9 a w (wp_seq_k fun K10 hK10 => ?_)
          have j10 : ∀ m y144 g458 g459 g460 y145 g461 y146 g462 g463 a w, St 162 m b0 [(129, (.b y144)), (58, (.i y108)), (57, (.i ((x2).length : Int))), (56, (.q (Ty.arr .u8 20) ch_1_0 ch_1_1 x2)), (10, (.p g458)), (9, (.p g459)), (0, (.q Y34 ch_0_0 ch_0_1 x1)), (1, (.q (Ty.arr .u8 20) ch_1_0 ch_1_1 x2)), (2, (.q yb ch_2_0 ch_2_1 x3))] [Res.cells g458 76 [.one (.map (some g460)), .one (.map (some g461))], Res.map true (Ty.arr .u8 20) true Y34 g460 y145, Res.map true (Ty.arr .u8 20) false yi g461 y146, Res.cells g459 76 [.one (.map (some g462)), .one (.map (some g463))], Res.map true (Ty.arr .u8 20) true Y34 g462 y137, Res.map true (Ty.arr .u8 20) false yi g463 y138] a w → smithylaw15_ForkWays.j10 y108 (smithylaw15_ForkWays.l2 k x1 x2 x3 q2) y137 y138 y144 y145 y146 = some r → K10 a w := by
           intro m y144 g458 g459 g460 y145 g461 y146 g462 g463 a w S h0
           delta smithylaw15_ForkWays.j10 at h0
           refine hK10 a w ?_
           rcases ite_of h0 with ⟨c11, h1⟩ | ⟨c11, h1⟩
           ·refine c_condT S rfl c11 (c_region (s_assign S rfl rfl fun a S => c_end (wp_ret (x_blockR (x_thenR (x_thenR (x_blockR (x_thenR ?_))))))))
            obtain rfl := Option.some.inj h1
            exact b_ret1 (d := (.b false)) S rfl rfl (S.rt hb)
           ·refine c_condF S rfl c11 (wp_skip (x_blockN (x_thenN ?_)))
            exact j6 _ g458 g459 g460 y145 g461 y146 g462 y137 g463 y138 a w (S.sb rfl (.c0 (.c0 (.c0 (.c0 (.c0 (.c0 .n))))))) h1
          refine c_region' (s_move S rfl rfl fun a S => s_loada S rfl .h1 T28 (s' := [.b20 (gt x2 (wr .i64 ((wr .i64 (((x2).length : Int) - 1)) - y108)))]) rfl rfl fun a S => bindX h0 fun t15 et15 h1 => s_callX S (ds' := [(.p g452), (.agg [.b20 (gt x2 (wr .i64 ((wr .i64 (((x2).length : Int) - 1)) - y108)))])]) (ds := [(.p g452), (.agg [.b20 (gt x2 (wr .i64 ((wr .i64 (((x2).length : Int) - 1)) - y108)))])]) [Res.cells g452 76 [.one (.map (some g454)), .one (.map (some g455))], Res.map true (Ty.arr .u8 20) true Y34 g454 y109, Res.map true (Ty.arr .u8 20) false yi g455 y110] [Res.cells g450 34 [.b20 y139, .w y140, .w4 y141, .q yb A3 cp3 y142, .q Y71 A4 cp4 y143], Res.cells g451 28 [.b20 (gt x2 (wr .i64 ((wr .i64 (((x2).length : Int) - 1)) - y108)))], Res.cells g453 76 [.one (.map (some g456)), .one (.map (some g457))], Res.map true (Ty.arr .u8 20) true Y34 g456 y137, Res.map true (Ty.arr .u8 20) false yi g457 y138] (fun (ch : Nat × Nat) => ((.v (.int .u8 t15.1)) : D)) (fun (ch : Nat × Nat) => [Res.cells g452 76 [.one (.map (some ch.1)), .one (.map (some ch.2))], Res.map true (Ty.arr .u8 20) true Y34 ch.1 t15.2.1, Res.map true (Ty.arr .u8 20) false yi ch.2 t15.2.2]) (fun (ch : Nat × Nat) => [Res.cells g452 76 [.one (.map (some ch.1)), .one (.map (some ch.2))], Res.map true (Ty.arr .u8 20) true Y34 ch.1 t15.2.1, Res.map true (Ty.arr .u8 20) false yi ch.2 t15.2.2, Res.cells g450 34 [.b20 y139, .w y140, .w4 y141, .q yb A3 cp3 y142, .q Y71 A4 cp4 y143], Res.cells g451 28 [.b20 (gt x2 (wr .i64 ((wr .i64 (((x2).length : Int) - 1)) - y108)))], Res.cells g453 76 [.one (.map (some g456)), .one (.map (some g457))], Res.map true (Ty.arr .u8 20) true Y34 g456 y137, Res.map true (Ty.arr .u8 20) false yi g457 y138]) (fun _ => rfl) N12 rfl rfl (fun ok => ok) (.c5 (.c5 (.c5 (.c0 (.c0 (.c0 (.c0 (.c0 .n)))))))) rfl (fork_Cache_Want.ok (y109, y110) (gt x2 (wr .i64 ((wr .i64 (((x2).length : Int) - 1)) - y108))) g452 g454 g455 t15 et15 _ _) fun ch17 m le1 a w S => s_bin S rfl rfl rfl rfl fun a S => s_move S rfl rfl fun a S => ?_)
          rcases ite_of h1 with ⟨c12, h2⟩ | ⟨c12, h2⟩
          ·refine s_gT S (b := (t15.1 == 3)) rfl rfl c12 (s_move S rfl rfl fun a S => s_gT S (b := (t15.1 == 3)) rfl rfl c12 (s_loada S rfl .h3 T34 (s' := [.b20 y139, .w y140, .w4 y141, .q yb A3 cp3 y142, .q Y71 A4 cp4 y143]) rfl rfl fun a S => s_gT S (b := (t15.1 == 3)) rfl rfl c12 (bindX h2 fun t16 et16 h3 => s_callX S (ds' := [(.p g452), (.agg [.b20 y139, .w y140, .w4 y141, .q yb A3 cp3 y142, .q Y71 A4 cp4 y143])]) (ds := [(.p g452), (.agg [.b20 y139, .w y140, .w4 y141, .q yb A3 cp3 y142, .q Y71 A4 cp4 y143])]) [Res.cells g452 76 [.one (.map (some ch17.1)), .one (.map (some ch17.2))], Res.map true (Ty.arr .u8 20) true Y34 ch17.1 t15.2.1, Res.map true (Ty.arr .u8 20) false yi ch17.2 t15.2.2] [Res.cells g450 34 [.b20 y139, .w y140, .w4 y141, .q yb A3 cp3 y142, .q Y71 A4 cp4 y143], Res.cells g451 28 [.b20 (gt x2 (wr .i64 ((wr .i64 (((x2).length : Int) - 1)) - y108)))], Res.cells g453 76 [.one (.map (some g456)), .one (.map (some g457))], Res.map true (Ty.arr .u8 20) true Y34 g456 y137, Res.map true (Ty.arr .u8 20) false yi g457 y138] (fun (ch : Nat × Nat) => ((.b t16.1) : D)) (fun (ch : Nat × Nat) => [Res.cells g452 76 [.one (.map (some ch.1)), .one (.map (some ch.2))], Res.map true (Ty.arr .u8 20) true Y34 ch.1 t16.2.1, Res.map true (Ty.arr .u8 20) false yi ch.2 t16.2.2]) (fun (ch : Nat × Nat) => [Res.cells g452 76 [.one (.map (some ch.1)), .one (.map (some ch.2))], Res.map true (Ty.arr .u8 20) true Y34 ch.1 t16.2.1, Res.map true (Ty.arr .u8 20) false yi ch.2 t16.2.2, Res.cells g450 34 [.b20 y139, .w y140, .w4 y141, .q yb A3 cp3 y142, .q Y71 A4 cp4 y143], Res.cells g451 28 [.b20 (gt x2 (wr .i64 ((wr .i64 (((x2).length : Int) - 1)) - y108)))], Res.cells g453 76 [.one (.map (some g456)), .one (.map (some g457))], Res.map true (Ty.arr .u8 20) true Y34 g456 y137, Res.map true (Ty.arr .u8 20) false yi g457 y138]) (fun _ => rfl) N14 rfl rfl (fun ok => ok) (.c0 (.c0 (.c0 (.c0 (.c0 (.c0 (.c0 (.c0 .n)))))))) rfl (fork_Cache_Fill.ok k t15.2 (y139, y140, y141, y142, y143) g452 ch17.1 ch17.2 A3 cp3 A4 cp4 t16 et16 _ _) fun ch18 m le1 a w S => s_gT S (b := (t15.1 == 3)) rfl rfl c12 (s_not S rfl rfl fun a S => s_pick S (b := true) (hc_of rfl c12) rfl rfl fun a S => c_end' (x_thenN ?_)))))
           exact j10 _ (!t16.1) g452 g453 ch18.1 t16.2.1 ch18.2 t16.2.2 g456 g457 a w (S.sb rfl (.c0 (.c0 (.c0 (.c2 (.c2 (.c2 .n))))))) h3
          ·refine s_gF S (b := (t15.1 == 3)) rfl rfl c12 rfl fun a S => s_gF S (b := (t15.1 == 3)) rfl rfl c12 rfl fun a S => s_gF S (b := (t15.1 == 3)) rfl rfl c12 rfl fun a S => s_gF S (b := (t15.1 == 3)) rfl rfl c12 rfl fun a S => s_pick S (b := false) (hc_of rfl c12) rfl rfl fun a S => c_end' (x_thenN ?_)
           exact j10 _ false g452 g453 ch17.1 t15.2.1 ch17.2 t15.2.2 g456 g457 a w (S.sb rfl (.c0 (.c0 (.c0 (.c2 (.c2 (.c2 .n))))))) h2
         refine c_region (s_move S rfl rfl fun a S => s_not S rfl rfl fun a S => c_end ?_)
         rcases ite_of h2 with ⟨c13, h3⟩ | ⟨c13, h3⟩
         ·refine c_condT S rfl c13 (c_region' (s_loada S rfl .h1 T28 (s' := [.b20 (gt x2 (wr .i64 ((wr .i64 (((x2).length : Int) - 1)) - y108)))]) rfl rfl fun a S => s_bldS S (ds := [(0, (.agg [.b20 (gt x2 (wr .i64 ((wr .i64 (((x2).length : Int) - 1)) - y108)))]))]) (zs := [.b20 z20, .w 0, .w4 [0, 0, 0, 0], .s none 0 0, .s none 0 0]) (s' := [.b20 (gt x2 (wr .i64 ((wr .i64 (((x2).length : Int) - 1)) - y108))), .w 0, .w4 [0, 0, 0, 0], .s none 0 0, .s none 0 0]) rfl underlying34 P34 Z34 ⟨rfl, rfl, rfl, rfl, rfl, trivial⟩ rfl rfl fun a S => s_store S rfl rfl rfl (s' := [.b20 (gt x2 (wr .i64 ((wr .i64 (((x2).length : Int) - 1)) - y108))), .w 0, .w4 [0, 0, 0, 0], .s none 0 0, .s none 0 0]) .h T34 rfl rfl fun w S => c_end' (x_thenN ?_)))
          replace S := S.cellro (s' := [.b20 (gt x2 (wr .i64 ((wr .i64 (((x2).length : Int) - 1)) - y108))), .w 0, .w4 [0, 0, 0, 0], .q yb none 0 ([] : List Int), .s none 0 0]) .h rfl (fun h => ⟨h.1, h.2.1, h.2.2.1, ok_nil, h.2.2.2.2.1, trivial⟩)
          replace S := S.cellro (s' := [.b20 (gt x2 (wr .i64 ((wr .i64 (((x2).length : Int) - 1)) - y108))), .w 0, .w4 [0, 0, 0, 0], .q yb none 0 ([] : List Int), .q Y71 none 0 ([] : List ((List Int) × (List Int)))]) .h rfl (fun h => ⟨h.1, h.2.1, h.2.2.1, h.2.2.2.1, ok_nil, trivial⟩)
          exact j9 _ g449 g448 g442 g443 (gt x2 (wr .i64 ((wr .i64 (((x2).length : Int) - 1)) - y108))) 0 [0, 0, 0, 0] none 0 ([] : List Int) none 0 ([] : List ((List Int) × (List Int))) g444 g445 g446 g447 a w (S.sb rfl (.c0 (.c0 (.c0 (.c0 (.c0 (.c0 (.c0 (.c0 .n))))))))) h3
         ·refine c_condF S rfl c13 (wp_skip (x_thenN ?_))
          exact j9 _ g449 g448 g442 g443 t12.1.1 t12.1.2.1 t12.1.2.2.1 ch14.1 ch14.2.1 t12.1.2.2.2.1 ch14.2.2.1 ch14.2.2.2 t12.1.2.2.2.2 g444 g445 g446 g447 a w (S.sb rfl (.c0 (.c0 (.c0 (.c0 (.c0 (.c0 (.c0 (.c0 .n))))))))) h3
        refine c_region (s_move S rfl rfl fun a S => s_loada S rfl .h1 T28 (s' := [.b20 (gt x2 y108)]) rfl rfl fun a S => bindX h0 fun t17 et17 h1 => s_callX S (ds' := [(.p g384), (.agg [.b20 (gt x2 y108)])]) (ds := [(.p g384), (.agg [.b20 (gt x2 y108)])]) [Res.cells g384 76 [.one (.map (some g387)), .one (.map (some g388))], Res.map true (Ty.arr .u8 20) true Y34 g387 y111, Res.map true (Ty.arr .u8 20) false yi g388 y112] [Res.cells g381 34 [.b20 y132, .w y133, .w4 y134, .q yb A1 cp1 y135, .q Y71 A2 cp2 y136], Res.cells g382 28 [.b20 (gt x2 y108)], Res.cells g383 76 [.one (.map (some g385)), .one (.map (some g386))], Res.map true (Ty.arr .u8 20) true Y34 g385 y109, Res.map true (Ty.arr .u8 20) false yi g386 y110] (fun (ch : Nat × Nat) => ((.v (.int .u8 t17.1)) : D)) (fun (ch : Nat × Nat) => [Res.cells g384 76 [.one (.map (some ch.1)), .one (.map (some ch.2))], Res.map true (Ty.arr .u8 20) true Y34 ch.1 t17.2.1, Res.map true (Ty.arr .u8 20) false yi ch.2 t17.2.2]) (fun (ch : Nat × Nat) => [Res.cells g384 76 [.one (.map (some ch.1)), .one (.map (some ch.2))], Res.map true (Ty.arr .u8 20) true Y34 ch.1 t17.2.1, Res.map true (Ty.arr .u8 20) false yi ch.2 t17.2.2, Res.cells g381 34 [.b20 y132, .w y133, .w4 y134, .q yb A1 cp1 y135, .q Y71 A2 cp2 y136], Res.cells g382 28 [.b20 (gt x2 y108)], Res.cells g383 76 [.one (.map (some g385)), .one (.map (some g386))], Res.map true (Ty.arr .u8 20) true Y34 g385 y109, Res.map true (Ty.arr .u8 20) false yi g386 y110]) (fun _ => rfl) N12 rfl rfl (fun ok => ok) (.c5 (.c5 (.c5 (.c0 (.c0 (.c0 (.c0 (.c0 .n)))))))) rfl (fork_Cache_Want.ok (y111, y112) (gt x2 y108) g384 g387 g388 t17 et17 _ _) fun ch19 m le1 a w S => s_bin S rfl rfl rfl rfl fun a S => c_end ?_)
        rcases ite_of h1 with ⟨c14, h2⟩ | ⟨c14, h2⟩
        ·refine c_condT S rfl c14 (c_region (s_assign S rfl rfl fun a S => c_end (wp_seq_k fun K11 hK11 => ?_)))
         have j11 : ∀ m y147 g464 g465 g466 g467 g468 g469 g470 g471 a w, St 162 m b0 [(15, (.i y147)), (13, (.p g464)), (11, (.i y108)), (12, (.p g465)), (58, (.i y108)), (57, (.i ((x2).length : Int))), (56, (.q (Ty.arr .u8 20) ch_1_0 ch_1_1 x2)), (10, (.p g466)), (9, (.p g467)), (0, (.q Y34 ch_0_0 ch_0_1 x1)), (1, (.q (Ty.arr .u8 20) ch_1_0 ch_1_1 x2)), (2, (.q yb ch_2_0 ch_2_1 x3))] [Res.cells g467 76 [.one (.map (some g470)), .one (.map (some g471))], Res.map true (Ty.arr .u8 20) true Y34 g470 t17.2.1, Res.map true (Ty.arr .u8 20) false yi g471 t17.2.2, Res.cells g464 34 [.b20 y132, .w y133, .w4 y134, .q yb A1 cp1 y135, .q Y71 A2 cp2 y136], Res.cells g465 28 [.b20 (gt x2 y108)], Res.cells g466 76 [.one (.map (some g468)), .one (.map (some g469))], Res.map true (Ty.arr .u8 20) true Y34 g468 y109, Res.map true (Ty.arr .u8 20) false yi g469 y110] a w → smithylaw15_ForkWays.j11 k x1 x2 y108 y109 y110 (smithylaw15_ForkWays.l2 k x1 x2 x3 q2) y132 y133 y134 y135 y136 t17 y147 = some r → K11 a w := by
          intro m y147 g464 g465 g466 g467 g468 g469 g470 g471 a w S h0
          delta smithylaw15_ForkWays.j11 at h0
          refine hK11 a w (wp_seq_k fun K12 hK12 => ?_)
          have j12 : ∀ m g512 g513 g514 g515 g516 g517 y158 g518 y159 a w, St 162 m b0 [(13, (.p g512)), (11, (.i y108)), (58, (.i y108)), (57, (.i ((x2).length : Int))), (56, (.q (Ty.arr .u8 20) ch_1_0 ch_1_1 x2)), (10, (.p g513)), (9, (.p g514)), (0, (.q Y34 ch_0_0 ch_0_1 x1)), (1, (.q (Ty.arr .u8 20) ch_1_0 ch_1_1 x2)), (2, (.q yb ch_2_0 ch_2_1 x3))] [Res.cells g514 76 [.one (.map (some g517)), .one (.map (some g518))], Res.map true (Ty.arr .u8 20) true Y34 g517 y158, Res.map true (Ty.arr .u8 20) false yi g518 y159, Res.cells g512 34 [.b20 y132, .w y133, .w4 y134, .q yb A1 cp1 y135, .q Y71 A2 cp2 y136], Res.cells g513 76 [.one (.map (some g515)), .one (.map (some g516))], Res.map true (Ty.arr .u8 20) true Y34 g515 y109, Res.map true (Ty.arr .u8 20) false yi g516 y110] a w → smithylaw15_ForkWays.j12 k x1 x2 y108 y109 y110 (smithylaw15_ForkWays.l2 k x1 x2 x3 q2) y132 y133 y134 y135 y136 y158 y159 = some r → K12 a w := by
           intro m g512 g513 g514 g515 g516 g517 y158 g518 y159 a w S h0
           delta smithylaw15_ForkWays.j12 at h0
           refine hK12 a w (c_region (s_move S rfl rfl fun a S => s_loada S rfl .h3 T34 (s' := [.b20 y132, .w y133, .w4 y134, .q yb A1 cp1 y135, .q Y71 A2 cp2 y136]) rfl rfl fun a S => bindX h0 fun t18 et18 h1 => s_callX S (ds' := [(.p g514), (.agg [.b20 y132, .w y133, .w4 y134, .q yb A1 cp1 y135, .q Y71 A2 cp2 y136])]) (ds := [(.p g514), (.agg [.b20 y132, .w y133, .w4 y134, .q yb A1 cp1 y135, .q Y71 A2 cp2 y136])]) [Res.cells g514 76 [.one (.map (some g517)), .one (.map (some g518))], Res.map true (Ty.arr .u8 20) true Y34 g517 y158, Res.map true (Ty.arr .u8 20) false yi g518 y159] [Res.cells g512 34 [.b20 y132, .w y133, .w4 y134, .q yb A1 cp1 y135, .q Y71 A2 cp2 y136], Res.cells g513 76 [.one (.map (some g515)), .one (.map (some g516))], Res.map true (Ty.arr .u8 20) true Y34 g515 y109, Res.map true (Ty.arr .u8 20) false yi g516 y110] (fun (ch : Nat × Nat) => ((.b t18.1) : D)) (fun (ch : Nat × Nat) => [Res.cells g514 76 [.one (.map (some ch.1)), .one (.map (some ch.2))], Res.map true (Ty.arr .u8 20) true Y34 ch.1 t18.2.1, Res.map true (Ty.arr .u8 20) false yi ch.2 t18.2.2]) (fun (ch : Nat × Nat) => [Res.cells g514 76 [.one (.map (some ch.1)), .one (.map (some ch.2))], Res.map true (Ty.arr .u8 20) true Y34 ch.1 t18.2.1, Res.map true (Ty.arr .u8 20) false yi ch.2 t18.2.2, Res.cells g512 34 [.b20 y132, .w y133, .w4 y134, .q yb A1 cp1 y135, .q Y71 A2 cp2 y136], Res.cells g513 76 [.one (.map (some g515)), .one (.map (some g516))], Res.map true (Ty.arr .u8 20) true Y34 g515 y109, Res.map true (Ty.arr .u8 20) false yi g516 y110]) (fun _ => rfl) N14 rfl rfl (fun ok => ok) (.c0 (.c0 (.c0 (.c0 (.c0 (.c0 (.c0 .n))))))) rfl (fork_Cache_Fill.ok k (y158, y159) (y132, y133, y134, y135, y136) g514 g517 g518 A1 cp1 A2 cp2 t18 et18 _ _) fun ch20 m le1 a w S => s_not S rfl rfl fun a S => c_end ?_))
           rcases ite_of h1 with ⟨c15, h2⟩ | ⟨c15, h2⟩
           ·refine c_condT S rfl c15 (c_region (s_assign S rfl rfl fun a S => c_end (wp_ret (x_thenR (x_blockR (x_thenR (x_thenR (x_blockR (x_thenR ?_)))))))))
            obtain rfl := Option.some.inj h2
            exact b_ret1 (d := (.b false)) S rfl rfl (S.rt hb)
           ·refine c_condF S rfl c15 (wp_skip (x_thenN ?_))
            exact j8 _ g513 g514 g515 g516 ch20.1 t18.2.1 ch20.2 t18.2.2 a w (S.sb rfl (.c0 (.c0 (.c0 (.c1 (.c1 (.c1 .n))))))) h2
          refine c_region (s_move S rfl rfl fun a S => s_move S rfl rfl fun a S => c_end (wp_block ?_))
          refine c_loop (fun q3 a w => ∃ m y167 g551 g552 g553 g554 g555 g556 g557 y168 g558 y169, St 162 m b0 [(88, (.i y167)), (87, (.i y147)), (13, (.p g551)), (11, (.i y108)), (12, (.p g552)), (58, (.i y108)), (57, (.i ((x2).length : Int))), (56, (.q (Ty.arr .u8 20) ch_1_0 ch_1_1 x2)), (10, (.p g553)), (9, (.p g554)), (0, (.q Y34 ch_0_0 ch_0_1 x1)), (1, (.q (Ty.arr .u8 20) ch_1_0 ch_1_1 x2)), (2, (.q yb ch_2_0 ch_2_1 x3))] [Res.cells g554 76 [.one (.map (some g557)), .one (.map (some g558))], Res.map true (Ty.arr .u8 20) true Y34 g557 y168, Res.map true (Ty.arr .u8 20) false yi g558 y169, Res.cells g551 34 [.b20 y132, .w y133, .w4 y134, .q yb A1 cp1 y135, .q Y71 A2 cp2 y136], Res.cells g552 28 [.b20 (gt x2 y108)], Res.cells g553 76 [.one (.map (some g555)), .one (.map (some g556))], Res.map true (Ty.arr .u8 20) true Y34 g555 y109, Res.map true (Ty.arr .u8 20) false yi g556 y110] a w ∧ smithylaw15_ForkWays.l3 k x1 x2 y108 y109 y110 (smithylaw15_ForkWays.l2 k x1 x2 x3 q2) y132 y133 y134 y135 y136 y147 q3 y167 y168 y169 = some r) ?_ ?_ (k := k) ⟨_, 0, g464, g465, g466, g467, g468, g469, g470, t17.2.1, g471, t17.2.2, (S.sb rfl (.c0 (.c0 (.c0 (.c0 (.c0 (.c0 (.c0 (.c0 .n))))))))), h0⟩
          ·rintro a w ⟨m, y167, g551, g552, g553, g554, g555, g556, g557, y168, g558, y169, S, h0⟩
           exact (nomatch (show (none : Option Bool) = some r from h0))
          ·clear S h0
           rintro q3 a w ⟨m, y167, g551, g552, g553, g554, g555, g556, g557, y168, g558, y169, S, h0⟩
           replace h0 : smithylaw15_ForkWays.b3 k x1 x2 y108 y109 y110 (smithylaw15_ForkWays.l2 k x1 x2 x3 q2) y132 y133 y134 y135 y136 y147 (smithylaw15_ForkWays.l3 k x1 x2 y108 y109 y110 (smithylaw15_ForkWays.l2 k x1 x2 x3 q2) y132 y133 y134 y135 y136 y147 q3) y167 y168 y169 = some r := h0
           delta smithylaw15_ForkWays.b3 at h0
           refine c_region (s_bin S rfl rfl rfl rfl fun a S => c_end (wp_seq ?_))
           rcases ite_of h0 with ⟨c16, h1⟩ | ⟨c16, h1⟩
           ·refine c_condT S rfl c16 (wp_skip (x_thenN (wp_seq_k fun K13 hK13 => ?_)))
            have j13 : ∀ m g559 g560 g561 g562 g563 g564 g565 y170 g566 y171 a w, St 162 m b0 [(88, (.i y167)), (87, (.i y147)), (13, (.p g559)), (11, (.i y108)), (12, (.p g560)), (58, (.i y108)), (57, (.i ((x2).length : Int))), (56, (.q (Ty.arr .u8 20) ch_1_0 ch_1_1 x2)), (10, (.p g561)), (9, (.p g562)), (0, (.q Y34 ch_0_0 ch_0_1 x1)), (1, (.q (Ty.arr .u8 20) ch_1_0 ch_1_1 x2)), (2, (.q yb ch_2_0 ch_2_1 x3))] [Res.cells g562 76 [.one (.map (some g565)), .one (.map (some g566))], Res.map true (Ty.arr .u8 20) true Y34 g565 y170, Res.map true (Ty.arr .u8 20) false yi g566 y171, Res.cells g559 34 [.b20 y132, .w y133, .w4 y134, .q yb A1 cp1 y135, .q Y71 A2 cp2 y136], Res.cells g560 28 [.b20 (gt x2 y108)], Res.cells g561 76 [.one (.map (some g563)), .one (.map (some g564))], Res.map true (Ty.arr .u8 20) true Y34 g563 y109, Res.map true (Ty.arr .u8 20) false yi g564 y110] a w → smithylaw15_ForkWays.j13 y167 (smithylaw15_ForkWays.l3 k x1 x2 y108 y109 y110 (smithylaw15_ForkWays.l2 k x1 x2 x3 q2) y132 y133 y134 y135 y136 y147 q3) y170 y171 = some r → K13 a w := by
             intro m g559 g560 g561 g562 g563 g564 g565 y170 g566 y171 a w S h0
             delta smithylaw15_ForkWays.j13 at h0
             refine hK13 a w (c_region' (s_bin S rfl rfl rfl rfl fun a S => s_move S rfl rfl fun a S => c_end' (x_thenN ?_)))
             exact ⟨_, (wr .i64 (y167 + 1)), g559, g560, g561, g562, g563, g564, g565, y170, g566, y171, (S.sb rfl (.c0 (.c0 (.c0 (.c0 (.c0 (.c0 (.c0 (.c0 .n))))))))), h0⟩
            refine wp_block (c_region (s_move S rfl rfl fun a S => s_loada S rfl .h4 T28 (s' := [.b20 (gt x2 y108)]) rfl rfl fun a S => bindX h1 fun t21 et21 h2 => s_callX S (ds' := [(.p g554), (.agg [.b20 (gt x2 y108)])]) (ds := [(.p g554), (.agg [.b20 (gt x2 y108)])]) [Res.cells g554 76 [.one (.map (some g557)), .one (.map (some g558))], Res.map true (Ty.arr .u8 20) true Y34 g557 y168, Res.map true (Ty.arr .u8 20) false yi g558 y169] [Res.cells g551 34 [.b20 y132, .w y133, .w4 y134, .q yb A1 cp1 y135, .q Y71 A2 cp2 y136], Res.cells g552 28 [.b20 (gt x2 y108)], Res.cells g553 76 [.one (.map (some g555)), .one (.map (some g556))], Res.map true (Ty.arr .u8 20) true Y34 g555 y109, Res.map true (Ty.arr .u8 20) false yi g556 y110] (fun (ch : Nat × Nat) => ((.v (.int .u8 t21.1)) : D)) (fun (ch : Nat × Nat) => [Res.cells g554 76 [.one (.map (some ch.1)), .one (.map (some ch.2))], Res.map true (Ty.arr .u8 20) true Y34 ch.1 t21.2.1, Res.map true (Ty.arr .u8 20) false yi ch.2 t21.2.2]) (fun (ch : Nat × Nat) => [Res.cells g554 76 [.one (.map (some ch.1)), .one (.map (some ch.2))], Res.map true (Ty.arr .u8 20) true Y34 ch.1 t21.2.1, Res.map true (Ty.arr .u8 20) false yi ch.2 t21.2.2, Res.cells g551 34 [.b20 y132, .w y133, .w4 y134, .q yb A1 cp1 y135, .q Y71 A2 cp2 y136], Res.cells g552 28 [.b20 (gt x2 y108)], Res.cells g553 76 [.one (.map (some g555)), .one (.map (some g556))], Res.map true (Ty.arr .u8 20) true Y34 g555 y109, Res.map true (Ty.arr .u8 20) false yi g556 y110]) (fun _ => rfl) N13 rfl rfl (fun ok => ok) (.c0 (.c0 (.c0 (.c0 (.c0 (.c0 (.c0 (.c0 .n)))))))) rfl (fork_Cache_Fail.ok (y168, y169) (gt x2 y108) g554 g557 g558 t21 et21 _ _) fun ch23 m le1 a w S => s_bin S rfl rfl rfl rfl fun a S => c_end ?_))
            rcases ite_of h2 with ⟨c17, h3⟩ | ⟨c17, h3⟩
            ·refine c_condT S rfl c17 (c_region' (s_move S rfl rfl fun a S => s_loada S rfl .h4 T28 (s' := [.b20 (gt x2 y108)]) rfl rfl fun a S => bindX h3 fun t22 et22 h4 => s_callX S (ds' := [(.p g554), (.agg [.b20 (gt x2 y108)])]) (ds := [(.p g554), (.agg [.b20 (gt x2 y108)])]) [Res.cells g554 76 [.one (.map (some ch23.1)), .one (.map (some ch23.2))], Res.map true (Ty.arr .u8 20) true Y34 ch23.1 t21.2.1, Res.map true (Ty.arr .u8 20) false yi ch23.2 t21.2.2] [Res.cells g551 34 [.b20 y132, .w y133, .w4 y134, .q yb A1 cp1 y135, .q Y71 A2 cp2 y136], Res.cells g552 28 [.b20 (gt x2 y108)], Res.cells g553 76 [.one (.map (some g555)), .one (.map (some g556))], Res.map true (Ty.arr .u8 20) true Y34 g555 y109, Res.map true (Ty.arr .u8 20) false yi g556 y110] (fun (ch : Nat × Nat) => ((.v (.int .u8 t22.1)) : D)) (fun (ch : Nat × Nat) => [Res.cells g554 76 [.one (.map (some ch.1)), .one (.map (some ch.2))], Res.map true (Ty.arr .u8 20) true Y34 ch.1 t22.2.1, Res.map true (Ty.arr .u8 20) false yi ch.2 t22.2.2]) (fun (ch : Nat × Nat) => [Res.cells g554 76 [.one (.map (some ch.1)), .one (.map (some ch.2))], Res.map true (Ty.arr .u8 20) true Y34 ch.1 t22.2.1, Res.map true (Ty.arr .u8 20) false yi ch.2 t22.2.2, Res.cells g551 34 [.b20 y132, .w y133, .w4 y134, .q yb A1 cp1 y135, .q Y71 A2 cp2 y136], Res.cells g552 28 [.b20 (gt x2 y108)], Res.cells g553 76 [.one (.map (some g555)), .one (.map (some g556))], Res.map true (Ty.arr .u8 20) true Y34 g555 y109, Res.map true (Ty.arr .u8 20) false yi g556 y110]) (fun _ => rfl) N12 rfl rfl (fun ok => ok) (.c0 (.c0 (.c0 (.c0 (.c0 (.c0 (.c0 (.c0 .n)))))))) rfl (fork_Cache_Want.ok t21.2 (gt x2 y108) g554 ch23.1 ch23.2 t22 et22 _ _) fun ch24 m le1 a w S => c_end' (x_blockN (x_thenN ?_))))
             exact j13 _ g551 g552 g553 g554 g555 g556 ch24.1 t22.2.1 ch24.2 t22.2.2 a w (S.sb rfl (.c0 (.c0 (.c0 (.c0 (.c0 (.c0 (.c0 (.c0 .n))))))))) h4
            ·refine c_condF S rfl c17 (wp_skip (x_blockN (x_thenN ?_)))
             exact j13 _ g551 g552 g553 g554 g555 g556 ch23.1 t21.2.1 ch23.2 t21.2.2 a w (S.sb rfl (.c0 (.c0 (.c0 (.c0 (.c0 (.c0 (.c0 (.c0 .n))))))))) h3
           ·refine c_condF S rfl c16 (wp_exit (x_thenX (x_thenX (x_blockX (x_thenN ?_)))))
            exact j12 _ g551 g553 g554 g555 g556 g557 y168 g558 y169 a w (S.sb rfl (.c0 (.c0 (.c0 (.c0 (.c1 (.c1 (.c1 .n)))))))) h1
         refine c_region (s_move S rfl rfl fun a S => s_move S rfl rfl fun a S => s_lenS S rfl underlying24 rfl fun a S => s_bin S rfl rfl rfl rfl fun a S => c_end ?_)
         rcases ite_of h2 with ⟨c18, h3⟩ | ⟨c18, h3⟩
         ·refine c_condT S rfl c18 (c_region' (s_move S rfl rfl fun a S => s_move S rfl rfl fun a S => ?_))
          obtain ⟨c19, h4⟩ := chk_of h3; clear h3
          refine s_iaddrS S rfl rfl rfl underlying24 T5 c19.1 c19.2 rfl fun p5 a S => s_ld1 S (v := (.int .u8 (rd x3 y108))) rfl T5 (fun _ => rfl) rfl fun a S => s_conv S rfl rfl underlying3 rfl fun a S => s_rem S rfl rfl (by decide) rfl fun a S => s_assign S rfl rfl fun a S => c_end' (x_thenN ?_)
          exact j11 _ (Int.tmod (wr .i64 (rd x3 y108)) 20) g381 g382 g383 g384 g385 g386 ch19.1 ch19.2 a w (S.sb rfl (.c0 (.c0 (.c0 (.c0 (.c0 (.c0 (.c0 (.c0 .n))))))))) h4
         ·refine c_condF S rfl c18 (wp_skip (x_thenN ?_))
          exact j11 _ 0 g381 g382 g383 g384 g385 g386 ch19.1 ch19.2 a w (S.sb rfl (.c0 (.c0 (.c0 (.c0 (.c0 (.c0 (.c0 (.c0 .n))))))))) h3
        ·refine c_condF S rfl c14 (wp_skip (x_thenN ?_))
         exact j8 _ g383 g384 g385 g386 ch19.1 t17.2.1 ch19.2 t17.2.2 a w (S.sb rfl (.c0 (.c0 (.c0 (.c2 (.c2 (.c2 .n))))))) h2
       refine c_region (s_move S rfl rfl fun a S => s_not S rfl rfl fun a S => c_end ?_)
       rcases ite_of h3 with ⟨c20, h4⟩ | ⟨c20, h4⟩
       ·refine c_condT S rfl c20 (c_region' (s_loada S rfl .h1 T28 (s' := [.b20 (gt x2 y108)]) rfl rfl fun a S => s_bldS S (ds := [(0, (.agg [.b20 (gt x2 y108)]))]) (zs := [.b20 z20, .w 0, .w4 [0, 0, 0, 0], .s none 0 0, .s none 0 0]) (s' := [.b20 (gt x2 y108), .w 0, .w4 [0, 0, 0, 0], .s none 0 0, .s none 0 0]) rfl underlying34 P34 Z34 ⟨rfl, rfl, rfl, rfl, rfl, trivial⟩ rfl rfl fun a S => s_store S rfl rfl rfl (s' := [.b20 (gt x2 y108), .w 0, .w4 [0, 0, 0, 0], .s none 0 0, .s none 0 0]) .h T34 rfl rfl fun w S => c_end' (x_thenN ?_)))
        replace S := S.cellro (s' := [.b20 (gt x2 y108), .w 0, .w4 [0, 0, 0, 0], .q yb none 0 ([] : List Int), .s none 0 0]) .h rfl (fun h => ⟨h.1, h.2.1, h.2.2.1, ok_nil, h.2.2.2.2.1, trivial⟩)
        replace S := S.cellro (s' := [.b20 (gt x2 y108), .w 0, .w4 [0, 0, 0, 0], .q yb none 0 ([] : List Int), .q Y71 none 0 ([] : List ((List Int) × (List Int)))]) .h rfl (fun h => ⟨h.1, h.2.1, h.2.2.1, h.2.2.2.1, ok_nil, trivial⟩)
        exact j7 _ g380 g379 g282 g283 (gt x2 y108) 0 [0, 0, 0, 0] none 0 ([] : List Int) none 0 ([] : List ((List Int) × (List Int))) g284 g285 g286 g287 a w (S.sb rfl (.c0 (.c0 (.c0 (.c0 (.c0 (.c0 (.c0 (.c0 .n))))))))) h4
       ·refine c_condF S rfl c20 (wp_skip (x_thenN ?_))
        exact j7 _ g380 g379 g282 g283 t9.1.1 t9.1.2.1 t9.1.2.2.1 ch10.1 ch10.2.1 t9.1.2.2.2.1 ch10.2.2.1 ch10.2.2.2 t9.1.2.2.2.2 g284 g285 g286 g287 a w (S.sb rfl (.c0 (.c0 (.c0 (.c0 (.c0 (.c0 (.c0 (.c0 .n))))))))) h4
      ·refine c_condF S rfl c8 (wp_exit (x_thenX (x_thenX (x_blockX (x_thenN ?_)))))
       exact j3 _ g282 g283 g284 y109 g285 y110 g286 y111 g287 y112 a w (S.sb rfl (.c0 (.c0 (.c0 (.c0 (.c0 (.c0 .n))))))) h1
   refine c_region (s_move S rfl rfl fun a S => s_lenS S rfl underlying22 rfl fun a S => s_move S rfl rfl fun a S => c_end (wp_block ?_))
   refine c_loop (fun q4 a w => ∃ m y173, St 162 m b0 [(35, (.i y173)), (34, (.i ((x1).length : Int))), (33, (.q Y34 ch_0_0 ch_0_1 x1)), (0, (.q Y34 ch_0_0 ch_0_1 x1)), (1, (.q (Ty.arr .u8 20) ch_1_0 ch_1_1 x2)), (2, (.q yb ch_2_0 ch_2_1 x3))] [] a w ∧ smithylaw15_ForkWays.l4 k x1 x2 x3 q4 y173 = some r) ?_ ?_ (k := k) ⟨_, 0, (S.sb rfl .nil), h1⟩
   ·rintro a w ⟨m, y173, S, h0⟩
    exact (nomatch (show (none : Option Bool) = some r from h0))
   ·clear S h1
    rintro q4 a w ⟨m, y173, S, h0⟩
    replace h0 : smithylaw15_ForkWays.b4 k x1 x2 x3 (smithylaw15_ForkWays.l4 k x1 x2 x3 q4) y173 = some r := h0
    delta smithylaw15_ForkWays.b4 at h0
    refine c_region (s_bin S rfl rfl rfl rfl fun a S => c_end (wp_seq ?_))
    rcases ite_of h0 with ⟨c21, h1⟩ | ⟨c21, h1⟩
    ·refine c_condT S rfl c21 (wp_skip (x_thenN (wp_seq (wp_block (c_region ?_)))))
     obtain ⟨c22, h2⟩ := chk_of h1; clear h1
     refine s_iaddrS S rfl rfl rfl underlying22 T34 c22.1 c22.2 rfl fun p8 a S => s_ldA S (fun (c : Unit × Unit × Unit × (Option Addr × Nat) × (Option Addr × Nat)) => [.b20 ((gt x1 y173).1), .w ((gt x1 y173).2.1), .w4 ((gt x1 y173).2.2.1), .q yb c.2.2.2.1.1 c.2.2.2.1.2 ((gt x1 y173).2.2.2.1), .q Y71 c.2.2.2.2.1 c.2.2.2.2.2 ((gt x1 y173).2.2.2.2)]) rfl T34 (fun _ => rfl) rfl fun ch27 a S => ?_
     refine s_alloc S Z34 rfl ⟨rfl, rfl, rfl, rfl, rfl, trivial⟩ rfl fun g569 a w S => s_store S rfl rfl rfl (s' := [.b20 ((gt x1 y173).1), .w ((gt x1 y173).2.1), .w4 ((gt x1 y173).2.2.1), .q yb ch27.2.2.2.1.1 ch27.2.2.2.1.2 ((gt x1 y173).2.2.2.1), .q Y71 ch27.2.2.2.2.1 ch27.2.2.2.2.2 ((gt x1 y173).2.2.2.2)]) .h T34 rfl rfl fun w S => c_end (c_region (s_loada S rfl .h T34 (s' := [.b20 ((gt x1 y173).1), .w ((gt x1 y173).2.1), .w4 ((gt x1 y173).2.2.1), .q yb ch27.2.2.2.1.1 ch27.2.2.2.1.2 ((gt x1 y173).2.2.2.1), .q Y71 ch27.2.2.2.2.1 ch27.2.2.2.2.2 ((gt x1 y173).2.2.2.2)]) rfl rfl fun a S => bindX h2 fun t25 et25 h3 => s_callP S _ N9 rfl rfl (smithyref13_Right.ok k (gt x1 y173) ch27.2.2.2.1.1 ch27.2.2.2.1.2 ch27.2.2.2.2.1 ch27.2.2.2.2.2 t25 et25 _ _) fun ch28 m le1 a w S => s_not S rfl rfl fun a S => c_end ?_))
     rcases ite_of h3 with ⟨c23, h4⟩ | ⟨c23, h4⟩
     ·refine c_condT S rfl c23 (c_region (bindX h4 fun t26 et26 h5 => s_callP S _ N8 rfl rfl (smithylaw15_fixed.ok k t26 et26 _ _) fun ch29 m le1 a w S => s_assign S rfl rfl fun a S => c_end (wp_ret (x_blockR (x_thenR (x_thenR (x_blockR (x_thenR ?_))))))))
      obtain rfl := Option.some.inj h5
      exact b_ret1 (d := (.b t26)) S rfl rfl (S.rt hb)
     ·refine c_condF S rfl c23 (wp_skip (x_blockN (x_thenN (c_region' (s_bin S rfl rfl rfl rfl fun a S => s_move S rfl rfl fun a S => c_end' (x_thenN ?_))))))
      exact ⟨_, (wr .i64 (y173 + 1)), (S.sb rfl .nil), h4⟩
    ·refine c_condF S rfl c21 (wp_exit (x_thenX (x_thenX (x_blockX (x_thenN ?_)))))
     exact j2 _ a w (S.sb rfl .nil) h1
 refine c_region' (s_move S rfl rfl fun a S => bindX h0 fun t27 et27 h1 => s_callP S _ N7 rfl rfl (smithyref13_Great.ok k x1 ch_0_0 ch_0_1 t27 et27 _ _) fun ch30 m le1 a w S => s_move S rfl rfl fun a S => ?_)
 rcases ite_of h1 with ⟨c24, h2⟩ | ⟨c24, h2⟩
 ·refine s_gF S (b := t27) rfl rfl c24 rfl fun a S => s_gF S (b := t27) rfl rfl c24 rfl fun a S => s_gF S (b := t27) rfl rfl c24 rfl fun a S => s_pick S (b := true) (hc_of rfl c24) rfl rfl fun a S => c_end' (x_thenN ?_)
  exact j1 _ true a w (S.sb rfl .nil) h2
 ·refine s_gT S (b := t27) rfl rfl c24 (s_move S rfl rfl fun a S => s_gT S (b := t27) rfl rfl c24 (s_lenS S rfl underlying23 rfl fun a S => s_gT S (b := t27) rfl rfl c24 (s_bin S rfl rfl rfl rfl fun a S => s_pick S (b := false) (hc_of rfl c24) rfl rfl fun a S => c_end' (x_thenN ?_))))
  exact j1 _ (decide (100 < ((x2).length : Int))) a w (S.sb rfl .nil) h2
end
end GW
