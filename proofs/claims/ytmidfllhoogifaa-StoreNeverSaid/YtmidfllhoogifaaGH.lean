import Derived.Test.YtmidfllhoogifaaProg
import Derived.Test.YtmidfllhoogifaaGG
set_option linter.unusedVariables false
set_option linter.unusedSimpArgs false
set_option maxRecDepth 10000
set_option maxHeartbeats 4000000
namespace GW
open Go Go.RowKit Go.Proofs Go.Proofs.Try
noncomputable section
abbrev smithylaw13_StoreNever.Ty : Type := (List (Int × (List L30))) → (List (Int × (List L30))) → Option Bool
def smithylaw13_StoreNever.Ctr (s : smithylaw13_StoreNever.Ty) : Prop := ∀ (x1 : List (Int × (List L30))) (x2 : List (Int × (List L30))) (ch_0_0 : Option Addr) (ch_0_1 : Nat) (ch_1_0 : Option Addr) (ch_1_1 : Nat) (r : Bool), Ct (C := Unit) Try.prog 4 (s x1 x2 = some r) [] [(.q Y40 ch_0_0 ch_0_1 x1), (.q Y40 ch_1_0 ch_1_1 x2)] (fun _ => (.b r)) fun _ => []
def smithylaw13_StoreNever.j4 : Option Bool := some true
def smithylaw13_StoreNever.j5 (y39 : Int) (rec1 : Int → Option Bool) (y40 : Bool) : Option Bool := if y40 = true then (some false) else (rec1 (wr .i64 (y39 + 1)))
def smithylaw13_StoreNever.b1 (k : Nat) (t4 : Int) (y6 : List (List L30)) (y31 : List (Int × (List ((List Int) × L30)))) (rec1 : Int → Option Bool) (y39 : Int) : Option Bool := if (decide (y39 < t4)) = true then ((store_Store_All.f k (y31) y39).bind fun t8 => (if (0 : Int) ≤ y39 ∧ y39 < ((y6).length : Int) then ((smithyref13_SameAll.f k t8 (gt y6 y39)).bind fun t9 => (smithylaw13_StoreNever.j5 y39 rec1 (!t9))) else none)) else smithylaw13_StoreNever.j4
def smithylaw13_StoreNever.l1 (k : Nat) (t4 : Int) (y6 : List (List L30)) (y31 : List (Int × (List ((List Int) × L30)))) : Nat → Int → Option Bool
  | 0, _ => none
  | q + 1, y39 => smithylaw13_StoreNever.b1 k t4 y6 y31 (smithylaw13_StoreNever.l1 k t4 y6 y31 q) y39
def smithylaw13_StoreNever.j3 (k : Nat) (t4 : Int) (y6 : List (List L30)) (y31 : List (Int × (List ((List Int) × L30)))) : Option Bool := smithylaw13_StoreNever.l1 k t4 y6 y31 k 0
def smithylaw13_StoreNever.j6 (y63 : Int) (rec2 : Int → (List (Int × (List ((List Int) × L30)))) → Option Bool) (y74 : List (Int × (List ((List Int) × L30)))) : Option Bool := rec2 (wr .i64 (y63 + 1)) y74
def smithylaw13_StoreNever.b3 (y63 : Int) (rec2 : Int → (List (Int × (List ((List Int) × L30)))) → Option Bool) (t14 : Int × Int × L72) (t16 : (List L30)) (rec3 : Int → Option Bool) (y83 : Int) : Option Bool := if (decide (y83 < ((t16).length : Int))) = true then (if (0 : Int) ≤ y83 ∧ y83 < ((t16).length : Int) then (rec3 (wr .i64 (y83 + 1))) else none) else (smithylaw13_StoreNever.j6 y63 rec2 t14.2.2)
def smithylaw13_StoreNever.l3 (y63 : Int) (rec2 : Int → (List (Int × (List ((List Int) × L30)))) → Option Bool) (t14 : Int × Int × L72) (t16 : (List L30)) : Nat → Int → Option Bool
  | 0, _ => none
  | q + 1, y83 => smithylaw13_StoreNever.b3 y63 rec2 t14 t16 (smithylaw13_StoreNever.l3 y63 rec2 t14 t16 q) y83
def smithylaw13_StoreNever.j8 (k : Nat) (y63 : Int) (rec2 : Int → (List (Int × (List ((List Int) × L30)))) → Option Bool) (t14 : Int × Int × L72) : Option Bool := (store_Store_Len.f (t14.2.2)).bind fun t15 => ((store_Store_All.f k (t14.2.2) (wr .i64 (t15 - 1))).bind fun t16 => (smithylaw13_StoreNever.l3 y63 rec2 t14 t16 k 0))
def smithylaw13_StoreNever.b4 (k : Nat) (y63 : Int) (rec2 : Int → (List (Int × (List ((List Int) × L30)))) → Option Bool) (y79 : List L30) (t14 : Int × Int × L72) (rec4 : Int → Option Bool) (y85 : Int) : Option Bool := if (decide (y85 < ((y79).length : Int))) = true then (if (0 : Int) ≤ y85 ∧ y85 < ((y79).length : Int) then (rec4 (wr .i64 (y85 + 1))) else none) else (smithylaw13_StoreNever.j8 k y63 rec2 t14)
def smithylaw13_StoreNever.l4 (k : Nat) (y63 : Int) (rec2 : Int → (List (Int × (List ((List Int) × L30)))) → Option Bool) (y79 : List L30) (t14 : Int × Int × L72) : Nat → Int → Option Bool
  | 0, _ => none
  | q + 1, y85 => smithylaw13_StoreNever.b4 k y63 rec2 y79 t14 (smithylaw13_StoreNever.l4 k y63 rec2 y79 t14 q) y85
def smithylaw13_StoreNever.j7 (k : Nat) (t10 : (List (Int × (List L30)))) (y63 : Int) (y64 : List (Int × (List ((List Int) × L30)))) (rec2 : Int → (List (Int × (List ((List Int) × L30)))) → Option Bool) (y79 : List L30) : Option Bool := (store_Store_Commit_2z.f k (y64) ((gt t10 y63).1) y79).bind fun t14 => (smithylaw13_StoreNever.l4 k y63 rec2 y79 t14 k 0)
def smithylaw13_StoreNever.b5 (k : Nat) (t10 : (List (Int × (List L30)))) (y63 : Int) (y64 : List (Int × (List ((List Int) × L30)))) (rec2 : Int → (List (Int × (List ((List Int) × L30)))) → Option Bool) (rec5 : (List L30) → Int → Option Bool) (y88 : List L30) (y89 : Int) : Option Bool := if (decide (y89 < (((gt t10 y63).2).length : Int))) = true then (if (0 : Int) ≤ y89 ∧ y89 < (((gt t10 y63).2).length : Int) then (if ((([] : List Int)).length + ((gt ((gt t10 y63).2) y89).2.2.2.1).length) * 1 ≤ 140737488355328 then (if ((([] : List ((List Int) × (List Int)))).length + ((gt ((gt t10 y63).2) y89).2.2.2.2).length) * 64 ≤ 140737488355328 then (if ((y88).length + ([((gt ((gt t10 y63).2) y89).1, (gt ((gt t10 y63).2) y89).2.1, (gt ((gt t10 y63).2) y89).2.2.1, ([] : List Int) ++ ((gt ((gt t10 y63).2) y89).2.2.2.1), ([] : List ((List Int) × (List Int))) ++ ((gt ((gt t10 y63).2) y89).2.2.2.2))]).length) * 112 ≤ 140737488355328 then (rec5 (y88 ++ [((gt ((gt t10 y63).2) y89).1, (gt ((gt t10 y63).2) y89).2.1, (gt ((gt t10 y63).2) y89).2.2.1, ([] : List Int) ++ ((gt ((gt t10 y63).2) y89).2.2.2.1), ([] : List ((List Int) × (List Int))) ++ ((gt ((gt t10 y63).2) y89).2.2.2.2))]) (wr .i64 (y89 + 1))) else none) else none) else none) else none) else (smithylaw13_StoreNever.j7 k t10 y63 y64 rec2 y88)
def smithylaw13_StoreNever.l5 (k : Nat) (t10 : (List (Int × (List L30)))) (y63 : Int) (y64 : List (Int × (List ((List Int) × L30)))) (rec2 : Int → (List (Int × (List ((List Int) × L30)))) → Option Bool) : Nat → (List L30) → Int → Option Bool
  | 0, _, _ => none
  | q + 1, y88, y89 => smithylaw13_StoreNever.b5 k t10 y63 y64 rec2 (smithylaw13_StoreNever.l5 k t10 y63 y64 rec2 q) y88 y89
def smithylaw13_StoreNever.b2 (k : Nat) (t4 : Int) (y6 : List (List L30)) (t10 : (List (Int × (List L30)))) (rec2 : Int → (List (Int × (List ((List Int) × L30)))) → Option Bool) (y63 : Int) (y64 : List (Int × (List ((List Int) × L30)))) : Option Bool := if (decide (y63 < ((t10).length : Int))) = true then (if (0 : Int) ≤ y63 ∧ y63 < ((t10).length : Int) then (smithylaw13_StoreNever.l5 k t10 y63 y64 rec2 k ([] : List L30) 0) else none) else (smithylaw13_StoreNever.j3 k t4 y6 y64)
def smithylaw13_StoreNever.l2 (k : Nat) (t4 : Int) (y6 : List (List L30)) (t10 : (List (Int × (List L30)))) : Nat → Int → (List (Int × (List ((List Int) × L30)))) → Option Bool
  | 0, _, _ => none
  | q + 1, y63, y64 => smithylaw13_StoreNever.b2 k t4 y6 t10 (smithylaw13_StoreNever.l2 k t4 y6 t10 q) y63 y64
def smithylaw13_StoreNever.j2 (k : Nat) (x2 : List (Int × (List L30))) (y1 : List (Int × (List ((List Int) × L30)))) (t4 : Int) (y6 : List (List L30)) : Option Bool := (smithylaw13_cut.f k x2).bind fun t10 => (smithylaw13_StoreNever.l2 k t4 y6 t10 k 0 y1)
def smithylaw13_StoreNever.b6 (k : Nat) (x2 : List (Int × (List L30))) (y1 : List (Int × (List ((List Int) × L30)))) (t4 : Int) (rec6 : (List (List L30)) → Int → Option Bool) (y92 : List (List L30)) (y93 : Int) : Option Bool := if (decide (y93 < t4)) = true then ((store_Store_All.f k (y1) y93).bind fun t19 => (if ((y92).length + ([t19]).length) * 24 ≤ 140737488355328 then (rec6 (y92 ++ [t19]) (wr .i64 (y93 + 1))) else none)) else (smithylaw13_StoreNever.j2 k x2 y1 t4 y92)
def smithylaw13_StoreNever.l6 (k : Nat) (x2 : List (Int × (List L30))) (y1 : List (Int × (List ((List Int) × L30)))) (t4 : Int) : Nat → (List (List L30)) → Int → Option Bool
  | 0, _, _ => none
  | q + 1, y92, y93 => smithylaw13_StoreNever.b6 k x2 y1 t4 (smithylaw13_StoreNever.l6 k x2 y1 t4 q) y92 y93
def smithylaw13_StoreNever.j1 (k : Nat) (x2 : List (Int × (List L30))) (y1 : List (Int × (List ((List Int) × L30)))) : Option Bool := (store_Store_Len.f (y1)).bind fun t4 => (smithylaw13_StoreNever.l6 k x2 y1 t4 k ([] : List (List L30)) 0)
def smithylaw13_StoreNever.b7 (k : Nat) (x2 : List (Int × (List L30))) (t20 : (List (Int × (List L30)))) (rec7 : Int → (List (Int × (List ((List Int) × L30)))) → Option Bool) (y95 : Int) (y96 : List (Int × (List ((List Int) × L30)))) : Option Bool := if (decide (y95 < ((t20).length : Int))) = true then (if (0 : Int) ≤ y95 ∧ y95 < ((t20).length : Int) then ((store_Store_Commit.f k (y96) ((gt t20 y95).1) ((gt t20 y95).2)).bind fun t23 => (rec7 (wr .i64 (y95 + 1)) t23.2.2)) else none) else (smithylaw13_StoreNever.j1 k x2 y96)
def smithylaw13_StoreNever.l7 (k : Nat) (x2 : List (Int × (List L30))) (t20 : (List (Int × (List L30)))) : Nat → Int → (List (Int × (List ((List Int) × L30)))) → Option Bool
  | 0, _, _ => none
  | q + 1, y95, y96 => smithylaw13_StoreNever.b7 k x2 t20 (smithylaw13_StoreNever.l7 k x2 t20 q) y95 y96
def smithylaw13_StoreNever.f (k : Nat) (x1 : List (Int × (List L30))) (x2 : List (Int × (List L30))) : Option Bool := (store_New.f).bind fun t1 => ((smithylaw13_fixed.f k).bind fun t2 => (if (!t2) = true then (some false) else ((smithylaw13_cut.f k x1).bind fun t20 => (smithylaw13_StoreNever.l7 k x2 t20 k 0 t1))))
theorem smithylaw13_StoreNever.ok (k : Nat) : smithylaw13_StoreNever.Ctr (smithylaw13_StoreNever.f k) := by
 intro x1 x2 ch_0_0 ch_0_1 ch_1_0 ch_1_1 r h0 mi w0 ok hm
 delta smithylaw13_StoreNever.f at h0
 refine c_enterZ (n := 130) ok hm func4 rfl rfl rfl fun b0 hb a S => c_region (s_assign S rfl rfl fun a S => c_end (c_region (bindX h0 fun t1 et1 h1 => s_callX S (ds' := []) (ds := []) [] [] (fun (ch : Nat × (Option Addr) × Nat × Nat) => ((.v (.pointer (some ⟨ch.1, 0, none⟩))) : D)) (fun (ch : Nat × (Option Addr) × Nat × Nat) => [Res.cells ch.1 74 [.s ch.2.1 ch.2.2.1 ch.2.2.2], Res.row (Ty.prod yi Y69) 71 ch.2.1 ch.2.2.1 ch.2.2.2 t1]) (fun (ch : Nat × (Option Addr) × Nat × Nat) => [Res.cells ch.1 74 [.s ch.2.1 ch.2.2.1 ch.2.2.2], Res.row (Ty.prod yi Y69) 71 ch.2.1 ch.2.2.1 ch.2.2.2 t1]) (fun _ => rfl) N14 rfl rfl (fun ok => ok) .nil rfl (store_New.ok t1 et1 _ _) fun ch1 m le1 a w S => s_assign S rfl rfl fun a S => c_end (wp_seq (c_region (s_move S rfl rfl fun a S => s_eqp S (b := false) rfl rfl underlying36 rfl rfl fun a S => s_move S rfl rfl fun a S => s_gT S (b := false) rfl rfl rfl (bindX h1 fun t2 et2 h2 => s_callP S _ N9 rfl rfl (smithylaw13_fixed.ok k t2 et2 _ _) fun ch2 m le1 a w S => s_gT S (b := false) rfl rfl rfl (s_not S rfl rfl fun a S => s_pick S (b := false) (hc_of rfl rfl) rfl rfl fun a S => c_end ?_))))))))
 rcases ite_of h2 with ⟨c1, h3⟩ | ⟨c1, h3⟩
 ·refine c_condT S rfl c1 (c_region (s_assign S rfl rfl fun a S => c_end (wp_ret (x_thenR ?_))))
  obtain rfl := Option.some.inj h3
  exact b_ret1 (d := (.b false)) S rfl rfl (S.rt hb)
 ·refine c_condF S rfl c1 (wp_skip (x_thenN (wp_seq_k fun K1 hK1 => ?_)))
  have j1 : ∀ (m : Mem) (g1 : Nat) (A1 : Option Addr) (nn1 : Nat) (cp1 : Nat) (y1 : List (Int × (List ((List Int) × L30)))) (a : Act) (w : World), St 130 m b0 [(5, (.p g1)), (1, (.q Y40 ch_1_0 ch_1_1 x2))] [Res.cells g1 74 [.s A1 nn1 cp1], Res.row (Ty.prod yi Y69) 71 A1 nn1 cp1 y1] a w → smithylaw13_StoreNever.j1 k x2 y1 = some r → K1 a w := by
   intro m g1 A1 nn1 cp1 y1 a w S h0
   delta smithylaw13_StoreNever.j1 at h0
   refine hK1 a w (c_region (s_assign S rfl rfl fun a S => c_end (c_region (s_move S rfl rfl fun a S => bindX h0 fun t4 et4 h1 => s_callX S (ds' := [(.p g1)]) (ds := [(.p g1)]) [Res.cells g1 74 [.s A1 nn1 cp1], Res.row (Ty.prod yi Y69) 71 A1 nn1 cp1 y1] [] (fun (ch : Unit) => ((.i t4) : D)) (fun (ch : Unit) => [Res.cells g1 74 [.s A1 nn1 cp1], Res.row (Ty.prod yi Y69) 71 A1 nn1 cp1 y1]) (fun (ch : Unit) => [Res.cells g1 74 [.s A1 nn1 cp1], Res.row (Ty.prod yi Y69) 71 A1 nn1 cp1 y1]) (fun _ => rfl) N17 rfl rfl (fun ok => ok) (.c0 (.c0 .n)) rfl (store_Store_Len.ok (y1) g1 A1 nn1 cp1 t4 et4 _ _) fun ch3 m le1 a w S => s_assign S rfl rfl fun a S => c_end (wp_seq_k fun K2 hK2 => ?_)))))
   have j2 : ∀ m A2 nn4 cp6 y6 g7 a w, St 130 m b0 [(8, (.s A2 nn4 cp6)), (9, (.i t4)), (5, (.p g7)), (1, (.q Y40 ch_1_0 ch_1_1 x2))] [Res.row (Ty.slice Y30) 32 A2 nn4 cp6 y6, Res.cells g7 74 [.s A1 nn1 cp1], Res.row (Ty.prod yi Y69) 71 A1 nn1 cp1 y1] a w → smithylaw13_StoreNever.j2 k x2 y1 t4 y6 = some r → K2 a w := by
    intro m A2 nn4 cp6 y6 g7 a w S h0
    delta smithylaw13_StoreNever.j2 at h0
    refine hK2 a w (wp_seq_k fun K3 hK3 => ?_)
    have j3 : ∀ (m : Mem) (g77 : Nat) (A3 : Option Addr) (nn23 : Nat) (cp54 : Nat) (y31 : List (Int × (List ((List Int) × L30)))) (a : Act) (w : World), St 130 m b0 [(8, (.s A2 nn4 cp6)), (9, (.i t4)), (5, (.p g77))] [Res.row (Ty.slice Y30) 32 A2 nn4 cp6 y6, Res.cells g77 74 [.s A3 nn23 cp54], Res.row (Ty.prod yi Y69) 71 A3 nn23 cp54 y31] a w → smithylaw13_StoreNever.j3 k t4 y6 y31 = some r → K3 a w := by
     intro m g77 A3 nn23 cp54 y31 a w S h0
     delta smithylaw13_StoreNever.j3 at h0
     refine hK3 a w (wp_seq_k fun K4 hK4 => ?_)
     have j4 : ∀ m a w, St 130 m b0 [] [] a w → smithylaw13_StoreNever.j4 = some r → K4 a w := by
      intro m a w S h0
      delta smithylaw13_StoreNever.j4 at h0
      refine hK4 a w (c_region (s_assign S rfl rfl fun a S => c_end (wp_ret ?_)))
      obtain rfl := Option.some.inj h0
      exact b_ret1 (d := (.b true)) S rfl rfl (S.rt hb)
     refine c_region (s_move S rfl rfl fun a S => s_move S rfl rfl fun a S => c_end (wp_block ?_))
     refine c_loop (fun q1 a w => ∃ m y39 g91, St 130 m b0 [(117, (.i y39)), (116, (.i t4)), (8, (.s A2 nn4 cp6)), (5, (.p g91))] [Res.row (Ty.slice Y30) 32 A2 nn4 cp6 y6, Res.cells g91 74 [.s A3 nn23 cp54], Res.row (Ty.prod yi Y69) 71 A3 nn23 cp54 y31] a w ∧ smithylaw13_StoreNever.l1 k t4 y6 y31 q1 y39 = some r) ?_ ?_ (k := k) ⟨_, 0, g77, (S.sb rfl (.c0 (.c0 (.c0 .n)))), h0⟩
     ·rintro a w ⟨m, y39, g91, S, h0⟩
      exact (nomatch (show (none : Option Bool) = some r from h0))
     ·clear S h0
      rintro q1 a w ⟨m, y39, g91, S, h0⟩
      replace h0 : smithylaw13_StoreNever.b1 k t4 y6 y31 (smithylaw13_StoreNever.l1 k t4 y6 y31 q1) y39 = some r := h0
      delta smithylaw13_StoreNever.b1 at h0
      refine c_region (s_bin S rfl rfl rfl rfl fun a S => c_end (wp_seq ?_))
      rcases ite_of h0 with ⟨c2, h1⟩ | ⟨c2, h1⟩
      ·refine c_condT S rfl c2 (wp_skip (x_thenN (wp_seq (wp_block (c_region (s_move S rfl rfl fun a S => s_assign S rfl rfl fun a S => c_end (wp_seq_k fun K5 hK5 => ?_)))))))
       have j5 : ∀ m y40 g93 a w, St 130 m b0 [(128, (.b y40)), (117, (.i y39)), (116, (.i t4)), (8, (.s A2 nn4 cp6)), (5, (.p g93))] [Res.cells g93 74 [.s A3 nn23 cp54], Res.row (Ty.prod yi Y69) 71 A3 nn23 cp54 y31, Res.row (Ty.slice Y30) 32 A2 nn4 cp6 y6] a w → smithylaw13_StoreNever.j5 y39 (smithylaw13_StoreNever.l1 k t4 y6 y31 q1) y40 = some r → K5 a w := by
        intro m y40 g93 a w S h0
        delta smithylaw13_StoreNever.j5 at h0
        refine hK5 a w ?_
        rcases ite_of h0 with ⟨c3, h1⟩ | ⟨c3, h1⟩
        ·refine c_condT S rfl c3 (c_region (s_assign S rfl rfl fun a S => c_end (wp_ret (x_blockR (x_thenR (x_thenR (x_blockR (x_thenR ?_))))))))
         obtain rfl := Option.some.inj h1
         exact b_ret1 (d := (.b false)) S rfl rfl (S.rt hb)
        ·refine c_condF S rfl c3 (wp_skip (x_blockN (x_thenN (c_region' (s_bin S rfl rfl rfl rfl fun a S => s_move S rfl rfl fun a S => c_end' (x_thenN ?_))))))
         exact ⟨_, (wr .i64 (y39 + 1)), g93, (S.sb rfl (.c2 (.c0 (.c0 .n)))), h1⟩
       refine c_heldS S (.take 0 (.take 1 (.take 3 (.take 4 (.alts (.run 2 true (.alts (.run 5 true (.alts (.run 6 true (.alts (.run 7 true (.take 8 .done) .nil)) .nil)) .nil)) (.run 5 true (.alts (.run 2 true (.alts (.run 6 true (.alts (.run 7 true (.take 8 .done) .nil)) .nil)) (.run 6 true (.alts (.run 2 true (.alts (.run 7 true (.take 8 .done) .nil)) .nil)) .nil))) .nil))))))) 9 [Res.cells g91 74 [.s A3 nn23 cp54]] (.c1 .n) ⟨Res.stay_cells, trivial⟩ [(20, (.i y39)), (8, (.s A2 nn4 cp6)), (5, (.p g91))] (subR rfl) (by kernel_rfl) (by kernel_rfl) fun w S CL hw le => ?_
       refine h_move S CL hw le (subR rfl) rfl rfl rfl trivial fun a S CL => h_move S CL hw le (subR rfl) rfl rfl rfl trivial fun a S CL => h_move S CL hw le (subR rfl) rfl rfl rfl trivial fun a S CL => h_move S CL hw le (subR rfl) rfl rfl rfl trivial fun a S CL => bindX h1 fun t8 et8 h2 => ?_
       obtain ⟨c4, h3⟩ := chk_of h2; clear h2
       refine bindX h3 fun t9 et9 h4 => h_alts ?_
       refine h_runO S rfl trivial ?_ ?_
       ·refine s_callX S (ds' := [(.p g91), (.i y39)]) (ds := [(.p g91), (.i y39)]) [Res.cells g91 74 [.s A3 nn23 cp54], Res.row (Ty.prod yi Y69) 71 A3 nn23 cp54 y31] [Res.row (Ty.slice Y30) 32 A2 nn4 cp6 y6] (fun (ch : (Option Addr) × Nat × Nat × Mem) => ((.s ch.1 ch.2.1 ch.2.2.1) : D)) (fun (ch : (Option Addr) × Nat × Nat × Mem) => [Res.row (Ty.atZ ch.2.2.2 Y30) 30 ch.1 ch.2.1 ch.2.2.1 t8, Res.priv ch.2.2.2, Res.cells g91 74 [.s A3 nn23 cp54], Res.row (Ty.prod yi Y69) 71 A3 nn23 cp54 y31]) (fun (ch : (Option Addr) × Nat × Nat × Mem) => [Res.row (Ty.atZ ch.2.2.2 Y30) 30 ch.1 ch.2.1 ch.2.2.1 t8, Res.priv ch.2.2.2, Res.cells g91 74 [.s A3 nn23 cp54], Res.row (Ty.prod yi Y69) 71 A3 nn23 cp54 y31, Res.row (Ty.slice Y30) 32 A2 nn4 cp6 y6]) (fun _ => rfl) N18 rfl rfl (fun ok => ok) (.c1 (.c1 (.c0 .n))) rfl (store_Store_All.ok k (y31) y39 g91 A3 nn23 cp54 t8 et8 _ _) fun ch5 m le1 a w S => ?_
        replace le := le.trans le1
        refine CL.bk hw S (.c2 .n) le fun hw => h_run' S rfl trivial (s_iaddrO S (ty' := (Ty.slice Y30)) rfl .h4 rfl underlying44 T32 c4.1 c4.2 rfl fun g94 a hA1 S => CL.bk hw S (.c2 .n) le fun hw => h_run' S rfl trivial (s_ldRS S (ty' := (Ty.slice Y30)) (i := y39) (off := 0) (fun (c : Option Addr × Nat) => (c.1, c.2)) rfl hA1 .h4 T32 c4.1 c4.2 rfl (fun _ => rfl) rfl fun A4 cp56 a S => CL.bk hw S (.c2 .n) le fun hw => h_run' S rfl trivial (s_callL S (ds' := [(.s ch5.1 ch5.2.1 ch5.2.2.1), (.q Y30 A4 cp56 (gt y6 y39))]) (ds := [(.q Y30 ch5.1 ch5.2.2.1 t8), (.q Y30 A4 cp56 (gt y6 y39))]) (fun (ch : Unit) => ((.b t9) : D)) (fun _ _ _ h => h) (by obtain ⟨mm, g1, gZ, g2, g3⟩ := S.zlend .h1 .h; exact ⟨mm, g1, g2, fun ok => ⟨⟨by have := g3.2.1; omega, g3.2.2, g3.1.1, RdS.mono _ _ _⟩, ok.2.1, trivial⟩⟩) N19 rfl (congrArg (fun z => [Value.slice ch5.1 z ch5.2.2.1, D.val (.q Y30 A4 cp56 (gt y6 y39))]) (S.holds _ (Pull.mem .h).1).1.symm) rfl (fun _ => smithyref13_SameAll.ok k t8 (gt y6 y39) ch5.1 ch5.2.2.1 A4 cp56 t9 et9 _ _) fun ch6 a w S => CL.bk hw S (.c2 .n) le fun hw => ?_)))
        replace CL := CL.add (t := 127) (d := (.b t9)) S rfl rfl
        refine h_not S CL hw le (subR rfl) rfl rfl rfl trivial fun a S CL => ?_
        refine h_done ?_; clear CL hw le
        refine x_thenN ?_
        exact j5 _ (!t9) g91 a w (S.sb rfl (.c2 (.c2 (.c2 .n)))) h4
       refine h_runO S rfl trivial ?_ ?_
       ·refine s_iaddrO S (ty' := (Ty.slice Y30)) rfl .h rfl underlying44 T32 c4.1 c4.2 rfl fun g94 a hA1 S => CL.bk hw S (.c1 .n) le fun hw => h_alts ?_
        refine h_runO S rfl trivial ?_ ?_
        ·refine s_callX S (ds' := [(.p g91), (.i y39)]) (ds := [(.p g91), (.i y39)]) [Res.cells g91 74 [.s A3 nn23 cp54], Res.row (Ty.prod yi Y69) 71 A3 nn23 cp54 y31] [Res.row (Ty.slice Y30) 32 A2 nn4 cp6 y6] (fun (ch : (Option Addr) × Nat × Nat × Mem) => ((.s ch.1 ch.2.1 ch.2.2.1) : D)) (fun (ch : (Option Addr) × Nat × Nat × Mem) => [Res.row (Ty.atZ ch.2.2.2 Y30) 30 ch.1 ch.2.1 ch.2.2.1 t8, Res.priv ch.2.2.2, Res.cells g91 74 [.s A3 nn23 cp54], Res.row (Ty.prod yi Y69) 71 A3 nn23 cp54 y31]) (fun (ch : (Option Addr) × Nat × Nat × Mem) => [Res.row (Ty.atZ ch.2.2.2 Y30) 30 ch.1 ch.2.1 ch.2.2.1 t8, Res.priv ch.2.2.2, Res.cells g91 74 [.s A3 nn23 cp54], Res.row (Ty.prod yi Y69) 71 A3 nn23 cp54 y31, Res.row (Ty.slice Y30) 32 A2 nn4 cp6 y6]) (fun _ => rfl) N18 rfl rfl (fun ok => ok) (.c1 (.c1 (.c0 .n))) rfl (store_Store_All.ok k (y31) y39 g91 A3 nn23 cp54 t8 et8 _ _) fun ch5 m le1 a w S => ?_
         replace le := le.trans le1
         refine CL.bk hw S (.c2 .n) le fun hw => h_run' S rfl trivial (s_ldRS S (ty' := (Ty.slice Y30)) (i := y39) (off := 0) (fun (c : Option Addr × Nat) => (c.1, c.2)) rfl hA1 .h4 T32 c4.1 c4.2 rfl (fun _ => rfl) rfl fun A4 cp56 a S => CL.bk hw S (.c2 .n) le fun hw => h_run' S rfl trivial (s_callL S (ds' := [(.s ch5.1 ch5.2.1 ch5.2.2.1), (.q Y30 A4 cp56 (gt y6 y39))]) (ds := [(.q Y30 ch5.1 ch5.2.2.1 t8), (.q Y30 A4 cp56 (gt y6 y39))]) (fun (ch : Unit) => ((.b t9) : D)) (fun _ _ _ h => h) (by obtain ⟨mm, g1, gZ, g2, g3⟩ := S.zlend .h1 .h; exact ⟨mm, g1, g2, fun ok => ⟨⟨by have := g3.2.1; omega, g3.2.2, g3.1.1, RdS.mono _ _ _⟩, ok.2.1, trivial⟩⟩) N19 rfl (congrArg (fun z => [Value.slice ch5.1 z ch5.2.2.1, D.val (.q Y30 A4 cp56 (gt y6 y39))]) (S.holds _ (Pull.mem .h).1).1.symm) rfl (fun _ => smithyref13_SameAll.ok k t8 (gt y6 y39) ch5.1 ch5.2.2.1 A4 cp56 t9 et9 _ _) fun ch6 a w S => CL.bk hw S (.c2 .n) le fun hw => ?_))
         replace CL := CL.add (t := 127) (d := (.b t9)) S rfl rfl
         refine h_not S CL hw le (subR rfl) rfl rfl rfl trivial fun a S CL => ?_
         refine h_done ?_; clear CL hw le
         refine x_thenN ?_
         exact j5 _ (!t9) g91 a w (S.sb rfl (.c2 (.c2 (.c2 .n)))) h4
        refine h_runO S rfl trivial ?_ ?_
        ·refine s_ldRS S (ty' := (Ty.slice Y30)) (i := y39) (off := 0) (fun (c : Option Addr × Nat) => (c.1, c.2)) rfl hA1 .h T32 c4.1 c4.2 rfl (fun _ => rfl) rfl fun A4 cp56 a S => CL.bk hw S (.c1 .n) le fun hw => h_run' S rfl trivial (s_callX S (ds' := [(.p g91), (.i y39)]) (ds := [(.p g91), (.i y39)]) [Res.cells g91 74 [.s A3 nn23 cp54], Res.row (Ty.prod yi Y69) 71 A3 nn23 cp54 y31] [Res.row (Ty.slice Y30) 32 A2 nn4 cp6 y6] (fun (ch : (Option Addr) × Nat × Nat × Mem) => ((.s ch.1 ch.2.1 ch.2.2.1) : D)) (fun (ch : (Option Addr) × Nat × Nat × Mem) => [Res.row (Ty.atZ ch.2.2.2 Y30) 30 ch.1 ch.2.1 ch.2.2.1 t8, Res.priv ch.2.2.2, Res.cells g91 74 [.s A3 nn23 cp54], Res.row (Ty.prod yi Y69) 71 A3 nn23 cp54 y31]) (fun (ch : (Option Addr) × Nat × Nat × Mem) => [Res.row (Ty.atZ ch.2.2.2 Y30) 30 ch.1 ch.2.1 ch.2.2.1 t8, Res.priv ch.2.2.2, Res.cells g91 74 [.s A3 nn23 cp54], Res.row (Ty.prod yi Y69) 71 A3 nn23 cp54 y31, Res.row (Ty.slice Y30) 32 A2 nn4 cp6 y6]) (fun _ => rfl) N18 rfl rfl (fun ok => ok) (.c1 (.c1 (.c0 .n))) rfl (store_Store_All.ok k (y31) y39 g91 A3 nn23 cp54 t8 et8 _ _) fun ch5 m le1 a w S => ?_)
         replace le := le.trans le1
         refine CL.bk hw S (.c2 .n) le fun hw => h_run' S rfl trivial (s_callL S (ds' := [(.s ch5.1 ch5.2.1 ch5.2.2.1), (.q Y30 A4 cp56 (gt y6 y39))]) (ds := [(.q Y30 ch5.1 ch5.2.2.1 t8), (.q Y30 A4 cp56 (gt y6 y39))]) (fun (ch : Unit) => ((.b t9) : D)) (fun _ _ _ h => h) (by obtain ⟨mm, g1, gZ, g2, g3⟩ := S.zlend .h1 .h; exact ⟨mm, g1, g2, fun ok => ⟨⟨by have := g3.2.1; omega, g3.2.2, g3.1.1, RdS.mono _ _ _⟩, ok.2.1, trivial⟩⟩) N19 rfl (congrArg (fun z => [Value.slice ch5.1 z ch5.2.2.1, D.val (.q Y30 A4 cp56 (gt y6 y39))]) (S.holds _ (Pull.mem .h).1).1.symm) rfl (fun _ => smithyref13_SameAll.ok k t8 (gt y6 y39) ch5.1 ch5.2.2.1 A4 cp56 t9 et9 _ _) fun ch6 a w S => CL.bk hw S (.c2 .n) le fun hw => ?_)
         replace CL := CL.add (t := 127) (d := (.b t9)) S rfl rfl
         refine h_not S CL hw le (subR rfl) rfl rfl rfl trivial fun a S CL => ?_
         refine h_done ?_; clear CL hw le
         refine x_thenN ?_
         exact j5 _ (!t9) g91 a w (S.sb rfl (.c2 (.c2 (.c2 .n)))) h4
        exact h_nil
       exact h_nil
      ·refine c_condF S rfl c2 (wp_exit (x_thenX (x_thenX (x_blockX (x_thenN ?_)))))
       exact j4 _ a w (S.sub trivial .nil) h1
    refine c_region (s_move S rfl rfl fun a S => bindX h0 fun t10 et10 h1 => s_callP S _ N15 rfl rfl (smithylaw13_cut.ok k x2 ch_1_0 ch_1_1 t10 et10 _ _) fun ch7 m le1 a w S => s_lenS S rfl underlying35 rfl fun a S => s_move S rfl rfl fun a S => c_end (wp_block ?_))
    refine c_loop (fun q2 a w => ∃ (m : Mem) (y63 : Int) (A5 : Option Addr) (cp102 : Nat) (g163 : Nat) (A6 : Option Addr) (nn41 : Nat) (cp103 : Nat) (y64 : List (Int × (List ((List Int) × L30)))), St 130 m b0 [(58, (.i y63)), (57, (.i ((t10).length : Int))), (56, (.q Y40 A5 cp102 t10)), (8, (.s A2 nn4 cp6)), (9, (.i t4)), (5, (.p g163))] [Res.row (Ty.slice Y30) 32 A2 nn4 cp6 y6, Res.cells g163 74 [.s A6 nn41 cp103], Res.row (Ty.prod yi Y69) 71 A6 nn41 cp103 y64] a w ∧ smithylaw13_StoreNever.l2 k t4 y6 t10 q2 y63 y64 = some r) ?_ ?_ (k := k) ⟨_, 0, ch7.1, ch7.2, g7, A1, nn1, cp1, y1, (S.sb rfl (.c0 (.c0 (.c0 .n)))), h1⟩
    ·rintro a w ⟨m, y63, A5, cp102, g163, A6, nn41, cp103, y64, S, h0⟩
     exact (nomatch (show (none : Option Bool) = some r from h0))
    ·clear S h1
     rintro q2 a w ⟨m, y63, A5, cp102, g163, A6, nn41, cp103, y64, S, h0⟩
     replace h0 : smithylaw13_StoreNever.b2 k t4 y6 t10 (smithylaw13_StoreNever.l2 k t4 y6 t10 q2) y63 y64 = some r := h0
     delta smithylaw13_StoreNever.b2 at h0
     refine c_region (s_bin S rfl rfl rfl rfl fun a S => c_end (wp_seq ?_))
     rcases ite_of h0 with ⟨c5, h1⟩ | ⟨c5, h1⟩
     ·refine c_condT S rfl c5 (wp_skip (x_thenN (wp_seq_k fun K6 hK6 => ?_)))
      have j6 : ∀ (m : Mem) (g196 : Nat) (A7 : Option Addr) (nn49 : Nat) (cp124 : Nat) (y74 : List (Int × (List ((List Int) × L30)))) (a : Act) (w : World), St 130 m b0 [(58, (.i y63)), (57, (.i ((t10).length : Int))), (56, (.q Y40 A5 cp102 t10)), (8, (.s A2 nn4 cp6)), (9, (.i t4)), (5, (.p g196))] [Res.cells g196 74 [.s A7 nn49 cp124], Res.row (Ty.prod yi Y69) 71 A7 nn49 cp124 y74, Res.row (Ty.slice Y30) 32 A2 nn4 cp6 y6] a w → smithylaw13_StoreNever.j6 y63 (smithylaw13_StoreNever.l2 k t4 y6 t10 q2) y74 = some r → K6 a w := by
       intro m g196 A7 nn49 cp124 y74 a w S h0
       delta smithylaw13_StoreNever.j6 at h0
       refine hK6 a w (c_region' (s_bin S rfl rfl rfl rfl fun a S => s_move S rfl rfl fun a S => c_end' (x_thenN ?_)))
       exact ⟨_, (wr .i64 (y63 + 1)), A5, cp102, g196, A7, nn49, cp124, y74, (S.sb rfl (.c2 (.c0 (.c0 .n)))), h0⟩
      refine wp_block (c_region ?_)
      obtain ⟨c6, h2⟩ := chk_of h1; clear h1
      refine s_iaddrS S rfl rfl rfl underlying35 T40 c6.1 c6.2 rfl fun p1 a S => s_ldA S (fun (c : Unit × (Option Addr × Nat)) => [.i ((gt t10 y63).1), .q Y30 c.2.1 c.2.2 ((gt t10 y63).2)]) rfl T40 (fun _ => rfl) rfl fun ch12 a S => ?_
      refine s_alloc S Z40 rfl ⟨rfl, rfl, trivial⟩ rfl fun g197 a w S => s_store S rfl rfl rfl (s' := [.i ((gt t10 y63).1), .q Y30 ch12.2.1 ch12.2.2 ((gt t10 y63).2)]) .h T40 rfl rfl fun w S => c_end (c_region (s_assign S rfl rfl fun a S => c_end (wp_seq_k fun K7 hK7 => ?_)))
      have j7 : ∀ m A8 nn52 cp139 y79 mz1 g212 g213 A9 cp140 a w, St 130 m b0 [(13, (.s A8 nn52 cp139)), (12, (.p g212)), (58, (.i y63)), (57, (.i ((t10).length : Int))), (56, (.q Y40 A5 cp102 t10)), (8, (.s A2 nn4 cp6)), (9, (.i t4)), (5, (.p g213))] [Res.row (Ty.atZ mz1 Y30) 30 A8 nn52 cp139 y79, Res.priv mz1, Res.cells g212 40 [.i ((gt t10 y63).1), .q Y30 A9 cp140 ((gt t10 y63).2)], Res.row (Ty.slice Y30) 32 A2 nn4 cp6 y6, Res.cells g213 74 [.s A6 nn41 cp103], Res.row (Ty.prod yi Y69) 71 A6 nn41 cp103 y64] a w → smithylaw13_StoreNever.j7 k t10 y63 y64 (smithylaw13_StoreNever.l2 k t4 y6 t10 q2) y79 = some r → K7 a w := by
       intro m A8 nn52 cp139 y79 mz1 g212 g213 A9 cp140 a w S h0
       delta smithylaw13_StoreNever.j7 at h0
       refine hK7 a w (c_region (s_move S rfl rfl fun a S => s_fieldAddr S rfl I40_0 T3 (by decide) rfl rfl fun a S => s_load1 S rfl .h2 T3 (v := (.int .i64 ((gt t10 y63).1))) rfl rfl fun a S => s_move S rfl rfl fun a S => bindX h0 fun t14 et14 h1 => s_callX S (ds' := [(.p g213), (.i ((gt t10 y63).1)), (.s A8 nn52 cp139)]) (ds := [(.p g213), (.i ((gt t10 y63).1)), (.s A8 nn52 cp139)]) [Res.cells g213 74 [.s A6 nn41 cp103], Res.row (Ty.prod yi Y69) 71 A6 nn41 cp103 y64, Res.row (Ty.atZ mz1 Y30) 30 A8 nn52 cp139 y79, Res.priv mz1] [Res.cells g212 40 [.i ((gt t10 y63).1), .q Y30 A9 cp140 ((gt t10 y63).2)], Res.row (Ty.slice Y30) 32 A2 nn4 cp6 y6] (fun (ch : (Option Addr) × Nat × Nat) => ((.tup [(false, [.i t14.1]), (false, [.i t14.2.1])]) : D)) (fun (ch : (Option Addr) × Nat × Nat) => [Res.cells g213 74 [.s ch.1 ch.2.1 ch.2.2], Res.row (Ty.prod yi Y69) 71 ch.1 ch.2.1 ch.2.2 t14.2.2, Res.row (Ty.atZ mz1 Y30) 30 A8 nn52 cp139 y79, Res.priv mz1]) (fun (ch : (Option Addr) × Nat × Nat) => [Res.cells g213 74 [.s ch.1 ch.2.1 ch.2.2], Res.row (Ty.prod yi Y69) 71 ch.1 ch.2.1 ch.2.2 t14.2.2, Res.row (Ty.atZ mz1 Y30) 30 A8 nn52 cp139 y79, Res.priv mz1, Res.cells g212 40 [.i ((gt t10 y63).1), .q Y30 A9 cp140 ((gt t10 y63).2)], Res.row (Ty.slice Y30) 32 A2 nn4 cp6 y6]) (fun _ => rfl) N16 rfl rfl (fun ok => ok) (.c4 (.c4 (.c0 (.c0 (.c0 (.c0 .n)))))) rfl (store_Store_Commit_2z.ok k (y64) ((gt t10 y63).1) y79 g213 A6 nn41 cp103 A8 nn52 cp139 mz1 t14 et14 _ _) fun ch13 m le1 a w S => c_end (wp_seq_k fun K8 hK8 => ?_)))
       have j8 : ∀ m g221 A10 nn56 cp144 a w, St 130 m b0 [(58, (.i y63)), (57, (.i ((t10).length : Int))), (56, (.q Y40 A5 cp102 t10)), (8, (.s A2 nn4 cp6)), (9, (.i t4)), (5, (.p g221))] [Res.cells g221 74 [.s A10 nn56 cp144], Res.row (Ty.prod yi Y69) 71 A10 nn56 cp144 t14.2.2, Res.row (Ty.slice Y30) 32 A2 nn4 cp6 y6] a w → smithylaw13_StoreNever.j8 k y63 (smithylaw13_StoreNever.l2 k t4 y6 t10 q2) t14 = some r → K8 a w := by
        intro m g221 A10 nn56 cp144 a w S h0
        delta smithylaw13_StoreNever.j8 at h0
        refine hK8 a w (c_region (s_move S rfl rfl fun a S => s_move S rfl rfl fun a S => bindX h0 fun t15 et15 h1 => s_callX S (ds' := [(.p g221)]) (ds := [(.p g221)]) [Res.cells g221 74 [.s A10 nn56 cp144], Res.row (Ty.prod yi Y69) 71 A10 nn56 cp144 t14.2.2] [Res.row (Ty.slice Y30) 32 A2 nn4 cp6 y6] (fun (ch : Unit) => ((.i t15) : D)) (fun (ch : Unit) => [Res.cells g221 74 [.s A10 nn56 cp144], Res.row (Ty.prod yi Y69) 71 A10 nn56 cp144 t14.2.2]) (fun (ch : Unit) => [Res.cells g221 74 [.s A10 nn56 cp144], Res.row (Ty.prod yi Y69) 71 A10 nn56 cp144 t14.2.2, Res.row (Ty.slice Y30) 32 A2 nn4 cp6 y6]) (fun _ => rfl) N17 rfl rfl (fun ok => ok) (.c0 (.c0 (.c0 .n))) rfl (store_Store_Len.ok (t14.2.2) g221 A10 nn56 cp144 t15 et15 _ _) fun ch14 m le1 a w S => s_bin S rfl rfl rfl rfl fun a S => bindX h1 fun t16 et16 h2 => s_callX S (ds' := [(.p g221), (.i (wr .i64 (t15 - 1)))]) (ds := [(.p g221), (.i (wr .i64 (t15 - 1)))]) [Res.cells g221 74 [.s A10 nn56 cp144], Res.row (Ty.prod yi Y69) 71 A10 nn56 cp144 t14.2.2] [Res.row (Ty.slice Y30) 32 A2 nn4 cp6 y6] (fun (ch : (Option Addr) × Nat × Nat × Mem) => ((.s ch.1 ch.2.1 ch.2.2.1) : D)) (fun (ch : (Option Addr) × Nat × Nat × Mem) => [Res.row (Ty.atZ ch.2.2.2 Y30) 30 ch.1 ch.2.1 ch.2.2.1 t16, Res.priv ch.2.2.2, Res.cells g221 74 [.s A10 nn56 cp144], Res.row (Ty.prod yi Y69) 71 A10 nn56 cp144 t14.2.2]) (fun (ch : (Option Addr) × Nat × Nat × Mem) => [Res.row (Ty.atZ ch.2.2.2 Y30) 30 ch.1 ch.2.1 ch.2.2.1 t16, Res.priv ch.2.2.2, Res.cells g221 74 [.s A10 nn56 cp144], Res.row (Ty.prod yi Y69) 71 A10 nn56 cp144 t14.2.2, Res.row (Ty.slice Y30) 32 A2 nn4 cp6 y6]) (fun _ => rfl) N18 rfl rfl (fun ok => ok) (.c0 (.c0 (.c0 .n))) rfl (store_Store_All.ok k (t14.2.2) (wr .i64 (t15 - 1)) g221 A10 nn56 cp144 t16 et16 _ _) fun ch15 m le1 a w S => s_lenO S rfl .h underlying32 rfl fun a S => s_move S rfl rfl fun a S => c_end (wp_block ?_)))
        replace S := S.zjunk .h1
        refine c_loop (fun q3 a w => ∃ m y83 g228, St 130 m b0 [(106, (.i y83)), (105, (.i ((t16).length : Int))), (104, (.s ch15.1 ch15.2.1 ch15.2.2.1)), (58, (.i y63)), (57, (.i ((t10).length : Int))), (56, (.q Y40 A5 cp102 t10)), (8, (.s A2 nn4 cp6)), (9, (.i t4)), (5, (.p g228))] [Res.row (Ty.atZ ch15.2.2.2 Y30) 30 ch15.1 ch15.2.1 ch15.2.2.1 t16, Res.junk ch15.2.2.2, Res.cells g228 74 [.s A10 nn56 cp144], Res.row (Ty.prod yi Y69) 71 A10 nn56 cp144 t14.2.2, Res.row (Ty.slice Y30) 32 A2 nn4 cp6 y6] a w ∧ smithylaw13_StoreNever.l3 y63 (smithylaw13_StoreNever.l2 k t4 y6 t10 q2) t14 t16 q3 y83 = some r) ?_ ?_ (k := k) ⟨_, 0, g221, (S.sb rfl (.c0 (.c0 (.c0 (.c0 (.c0 .n)))))), h2⟩
        ·rintro a w ⟨m, y83, g228, S, h0⟩
         exact (nomatch (show (none : Option Bool) = some r from h0))
        ·clear S h2
         rintro q3 a w ⟨m, y83, g228, S, h0⟩
         replace h0 : smithylaw13_StoreNever.b3 y63 (smithylaw13_StoreNever.l2 k t4 y6 t10 q2) t14 t16 (smithylaw13_StoreNever.l3 y63 (smithylaw13_StoreNever.l2 k t4 y6 t10 q2) t14 t16 q3) y83 = some r := h0
         delta smithylaw13_StoreNever.b3 at h0
         refine c_region (s_bin S rfl rfl rfl rfl fun a S => c_end (wp_seq ?_))
         rcases ite_of h0 with ⟨c7, h1⟩ | ⟨c7, h1⟩
         ·refine c_condT S rfl c7 (wp_skip (x_thenN (wp_seq (wp_block (c_region ?_)))))
          obtain ⟨c8, h2⟩ := chk_of h1; clear h1
          refine s_iaddrO S (ty' := (Ty.atZ ch15.2.2.2 Y30)) rfl .h rfl underlying32 T30 c8.1 c8.2 rfl fun g229 a hA2 S => s_ldRA S (ty' := (Ty.atZ ch15.2.2.2 Y30)) (i := y83) (off := 0) (fun c => ((Ty.atZ ch15.2.2.2 Y30).segs (gt t16 y83) c)) rfl hA2 .h T30 c8.1 c8.2 rfl (fun _ => rfl) rfl fun ch18 a S => ?_
          refine s_alloc S Z30 rfl ⟨rfl, rfl, rfl, rfl, rfl, trivial⟩ rfl fun g230 a w S => s_store S rfl rfl rfl (s' := [.b20 ((gt t16 y83).1), .w ((gt t16 y83).2.1), .w4 ((gt t16 y83).2.2.1), .sl ch18.2.2.2.1.1 ((gt t16 y83).2.2.2.1).length ch18.2.2.2.1.2 (atR ch15.2.2.2 (RdS yb ch18.2.2.2.1.1 ((gt t16 y83).2.2.2.1))), .sl ch18.2.2.2.2.1 ((gt t16 y83).2.2.2.2).length ch18.2.2.2.2.2 (atR ch15.2.2.2 (RdS Y66 ch18.2.2.2.2.1 ((gt t16 y83).2.2.2.2)))]) .h T30 rfl rfl fun w S => c_end (c_region (s_fieldAddr S rfl I30_3 T27 (by decide) rfl rfl fun a S => s_loadSl S rfl .h T27 (A := ch18.2.2.2.1.1) (len := ((gt t16 y83).2.2.2.1).length) (cap := ch18.2.2.2.1.2) rfl rfl fun a S => s_clearZn S rfl rfl .h2 underlying27 Z5 rfl rfl (by decide) fun w S => c_end (c_region' (s_fieldAddr S rfl I30_4 T28 (by decide) rfl rfl fun a S => s_loadSl S rfl .h T28 (A := ch18.2.2.2.2.1) (len := ((gt t16 y83).2.2.2.2).length) (cap := ch18.2.2.2.2.2) rfl rfl fun a S => s_clearZn S rfl rfl .h2 underlying28 Z66 rfl rfl (by decide) fun w S => c_end' (x_blockN (x_thenN (c_region' (s_bin S rfl rfl rfl rfl fun a S => s_move S rfl rfl fun a S => c_end' (x_thenN ?_)))))))))
          exact ⟨_, (wr .i64 (y83 + 1)), g228, (S.sb rfl (.c1 (.c1 (.c1 (.c1 (.c1 .n)))))), h2⟩
         ·refine c_condF S rfl c7 (wp_exit (x_thenX (x_thenX (x_blockX (x_blockN (x_thenN ?_))))))
          exact j6 _ g228 A10 nn56 cp144 t14.2.2 a w (S.sb rfl (.c2 (.c2 (.c2 .n)))) h1
       refine c_region (s_move S rfl rfl fun a S => s_lenO S rfl .h2 underlying32 rfl fun a S => s_move S rfl rfl fun a S => c_end (wp_block ?_))
       replace S := S.zjunk .h3
       refine c_loop (fun q4 a w => ∃ m y85 g237 A11 nn59 cp147, St 130 m b0 [(91, (.i y85)), (90, (.i ((y79).length : Int))), (89, (.s A8 nn52 cp139)), (58, (.i y63)), (57, (.i ((t10).length : Int))), (56, (.q Y40 A5 cp102 t10)), (8, (.s A2 nn4 cp6)), (9, (.i t4)), (5, (.p g237))] [Res.cells g237 74 [.s A11 nn59 cp147], Res.row (Ty.prod yi Y69) 71 A11 nn59 cp147 t14.2.2, Res.row (Ty.atZ mz1 Y30) 30 A8 nn52 cp139 y79, Res.junk mz1, Res.row (Ty.slice Y30) 32 A2 nn4 cp6 y6] a w ∧ smithylaw13_StoreNever.l4 k y63 (smithylaw13_StoreNever.l2 k t4 y6 t10 q2) y79 t14 q4 y85 = some r) ?_ ?_ (k := k) ⟨_, 0, g213, ch13.1, ch13.2.1, ch13.2.2, (S.sb rfl (.c0 (.c0 (.c0 (.c0 (.c1 .n)))))), h1⟩
       ·rintro a w ⟨m, y85, g237, A11, nn59, cp147, S, h0⟩
        exact (nomatch (show (none : Option Bool) = some r from h0))
       ·clear S h1
        rintro q4 a w ⟨m, y85, g237, A11, nn59, cp147, S, h0⟩
        replace h0 : smithylaw13_StoreNever.b4 k y63 (smithylaw13_StoreNever.l2 k t4 y6 t10 q2) y79 t14 (smithylaw13_StoreNever.l4 k y63 (smithylaw13_StoreNever.l2 k t4 y6 t10 q2) y79 t14 q4) y85 = some r := h0
        delta smithylaw13_StoreNever.b4 at h0
        refine c_region (s_bin S rfl rfl rfl rfl fun a S => c_end (wp_seq ?_))
        rcases ite_of h0 with ⟨c9, h1⟩ | ⟨c9, h1⟩
        ·refine c_condT S rfl c9 (wp_skip (x_thenN (wp_seq (wp_block (c_region ?_)))))
         obtain ⟨c10, h2⟩ := chk_of h1; clear h1
         refine s_iaddrO S (ty' := (Ty.atZ mz1 Y30)) rfl .h2 rfl underlying32 T30 c10.1 c10.2 rfl fun g238 a hA3 S => s_ldRA S (ty' := (Ty.atZ mz1 Y30)) (i := y85) (off := 0) (fun c => ((Ty.atZ mz1 Y30).segs (gt y79 y85) c)) rfl hA3 .h2 T30 c10.1 c10.2 rfl (fun _ => rfl) rfl fun ch21 a S => ?_
         refine s_alloc S Z30 rfl ⟨rfl, rfl, rfl, rfl, rfl, trivial⟩ rfl fun g239 a w S => s_store S rfl rfl rfl (s' := [.b20 ((gt y79 y85).1), .w ((gt y79 y85).2.1), .w4 ((gt y79 y85).2.2.1), .sl ch21.2.2.2.1.1 ((gt y79 y85).2.2.2.1).length ch21.2.2.2.1.2 (atR mz1 (RdS yb ch21.2.2.2.1.1 ((gt y79 y85).2.2.2.1))), .sl ch21.2.2.2.2.1 ((gt y79 y85).2.2.2.2).length ch21.2.2.2.2.2 (atR mz1 (RdS Y66 ch21.2.2.2.2.1 ((gt y79 y85).2.2.2.2)))]) .h T30 rfl rfl fun w S => c_end (c_region (s_fieldAddr S rfl I30_3 T27 (by decide) rfl rfl fun a S => s_loadSl S rfl .h T27 (A := ch21.2.2.2.1.1) (len := ((gt y79 y85).2.2.2.1).length) (cap := ch21.2.2.2.1.2) rfl rfl fun a S => s_clearZn S rfl rfl .h4 underlying27 Z5 rfl rfl (by decide) fun w S => c_end (c_region' (s_fieldAddr S rfl I30_4 T28 (by decide) rfl rfl fun a S => s_loadSl S rfl .h T28 (A := ch21.2.2.2.2.1) (len := ((gt y79 y85).2.2.2.2).length) (cap := ch21.2.2.2.2.2) rfl rfl fun a S => s_clearZn S rfl rfl .h4 underlying28 Z66 rfl rfl (by decide) fun w S => c_end' (x_blockN (x_thenN (c_region' (s_bin S rfl rfl rfl rfl fun a S => s_move S rfl rfl fun a S => c_end' (x_thenN ?_)))))))))
         exact ⟨_, (wr .i64 (y85 + 1)), g237, A11, nn59, cp147, (S.sb rfl (.c1 (.c1 (.c1 (.c1 (.c1 .n)))))), h2⟩
        ·refine c_condF S rfl c9 (wp_exit (x_thenX (x_thenX (x_blockX (x_thenN ?_)))))
         exact j8 _ g237 A11 nn59 cp147 a w (S.sb rfl (.c0 (.c0 (.c2 .n)))) h1
      refine c_region (s_fieldAddr S rfl I40_1 T32 (by decide) rfl rfl fun a S => s_loadSl S rfl .h T32 (A := ch12.2.1) (len := ((gt t10 y63).2).length) (cap := ch12.2.2) rfl rfl fun a S => s_lenS S rfl underlying32 rfl fun a S => s_move S rfl rfl fun a S => c_end (wp_block ?_))
      replace S := S.privnew
      replace S := S.nilrow (Ty.atZ GW.m0 Y30) 30
      refine c_loop (fun q5 a w => ∃ m A12 nn61 cp159 y88 mz9 y89 A13 cp160 g252 g253 A14 cp161, St 130 m b0 [(13, (.s A12 nn61 cp159)), (65, (.i y89)), (64, (.i (((gt t10 y63).2).length : Int))), (63, (.q Y30 A13 cp160 ((gt t10 y63).2))), (12, (.p g252)), (58, (.i y63)), (57, (.i ((t10).length : Int))), (56, (.q Y40 A5 cp102 t10)), (8, (.s A2 nn4 cp6)), (9, (.i t4)), (5, (.p g253))] [Res.row (Ty.atZ mz9 Y30) 30 A12 nn61 cp159 y88, Res.priv mz9, Res.cells g252 40 [.i ((gt t10 y63).1), .q Y30 A14 cp161 ((gt t10 y63).2)], Res.row (Ty.slice Y30) 32 A2 nn4 cp6 y6, Res.cells g253 74 [.s A6 nn41 cp103], Res.row (Ty.prod yi Y69) 71 A6 nn41 cp103 y64] a w ∧ smithylaw13_StoreNever.l5 k t10 y63 y64 (smithylaw13_StoreNever.l2 k t4 y6 t10 q2) q5 y88 y89 = some r) ?_ ?_ (k := k) ⟨_, none, 0, 0, ([] : List L30), GW.m0, 0, ch12.2.1, ch12.2.2, g197, g163, ch12.2.1, ch12.2.2, (S.sb rfl (.c0 (.c0 (.c0 (.c0 (.c0 (.c0 .n))))))), h2⟩
      ·rintro a w ⟨m, A12, nn61, cp159, y88, mz9, y89, A13, cp160, g252, g253, A14, cp161, S, h0⟩
       exact (nomatch (show (none : Option Bool) = some r from h0))
      ·clear S h2
       rintro q5 a w ⟨m, A12, nn61, cp159, y88, mz9, y89, A13, cp160, g252, g253, A14, cp161, S, h0⟩
       replace h0 : smithylaw13_StoreNever.b5 k t10 y63 y64 (smithylaw13_StoreNever.l2 k t4 y6 t10 q2) (smithylaw13_StoreNever.l5 k t10 y63 y64 (smithylaw13_StoreNever.l2 k t4 y6 t10 q2) q5) y88 y89 = some r := h0
       delta smithylaw13_StoreNever.b5 at h0
       refine c_region (s_bin S rfl rfl rfl rfl fun a S => c_end (wp_seq ?_))
       rcases ite_of h0 with ⟨c11, h1⟩ | ⟨c11, h1⟩
       ·refine c_condT S rfl c11 (wp_skip (x_thenN (wp_seq (wp_block (c_region ?_)))))
        obtain ⟨c12, h2⟩ := chk_of h1; clear h1
        refine s_iaddrS S rfl rfl rfl underlying32 T30 c12.1 c12.2 rfl fun p4 a S => s_ldA S (fun (c : Unit × Unit × Unit × (Option Addr × Nat) × (Option Addr × Nat)) => (Y30.segs (gt ((gt t10 y63).2) y89) c)) rfl T30 (fun _ => rfl) rfl fun ch24 a S => ?_
        refine s_alloc S Z30 rfl ⟨rfl, rfl, rfl, rfl, rfl, trivial⟩ rfl fun g254 a w S => s_store S rfl rfl rfl (s' := [.b20 ((gt ((gt t10 y63).2) y89).1), .w ((gt ((gt t10 y63).2) y89).2.1), .w4 ((gt ((gt t10 y63).2) y89).2.2.1), .q yb ch24.2.2.2.1.1 ch24.2.2.2.1.2 ((gt ((gt t10 y63).2) y89).2.2.2.1), .q Y66 ch24.2.2.2.2.1 ch24.2.2.2.2.2 ((gt ((gt t10 y63).2) y89).2.2.2.2)]) .h T30 rfl rfl fun w S => c_end (c_region (s_bldSl S (ty' := yb) (ds := []) (z := 0) (c0 := ()) (ys := ([] : List Int)) (cs := []) rfl underlying27 J5 Z5 rfl ⟨rfl, trivial⟩ rfl rfl rfl rfl rfl rfl fun g255 a w S => s_fieldAddr S rfl I30_3 T27 (by decide) rfl rfl fun a S => s_loadSl S rfl .h1 T27 (A := ch24.2.2.2.1.1) (len := ((gt ((gt t10 y63).2) y89).2.2.2.1).length) (cap := ch24.2.2.2.1.2) rfl rfl fun a S => ?_))
        obtain ⟨c13, h3⟩ := chk_of h2; clear h2
        refine s_app S (k2 := (((gt ((gt t10 y63).2) y89).2.2.2.1).length)) (ys := ((gt ((gt t10 y63).2) y89).2.2.2.1)) rfl (fun _ _ => .h) rfl rfl rfl (RdS.src (S.get 71 (.q yb ch24.2.2.2.1.1 ch24.2.2.2.1.2 ((gt ((gt t10 y63).2) y89).2.2.2.1)) rfl).2.2.2.1 (by decide) S.frz) underlying27 J5 c13 rfl fun A15 cp162 a w S => s_fieldAddr S rfl I30_3 T27 (by decide) rfl rfl fun a S => s_store S rfl rfl rfl (s' := [.b20 ((gt ((gt t10 y63).2) y89).1), .w ((gt ((gt t10 y63).2) y89).2.1), .w4 ((gt ((gt t10 y63).2) y89).2.2.1), .s A15 (0 + (((gt ((gt t10 y63).2) y89).2.2.2.1).length)) cp162, .q Y66 ch24.2.2.2.2.1 ch24.2.2.2.2.2 ((gt ((gt t10 y63).2) y89).2.2.2.2)]) .h1 T27 rfl rfl fun w S => c_end (c_region (s_bldSl S (ty' := Y66) (ds := []) (z := ([0, 0, 0, 0], [0, 0, 0, 0])) (c0 := ((), ())) (ys := ([] : List ((List Int) × (List Int)))) (cs := []) rfl underlying28 J66 Z66 rfl ⟨rfl, rfl, trivial⟩ rfl rfl rfl rfl rfl rfl fun g256 a w S => s_fieldAddr S rfl I30_4 T28 (by decide) rfl rfl fun a S => s_loadSl S rfl .h2 T28 (A := ch24.2.2.2.2.1) (len := ((gt ((gt t10 y63).2) y89).2.2.2.2).length) (cap := ch24.2.2.2.2.2) rfl rfl fun a S => ?_))
        obtain ⟨c14, h4⟩ := chk_of h3; clear h3
        refine s_app S (k2 := (((gt ((gt t10 y63).2) y89).2.2.2.2).length)) (ys := ((gt ((gt t10 y63).2) y89).2.2.2.2)) rfl (fun _ _ => .h) rfl rfl rfl (RdS.src (S.get 76 (.q Y66 ch24.2.2.2.2.1 ch24.2.2.2.2.2 ((gt ((gt t10 y63).2) y89).2.2.2.2)) rfl).2.2.2.1 (by decide) S.frz) underlying28 J66 c14 rfl fun A16 cp163 a w S => s_fieldAddr S rfl I30_4 T28 (by decide) rfl rfl fun a S => s_store S rfl rfl rfl (s' := [.b20 ((gt ((gt t10 y63).2) y89).1), .w ((gt ((gt t10 y63).2) y89).2.1), .w4 ((gt ((gt t10 y63).2) y89).2.2.1), .s A15 (0 + (((gt ((gt t10 y63).2) y89).2.2.2.1).length)) cp162, .s A16 (0 + (((gt ((gt t10 y63).2) y89).2.2.2.2).length)) cp163]) .h2 T28 rfl rfl fun w S => c_end (c_region' (s_move S rfl rfl fun a S => s_loada S rfl .h2 T30 (s' := [.b20 ((gt ((gt t10 y63).2) y89).1), .w ((gt ((gt t10 y63).2) y89).2.1), .w4 ((gt ((gt t10 y63).2) y89).2.2.1), .s A15 (0 + (((gt ((gt t10 y63).2) y89).2.2.2.1).length)) cp162, .s A16 (0 + (((gt ((gt t10 y63).2) y89).2.2.2.2).length)) cp163]) rfl rfl fun a S => ?_))
        replace S := S.privnew
        replace S := S.privrow flatT_int .h2 (fun _ => .h)
        obtain ⟨mz10, le2, S, hro⟩ := S
        replace S := S.slot (u := 80) (d' := (.agg [.b20 ((gt ((gt t10 y63).2) y89).1), .w ((gt ((gt t10 y63).2) y89).2.1), .w4 ((gt ((gt t10 y63).2) y89).2.2.1), .sl A15 (([] : List Int) ++ ((gt ((gt t10 y63).2) y89).2.2.2.1)).length cp162 (atR mz10 (RdS yb A15 (([] : List Int) ++ ((gt ((gt t10 y63).2) y89).2.2.2.1)))), .s A16 (0 + (((gt ((gt t10 y63).2) y89).2.2.2.2).length)) cp163])) rfl (by simp [D.val, pd, cellsOf, Seg.cells, hro.2.1]) (by have h := (S.get 80 (.agg [.b20 ((gt ((gt t10 y63).2) y89).1), .w ((gt ((gt t10 y63).2) y89).2.1), .w4 ((gt ((gt t10 y63).2) y89).2.2.1), .s A15 (0 + (((gt ((gt t10 y63).2) y89).2.2.2.1).length)) cp162, .s A16 (0 + (((gt ((gt t10 y63).2) y89).2.2.2.2).length)) cp163]) rfl).2; exact ⟨h.1, h.2.1, h.2.2.1, (okz_of hro _), h.2.2.2.2.1, trivial⟩)
        replace S := S.slotz (u := 72) rfl hro
        replace S := S.privrow (flatT_prod flatT_arr flatT_arr) .h1 (fun _ => .h)
        obtain ⟨mz11, le2, S, hro⟩ := S
        replace S := S.slot (u := 72) (d' := (.sl A15 (([] : List Int) ++ ((gt ((gt t10 y63).2) y89).2.2.2.1)).length cp162 (atR mz11 (RdS yb A15 (([] : List Int) ++ ((gt ((gt t10 y63).2) y89).2.2.2.1)))))) rfl rfl (okzD_up le2 (S.get 72 (.sl A15 (([] : List Int) ++ ((gt ((gt t10 y63).2) y89).2.2.2.1)).length cp162 (atR mz10 (RdS yb A15 (([] : List Int) ++ ((gt ((gt t10 y63).2) y89).2.2.2.1))))) rfl).2)
        replace S := S.slot (u := 80) (d' := (.agg [.b20 ((gt ((gt t10 y63).2) y89).1), .w ((gt ((gt t10 y63).2) y89).2.1), .w4 ((gt ((gt t10 y63).2) y89).2.2.1), .sl A15 (([] : List Int) ++ ((gt ((gt t10 y63).2) y89).2.2.2.1)).length cp162 (atR mz11 (RdS yb A15 (([] : List Int) ++ ((gt ((gt t10 y63).2) y89).2.2.2.1)))), .s A16 (0 + (((gt ((gt t10 y63).2) y89).2.2.2.2).length)) cp163])) rfl rfl (by have h := (S.get 80 (.agg [.b20 ((gt ((gt t10 y63).2) y89).1), .w ((gt ((gt t10 y63).2) y89).2.1), .w4 ((gt ((gt t10 y63).2) y89).2.2.1), .sl A15 (([] : List Int) ++ ((gt ((gt t10 y63).2) y89).2.2.2.1)).length cp162 (atR mz10 (RdS yb A15 (([] : List Int) ++ ((gt ((gt t10 y63).2) y89).2.2.2.1)))), .s A16 (0 + (((gt ((gt t10 y63).2) y89).2.2.2.2).length)) cp163]) rfl).2; exact ⟨h.1, h.2.1, h.2.2.1, (okz_up le2 h.2.2.2.1), h.2.2.2.2.1, trivial⟩)
        replace S := S.slot (u := 80) (d' := (.agg [.b20 ((gt ((gt t10 y63).2) y89).1), .w ((gt ((gt t10 y63).2) y89).2.1), .w4 ((gt ((gt t10 y63).2) y89).2.2.1), .sl A15 (([] : List Int) ++ ((gt ((gt t10 y63).2) y89).2.2.2.1)).length cp162 (atR mz11 (RdS yb A15 (([] : List Int) ++ ((gt ((gt t10 y63).2) y89).2.2.2.1)))), .sl A16 (([] : List ((List Int) × (List Int))) ++ ((gt ((gt t10 y63).2) y89).2.2.2.2)).length cp163 (atR mz11 (RdS Y66 A16 (([] : List ((List Int) × (List Int))) ++ ((gt ((gt t10 y63).2) y89).2.2.2.2))))])) rfl (by simp [D.val, pd, cellsOf, Seg.cells, hro.2.1]) (by have h := (S.get 80 (.agg [.b20 ((gt ((gt t10 y63).2) y89).1), .w ((gt ((gt t10 y63).2) y89).2.1), .w4 ((gt ((gt t10 y63).2) y89).2.2.1), .sl A15 (([] : List Int) ++ ((gt ((gt t10 y63).2) y89).2.2.2.1)).length cp162 (atR mz11 (RdS yb A15 (([] : List Int) ++ ((gt ((gt t10 y63).2) y89).2.2.2.1)))), .s A16 (0 + (((gt ((gt t10 y63).2) y89).2.2.2.2).length)) cp163]) rfl).2; exact ⟨h.1, h.2.1, h.2.2.1, h.2.2.2.1, (okz_of hro _), trivial⟩)
        replace S := S.slotz (u := 77) rfl hro
        refine s_bldSl S (ty' := (Ty.atZ mz11 Y30)) (ds := [(0, (.agg [.b20 ((gt ((gt t10 y63).2) y89).1), .w ((gt ((gt t10 y63).2) y89).2.1), .w4 ((gt ((gt t10 y63).2) y89).2.2.1), .sl A15 (([] : List Int) ++ ((gt ((gt t10 y63).2) y89).2.2.2.1)).length cp162 (atR mz11 (RdS yb A15 (([] : List Int) ++ ((gt ((gt t10 y63).2) y89).2.2.2.1)))), .sl A16 (([] : List ((List Int) × (List Int))) ++ ((gt ((gt t10 y63).2) y89).2.2.2.2)).length cp163 (atR mz11 (RdS Y66 A16 (([] : List ((List Int) × (List Int))) ++ ((gt ((gt t10 y63).2) y89).2.2.2.2))))]))]) (z := zt1) (c0 := ((), (), (), (none, 0), (none, 0))) (ys := [((gt ((gt t10 y63).2) y89).1, (gt ((gt t10 y63).2) y89).2.1, (gt ((gt t10 y63).2) y89).2.2.1, ([] : List Int) ++ ((gt ((gt t10 y63).2) y89).2.2.2.1), ([] : List ((List Int) × (List Int))) ++ ((gt ((gt t10 y63).2) y89).2.2.2.2))]) (cs := [((), (), (), (A15, cp162), (A16, cp163))]) rfl underlying32 J30 Z30 rfl ⟨rfl, rfl, rfl, okz_nil, okz_nil, trivial⟩ rfl rfl rfl rfl rfl rfl fun g257 a w S => ?_
        replace S := S.zmerge .h1 (fun _ => .h3)
        obtain ⟨mz12, le2, le3, S⟩ := S
        replace S := S.zup (Z' := mz12) .h2 le2
        replace S := S.zup (Z' := mz12) .h le3
        replace S := S.slot (u := 77) (d' := (.sl A16 (([] : List ((List Int) × (List Int))) ++ ((gt ((gt t10 y63).2) y89).2.2.2.2)).length cp163 (atR mz12 (RdS Y66 A16 (([] : List ((List Int) × (List Int))) ++ ((gt ((gt t10 y63).2) y89).2.2.2.2)))))) rfl rfl (okzD_up le3 (S.get 77 (.sl A16 (([] : List ((List Int) × (List Int))) ++ ((gt ((gt t10 y63).2) y89).2.2.2.2)).length cp163 (atR mz11 (RdS Y66 A16 (([] : List ((List Int) × (List Int))) ++ ((gt ((gt t10 y63).2) y89).2.2.2.2))))) rfl).2)
        replace S := S.slot (u := 80) (d' := (.agg [.b20 ((gt ((gt t10 y63).2) y89).1), .w ((gt ((gt t10 y63).2) y89).2.1), .w4 ((gt ((gt t10 y63).2) y89).2.2.1), .sl A15 (([] : List Int) ++ ((gt ((gt t10 y63).2) y89).2.2.2.1)).length cp162 (atR mz12 (RdS yb A15 (([] : List Int) ++ ((gt ((gt t10 y63).2) y89).2.2.2.1)))), .sl A16 (([] : List ((List Int) × (List Int))) ++ ((gt ((gt t10 y63).2) y89).2.2.2.2)).length cp163 (atR mz12 (RdS Y66 A16 (([] : List ((List Int) × (List Int))) ++ ((gt ((gt t10 y63).2) y89).2.2.2.2))))])) rfl rfl (by have h := (S.get 80 (.agg [.b20 ((gt ((gt t10 y63).2) y89).1), .w ((gt ((gt t10 y63).2) y89).2.1), .w4 ((gt ((gt t10 y63).2) y89).2.2.1), .sl A15 (([] : List Int) ++ ((gt ((gt t10 y63).2) y89).2.2.2.1)).length cp162 (atR mz11 (RdS yb A15 (([] : List Int) ++ ((gt ((gt t10 y63).2) y89).2.2.2.1)))), .sl A16 (([] : List ((List Int) × (List Int))) ++ ((gt ((gt t10 y63).2) y89).2.2.2.2)).length cp163 (atR mz11 (RdS Y66 A16 (([] : List ((List Int) × (List Int))) ++ ((gt ((gt t10 y63).2) y89).2.2.2.2))))]) rfl).2; exact ⟨h.1, h.2.1, h.2.2.1, (okz_up le3 h.2.2.2.1), (okz_up le3 h.2.2.2.2.1), trivial⟩)
        replace S := S.slot (u := 72) (d' := (.sl A15 (([] : List Int) ++ ((gt ((gt t10 y63).2) y89).2.2.2.1)).length cp162 (atR mz12 (RdS yb A15 (([] : List Int) ++ ((gt ((gt t10 y63).2) y89).2.2.2.1)))))) rfl rfl (okzD_up le3 (S.get 72 (.sl A15 (([] : List Int) ++ ((gt ((gt t10 y63).2) y89).2.2.2.1)).length cp162 (atR mz11 (RdS yb A15 (([] : List Int) ++ ((gt ((gt t10 y63).2) y89).2.2.2.1))))) rfl).2)
        obtain ⟨c15, h5⟩ := chk_of h4; clear h4
        refine s_app S (k2 := 1) (ys := [((gt ((gt t10 y63).2) y89).1, (gt ((gt t10 y63).2) y89).2.1, (gt ((gt t10 y63).2) y89).2.2.1, ([] : List Int) ++ ((gt ((gt t10 y63).2) y89).2.2.2.1), ([] : List ((List Int) × (List Int))) ++ ((gt ((gt t10 y63).2) y89).2.2.2.2))]) rfl (fun _ _ => .h2) rfl rfl (S.holds _ (Pull.mem .h).1).1 (Res.row.src (S.holds _ (Pull.mem .h).1)) underlying32 J30 c15 rfl fun A17 cp164 a w S => s_assign S rfl rfl fun a S => c_end' (x_blockN (x_thenN (c_region' (s_bin S rfl rfl rfl rfl fun a S => s_move S rfl rfl fun a S => c_end' (x_thenN ?_)))))
        exact ⟨_, A17, (nn61 + 1), cp164, (y88 ++ [((gt ((gt t10 y63).2) y89).1, (gt ((gt t10 y63).2) y89).2.1, (gt ((gt t10 y63).2) y89).2.2.1, ([] : List Int) ++ ((gt ((gt t10 y63).2) y89).2.2.2.1), ([] : List ((List Int) × (List Int))) ++ ((gt ((gt t10 y63).2) y89).2.2.2.2))]), mz12, (wr .i64 (y89 + 1)), A13, cp160, g252, g253, A14, cp161, (S.sb rfl (.c2 (.c2 (.c2 (.c2 (.c2 (.c2 .n))))))), h5⟩
       ·refine c_condF S rfl c11 (wp_exit (x_thenX (x_thenX (x_blockX (x_thenN ?_)))))
        exact j7 _ A12 nn61 cp159 y88 mz9 g252 g253 A14 cp161 a w (S.sb rfl (.c0 (.c0 (.c0 (.c0 (.c0 (.c0 .n))))))) h1
     ·refine c_condF S rfl c5 (wp_exit (x_thenX (x_thenX (x_blockX (x_thenN ?_)))))
      exact j3 _ g163 A6 nn41 cp103 y64 a w (S.sb rfl (.c0 (.c0 (.c0 .n)))) h1
   refine c_region (s_move S rfl rfl fun a S => s_move S rfl rfl fun a S => c_end (wp_block ?_))
   replace S := S.nilrow (Ty.slice Y30) 32
   refine c_loop (fun q6 a w => ∃ m A18 nn63 cp168 y92 y93 g262, St 130 m b0 [(8, (.s A18 nn63 cp168)), (45, (.i y93)), (44, (.i t4)), (9, (.i t4)), (5, (.p g262)), (1, (.q Y40 ch_1_0 ch_1_1 x2))] [Res.row (Ty.slice Y30) 32 A18 nn63 cp168 y92, Res.cells g262 74 [.s A1 nn1 cp1], Res.row (Ty.prod yi Y69) 71 A1 nn1 cp1 y1] a w ∧ smithylaw13_StoreNever.l6 k x2 y1 t4 q6 y92 y93 = some r) ?_ ?_ (k := k) ⟨_, none, 0, 0, ([] : List (List L30)), 0, g1, (S.sb rfl (.c0 (.c0 (.c0 .n)))), h1⟩
   ·rintro a w ⟨m, A18, nn63, cp168, y92, y93, g262, S, h0⟩
    exact (nomatch (show (none : Option Bool) = some r from h0))
   ·clear S h1
    rintro q6 a w ⟨m, A18, nn63, cp168, y92, y93, g262, S, h0⟩
    replace h0 : smithylaw13_StoreNever.b6 k x2 y1 t4 (smithylaw13_StoreNever.l6 k x2 y1 t4 q6) y92 y93 = some r := h0
    delta smithylaw13_StoreNever.b6 at h0
    refine c_region (s_bin S rfl rfl rfl rfl fun a S => c_end (wp_seq ?_))
    rcases ite_of h0 with ⟨c16, h1⟩ | ⟨c16, h1⟩
    ·refine c_condT S rfl c16 (wp_skip (x_thenN (wp_seq (wp_block (c_region (s_move S rfl rfl fun a S => s_assign S rfl rfl fun a S => c_end (c_region' (s_move S rfl rfl fun a S => s_move S rfl rfl fun a S => s_move S rfl rfl fun a S => bindX h1 fun t19 et19 h2 => s_callX S (ds' := [(.p g262), (.i y93)]) (ds := [(.p g262), (.i y93)]) [Res.cells g262 74 [.s A1 nn1 cp1], Res.row (Ty.prod yi Y69) 71 A1 nn1 cp1 y1] [Res.row (Ty.slice Y30) 32 A18 nn63 cp168 y92] (fun (ch : (Option Addr) × Nat × Nat × Mem) => ((.s ch.1 ch.2.1 ch.2.2.1) : D)) (fun (ch : (Option Addr) × Nat × Nat × Mem) => [Res.row (Ty.atZ ch.2.2.2 Y30) 30 ch.1 ch.2.1 ch.2.2.1 t19, Res.priv ch.2.2.2, Res.cells g262 74 [.s A1 nn1 cp1], Res.row (Ty.prod yi Y69) 71 A1 nn1 cp1 y1]) (fun (ch : (Option Addr) × Nat × Nat × Mem) => [Res.row (Ty.atZ ch.2.2.2 Y30) 30 ch.1 ch.2.1 ch.2.2.1 t19, Res.priv ch.2.2.2, Res.cells g262 74 [.s A1 nn1 cp1], Res.row (Ty.prod yi Y69) 71 A1 nn1 cp1 y1, Res.row (Ty.slice Y30) 32 A18 nn63 cp168 y92]) (fun _ => rfl) N18 rfl rfl (fun ok => ok) (.c1 (.c1 (.c0 .n))) rfl (store_Store_All.ok k (y1) y93 g262 A1 nn1 cp1 t19 et19 _ _) fun ch27 m le1 a w S => ?_))))))))
     replace S := S.zfro .h1 .h
     obtain ⟨m, le1, S, hro⟩ := S
     replace S := S.slotro (u := 51) rfl hro
     refine s_bldSl S (ty' := (Ty.slice Y30)) (ds := [(0, (.q Y30 ch27.1 ch27.2.2.1 t19))]) (z := ([] : List L30)) (c0 := (none, 0)) (ys := [t19]) (cs := [(ch27.1, ch27.2.2.1)]) rfl underlying44 J32 Z32 rfl ⟨⟨Nat.le_refl _, Nat.zero_le _, RdS.nil _ _ _, RdS.mono _ _ _⟩, trivial⟩ rfl rfl rfl rfl rfl rfl fun g263 a w S => ?_
     obtain ⟨c17, h3⟩ := chk_of h2; clear h2
     refine s_app S (k2 := 1) (ys := [t19]) rfl (fun _ _ => .h3) rfl rfl (S.holds _ (Pull.mem .h).1).1 (Res.row.src (S.holds _ (Pull.mem .h).1)) underlying44 J32 c17 rfl fun A19 cp169 a w S => s_assign S rfl rfl fun a S => c_end' (x_blockN (x_thenN (c_region' (s_bin S rfl rfl rfl rfl fun a S => s_move S rfl rfl fun a S => c_end' (x_thenN ?_)))))
     exact ⟨_, A19, (nn63 + 1), cp169, (y92 ++ [t19]), (wr .i64 (y93 + 1)), g262, (S.sb rfl (.c3 (.c1 (.c1 .n)))), h3⟩
    ·refine c_condF S rfl c16 (wp_exit (x_thenX (x_thenX (x_blockX (x_thenN ?_)))))
     exact j2 _ A18 nn63 cp168 y92 g262 a w (S.sb rfl (.c0 (.c0 (.c0 .n)))) h1
  refine c_region (s_move S rfl rfl fun a S => bindX h3 fun t20 et20 h4 => s_callP S _ N15 rfl rfl (smithylaw13_cut.ok k x1 ch_0_0 ch_0_1 t20 et20 _ _) fun ch28 m le1 a w S => s_lenS S rfl underlying35 rfl fun a S => s_move S rfl rfl fun a S => c_end (wp_block ?_))
  refine c_loop (fun q7 a w => ∃ (m : Mem) (y95 : Int) (A20 : Option Addr) (cp172 : Nat) (g268 : Nat) (A21 : Option Addr) (nn64 : Nat) (cp173 : Nat) (y96 : List (Int × (List ((List Int) × L30)))), St 130 m b0 [(31, (.i y95)), (30, (.i ((t20).length : Int))), (29, (.q Y40 A20 cp172 t20)), (5, (.p g268)), (1, (.q Y40 ch_1_0 ch_1_1 x2))] [Res.cells g268 74 [.s A21 nn64 cp173], Res.row (Ty.prod yi Y69) 71 A21 nn64 cp173 y96] a w ∧ smithylaw13_StoreNever.l7 k x2 t20 q7 y95 y96 = some r) ?_ ?_ (k := k) ⟨_, 0, ch28.1, ch28.2, ch1.1, ch1.2.1, ch1.2.2.1, ch1.2.2.2, t1, (S.sb rfl (.c0 (.c0 .n))), h4⟩
  ·rintro a w ⟨m, y95, A20, cp172, g268, A21, nn64, cp173, y96, S, h0⟩
   exact (nomatch (show (none : Option Bool) = some r from h0))
  ·clear S h4
   rintro q7 a w ⟨m, y95, A20, cp172, g268, A21, nn64, cp173, y96, S, h0⟩
   replace h0 : smithylaw13_StoreNever.b7 k x2 t20 (smithylaw13_StoreNever.l7 k x2 t20 q7) y95 y96 = some r := h0
   delta smithylaw13_StoreNever.b7 at h0
   refine c_region (s_bin S rfl rfl rfl rfl fun a S => c_end (wp_seq ?_))
   rcases ite_of h0 with ⟨c18, h1⟩ | ⟨c18, h1⟩
   ·refine c_condT S rfl c18 (wp_skip (x_thenN (wp_seq (wp_block (c_region ?_)))))
    obtain ⟨c19, h2⟩ := chk_of h1; clear h1
    refine s_iaddrS S rfl rfl rfl underlying35 T40 c19.1 c19.2 rfl fun p7 a S => s_ldA S (fun (c : Unit × (Option Addr × Nat)) => [.i ((gt t20 y95).1), .q Y30 c.2.1 c.2.2 ((gt t20 y95).2)]) rfl T40 (fun _ => rfl) rfl fun ch33 a S => ?_
    refine s_alloc S Z40 rfl ⟨rfl, rfl, trivial⟩ rfl fun g269 a w S => s_store S rfl rfl rfl (s' := [.i ((gt t20 y95).1), .q Y30 ch33.2.1 ch33.2.2 ((gt t20 y95).2)]) .h T40 rfl rfl fun w S => c_end (c_region' (s_move S rfl rfl fun a S => s_fieldAddr S rfl I40_0 T3 (by decide) rfl rfl fun a S => s_load1 S rfl .h T3 (v := (.int .i64 ((gt t20 y95).1))) rfl rfl fun a S => s_fieldAddr S rfl I40_1 T32 (by decide) rfl rfl fun a S => s_loadSl S rfl .h T32 (A := ch33.2.1) (len := ((gt t20 y95).2).length) (cap := ch33.2.2) rfl rfl fun a S => bindX h2 fun t23 et23 h3 => s_callX S (ds' := [(.p g268), (.i ((gt t20 y95).1)), (.q Y30 ch33.2.1 ch33.2.2 ((gt t20 y95).2))]) (ds := [(.p g268), (.i ((gt t20 y95).1)), (.q Y30 ch33.2.1 ch33.2.2 ((gt t20 y95).2))]) [Res.cells g268 74 [.s A21 nn64 cp173], Res.row (Ty.prod yi Y69) 71 A21 nn64 cp173 y96] [Res.cells g269 40 [.i ((gt t20 y95).1), .q Y30 ch33.2.1 ch33.2.2 ((gt t20 y95).2)]] (fun (ch : (Option Addr) × Nat × Nat) => ((.tup [(false, [.i t23.1]), (false, [.i t23.2.1])]) : D)) (fun (ch : (Option Addr) × Nat × Nat) => [Res.cells g268 74 [.s ch.1 ch.2.1 ch.2.2], Res.row (Ty.prod yi Y69) 71 ch.1 ch.2.1 ch.2.2 t23.2.2]) (fun (ch : (Option Addr) × Nat × Nat) => [Res.cells g268 74 [.s ch.1 ch.2.1 ch.2.2], Res.row (Ty.prod yi Y69) 71 ch.1 ch.2.1 ch.2.2 t23.2.2, Res.cells g269 40 [.i ((gt t20 y95).1), .q Y30 ch33.2.1 ch33.2.2 ((gt t20 y95).2)]]) (fun _ => rfl) N16 rfl rfl (fun ok => ok) (.c1 (.c1 (.c0 .n))) rfl (store_Store_Commit.ok k (y96) ((gt t20 y95).1) ((gt t20 y95).2) g268 A21 nn64 cp173 ch33.2.1 ch33.2.2 t23 et23 _ _) fun ch34 m le1 a w S => c_end' (x_blockN (x_thenN (c_region' (s_bin S rfl rfl rfl rfl fun a S => s_move S rfl rfl fun a S => c_end' (x_thenN ?_)))))))
    exact ⟨_, (wr .i64 (y95 + 1)), A20, cp172, g268, ch34.1, ch34.2.1, ch34.2.2, t23.2.2, (S.sb rfl (.c0 (.c0 .n))), h3⟩
   ·refine c_condF S rfl c18 (wp_exit (x_thenX (x_thenX (x_blockX (x_thenN ?_)))))
    exact j1 _ g268 A21 nn64 cp173 y96 a w (S.sb rfl (.c0 (.c0 .n))) h1
abbrev smithyref01_Of.Ty : Type := (List Int) → Option ((List Int))
def smithyref01_Of.Ctr (s : smithyref01_Of.Ty) : Prop := ∀ (x1 : List Int) (r : (List Int)), Ct (C := Unit) Try.prog 42 (s x1 = some r) [] [(.a4 x1)] (fun _ => (.agg [.ints .i64 r 32])) fun _ => []
def smithyref01_Of.j1 (y1 : List Int) : Option ((List Int)) := some y1
def smithyref01_Of.b1 (x1 : List Int) (rec1 : Int → (List Int) → Option ((List Int))) (y4 : Int) (y5 : List Int) : Option ((List Int)) := if (decide (y4 < 32)) = true then (if (0 : Int) ≤ (wr .i64 (Int.tdiv y4 8)) ∧ (wr .i64 (Int.tdiv y4 8)) < 4 then (if (0 : Int) ≤ (wr .i64 (8 * (Int.tmod y4 8))) then (if (0 : Int) ≤ y4 ∧ y4 < 32 then (rec1 (wr .i64 (y4 + 1)) (y5.set (Int.toNat y4) (wr .i64 (Int.tmod (shr (rd x1 (wr .i64 (Int.tdiv y4 8))) (min (Int.toNat (wr .i64 (8 * (Int.tmod y4 8)))) 64)) 256)))) else none) else none) else none) else (smithyref01_Of.j1 y5)
def smithyref01_Of.l1 (x1 : List Int) : Nat → Int → (List Int) → Option ((List Int))
  | 0, _, _ => none
  | q + 1, y4, y5 => smithyref01_Of.b1 x1 (smithyref01_Of.l1 x1 q) y4 y5
def smithyref01_Of.f (k : Nat) (x1 : List Int) : Option ((List Int)) := smithyref01_Of.l1 x1 k 0 [0, 0, 0, 0, 0, 0, 0, 0, 0, 0, 0, 0, 0, 0, 0, 0, 0, 0, 0, 0, 0, 0, 0, 0, 0, 0, 0, 0, 0, 0, 0, 0]
theorem smithyref01_Of.ok (k : Nat) : smithyref01_Of.Ctr (smithyref01_Of.f k) := by
 intro x1 r h0 mi w0 ok hm
 delta smithyref01_Of.f at h0
 refine c_enterZ (n := 23) ok hm func42 rfl rfl rfl fun b0 hb a S => c_region (s_box S rfl rfl rfl fun g1 a w S => s_alloc S Z87 rfl ⟨rfl, trivial⟩ rfl fun g2 a w S => c_end (c_region (s_build S (ds := []) (dv := (.agg [.ints .i64 z32 32])) rfl (fun _ => by kernel_rfl) ⟨rfl, trivial⟩ rfl fun a S => s_alloc S Z87 rfl ⟨rfl, trivial⟩ rfl fun g3 a w S => s_store S rfl rfl rfl (s' := [.ints .i64 z32 32]) .h T87 rfl rfl fun w S => c_end (wp_seq_k fun K1 hK1 => ?_))))
 have j1 : ∀ m g13 g14 y1 a w, St 23 m b0 [(3, (.p g13)), (2, (.p g14))] [Res.cells g13 87 [.ints .i64 y1 32], Res.cells g14 87 [.ints .i64 z32 32]] a w → smithyref01_Of.j1 y1 = some r → K1 a w := by
  intro m g13 g14 y1 a w S h0
  delta smithyref01_Of.j1 at h0
  refine hK1 a w (c_region (s_loada S rfl .h T87 (s' := [.ints .i64 y1 32]) rfl rfl fun a S => s_store S rfl rfl rfl (s' := [.ints .i64 y1 32]) .h1 T87 rfl rfl fun w S => c_end (wp_ret ?_)))
  obtain rfl := Option.some.inj h0
  exact b_ret1 (d := (.agg [.ints .i64 y1 32])) S rfl (resD_cell rfl .h1 T87 rfl rfl) (S.rt hb)
 refine c_region (s_assign S rfl rfl fun a S => c_end (wp_block ?_))
 refine c_loop (fun q1 a w => ∃ m y4 g21 g22 g23 y5, St 23 m b0 [(4, (.i y4)), (3, (.p g21)), (2, (.p g22)), (1, (.p g23))] [Res.cells g21 87 [.ints .i64 y5 32], Res.cells g22 87 [.ints .i64 z32 32], Res.cells g23 26 [.w4 x1]] a w ∧ smithyref01_Of.l1 x1 q1 y4 y5 = some r) ?_ ?_ (k := k) ⟨_, 0, g3, g2, g1, z32, (S.sb rfl (.c0 (.c0 (.c0 .n)))), h0⟩
 ·rintro a w ⟨m, y4, g21, g22, g23, y5, S, h0⟩
  exact (nomatch (show (none : Option ((List Int))) = some r from h0))
 ·clear S h0
  rintro q1 a w ⟨m, y4, g21, g22, g23, y5, S, h0⟩
  replace h0 : smithyref01_Of.b1 x1 (smithyref01_Of.l1 x1 q1) y4 y5 = some r := h0
  delta smithyref01_Of.b1 at h0
  refine wp_seq (c_region (s_move S rfl rfl fun a S => s_bin S rfl rfl rfl rfl fun a S => c_end ?_))
  rcases ite_of h0 with ⟨c1, h1⟩ | ⟨c1, h1⟩
  ·refine c_condT S rfl c1 (wp_skip (x_thenN (wp_seq (wp_block (c_region' (s_move S rfl rfl fun a S => s_move S rfl rfl fun a S => s_quo S rfl rfl (by decide) rfl fun a S => ?_))))))
   obtain ⟨c2, h2⟩ := chk_of h1; clear h1
   refine s_iaddr S rfl rfl underlying26 T24 c2.1 c2.2 (mul1 _ _) rfl fun a S => s_loadi S (i := (wr .i64 (Int.tdiv y4 8))) rfl .h2 T24 .h rfl c2.1 c2.2 rfl fun a S => s_move S rfl rfl fun a S => s_rem S rfl rfl (by decide) rfl fun a S => s_bin S rfl rfl rfl rfl fun a S => ?_
   obtain ⟨c3, h3⟩ := chk_of h2; clear h2
   refine s_shr S (e := (min (Int.toNat (wr .i64 (8 * (Int.tmod y4 8)))) 64)) rfl rfl c3 rfl rfl fun a S => s_rem S rfl rfl (by decide) rfl fun a S => s_conv S rfl rfl underlying3 rfl fun a S => ?_
   obtain ⟨c4, h4⟩ := chk_of h3; clear h3
   refine s_iaddr S rfl rfl underlying87 T3 c4.1 c4.2 (mul1 _ _) rfl fun a S => s_storei S (i := y4) rfl rfl .h T3 .h rfl c4.1 c4.2 fun w S => c_end' (x_blockN (x_thenN (c_region' (s_move S rfl rfl fun a S => s_bin S rfl rfl rfl rfl fun a S => s_assign S rfl rfl fun a S => c_end' (x_thenN ?_)))))
   exact ⟨_, (wr .i64 (y4 + 1)), g21, g22, g23, (y5.set (Int.toNat y4) (wr .i64 (Int.tmod (shr (rd x1 (wr .i64 (Int.tdiv y4 8))) (min (Int.toNat (wr .i64 (8 * (Int.tmod y4 8)))) 64)) 256))), (S.sb rfl (.c0 (.c0 (.c0 .n)))), h4⟩
  ·refine c_condF S rfl c1 (wp_exit (x_thenX (x_thenX (x_blockX (x_thenN ?_)))))
   exact j1 _ g21 g22 y5 a w (S.sb rfl (.c0 (.c0 .n))) h1
abbrev smithyref01_Compare.Ty : Type := (List Int) → (List Int) → Option Int
def smithyref01_Compare.Ctr (s : smithyref01_Compare.Ty) : Prop := ∀ (x1 : List Int) (x2 : List Int) (r : Int), Ct (C := Unit) Try.prog 41 (s x1 x2 = some r) [] [(.agg [.ints .i64 x1 32]), (.agg [.ints .i64 x2 32])] (fun _ => (.i r)) fun _ => []
def smithyref01_Compare.j1 : Option Int := some 0
def smithyref01_Compare.b1 (x1 : List Int) (x2 : List Int) (rec1 : Int → Option Int) (y1 : Int) : Option Int := if (decide (0 ≤ y1)) = true then (if (0 : Int) ≤ y1 ∧ y1 < 32 then (if (decide ((rd x1 y1) < (rd x2 y1))) = true then (some (-1)) else (if (decide ((rd x2 y1) < (rd x1 y1))) = true then (some 1) else (rec1 (wr .i64 (y1 - 1))))) else none) else smithyref01_Compare.j1
def smithyref01_Compare.l1 (x1 : List Int) (x2 : List Int) : Nat → Int → Option Int
  | 0, _ => none
  | q + 1, y1 => smithyref01_Compare.b1 x1 x2 (smithyref01_Compare.l1 x1 x2 q) y1
def smithyref01_Compare.f (k : Nat) (x1 : List Int) (x2 : List Int) : Option Int := smithyref01_Compare.l1 x1 x2 k 31
theorem smithyref01_Compare.ok (k : Nat) : smithyref01_Compare.Ctr (smithyref01_Compare.f k) := by
 intro x1 x2 r h0 mi w0 ok hm
 delta smithyref01_Compare.f at h0
 refine c_enterZ (n := 24) ok hm func41 rfl rfl rfl fun b0 hb a S => c_region (s_box S rfl rfl rfl fun g1 a w S => s_box S rfl rfl rfl fun g2 a w S => s_assign S rfl rfl fun a S => c_end (wp_seq_k fun K1 hK1 => ?_))
 have j1 : ∀ m a w, St 24 m b0 [] [] a w → smithyref01_Compare.j1 = some r → K1 a w := by
  intro m a w S h0
  delta smithyref01_Compare.j1 at h0
  refine hK1 a w (c_region (s_assign S rfl rfl fun a S => c_end (wp_ret ?_)))
  obtain rfl := Option.some.inj h0
  exact b_ret1 (d := (.i 0)) S rfl rfl (S.rt hb)
 refine c_region (s_assign S rfl rfl fun a S => c_end (wp_block ?_))
 refine c_loop (fun q1 a w => ∃ m y1 g13 g14, St 24 m b0 [(5, (.i y1)), (3, (.p g13)), (2, (.p g14))] [Res.cells g13 87 [.ints .i64 x2 32], Res.cells g14 87 [.ints .i64 x1 32]] a w ∧ smithyref01_Compare.l1 x1 x2 q1 y1 = some r) ?_ ?_ (k := k) ⟨_, 31, g2, g1, (S.sb rfl (.c0 (.c0 .n))), h0⟩
 ·rintro a w ⟨m, y1, g13, g14, S, h0⟩
  exact (nomatch (show (none : Option Int) = some r from h0))
 ·clear S h0
  rintro q1 a w ⟨m, y1, g13, g14, S, h0⟩
  replace h0 : smithyref01_Compare.b1 x1 x2 (smithyref01_Compare.l1 x1 x2 q1) y1 = some r := h0
  delta smithyref01_Compare.b1 at h0
  refine wp_seq (c_region (s_move S rfl rfl fun a S => s_bin S rfl rfl rfl rfl fun a S => c_end ?_))
  rcases ite_of h0 with ⟨c1, h1⟩ | ⟨c1, h1⟩
  ·refine c_condT S rfl c1 (wp_skip (x_thenN (wp_seq (wp_block (wp_seq ?_)))))
   refine wp_seq (c_heldS S (.take 0 (.take 1 (.take 2 (.take 3 (.take 4 (.take 5 (.take 6 .done))))))) 7 [Res.cells g13 87 [.ints .i64 x2 32], Res.cells g14 87 [.ints .i64 x1 32]] (.c0 (.c0 .n)) ⟨Res.stay_cells, Res.stay_cells, trivial⟩ [(5, (.i y1)), (3, (.p g13)), (2, (.p g14))] (subR rfl) (by kernel_rfl) (by kernel_rfl) ?_); clear S; intro w S CL hw le
   refine h_move S CL hw le (subR rfl) rfl rfl rfl trivial fun a S CL => ?_
   obtain ⟨c2, h2⟩ := chk_of h1; clear h1
   refine h_iaddr S CL hw le (subR rfl) rfl rfl underlying87 T3 c2.1 c2.2 (mul1 _ _) rfl rfl trivial fun a S CL => h_loadi S CL hw le (subR rfl) (i := y1) rfl .h1 T3 .h rfl c2.1 c2.2 rfl rfl trivial fun a S CL => h_move S CL hw le (subR rfl) rfl rfl rfl trivial fun a S CL => h_iaddr S CL hw le (subR rfl) rfl rfl underlying87 T3 c2.1 c2.2 (mul1 _ _) rfl rfl trivial fun a S CL => h_loadi S CL hw le (subR rfl) (i := y1) rfl .h T3 .h rfl c2.1 c2.2 rfl rfl trivial fun a S CL => h_bin S CL hw le (subR rfl) rfl rfl rfl rfl rfl trivial fun a S CL => ?_
   refine h_done ?_; clear CL hw le
   refine x_thenN ?_
   rcases ite_of h2 with ⟨c3, h3⟩ | ⟨c3, h3⟩
   ·refine c_condT S rfl c3 (c_region (s_assign S rfl rfl fun a S => c_end (wp_ret (x_thenR (x_blockR (x_thenR (x_thenR (x_blockR (x_thenR ?_)))))))))
    obtain rfl := Option.some.inj h3
    exact b_ret1 (d := (.i (-1))) S rfl rfl (S.rt hb)
   ·refine c_condF S rfl c3 (wp_skip (x_thenN ?_))
    refine wp_seq (c_heldS S (.take 0 (.take 1 (.take 2 (.take 3 (.take 4 (.take 5 (.take 6 .done))))))) 7 [Res.cells g13 87 [.ints .i64 x2 32], Res.cells g14 87 [.ints .i64 x1 32]] (.c0 (.c0 .n)) ⟨Res.stay_cells, Res.stay_cells, trivial⟩ [(5, (.i y1)), (3, (.p g13)), (2, (.p g14))] (subR rfl) (by kernel_rfl) (by kernel_rfl) ?_); clear S; intro w S CL hw le
    refine h_move S CL hw le (subR rfl) rfl rfl rfl trivial fun a S CL => h_iaddr S CL hw le (subR rfl) rfl rfl underlying87 T3 c2.1 c2.2 (mul1 _ _) rfl rfl trivial fun a S CL => h_loadi S CL hw le (subR rfl) (i := y1) rfl .h1 T3 .h rfl c2.1 c2.2 rfl rfl trivial fun a S CL => h_move S CL hw le (subR rfl) rfl rfl rfl trivial fun a S CL => h_iaddr S CL hw le (subR rfl) rfl rfl underlying87 T3 c2.1 c2.2 (mul1 _ _) rfl rfl trivial fun a S CL => h_loadi S CL hw le (subR rfl) (i := y1) rfl .h T3 .h rfl c2.1 c2.2 rfl rfl trivial fun a S CL => h_bin S CL hw le (subR rfl) rfl rfl rfl rfl rfl trivial fun a S CL => ?_
    refine h_done ?_; clear CL hw le
    refine x_thenN ?_
    rcases ite_of h3 with ⟨c4, h4⟩ | ⟨c4, h4⟩
    ·refine c_condT S rfl c4 (c_region (s_assign S rfl rfl fun a S => c_end (wp_ret (x_blockR (x_thenR (x_thenR (x_blockR (x_thenR ?_))))))))
     obtain rfl := Option.some.inj h4
     exact b_ret1 (d := (.i 1)) S rfl rfl (S.rt hb)
    ·refine c_condF S rfl c4 (wp_skip (x_blockN (x_thenN (c_region' (s_move S rfl rfl fun a S => s_bin S rfl rfl rfl rfl fun a S => s_assign S rfl rfl fun a S => c_end' (x_thenN ?_))))))
     exact ⟨_, (wr .i64 (y1 - 1)), g13, g14, (S.sb rfl (.c0 (.c0 .n))), h4⟩
  ·refine c_condF S rfl c1 (wp_exit (x_thenX (x_thenX (x_blockX (x_thenN ?_)))))
   exact j1 _ a w (S.sub trivial .nil) h1
abbrev smithyref13_less.Ty : Type := (List Int) → (List Int) → Option Bool
def smithyref13_less.Ctr (s : smithyref13_less.Ty) : Prop := ∀ (x1 : List Int) (x2 : List Int) (r : Bool), Ct (C := Unit) Try.prog 29 (s x1 x2 = some r) [] [(.a4 x1), (.a4 x2)] (fun _ => (.b r)) fun _ => []
def smithyref13_less.f (k : Nat) (x1 : List Int) (x2 : List Int) : Option Bool := (smithyref01_Of.f k x1).bind fun t1 => ((smithyref01_Of.f k x2).bind fun t2 => ((smithyref01_Compare.f k t1 t2).bind fun t3 => (some (decide (t3 < 0)))))
theorem smithyref13_less.ok (k : Nat) : smithyref13_less.Ctr (smithyref13_less.f k) := by
 intro x1 x2 r h0 mi w0 ok hm
 delta smithyref13_less.f at h0
 refine c_enterZ (n := 11) ok hm func29 rfl rfl rfl fun b0 hb a S => c_region (s_box S rfl rfl rfl fun g1 a w S => s_box S rfl rfl rfl fun g2 a w S => s_assign S rfl rfl fun a S => c_end ?_)
 refine wp_seq (c_heldS S (.take 0 (.take 2 (.alts (.run 1 true (.alts (.run 3 true (.alts (.run 4 true (.take 5 (.take 6 .done)) .nil)) .nil)) .nil)))) 7 [Res.cells g2 26 [.w4 x2], Res.cells g1 26 [.w4 x1]] (.c0 (.c0 .n)) ⟨Res.stay_cells, Res.stay_cells, trivial⟩ [(3, (.p g2)), (2, (.p g1))] (subR rfl) (by kernel_rfl) (by kernel_rfl) ?_); clear S; intro w S CL hw le
 refine h_loada S CL hw le (subR rfl) rfl .h1 T26 (s' := [.w4 x1]) rfl rfl rfl trivial fun a S CL => h_loada S CL hw le (subR rfl) rfl .h T26 (s' := [.w4 x2]) rfl rfl rfl trivial fun a S CL => h_run' S rfl trivial (bindX h0 fun t1 et1 h1 => s_callP S _ N42 rfl rfl (smithyref01_Of.ok k x1 t1 et1 _ _) fun ch1 m le1 a w S => ?_)
 replace le := le.trans le1
 refine CL.bk hw S (.c0 (.c0 .n)) le fun hw => h_run' S rfl trivial (bindX h1 fun t2 et2 h2 => s_callP S _ N42 rfl rfl (smithyref01_Of.ok k x2 t2 et2 _ _) fun ch2 m le1 a w S => ?_)
 replace le := le.trans le1
 refine CL.bk hw S (.c0 (.c0 .n)) le fun hw => h_run' S rfl trivial (bindX h2 fun t3 et3 h3 => s_callP S _ N41 rfl rfl (smithyref01_Compare.ok k t1 t2 t3 et3 _ _) fun ch3 m le1 a w S => ?_)
 replace le := le.trans le1
 refine CL.bk hw S (.c0 (.c0 .n)) le fun hw => ?_
 replace CL := CL.add (t := 9) (d := (.i t3)) S rfl rfl
 refine h_bin S CL hw le (subR rfl) rfl rfl rfl rfl rfl trivial fun a S CL => h_assign S CL hw le (subR rfl) rfl rfl rfl trivial fun a S CL => ?_
 refine h_done ?_; clear CL hw le
 refine x_thenN (wp_ret ?_)
 obtain rfl := Option.some.inj h3
 exact b_ret1 (d := (.b (decide (t3 < 0)))) S rfl rfl (S.rt hb)
abbrev smithyref13_Right.Ty : Type := (L30) → Option Bool
def smithyref13_Right.Ctr (s : smithyref13_Right.Ty) : Prop := ∀ (x1 : L30) (ch_0_0 : Option Addr) (ch_0_1 : Nat) (ch_0_2 : Option Addr) (ch_0_3 : Nat) (r : Bool), Ct (C := Unit) Try.prog 11 (s x1 = some r) [] [(.agg (Y30.segs x1 ((), (), (), (ch_0_0, ch_0_1), (ch_0_2, ch_0_3))))] (fun _ => (.b r)) fun _ => []
def smithyref13_Right.j1 : Option Bool := some true
def smithyref13_Right.j2 (y1 : Int) (rec1 : Int → Option Bool) (y2 : Bool) : Option Bool := if y2 = true then (some false) else (rec1 (wr .i64 (y1 + 1)))
def smithyref13_Right.b1 (k : Nat) (x1 : L30) (rec1 : Int → Option Bool) (y1 : Int) : Option Bool := if (decide (y1 < ((x1.2.2.2.2).length : Int))) = true then (if (0 : Int) ≤ y1 ∧ y1 < ((x1.2.2.2.2).length : Int) then (if (decide ((gt x1.2.2.2.2 y1).2 = [0, 0, 0, 0])) = true then (some false) else (if (decide (0 < y1)) = true then (if (0 : Int) ≤ (wr .i64 (y1 - 1)) ∧ (wr .i64 (y1 - 1)) < ((x1.2.2.2.2).length : Int) then ((smithyref13_less.f k ((gt x1.2.2.2.2 (wr .i64 (y1 - 1))).1) ((gt x1.2.2.2.2 y1).1)).bind fun t1 => (smithyref13_Right.j2 y1 rec1 (!t1))) else none) else (smithyref13_Right.j2 y1 rec1 false))) else none) else smithyref13_Right.j1
def smithyref13_Right.l1 (k : Nat) (x1 : L30) : Nat → Int → Option Bool
  | 0, _ => none
  | q + 1, y1 => smithyref13_Right.b1 k x1 (smithyref13_Right.l1 k x1 q) y1
def smithyref13_Right.f (k : Nat) (x1 : L30) : Option Bool := smithyref13_Right.l1 k x1 k 0
theorem smithyref13_Right.ok (k : Nat) : smithyref13_Right.Ctr (smithyref13_Right.f k) := by
 intro x1 ch_0_0 ch_0_1 ch_0_2 ch_0_3 r h0 mi w0 ok hm
 delta smithyref13_Right.f at h0
 refine c_enterZ (n := 38) ok hm func11 rfl rfl rfl fun b0 hb a S => c_region (s_box S rfl rfl rfl fun g1 a w S => s_assign S rfl rfl fun a S => c_end (wp_seq_k fun K1 hK1 => ?_))
 have j1 : ∀ m a w, St 38 m b0 [] [] a w → smithyref13_Right.j1 = some r → K1 a w := by
  intro m a w S h0
  delta smithyref13_Right.j1 at h0
  refine hK1 a w (c_region (s_assign S rfl rfl fun a S => c_end (wp_ret ?_)))
  obtain rfl := Option.some.inj h0
  exact b_ret1 (d := (.b true)) S rfl rfl (S.rt hb)
 refine c_region (s_fieldAddr S rfl I30_4 T28 (by decide) rfl rfl fun a S => s_loadSl S rfl .h T28 (A := ch_0_2) (len := (x1.2.2.2.2).length) (cap := ch_0_3) rfl rfl fun a S => s_lenS S rfl underlying28 rfl fun a S => s_move S rfl rfl fun a S => c_end (wp_block ?_))
 refine c_loop (fun q1 a w => ∃ m y1 g9, St 38 m b0 [(7, (.i y1)), (6, (.i ((x1.2.2.2.2).length : Int))), (1, (.p g9))] [Res.cells g9 30 (Y30.segs x1 ((), (), (), (ch_0_0, ch_0_1), (ch_0_2, ch_0_3)))] a w ∧ smithyref13_Right.l1 k x1 q1 y1 = some r) ?_ ?_ (k := k) ⟨_, 0, g1, (S.sb rfl (.c0 .n)), h0⟩
 ·rintro a w ⟨m, y1, g9, S, h0⟩
  exact (nomatch (show (none : Option Bool) = some r from h0))
 ·clear S h0
  rintro q1 a w ⟨m, y1, g9, S, h0⟩
  replace h0 : smithyref13_Right.b1 k x1 (smithyref13_Right.l1 k x1 q1) y1 = some r := h0
  delta smithyref13_Right.b1 at h0
  refine c_region (s_bin S rfl rfl rfl rfl fun a S => c_end (wp_seq ?_))
  rcases ite_of h0 with ⟨c1, h1⟩ | ⟨c1, h1⟩
  ·refine c_condT S rfl c1 (wp_skip (x_thenN (wp_seq (wp_block (c_region (s_move S rfl rfl fun a S => s_assign S rfl rfl fun a S => c_end (wp_seq (c_region (s_fieldAddr S rfl I30_4 T28 (by decide) rfl rfl fun a S => s_loadSl S rfl .h T28 (A := ch_0_2) (len := (x1.2.2.2.2).length) (cap := ch_0_3) rfl rfl fun a S => s_move S rfl rfl fun a S => ?_)))))))))
   obtain ⟨c2, h2⟩ := chk_of h1; clear h1
   refine s_iaddrS S rfl rfl rfl underlying28 T66 c2.1 c2.2 rfl fun p1 a S => s_faddrP S (tF := (Ty.arr .u64 4)) (y := (gt x1.2.2.2.2 y1).2) rfl I66_1 T26 (by decide) (fun m h => (at_snd (at_0 h))) rfl fun a S => s_ldA S (fun (c : Unit) => [.w4 ((gt x1.2.2.2.2 y1).2)]) rfl T26 (fun _ => rfl) rfl fun ch1 a S => ?_
   refine s_build S (ds := []) (dv := (.a4 [0, 0, 0, 0])) rfl (fun _ => by kernel_rfl) ⟨rfl, trivial⟩ rfl fun a S => s_eqa S rfl rfl underlying26 underlying24 T24 Q26 rfl fun a S => c_end ?_
   rcases ite_of h2 with ⟨c3, h3⟩ | ⟨c3, h3⟩
   ·refine c_condT S rfl c3 (c_region (s_assign S rfl rfl fun a S => c_end (wp_ret (x_thenR (x_blockR (x_thenR (x_thenR (x_blockR (x_thenR ?_)))))))))
    obtain rfl := Option.some.inj h3
    exact b_ret1 (d := (.b false)) S rfl rfl (S.rt hb)
   ·refine c_condF S rfl c3 (wp_skip (x_thenN (wp_seq_k fun K2 hK2 => ?_)))
    have j2 : ∀ m y2 g10 a w, St 38 m b0 [(36, (.b y2)), (7, (.i y1)), (6, (.i ((x1.2.2.2.2).length : Int))), (1, (.p g10))] [Res.cells g10 30 (Y30.segs x1 ((), (), (), (ch_0_0, ch_0_1), (ch_0_2, ch_0_3)))] a w → smithyref13_Right.j2 y1 (smithyref13_Right.l1 k x1 q1) y2 = some r → K2 a w := by
     intro m y2 g10 a w S h0
     delta smithyref13_Right.j2 at h0
     refine hK2 a w ?_
     rcases ite_of h0 with ⟨c4, h1⟩ | ⟨c4, h1⟩
     ·refine c_condT S rfl c4 (c_region (s_assign S rfl rfl fun a S => c_end (wp_ret (x_blockR (x_thenR (x_thenR (x_blockR (x_thenR ?_))))))))
      obtain rfl := Option.some.inj h1
      exact b_ret1 (d := (.b false)) S rfl rfl (S.rt hb)
     ·refine c_condF S rfl c4 (wp_skip (x_blockN (x_thenN (c_region' (s_bin S rfl rfl rfl rfl fun a S => s_move S rfl rfl fun a S => c_end' (x_thenN ?_))))))
      exact ⟨_, (wr .i64 (y1 + 1)), g10, (S.sb rfl (.c0 .n)), h1⟩
    refine c_heldS S (.take 0 (.take 1 (.take 2 (.take 3 (.take 4 (.take 5 (.take 6 (.take 7 (.take 8 (.take 9 (.take 10 (.take 11 (.take 12 (.take 13 (.take 14 (.take 15 (.alts (.run 16 true (.take 17 (.take 18 .done)) .nil)))))))))))))))))) 19 [Res.cells g9 30 (Y30.segs x1 ((), (), (), (ch_0_0, ch_0_1), (ch_0_2, ch_0_3)))] (.c0 .n) ⟨Res.stay_cells, trivial⟩ [(3, (.i y1)), (1, (.p g9))] (subR rfl) (by kernel_rfl) (by kernel_rfl) fun w S CL hw le => ?_
    refine h_move S CL hw le (subR rfl) rfl rfl rfl trivial fun a S CL => h_bin S CL hw le (subR rfl) rfl rfl rfl rfl rfl trivial fun a S CL => h_move S CL hw le (subR rfl) rfl rfl rfl trivial fun a S CL => ?_
    rcases ite_of h3 with ⟨c5, h4⟩ | ⟨c5, h4⟩
    ·refine h_fieldAddr S CL hw le (subR rfl) rfl I30_4 T28 (by decide) rfl rfl rfl ⟨_, _, rfl, rfl, c5⟩ fun a S CL => h_loadSl S CL hw le (subR rfl) rfl .h T28 (A := ch_0_2) (len := (x1.2.2.2.2).length) (cap := ch_0_3) rfl rfl rfl ⟨_, _, rfl, rfl, c5⟩ fun a S CL => h_move S CL hw le (subR rfl) rfl rfl rfl ⟨_, _, rfl, rfl, c5⟩ fun a S CL => h_bin S CL hw le (subR rfl) rfl rfl rfl rfl rfl ⟨_, _, rfl, rfl, c5⟩ fun a S CL => ?_
     obtain ⟨c6, h5⟩ := chk_of h4; clear h4
     refine h_iaddrS S CL hw le (subR rfl) rfl rfl rfl underlying28 T66 c6.1 c6.2 rfl rfl ⟨_, _, rfl, rfl, c5⟩ fun p4 a S CL => h_faddrP S CL hw le (subR rfl) (tF := (Ty.arr .u64 4)) (y := (gt x1.2.2.2.2 (wr .i64 (y1 - 1))).1) rfl I66_0 T26 (by decide) (fun m h => (at_fst (at_0 h))) rfl rfl ⟨_, _, rfl, rfl, c5⟩ fun a S CL => h_ldA S CL hw le (subR rfl) (fun (c : Unit) => [.w4 ((gt x1.2.2.2.2 (wr .i64 (y1 - 1))).1)]) rfl T26 (fun _ => rfl) rfl rfl ⟨_, _, rfl, rfl, c5⟩ fun ch2 a S CL => ?_
     refine h_fieldAddr S CL hw le (subR rfl) rfl I30_4 T28 (by decide) rfl rfl rfl ⟨_, _, rfl, rfl, c5⟩ fun a S CL => h_loadSl S CL hw le (subR rfl) rfl .h T28 (A := ch_0_2) (len := (x1.2.2.2.2).length) (cap := ch_0_3) rfl rfl rfl ⟨_, _, rfl, rfl, c5⟩ fun a S CL => h_move S CL hw le (subR rfl) rfl rfl rfl ⟨_, _, rfl, rfl, c5⟩ fun a S CL => h_iaddrS S CL hw le (subR rfl) rfl rfl rfl underlying28 T66 c2.1 c2.2 rfl rfl ⟨_, _, rfl, rfl, c5⟩ fun p5 a S CL => h_faddrP S CL hw le (subR rfl) (tF := (Ty.arr .u64 4)) (y := (gt x1.2.2.2.2 y1).1) rfl I66_0 T26 (by decide) (fun m h => (at_fst (at_0 h))) rfl rfl ⟨_, _, rfl, rfl, c5⟩ fun a S CL => h_ldA S CL hw le (subR rfl) (fun (c : Unit) => [.w4 ((gt x1.2.2.2.2 y1).1)]) rfl T26 (fun _ => rfl) rfl rfl ⟨_, _, rfl, rfl, c5⟩ fun ch3 a S CL => ?_
     refine h_run' S rfl ⟨_, _, rfl, rfl, c5⟩ (bindX h5 fun t1 et1 h6 => s_callP S _ N29 rfl rfl (smithyref13_less.ok k ((gt x1.2.2.2.2 (wr .i64 (y1 - 1))).1) ((gt x1.2.2.2.2 y1).1) t1 et1 _ _) fun ch4 m le1 a w S => ?_)
     replace le := le.trans le1
     refine CL.bk hw S (.c0 .n) le fun hw => ?_
     replace CL := CL.add (t := 34) (d := (.b t1)) S rfl rfl
     refine h_not S CL hw le (subR rfl) rfl rfl rfl ⟨_, _, rfl, rfl, c5⟩ fun a S CL => h_pick S CL hw le (subR rfl) (b := true) (hc_of rfl c5) rfl rfl rfl trivial fun a S CL => ?_
     refine h_done ?_; clear CL hw le
     refine x_thenN ?_
     exact j2 _ (!t1) g9 a w (S.sb rfl (.c0 .n)) h6
    ·refine h_skip S CL rfl rfl rfl (ne_bool c5) rfl fun a S CL => h_skip S CL rfl rfl rfl (ne_bool c5) rfl fun a S CL => h_skip S CL rfl rfl rfl (ne_bool c5) rfl fun a S CL => h_skip S CL rfl rfl rfl (ne_bool c5) rfl fun a S CL => h_skip S CL rfl rfl rfl (ne_bool c5) rfl fun a S CL => h_skip S CL rfl rfl rfl (ne_bool c5) rfl fun a S CL => h_skip S CL rfl rfl rfl (ne_bool c5) rfl fun a S CL => h_skip S CL rfl rfl rfl (ne_bool c5) rfl fun a S CL => h_skip S CL rfl rfl rfl (ne_bool c5) rfl fun a S CL => h_skip S CL rfl rfl rfl (ne_bool c5) rfl fun a S CL => h_skip S CL rfl rfl rfl (ne_bool c5) rfl fun a S CL => h_skip S CL rfl rfl rfl (ne_bool c5) rfl fun a S CL => h_skip S CL rfl rfl rfl (ne_bool c5) rfl fun a S CL => h_skipRt S rfl rfl rfl (ne_bool c5) rfl fun a S => CL.bk hw S (.c0 .n) le fun hw => ?_
     replace CL := CL.add (t := 34) (d := .u) S rfl rfl
     refine h_skip S CL rfl rfl rfl (ne_bool c5) rfl fun a S CL => h_pick S CL hw le (subR rfl) (b := false) (hc_of rfl c5) rfl rfl rfl trivial fun a S CL => ?_
     refine h_done ?_; clear CL hw le
     refine x_thenN ?_
     exact j2 _ false g9 a w (S.sb rfl (.c0 .n)) h4
  ·refine c_condF S rfl c1 (wp_exit (x_thenX (x_thenX (x_blockX (x_thenN ?_)))))
   exact j1 _ a w (S.sub trivial .nil) h1
end
end GW
