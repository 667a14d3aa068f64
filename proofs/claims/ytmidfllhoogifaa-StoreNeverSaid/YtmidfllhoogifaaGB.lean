import Derived.Test.YtmidfllhoogifaaProg
import Derived.Test.YtmidfllhoogifaaGA
set_option linter.unusedVariables false
set_option linter.unusedSimpArgs false
set_option maxRecDepth 10000
set_option maxHeartbeats 4000000
namespace GW
open Go Go.RowKit Go.Proofs Go.Proofs.Try
noncomputable section
abbrev smithylaw13_fixed.Ty : Type := Option Bool
def smithylaw13_fixed.Ctr (s : smithylaw13_fixed.Ty) : Prop := ∀ (r : Bool), Ct (C := Unit) Try.prog 9 (s = some r) [] [] (fun _ => (.b r)) fun _ => []
def smithylaw13_fixed.f (k : Nat) : Option Bool := (store_New.f).bind fun t1 => ((store_Store_Commit.f k (t1) 0 [([0, 0, 0, 0, 0, 0, 0, 0, 0, 0, 0, 0, 0, 0, 0, 0, 0, 0, 0, 1], 0, [5, 0, 0, 0], ([] : List Int), ([] : List ((List Int) × (List Int))))]).bind fun t2 => ((store_Store_Commit.f k (t2.2.2) 0 [([0, 0, 0, 0, 0, 0, 0, 0, 0, 0, 0, 0, 0, 0, 0, 0, 0, 0, 0, 1], 0, [7, 0, 0, 0], ([] : List Int), ([] : List ((List Int) × (List Int))))]).bind fun t3 => ((store_Store_Find.f k (t3.2.2) 1 [0, 0, 0, 0, 0, 0, 0, 0, 0, 0, 0, 0, 0, 0, 0, 0, 0, 0, 0, 1]).bind fun t4 => ((store_Store_Find.f k (t3.2.2) 2 [0, 0, 0, 0, 0, 0, 0, 0, 0, 0, 0, 0, 0, 0, 0, 0, 0, 0, 0, 1]).bind fun t5 => ((store_Store_Find.f k (t3.2.2) 0 [0, 0, 0, 0, 0, 0, 0, 0, 0, 0, 0, 0, 0, 0, 0, 0, 0, 0, 0, 1]).bind fun t6 => (if (t2.1 == 1) = true then (if (t2.2.1 == 0) = true then (if (t3.1 == 2) = true then (if (t3.2.1 == 0) = true then (if (decide (t4.1.2.2.1 = [5, 0, 0, 0])) = true then (if (decide (t5.1.2.2.1 = [7, 0, 0, 0])) = true then (some (!t6.2)) else (some false)) else (some false)) else (some false)) else (some false)) else (some false)) else (some false)))))))
theorem smithylaw13_fixed.ok (k : Nat) : smithylaw13_fixed.Ctr (smithylaw13_fixed.f k) := by
 intro r h0 mi w0 ok hm
 delta smithylaw13_fixed.f at h0
 refine c_enterZ (n := 79) ok hm func9 rfl rfl rfl fun b0 hb a S => c_region (s_assign S rfl rfl fun a S => c_end (c_region (bindX h0 fun t1 et1 h1 => s_callX S (ds' := []) (ds := []) [] [] (fun (ch : Nat × (Option Addr) × Nat × Nat) => ((.v (.pointer (some ⟨ch.1, 0, none⟩))) : D)) (fun (ch : Nat × (Option Addr) × Nat × Nat) => [Res.cells ch.1 74 [.s ch.2.1 ch.2.2.1 ch.2.2.2], Res.row (Ty.prod yi Y69) 71 ch.2.1 ch.2.2.1 ch.2.2.2 t1]) (fun (ch : Nat × (Option Addr) × Nat × Nat) => [Res.cells ch.1 74 [.s ch.2.1 ch.2.2.1 ch.2.2.2], Res.row (Ty.prod yi Y69) 71 ch.2.1 ch.2.2.1 ch.2.2.2 t1]) (fun _ => rfl) N14 rfl rfl (fun ok => ok) .nil rfl (store_New.ok t1 et1 _ _) fun ch1 m le1 a w S => s_assign S rfl rfl fun a S => c_end (c_region (s_move S rfl rfl fun a S => s_build S (ds := [(19, (.v (.int .u8 1)))]) (dv := (.agg [.b20 [0, 0, 0, 0, 0, 0, 0, 0, 0, 0, 0, 0, 0, 0, 0, 0, 0, 0, 0, 1]])) rfl (fun _ => by kernel_rfl) ⟨rfl, trivial⟩ rfl fun a S => s_build S (ds := [(0, (.w 5))]) (dv := (.a4 [5, 0, 0, 0])) rfl (fun _ => by kernel_rfl) ⟨rfl, trivial⟩ rfl fun a S => s_bldS S (ds := [(0, (.agg [.b20 [0, 0, 0, 0, 0, 0, 0, 0, 0, 0, 0, 0, 0, 0, 0, 0, 0, 0, 0, 1]])), (2, (.a4 [5, 0, 0, 0]))]) (zs := [.b20 z20, .w 0, .w4 [0, 0, 0, 0], .s none 0 0, .s none 0 0]) (s' := [.b20 [0, 0, 0, 0, 0, 0, 0, 0, 0, 0, 0, 0, 0, 0, 0, 0, 0, 0, 0, 1], .w 0, .w4 [5, 0, 0, 0], .s none 0 0, .s none 0 0]) rfl underlying30 P30 Z30 ⟨rfl, rfl, rfl, rfl, rfl, trivial⟩ rfl rfl fun a S => ?_)))))
 replace S := S.slot (u := 17) (d' := (.agg [.b20 [0, 0, 0, 0, 0, 0, 0, 0, 0, 0, 0, 0, 0, 0, 0, 0, 0, 0, 0, 1], .w 0, .w4 [5, 0, 0, 0], .q yb none 0 ([] : List Int), .q Y66 none 0 ([] : List ((List Int) × (List Int)))])) rfl rfl (by have h := (S.get 17 (.agg [.b20 [0, 0, 0, 0, 0, 0, 0, 0, 0, 0, 0, 0, 0, 0, 0, 0, 0, 0, 0, 1], .w 0, .w4 [5, 0, 0, 0], .s none 0 0, .s none 0 0]) rfl).2; exact ⟨h.1, h.2.1, h.2.2.1, ok_nil, ok_nil, trivial⟩)
 refine s_bldSl S (ty' := Y30) (ds := [(0, (.agg [.b20 [0, 0, 0, 0, 0, 0, 0, 0, 0, 0, 0, 0, 0, 0, 0, 0, 0, 0, 0, 1], .w 0, .w4 [5, 0, 0, 0], .q yb none 0 ([] : List Int), .q Y66 none 0 ([] : List ((List Int) × (List Int)))]))]) (z := zt1) (c0 := ((), (), (), (none, 0), (none, 0))) (ys := [([0, 0, 0, 0, 0, 0, 0, 0, 0, 0, 0, 0, 0, 0, 0, 0, 0, 0, 0, 1], 0, [5, 0, 0, 0], ([] : List Int), ([] : List ((List Int) × (List Int))))]) (cs := [((), (), (), (none, 0), (none, 0))]) rfl underlying32 J30 Z30 rfl ⟨rfl, rfl, rfl, ⟨Nat.le_refl _, Nat.zero_le _, RdS.nil _ _ _, RdS.mono _ _ _⟩, ⟨Nat.le_refl _, Nat.zero_le _, RdS.nil _ _ _, RdS.mono _ _ _⟩, trivial⟩ rfl rfl rfl rfl rfl rfl fun g1 a w S => ?_
 replace S := S.rowfro .h
 obtain ⟨m, le1, S, hro⟩ := S
 replace S := S.slotro (u := 18) rfl hro
 refine bindX h1 fun t2 et2 h2 => s_callX S (ds' := [(.v (.pointer (some ⟨ch1.1, 0, none⟩))), (.i 0), (.q Y30 (ad g1) 1 [([0, 0, 0, 0, 0, 0, 0, 0, 0, 0, 0, 0, 0, 0, 0, 0, 0, 0, 0, 1], 0, [5, 0, 0, 0], ([] : List Int), ([] : List ((List Int) × (List Int))))])]) (ds := [(.v (.pointer (some ⟨ch1.1, 0, none⟩))), (.i 0), (.q Y30 (ad g1) 1 [([0, 0, 0, 0, 0, 0, 0, 0, 0, 0, 0, 0, 0, 0, 0, 0, 0, 0, 0, 1], 0, [5, 0, 0, 0], ([] : List Int), ([] : List ((List Int) × (List Int))))])]) [Res.cells ch1.1 74 [.s ch1.2.1 ch1.2.2.1 ch1.2.2.2], Res.row (Ty.prod yi Y69) 71 ch1.2.1 ch1.2.2.1 ch1.2.2.2 t1] [] (fun (ch : (Option Addr) × Nat × Nat) => ((.tup [(false, [.i t2.1]), (false, [.i t2.2.1])]) : D)) (fun (ch : (Option Addr) × Nat × Nat) => [Res.cells ch1.1 74 [.s ch.1 ch.2.1 ch.2.2], Res.row (Ty.prod yi Y69) 71 ch.1 ch.2.1 ch.2.2 t2.2.2]) (fun (ch : (Option Addr) × Nat × Nat) => [Res.cells ch1.1 74 [.s ch.1 ch.2.1 ch.2.2], Res.row (Ty.prod yi Y69) 71 ch.1 ch.2.1 ch.2.2 t2.2.2]) (fun _ => rfl) N16 rfl rfl (fun ok => ok) (.c0 (.c0 .n)) rfl (store_Store_Commit.ok k (t1) 0 [([0, 0, 0, 0, 0, 0, 0, 0, 0, 0, 0, 0, 0, 0, 0, 0, 0, 0, 0, 1], 0, [5, 0, 0, 0], ([] : List Int), ([] : List ((List Int) × (List Int))))] ch1.1 ch1.2.1 ch1.2.2.1 ch1.2.2.2 (ad g1) 1 t2 et2 _ _) fun ch2 m le1 a w S => s_move S rfl rfl fun a S => s_extract S rfl rfl rfl rfl fun a S => s_extract S rfl rfl rfl rfl fun a S => s_assign S rfl rfl fun a S => s_assign S rfl rfl fun a S => c_end (c_region (s_move S rfl rfl fun a S => s_build S (ds := [(19, (.v (.int .u8 1)))]) (dv := (.agg [.b20 [0, 0, 0, 0, 0, 0, 0, 0, 0, 0, 0, 0, 0, 0, 0, 0, 0, 0, 0, 1]])) rfl (fun _ => by kernel_rfl) ⟨rfl, trivial⟩ rfl fun a S => s_build S (ds := [(0, (.w 7))]) (dv := (.a4 [7, 0, 0, 0])) rfl (fun _ => by kernel_rfl) ⟨rfl, trivial⟩ rfl fun a S => s_bldS S (ds := [(0, (.agg [.b20 [0, 0, 0, 0, 0, 0, 0, 0, 0, 0, 0, 0, 0, 0, 0, 0, 0, 0, 0, 1]])), (2, (.a4 [7, 0, 0, 0]))]) (zs := [.b20 z20, .w 0, .w4 [0, 0, 0, 0], .s none 0 0, .s none 0 0]) (s' := [.b20 [0, 0, 0, 0, 0, 0, 0, 0, 0, 0, 0, 0, 0, 0, 0, 0, 0, 0, 0, 1], .w 0, .w4 [7, 0, 0, 0], .s none 0 0, .s none 0 0]) rfl underlying30 P30 Z30 ⟨rfl, rfl, rfl, rfl, rfl, trivial⟩ rfl rfl fun a S => ?_))
 replace S := S.slot (u := 26) (d' := (.agg [.b20 [0, 0, 0, 0, 0, 0, 0, 0, 0, 0, 0, 0, 0, 0, 0, 0, 0, 0, 0, 1], .w 0, .w4 [7, 0, 0, 0], .q yb none 0 ([] : List Int), .q Y66 none 0 ([] : List ((List Int) × (List Int)))])) rfl rfl (by have h := (S.get 26 (.agg [.b20 [0, 0, 0, 0, 0, 0, 0, 0, 0, 0, 0, 0, 0, 0, 0, 0, 0, 0, 0, 1], .w 0, .w4 [7, 0, 0, 0], .s none 0 0, .s none 0 0]) rfl).2; exact ⟨h.1, h.2.1, h.2.2.1, ok_nil, ok_nil, trivial⟩)
 refine s_bldSl S (ty' := Y30) (ds := [(0, (.agg [.b20 [0, 0, 0, 0, 0, 0, 0, 0, 0, 0, 0, 0, 0, 0, 0, 0, 0, 0, 0, 1], .w 0, .w4 [7, 0, 0, 0], .q yb none 0 ([] : List Int), .q Y66 none 0 ([] : List ((List Int) × (List Int)))]))]) (z := zt1) (c0 := ((), (), (), (none, 0), (none, 0))) (ys := [([0, 0, 0, 0, 0, 0, 0, 0, 0, 0, 0, 0, 0, 0, 0, 0, 0, 0, 0, 1], 0, [7, 0, 0, 0], ([] : List Int), ([] : List ((List Int) × (List Int))))]) (cs := [((), (), (), (none, 0), (none, 0))]) rfl underlying32 J30 Z30 rfl ⟨rfl, rfl, rfl, ⟨Nat.le_refl _, Nat.zero_le _, RdS.nil _ _ _, RdS.mono _ _ _⟩, ⟨Nat.le_refl _, Nat.zero_le _, RdS.nil _ _ _, RdS.mono _ _ _⟩, trivial⟩ rfl rfl rfl rfl rfl rfl fun g2 a w S => ?_
 replace S := S.rowfro .h
 obtain ⟨m, le1, S, hro⟩ := S
 replace S := S.slotro (u := 27) rfl hro
 refine bindX h2 fun t3 et3 h3 => s_callX S (ds' := [(.v (.pointer (some ⟨ch1.1, 0, none⟩))), (.i 0), (.q Y30 (ad g2) 1 [([0, 0, 0, 0, 0, 0, 0, 0, 0, 0, 0, 0, 0, 0, 0, 0, 0, 0, 0, 1], 0, [7, 0, 0, 0], ([] : List Int), ([] : List ((List Int) × (List Int))))])]) (ds := [(.v (.pointer (some ⟨ch1.1, 0, none⟩))), (.i 0), (.q Y30 (ad g2) 1 [([0, 0, 0, 0, 0, 0, 0, 0, 0, 0, 0, 0, 0, 0, 0, 0, 0, 0, 0, 1], 0, [7, 0, 0, 0], ([] : List Int), ([] : List ((List Int) × (List Int))))])]) [Res.cells ch1.1 74 [.s ch2.1 ch2.2.1 ch2.2.2], Res.row (Ty.prod yi Y69) 71 ch2.1 ch2.2.1 ch2.2.2 t2.2.2] [] (fun (ch : (Option Addr) × Nat × Nat) => ((.tup [(false, [.i t3.1]), (false, [.i t3.2.1])]) : D)) (fun (ch : (Option Addr) × Nat × Nat) => [Res.cells ch1.1 74 [.s ch.1 ch.2.1 ch.2.2], Res.row (Ty.prod yi Y69) 71 ch.1 ch.2.1 ch.2.2 t3.2.2]) (fun (ch : (Option Addr) × Nat × Nat) => [Res.cells ch1.1 74 [.s ch.1 ch.2.1 ch.2.2], Res.row (Ty.prod yi Y69) 71 ch.1 ch.2.1 ch.2.2 t3.2.2]) (fun _ => rfl) N16 rfl rfl (fun ok => ok) (.c0 (.c0 .n)) rfl (store_Store_Commit.ok k (t2.2.2) 0 [([0, 0, 0, 0, 0, 0, 0, 0, 0, 0, 0, 0, 0, 0, 0, 0, 0, 0, 0, 1], 0, [7, 0, 0, 0], ([] : List Int), ([] : List ((List Int) × (List Int))))] ch1.1 ch2.1 ch2.2.1 ch2.2.2 (ad g2) 1 t3 et3 _ _) fun ch3 m le1 a w S => s_move S rfl rfl fun a S => s_extract S rfl rfl rfl rfl fun a S => s_extract S rfl rfl rfl rfl fun a S => s_assign S rfl rfl fun a S => s_assign S rfl rfl fun a S => c_end (c_region (s_move S rfl rfl fun a S => s_build S (ds := [(19, (.v (.int .u8 1)))]) (dv := (.agg [.b20 [0, 0, 0, 0, 0, 0, 0, 0, 0, 0, 0, 0, 0, 0, 0, 0, 0, 0, 0, 1]])) rfl (fun _ => by kernel_rfl) ⟨rfl, trivial⟩ rfl fun a S => bindX h3 fun t4 et4 h4 => s_callX S (ds' := [(.v (.pointer (some ⟨ch1.1, 0, none⟩))), (.i 1), (.agg [.b20 [0, 0, 0, 0, 0, 0, 0, 0, 0, 0, 0, 0, 0, 0, 0, 0, 0, 0, 0, 1]])]) (ds := [(.v (.pointer (some ⟨ch1.1, 0, none⟩))), (.i 1), (.agg [.b20 [0, 0, 0, 0, 0, 0, 0, 0, 0, 0, 0, 0, 0, 0, 0, 0, 0, 0, 0, 1]])]) [Res.cells ch1.1 74 [.s ch3.1 ch3.2.1 ch3.2.2], Res.row (Ty.prod yi Y69) 71 ch3.1 ch3.2.1 ch3.2.2 t3.2.2] [] (fun (ch : (Option Addr) × Nat × Nat × (Option Addr) × Nat × Nat) => ((.tup [(true, [.b20 t4.1.1, .w t4.1.2.1, .w4 t4.1.2.2.1, .s ch.1 ch.2.1 ch.2.2.1, .s ch.2.2.2.1 ch.2.2.2.2.1 ch.2.2.2.2.2]), (false, [.b t4.2])]) : D)) (fun (ch : (Option Addr) × Nat × Nat × (Option Addr) × Nat × Nat) => [Res.row yb 5 ch.1 ch.2.1 ch.2.2.1 t4.1.2.2.2.1, Res.row Y66 66 ch.2.2.2.1 ch.2.2.2.2.1 ch.2.2.2.2.2 t4.1.2.2.2.2, Res.cells ch1.1 74 [.s ch3.1 ch3.2.1 ch3.2.2], Res.row (Ty.prod yi Y69) 71 ch3.1 ch3.2.1 ch3.2.2 t3.2.2]) (fun (ch : (Option Addr) × Nat × Nat × (Option Addr) × Nat × Nat) => [Res.row yb 5 ch.1 ch.2.1 ch.2.2.1 t4.1.2.2.2.1, Res.row Y66 66 ch.2.2.2.1 ch.2.2.2.2.1 ch.2.2.2.2.2 t4.1.2.2.2.2, Res.cells ch1.1 74 [.s ch3.1 ch3.2.1 ch3.2.2], Res.row (Ty.prod yi Y69) 71 ch3.1 ch3.2.1 ch3.2.2 t3.2.2]) (fun _ => rfl) N20 rfl rfl (fun ok => ok) (.c0 (.c0 .n)) rfl (store_Store_Find.ok k (t3.2.2) 1 [0, 0, 0, 0, 0, 0, 0, 0, 0, 0, 0, 0, 0, 0, 0, 0, 0, 0, 0, 1] ch1.1 ch3.1 ch3.2.1 ch3.2.2 t4 et4 _ _) fun ch4 m le1 a w S => s_move S rfl rfl fun a S => s_extract S rfl rfl rfl rfl fun a S => s_extract S rfl rfl rfl rfl fun a S => s_alloc S Z30 rfl ⟨rfl, rfl, rfl, rfl, rfl, trivial⟩ rfl fun g3 a w S => s_store S rfl rfl rfl (s' := [.b20 t4.1.1, .w t4.1.2.1, .w4 t4.1.2.2.1, .s ch4.1 ch4.2.1 ch4.2.2.1, .s ch4.2.2.2.1 ch4.2.2.2.2.1 ch4.2.2.2.2.2]) .h T30 rfl rfl fun w S => s_assign S rfl rfl fun a S => c_end (c_region (s_move S rfl rfl fun a S => s_build S (ds := [(19, (.v (.int .u8 1)))]) (dv := (.agg [.b20 [0, 0, 0, 0, 0, 0, 0, 0, 0, 0, 0, 0, 0, 0, 0, 0, 0, 0, 0, 1]])) rfl (fun _ => by kernel_rfl) ⟨rfl, trivial⟩ rfl fun a S => bindX h4 fun t5 et5 h5 => s_callX S (ds' := [(.v (.pointer (some ⟨ch1.1, 0, none⟩))), (.i 2), (.agg [.b20 [0, 0, 0, 0, 0, 0, 0, 0, 0, 0, 0, 0, 0, 0, 0, 0, 0, 0, 0, 1]])]) (ds := [(.v (.pointer (some ⟨ch1.1, 0, none⟩))), (.i 2), (.agg [.b20 [0, 0, 0, 0, 0, 0, 0, 0, 0, 0, 0, 0, 0, 0, 0, 0, 0, 0, 0, 1]])]) [Res.cells ch1.1 74 [.s ch3.1 ch3.2.1 ch3.2.2], Res.row (Ty.prod yi Y69) 71 ch3.1 ch3.2.1 ch3.2.2 t3.2.2] [Res.cells g3 30 [.b20 t4.1.1, .w t4.1.2.1, .w4 t4.1.2.2.1, .s ch4.1 ch4.2.1 ch4.2.2.1, .s ch4.2.2.2.1 ch4.2.2.2.2.1 ch4.2.2.2.2.2], Res.row yb 5 ch4.1 ch4.2.1 ch4.2.2.1 t4.1.2.2.2.1, Res.row Y66 66 ch4.2.2.2.1 ch4.2.2.2.2.1 ch4.2.2.2.2.2 t4.1.2.2.2.2] (fun (ch : (Option Addr) × Nat × Nat × (Option Addr) × Nat × Nat) => ((.tup [(true, [.b20 t5.1.1, .w t5.1.2.1, .w4 t5.1.2.2.1, .s ch.1 ch.2.1 ch.2.2.1, .s ch.2.2.2.1 ch.2.2.2.2.1 ch.2.2.2.2.2]), (false, [.b t5.2])]) : D)) (fun (ch : (Option Addr) × Nat × Nat × (Option Addr) × Nat × Nat) => [Res.row yb 5 ch.1 ch.2.1 ch.2.2.1 t5.1.2.2.2.1, Res.row Y66 66 ch.2.2.2.1 ch.2.2.2.2.1 ch.2.2.2.2.2 t5.1.2.2.2.2, Res.cells ch1.1 74 [.s ch3.1 ch3.2.1 ch3.2.2], Res.row (Ty.prod yi Y69) 71 ch3.1 ch3.2.1 ch3.2.2 t3.2.2]) (fun (ch : (Option Addr) × Nat × Nat × (Option Addr) × Nat × Nat) => [Res.row yb 5 ch.1 ch.2.1 ch.2.2.1 t5.1.2.2.2.1, Res.row Y66 66 ch.2.2.2.1 ch.2.2.2.2.1 ch.2.2.2.2.2 t5.1.2.2.2.2, Res.cells ch1.1 74 [.s ch3.1 ch3.2.1 ch3.2.2], Res.row (Ty.prod yi Y69) 71 ch3.1 ch3.2.1 ch3.2.2 t3.2.2, Res.cells g3 30 [.b20 t4.1.1, .w t4.1.2.1, .w4 t4.1.2.2.1, .s ch4.1 ch4.2.1 ch4.2.2.1, .s ch4.2.2.2.1 ch4.2.2.2.2.1 ch4.2.2.2.2.2], Res.row yb 5 ch4.1 ch4.2.1 ch4.2.2.1 t4.1.2.2.2.1, Res.row Y66 66 ch4.2.2.2.1 ch4.2.2.2.2.1 ch4.2.2.2.2.2 t4.1.2.2.2.2]) (fun _ => rfl) N20 rfl rfl (fun ok => ok) (.c3 (.c3 (.c0 (.c0 (.c0 .n))))) rfl (store_Store_Find.ok k (t3.2.2) 2 [0, 0, 0, 0, 0, 0, 0, 0, 0, 0, 0, 0, 0, 0, 0, 0, 0, 0, 0, 1] ch1.1 ch3.1 ch3.2.1 ch3.2.2 t5 et5 _ _) fun ch5 m le1 a w S => s_move S rfl rfl fun a S => s_extract S rfl rfl rfl rfl fun a S => s_extract S rfl rfl rfl rfl fun a S => s_alloc S Z30 rfl ⟨rfl, rfl, rfl, rfl, rfl, trivial⟩ rfl fun g4 a w S => s_store S rfl rfl rfl (s' := [.b20 t5.1.1, .w t5.1.2.1, .w4 t5.1.2.2.1, .s ch5.1 ch5.2.1 ch5.2.2.1, .s ch5.2.2.2.1 ch5.2.2.2.2.1 ch5.2.2.2.2.2]) .h T30 rfl rfl fun w S => s_assign S rfl rfl fun a S => c_end (c_region (s_move S rfl rfl fun a S => s_build S (ds := [(19, (.v (.int .u8 1)))]) (dv := (.agg [.b20 [0, 0, 0, 0, 0, 0, 0, 0, 0, 0, 0, 0, 0, 0, 0, 0, 0, 0, 0, 1]])) rfl (fun _ => by kernel_rfl) ⟨rfl, trivial⟩ rfl fun a S => bindX h5 fun t6 et6 h6 => s_callX S (ds' := [(.v (.pointer (some ⟨ch1.1, 0, none⟩))), (.i 0), (.agg [.b20 [0, 0, 0, 0, 0, 0, 0, 0, 0, 0, 0, 0, 0, 0, 0, 0, 0, 0, 0, 1]])]) (ds := [(.v (.pointer (some ⟨ch1.1, 0, none⟩))), (.i 0), (.agg [.b20 [0, 0, 0, 0, 0, 0, 0, 0, 0, 0, 0, 0, 0, 0, 0, 0, 0, 0, 0, 1]])]) [Res.cells ch1.1 74 [.s ch3.1 ch3.2.1 ch3.2.2], Res.row (Ty.prod yi Y69) 71 ch3.1 ch3.2.1 ch3.2.2 t3.2.2] [Res.cells g4 30 [.b20 t5.1.1, .w t5.1.2.1, .w4 t5.1.2.2.1, .s ch5.1 ch5.2.1 ch5.2.2.1, .s ch5.2.2.2.1 ch5.2.2.2.2.1 ch5.2.2.2.2.2], Res.row yb 5 ch5.1 ch5.2.1 ch5.2.2.1 t5.1.2.2.2.1, Res.row Y66 66 ch5.2.2.2.1 ch5.2.2.2.2.1 ch5.2.2.2.2.2 t5.1.2.2.2.2, Res.cells g3 30 [.b20 t4.1.1, .w t4.1.2.1, .w4 t4.1.2.2.1, .s ch4.1 ch4.2.1 ch4.2.2.1, .s ch4.2.2.2.1 ch4.2.2.2.2.1 ch4.2.2.2.2.2], Res.row yb 5 ch4.1 ch4.2.1 ch4.2.2.1 t4.1.2.2.2.1, Res.row Y66 66 ch4.2.2.2.1 ch4.2.2.2.2.1 ch4.2.2.2.2.2 t4.1.2.2.2.2] (fun (ch : (Option Addr) × Nat × Nat × (Option Addr) × Nat × Nat) => ((.tup [(true, [.b20 t6.1.1, .w t6.1.2.1, .w4 t6.1.2.2.1, .s ch.1 ch.2.1 ch.2.2.1, .s ch.2.2.2.1 ch.2.2.2.2.1 ch.2.2.2.2.2]), (false, [.b t6.2])]) : D)) (fun (ch : (Option Addr) × Nat × Nat × (Option Addr) × Nat × Nat) => [Res.row yb 5 ch.1 ch.2.1 ch.2.2.1 t6.1.2.2.2.1, Res.row Y66 66 ch.2.2.2.1 ch.2.2.2.2.1 ch.2.2.2.2.2 t6.1.2.2.2.2, Res.cells ch1.1 74 [.s ch3.1 ch3.2.1 ch3.2.2], Res.row (Ty.prod yi Y69) 71 ch3.1 ch3.2.1 ch3.2.2 t3.2.2]) (fun (ch : (Option Addr) × Nat × Nat × (Option Addr) × Nat × Nat) => [Res.row yb 5 ch.1 ch.2.1 ch.2.2.1 t6.1.2.2.2.1, Res.row Y66 66 ch.2.2.2.1 ch.2.2.2.2.1 ch.2.2.2.2.2 t6.1.2.2.2.2, Res.cells ch1.1 74 [.s ch3.1 ch3.2.1 ch3.2.2], Res.row (Ty.prod yi Y69) 71 ch3.1 ch3.2.1 ch3.2.2 t3.2.2, Res.cells g4 30 [.b20 t5.1.1, .w t5.1.2.1, .w4 t5.1.2.2.1, .s ch5.1 ch5.2.1 ch5.2.2.1, .s ch5.2.2.2.1 ch5.2.2.2.2.1 ch5.2.2.2.2.2], Res.row yb 5 ch5.1 ch5.2.1 ch5.2.2.1 t5.1.2.2.2.1, Res.row Y66 66 ch5.2.2.2.1 ch5.2.2.2.2.1 ch5.2.2.2.2.2 t5.1.2.2.2.2, Res.cells g3 30 [.b20 t4.1.1, .w t4.1.2.1, .w4 t4.1.2.2.1, .s ch4.1 ch4.2.1 ch4.2.2.1, .s ch4.2.2.2.1 ch4.2.2.2.2.1 ch4.2.2.2.2.2], Res.row yb 5 ch4.1 ch4.2.1 ch4.2.2.1 t4.1.2.2.2.1, Res.row Y66 66 ch4.2.2.2.1 ch4.2.2.2.2.1 ch4.2.2.2.2.2 t4.1.2.2.2.2]) (fun _ => rfl) N20 rfl rfl (fun ok => ok) (.c3 (.c3 (.c0 (.c0 (.c0 (.c0 (.c0 (.c0 .n)))))))) rfl (store_Store_Find.ok k (t3.2.2) 0 [0, 0, 0, 0, 0, 0, 0, 0, 0, 0, 0, 0, 0, 0, 0, 0, 0, 0, 0, 1] ch1.1 ch3.1 ch3.2.1 ch3.2.2 t6 et6 _ _) fun ch6 m le1 a w S => s_move S rfl rfl fun a S => s_extract S rfl rfl rfl rfl fun a S => s_extract S rfl rfl rfl rfl fun a S => s_alloc S Z30 rfl ⟨rfl, rfl, rfl, rfl, rfl, trivial⟩ rfl fun g5 a w S => s_store S rfl rfl rfl (s' := [.b20 t6.1.1, .w t6.1.2.1, .w4 t6.1.2.2.1, .s ch6.1 ch6.2.1 ch6.2.2.1, .s ch6.2.2.2.1 ch6.2.2.2.2.1 ch6.2.2.2.2.2]) .h T30 rfl rfl fun w S => s_assign S rfl rfl fun a S => c_end (c_region (s_move S rfl rfl fun a S => s_bin S rfl rfl rfl rfl fun a S => s_move S rfl rfl fun a S => ?_))))))))
 rcases ite_of h6 with ⟨c1, h7⟩ | ⟨c1, h7⟩
 ·refine s_gT S (b := (t2.1 == 1)) rfl rfl c1 (s_move S rfl rfl fun a S => s_gT S (b := (t2.1 == 1)) rfl rfl c1 (s_bin S rfl rfl rfl rfl fun a S => s_pick S (b := true) (hc_of rfl c1) rfl rfl fun a S => s_move S rfl rfl fun a S => ?_))
  rcases ite_of h7 with ⟨c2, h8⟩ | ⟨c2, h8⟩
  ·refine s_gT S (b := (t2.2.1 == 0)) rfl rfl c2 (s_move S rfl rfl fun a S => s_gT S (b := (t2.2.1 == 0)) rfl rfl c2 (s_bin S rfl rfl rfl rfl fun a S => s_pick S (b := true) (hc_of rfl c2) rfl rfl fun a S => s_move S rfl rfl fun a S => ?_))
   rcases ite_of h8 with ⟨c3, h9⟩ | ⟨c3, h9⟩
   ·refine s_gT S (b := (t3.1 == 2)) rfl rfl c3 (s_move S rfl rfl fun a S => s_gT S (b := (t3.1 == 2)) rfl rfl c3 (s_bin S rfl rfl rfl rfl fun a S => s_pick S (b := true) (hc_of rfl c3) rfl rfl fun a S => s_move S rfl rfl fun a S => ?_))
    rcases ite_of h9 with ⟨c4, h10⟩ | ⟨c4, h10⟩
    ·refine s_gT S (b := (t3.2.1 == 0)) rfl rfl c4 (s_fieldAddr S rfl I30_2 T26 (by decide) rfl rfl fun a S => s_gT S (b := (t3.2.1 == 0)) rfl rfl c4 (s_loada S rfl .h8 T26 (s' := [.w4 t4.1.2.2.1]) rfl rfl fun a S => s_gT S (b := (t3.2.1 == 0)) rfl rfl c4 (s_build S (ds := [(0, (.w 5))]) (dv := (.a4 [5, 0, 0, 0])) rfl (fun _ => by kernel_rfl) ⟨rfl, trivial⟩ rfl fun a S => s_gT S (b := (t3.2.1 == 0)) rfl rfl c4 (s_eqa S rfl rfl underlying26 underlying24 T24 Q26 rfl fun a S => s_pick S (b := true) (hc_of rfl c4) rfl rfl fun a S => s_move S rfl rfl fun a S => ?_))))
     rcases ite_of h10 with ⟨c5, h11⟩ | ⟨c5, h11⟩
     ·refine s_gT S (b := (decide (t4.1.2.2.1 = [5, 0, 0, 0]))) rfl rfl c5 (s_fieldAddr S rfl I30_2 T26 (by decide) rfl rfl fun a S => s_gT S (b := (decide (t4.1.2.2.1 = [5, 0, 0, 0]))) rfl rfl c5 (s_loada S rfl .h5 T26 (s' := [.w4 t5.1.2.2.1]) rfl rfl fun a S => s_gT S (b := (decide (t4.1.2.2.1 = [5, 0, 0, 0]))) rfl rfl c5 (s_build S (ds := [(0, (.w 7))]) (dv := (.a4 [7, 0, 0, 0])) rfl (fun _ => by kernel_rfl) ⟨rfl, trivial⟩ rfl fun a S => s_gT S (b := (decide (t4.1.2.2.1 = [5, 0, 0, 0]))) rfl rfl c5 (s_eqa S rfl rfl underlying26 underlying24 T24 Q26 rfl fun a S => s_pick S (b := true) (hc_of rfl c5) rfl rfl fun a S => s_move S rfl rfl fun a S => ?_))))
      rcases ite_of h11 with ⟨c6, h12⟩ | ⟨c6, h12⟩
      ·refine s_gT S (b := (decide (t5.1.2.2.1 = [7, 0, 0, 0]))) rfl rfl c6 (s_move S rfl rfl fun a S => s_gT S (b := (decide (t5.1.2.2.1 = [7, 0, 0, 0]))) rfl rfl c6 (s_not S rfl rfl fun a S => s_pick S (b := true) (hc_of rfl c6) rfl rfl fun a S => s_assign S rfl rfl fun a S => c_end (wp_ret ?_)))
       obtain rfl := Option.some.inj h12
       exact b_ret1 (d := (.b (!t6.2))) S rfl rfl (S.rt hb)
      ·refine s_gF S (b := (decide (t5.1.2.2.1 = [7, 0, 0, 0]))) rfl rfl c6 rfl fun a S => s_gF S (b := (decide (t5.1.2.2.1 = [7, 0, 0, 0]))) rfl rfl c6 rfl fun a S => s_pick S (b := false) (hc_of rfl c6) rfl rfl fun a S => s_assign S rfl rfl fun a S => c_end (wp_ret ?_)
       obtain rfl := Option.some.inj h12
       exact b_ret1 (d := (.b false)) S rfl rfl (S.rt hb)
     ·refine s_gF S (b := (decide (t4.1.2.2.1 = [5, 0, 0, 0]))) rfl rfl c5 rfl fun a S => s_gF S (b := (decide (t4.1.2.2.1 = [5, 0, 0, 0]))) rfl rfl c5 rfl fun a S => s_gF S (b := (decide (t4.1.2.2.1 = [5, 0, 0, 0]))) rfl rfl c5 rfl fun a S => s_gF S (b := (decide (t4.1.2.2.1 = [5, 0, 0, 0]))) rfl rfl c5 rfl fun a S => s_pick S (b := false) (hc_of rfl c5) rfl rfl fun a S => s_move S rfl rfl fun a S => s_gF S (b := false) rfl rfl rfl rfl fun a S => s_gF S (b := false) rfl rfl rfl rfl fun a S => s_pick S (b := false) (hc_of rfl rfl) rfl rfl fun a S => s_assign S rfl rfl fun a S => c_end (wp_ret ?_)
      obtain rfl := Option.some.inj h11
      exact b_ret1 (d := (.b false)) S rfl rfl (S.rt hb)
    ·refine s_gF S (b := (t3.2.1 == 0)) rfl rfl c4 rfl fun a S => s_gF S (b := (t3.2.1 == 0)) rfl rfl c4 rfl fun a S => s_gF S (b := (t3.2.1 == 0)) rfl rfl c4 rfl fun a S => s_gF S (b := (t3.2.1 == 0)) rfl rfl c4 rfl fun a S => s_pick S (b := false) (hc_of rfl c4) rfl rfl fun a S => s_move S rfl rfl fun a S => s_gF S (b := false) rfl rfl rfl rfl fun a S => s_gF S (b := false) rfl rfl rfl rfl fun a S => s_gF S (b := false) rfl rfl rfl rfl fun a S => s_gF S (b := false) rfl rfl rfl rfl fun a S => s_pick S (b := false) (hc_of rfl rfl) rfl rfl fun a S => s_move S rfl rfl fun a S => s_gF S (b := false) rfl rfl rfl rfl fun a S => s_gF S (b := false) rfl rfl rfl rfl fun a S => s_pick S (b := false) (hc_of rfl rfl) rfl rfl fun a S => s_assign S rfl rfl fun a S => c_end (wp_ret ?_)
     obtain rfl := Option.some.inj h10
     exact b_ret1 (d := (.b false)) S rfl rfl (S.rt hb)
   ·refine s_gF S (b := (t3.1 == 2)) rfl rfl c3 rfl fun a S => s_gF S (b := (t3.1 == 2)) rfl rfl c3 rfl fun a S => s_pick S (b := false) (hc_of rfl c3) rfl rfl fun a S => s_move S rfl rfl fun a S => s_gF S (b := false) rfl rfl rfl rfl fun a S => s_gF S (b := false) rfl rfl rfl rfl fun a S => s_gF S (b := false) rfl rfl rfl rfl fun a S => s_gF S (b := false) rfl rfl rfl rfl fun a S => s_pick S (b := false) (hc_of rfl rfl) rfl rfl fun a S => s_move S rfl rfl fun a S => s_gF S (b := false) rfl rfl rfl rfl fun a S => s_gF S (b := false) rfl rfl rfl rfl fun a S => s_gF S (b := false) rfl rfl rfl rfl fun a S => s_gF S (b := false) rfl rfl rfl rfl fun a S => s_pick S (b := false) (hc_of rfl rfl) rfl rfl fun a S => s_move S rfl rfl fun a S => s_gF S (b := false) rfl rfl rfl rfl fun a S => s_gF S (b := false) rfl rfl rfl rfl fun a S => s_pick S (b := false) (hc_of rfl rfl) rfl rfl fun a S => s_assign S rfl rfl fun a S => c_end (wp_ret ?_)
    obtain rfl := Option.some.inj h9
    exact b_ret1 (d := (.b false)) S rfl rfl (S.rt hb)
  ·refine s_gF S (b := (t2.2.1 == 0)) rfl rfl c2 rfl fun a S => s_gF S (b := (t2.2.1 == 0)) rfl rfl c2 rfl fun a S => s_pick S (b := false) (hc_of rfl c2) rfl rfl fun a S => s_move S rfl rfl fun a S => s_gF S (b := false) rfl rfl rfl rfl fun a S => s_gF S (b := false) rfl rfl rfl rfl fun a S => s_pick S (b := false) (hc_of rfl rfl) rfl rfl fun a S => s_move S rfl rfl fun a S => s_gF S (b := false) rfl rfl rfl rfl fun a S => s_gF S (b := false) rfl rfl rfl rfl fun a S => s_gF S (b := false) rfl rfl rfl rfl fun a S => s_gF S (b := false) rfl rfl rfl rfl fun a S => s_pick S (b := false) (hc_of rfl rfl) rfl rfl fun a S => s_move S rfl rfl fun a S => s_gF S (b := false) rfl rfl rfl rfl fun a S => s_gF S (b := false) rfl rfl rfl rfl fun a S => s_gF S (b := false) rfl rfl rfl rfl fun a S => s_gF S (b := false) rfl rfl rfl rfl fun a S => s_pick S (b := false) (hc_of rfl rfl) rfl rfl fun a S => s_move S rfl rfl fun a S => s_gF S (b := false) rfl rfl rfl rfl fun a S => s_gF S (b := false) rfl rfl rfl rfl fun a S => s_pick S (b := false) (hc_of rfl rfl) rfl rfl fun a S => s_assign S rfl rfl fun a S => c_end (wp_ret ?_)
   obtain rfl := Option.some.inj h8
   exact b_ret1 (d := (.b false)) S rfl rfl (S.rt hb)
 ·refine s_gF S (b := (t2.1 == 1)) rfl rfl c1 rfl fun a S => s_gF S (b := (t2.1 == 1)) rfl rfl c1 rfl fun a S => s_pick S (b := false) (hc_of rfl c1) rfl rfl fun a S => s_move S rfl rfl fun a S => s_gF S (b := false) rfl rfl rfl rfl fun a S => s_gF S (b := false) rfl rfl rfl rfl fun a S => s_pick S (b := false) (hc_of rfl rfl) rfl rfl fun a S => s_move S rfl rfl fun a S => s_gF S (b := false) rfl rfl rfl rfl fun a S => s_gF S (b := false) rfl rfl rfl rfl fun a S => s_pick S (b := false) (hc_of rfl rfl) rfl rfl fun a S => s_move S rfl rfl fun a S => s_gF S (b := false) rfl rfl rfl rfl fun a S => s_gF S (b := false) rfl rfl rfl rfl fun a S => s_gF S (b := false) rfl rfl rfl rfl fun a S => s_gF S (b := false) rfl rfl rfl rfl fun a S => s_pick S (b := false) (hc_of rfl rfl) rfl rfl fun a S => s_move S rfl rfl fun a S => s_gF S (b := false) rfl rfl rfl rfl fun a S => s_gF S (b := false) rfl rfl rfl rfl fun a S => s_gF S (b := false) rfl rfl rfl rfl fun a S => s_gF S (b := false) rfl rfl rfl rfl fun a S => s_pick S (b := false) (hc_of rfl rfl) rfl rfl fun a S => s_move S rfl rfl fun a S => s_gF S (b := false) rfl rfl rfl rfl fun a S => s_gF S (b := false) rfl rfl rfl rfl fun a S => s_pick S (b := false) (hc_of rfl rfl) rfl rfl fun a S => s_assign S rfl rfl fun a S => c_end (wp_ret ?_)
  obtain rfl := Option.some.inj h7
  exact b_ret1 (d := (.b false)) S rfl rfl (S.rt hb)
abbrev smithyref13_Great.Ty : Type := (List L30) → Option Bool
def smithyref13_Great.Ctr (s : smithyref13_Great.Ty) : Prop := ∀ (x1 : List L30) (ch_0_0 : Option Addr) (ch_0_1 : Nat) (r : Bool), Ct (C := Unit) Try.prog 8 (s x1 = some r) [] [(.q Y30 ch_0_0 ch_0_1 x1)] (fun _ => (.b r)) fun _ => []
def smithyref13_Great.j1 : Option Bool := some false
def smithyref13_Great.j2 (y1 : Int) (rec1 : Int → Option Bool) (y2 : Bool) : Option Bool := if y2 = true then (some true) else (rec1 (wr .i64 (y1 + 1)))
def smithyref13_Great.b1 (x1 : List L30) (rec1 : Int → Option Bool) (y1 : Int) : Option Bool := if (decide (y1 < ((x1).length : Int))) = true then (if (0 : Int) ≤ y1 ∧ y1 < ((x1).length : Int) then (if (decide (3000 < (((gt x1 y1).2.2.2.1).length : Int))) = true then (smithyref13_Great.j2 y1 rec1 true) else (smithyref13_Great.j2 y1 rec1 (decide (100 < (((gt x1 y1).2.2.2.2).length : Int))))) else none) else smithyref13_Great.j1
def smithyref13_Great.l1 (x1 : List L30) : Nat → Int → Option Bool
  | 0, _ => none
  | q + 1, y1 => smithyref13_Great.b1 x1 (smithyref13_Great.l1 x1 q) y1
def smithyref13_Great.f (k : Nat) (x1 : List L30) : Option Bool := if (decide (50 < ((x1).length : Int))) = true then (some true) else (smithyref13_Great.l1 x1 k 0)
theorem smithyref13_Great.ok (k : Nat) : smithyref13_Great.Ctr (smithyref13_Great.f k) := by
 intro x1 ch_0_0 ch_0_1 r h0 mi w0 ok hm
 delta smithyref13_Great.f at h0
 refine c_enterZ (n := 29) ok hm func8 rfl rfl rfl fun b0 hb a S => c_region (s_assign S rfl rfl fun a S => c_end (wp_seq (c_region (s_move S rfl rfl fun a S => s_lenS S rfl underlying32 rfl fun a S => s_bin S rfl rfl rfl rfl fun a S => c_end ?_))))
 rcases ite_of h0 with ⟨c1, h1⟩ | ⟨c1, h1⟩
 ·refine c_condT S rfl c1 (c_region (s_assign S rfl rfl fun a S => c_end (wp_ret (x_thenR ?_))))
  obtain rfl := Option.some.inj h1
  exact b_ret1 (d := (.b true)) S rfl rfl (S.rt hb)
 ·refine c_condF S rfl c1 (wp_skip (x_thenN (wp_seq_k fun K1 hK1 => ?_)))
  have j1 : ∀ m a w, St 29 m b0 [] [] a w → smithyref13_Great.j1 = some r → K1 a w := by
   intro m a w S h0
   delta smithyref13_Great.j1 at h0
   refine hK1 a w (c_region (s_assign S rfl rfl fun a S => c_end (wp_ret ?_)))
   obtain rfl := Option.some.inj h0
   exact b_ret1 (d := (.b false)) S rfl rfl (S.rt hb)
  refine c_region (s_move S rfl rfl fun a S => s_lenS S rfl underlying32 rfl fun a S => s_move S rfl rfl fun a S => c_end (wp_block ?_))
  refine c_loop (fun q1 a w => ∃ m y1, St 29 m b0 [(9, (.i y1)), (8, (.i ((x1).length : Int))), (0, (.q Y30 ch_0_0 ch_0_1 x1))] [] a w ∧ smithyref13_Great.l1 x1 q1 y1 = some r) ?_ ?_ (k := k) ⟨_, 0, (S.sb rfl .nil), h1⟩
  ·rintro a w ⟨m, y1, S, h0⟩
   exact (nomatch (show (none : Option Bool) = some r from h0))
  ·clear S h1
   rintro q1 a w ⟨m, y1, S, h0⟩
   replace h0 : smithyref13_Great.b1 x1 (smithyref13_Great.l1 x1 q1) y1 = some r := h0
   delta smithyref13_Great.b1 at h0
   refine c_region (s_bin S rfl rfl rfl rfl fun a S => c_end (wp_seq ?_))
   rcases ite_of h0 with ⟨c2, h1⟩ | ⟨c2, h1⟩
   ·refine c_condT S rfl c2 (wp_skip (x_thenN (wp_seq (wp_block (c_region (s_move S rfl rfl fun a S => s_assign S rfl rfl fun a S => c_end (wp_seq_k fun K2 hK2 => ?_)))))))
    have j2 : ∀ m y2 a w, St 29 m b0 [(27, (.b y2)), (9, (.i y1)), (8, (.i ((x1).length : Int))), (0, (.q Y30 ch_0_0 ch_0_1 x1))] [] a w → smithyref13_Great.j2 y1 (smithyref13_Great.l1 x1 q1) y2 = some r → K2 a w := by
     intro m y2 a w S h0
     delta smithyref13_Great.j2 at h0
     refine hK2 a w ?_
     rcases ite_of h0 with ⟨c3, h1⟩ | ⟨c3, h1⟩
     ·refine c_condT S rfl c3 (c_region (s_assign S rfl rfl fun a S => c_end (wp_ret (x_blockR (x_thenR (x_thenR (x_blockR (x_thenR ?_))))))))
      obtain rfl := Option.some.inj h1
      exact b_ret1 (d := (.b true)) S rfl rfl (S.rt hb)
     ·refine c_condF S rfl c3 (wp_skip (x_blockN (x_thenN (c_region' (s_bin S rfl rfl rfl rfl fun a S => s_move S rfl rfl fun a S => c_end' (x_thenN ?_))))))
      exact ⟨_, (wr .i64 (y1 + 1)), (S.sb rfl .nil), h1⟩
    refine c_region' (s_move S rfl rfl fun a S => s_move S rfl rfl fun a S => ?_)
    obtain ⟨c4, h2⟩ := chk_of h1; clear h1
    refine s_iaddrS S rfl rfl rfl underlying32 T30 c4.1 c4.2 rfl fun p1 a S => s_faddrP S (tF := (Ty.slice yb)) (y := (gt x1 y1).2.2.2.1) rfl I30_3 T27 (by decide) (fun m h => (at_fst (at_snd (at_snd (at_snd (at_0 h)))))) rfl fun a S => s_ldS S (fun c => c) rfl T27 (fun _ => rfl) rfl fun A1 cp1 a S => s_lenS S rfl underlying27 rfl fun a S => s_bin S rfl rfl rfl rfl fun a S => s_move S rfl rfl fun a S => ?_
    rcases ite_of h2 with ⟨c5, h3⟩ | ⟨c5, h3⟩
    ·refine s_gF S (b := (decide (3000 < (((gt x1 y1).2.2.2.1).length : Int)))) rfl rfl c5 rfl fun a S => s_gF S (b := (decide (3000 < (((gt x1 y1).2.2.2.1).length : Int)))) rfl rfl c5 rfl fun a S => s_gF S (b := (decide (3000 < (((gt x1 y1).2.2.2.1).length : Int)))) rfl rfl c5 rfl fun a S => s_gF S (b := (decide (3000 < (((gt x1 y1).2.2.2.1).length : Int)))) rfl rfl c5 rfl fun a S => s_gF S (b := (decide (3000 < (((gt x1 y1).2.2.2.1).length : Int)))) rfl rfl c5 rfl fun a S => s_gF S (b := (decide (3000 < (((gt x1 y1).2.2.2.1).length : Int)))) rfl rfl c5 rfl fun a S => s_gF S (b := (decide (3000 < (((gt x1 y1).2.2.2.1).length : Int)))) rfl rfl c5 rfl fun a S => s_pick S (b := true) (hc_of rfl c5) rfl rfl fun a S => c_end' (x_thenN ?_)
     exact j2 _ true a w (S.sb rfl .nil) h3
    ·refine s_gT S (b := (decide (3000 < (((gt x1 y1).2.2.2.1).length : Int)))) rfl rfl c5 (s_move S rfl rfl fun a S => s_gT S (b := (decide (3000 < (((gt x1 y1).2.2.2.1).length : Int)))) rfl rfl c5 (s_move S rfl rfl fun a S => s_gT S (b := (decide (3000 < (((gt x1 y1).2.2.2.1).length : Int)))) rfl rfl c5 (s_iaddrS S rfl rfl rfl underlying32 T30 c4.1 c4.2 rfl fun p2 a S => s_gT S (b := (decide (3000 < (((gt x1 y1).2.2.2.1).length : Int)))) rfl rfl c5 (s_faddrP S (tF := (Ty.slice Y66)) (y := (gt x1 y1).2.2.2.2) rfl I30_4 T28 (by decide) (fun m h => (at_snd (at_snd (at_snd (at_snd (at_0 h)))))) rfl fun a S => s_gT S (b := (decide (3000 < (((gt x1 y1).2.2.2.1).length : Int)))) rfl rfl c5 (s_ldS S (fun c => c) rfl T28 (fun _ => rfl) rfl fun A2 cp2 a S => s_gT S (b := (decide (3000 < (((gt x1 y1).2.2.2.1).length : Int)))) rfl rfl c5 (s_lenS S rfl underlying28 rfl fun a S => s_gT S (b := (decide (3000 < (((gt x1 y1).2.2.2.1).length : Int)))) rfl rfl c5 (s_bin S rfl rfl rfl rfl fun a S => s_pick S (b := false) (hc_of rfl c5) rfl rfl fun a S => c_end' (x_thenN ?_))))))))
     exact j2 _ (decide (100 < (((gt x1 y1).2.2.2.2).length : Int))) a w (S.sb rfl .nil) h3
   ·refine c_condF S rfl c2 (wp_exit (x_thenX (x_thenX (x_blockX (x_thenN ?_)))))
    exact j1 _ a w (S.sub trivial .nil) h1
abbrev smithylaw13_cut.Ty : Type := (List (Int × (List L30))) → Option ((List (Int × (List L30))))
def smithylaw13_cut.Ctr (s : smithylaw13_cut.Ty) : Prop := ∀ (x1 : List (Int × (List L30))) (ch_0_0 : Option Addr) (ch_0_1 : Nat) (r : (List (Int × (List L30)))), Ct (C := ((Option Addr) × Nat)) Try.prog 15 (s x1 = some r) [] [(.q Y40 ch_0_0 ch_0_1 x1)] (fun ch => (.q Y40 ch.1 ch.2 r)) fun _ => []
def smithylaw13_cut.j1 (x1 : List (Int × (List L30))) : Option ((List (Int × (List L30)))) := some x1
def smithylaw13_cut.j2 (x1 : List (Int × (List L30))) (y1 : Int) (rec1 : Int → Option ((List (Int × (List L30))))) (y2 : Bool) : Option ((List (Int × (List L30)))) := if y2 = true then (if (0 : Int) ≤ 0 ∧ (0 : Int) ≤ y1 ∧ y1 ≤ ((x1).length : Int) then (some (x1.take (Int.toNat y1))) else none) else (rec1 (wr .i64 (y1 + 1)))
def smithylaw13_cut.b1 (k : Nat) (x1 : List (Int × (List L30))) (rec1 : Int → Option ((List (Int × (List L30))))) (y1 : Int) : Option ((List (Int × (List L30)))) := if (decide (y1 < ((x1).length : Int))) = true then (if (0 : Int) ≤ y1 ∧ y1 < ((x1).length : Int) then (if (decide (30 < y1)) = true then (smithylaw13_cut.j2 x1 y1 rec1 true) else ((smithyref13_Great.f k ((gt x1 y1).2)).bind fun t1 => (smithylaw13_cut.j2 x1 y1 rec1 t1))) else none) else (smithylaw13_cut.j1 x1)
def smithylaw13_cut.l1 (k : Nat) (x1 : List (Int × (List L30))) : Nat → Int → Option ((List (Int × (List L30))))
  | 0, _ => none
  | q + 1, y1 => smithylaw13_cut.b1 k x1 (smithylaw13_cut.l1 k x1 q) y1
def smithylaw13_cut.f (k : Nat) (x1 : List (Int × (List L30))) : Option ((List (Int × (List L30)))) := smithylaw13_cut.l1 k x1 k 0
theorem smithylaw13_cut.ok (k : Nat) : smithylaw13_cut.Ctr (smithylaw13_cut.f k) := by
 intro x1 ch_0_0 ch_0_1 r h0 mi w0 ok hm
 delta smithylaw13_cut.f at h0
 refine c_enterZ (n := 24) ok hm func15 rfl rfl rfl fun b0 hb a S => c_region (s_assign S rfl rfl fun a S => c_end (wp_seq_k fun K1 hK1 => ?_))
 have j1 : ∀ m a w, St 24 m b0 [(0, (.q Y40 ch_0_0 ch_0_1 x1))] [] a w → smithylaw13_cut.j1 x1 = some r → K1 a w := by
  intro m a w S h0
  delta smithylaw13_cut.j1 at h0
  refine hK1 a w (c_region (s_move S rfl rfl fun a S => s_assign S rfl rfl fun a S => c_end (wp_ret ?_)))
  obtain rfl := Option.some.inj h0
  exact b_ret1 (d := (.q Y40 ch_0_0 ch_0_1 x1)) S rfl rfl fun ok => S.retX (Hx := []) hb _ _ ((ch_0_0, ch_0_1) : (Option Addr) × Nat) .nil ok
 refine c_region (s_move S rfl rfl fun a S => s_lenS S rfl underlying35 rfl fun a S => s_move S rfl rfl fun a S => c_end (wp_block ?_))
 refine c_loop (fun q1 a w => ∃ m y1, St 24 m b0 [(7, (.i y1)), (6, (.i ((x1).length : Int))), (5, (.q Y40 ch_0_0 ch_0_1 x1)), (0, (.q Y40 ch_0_0 ch_0_1 x1))] [] a w ∧ smithylaw13_cut.l1 k x1 q1 y1 = some r) ?_ ?_ (k := k) ⟨_, 0, (S.sb rfl .nil), h0⟩
 ·rintro a w ⟨m, y1, S, h0⟩
  exact (nomatch (show (none : Option ((List (Int × (List L30))))) = some r from h0))
 ·clear S h0
  rintro q1 a w ⟨m, y1, S, h0⟩
  replace h0 : smithylaw13_cut.b1 k x1 (smithylaw13_cut.l1 k x1 q1) y1 = some r := h0
  delta smithylaw13_cut.b1 at h0
  refine c_region (s_bin S rfl rfl rfl rfl fun a S => c_end (wp_seq ?_))
  rcases ite_of h0 with ⟨c1, h1⟩ | ⟨c1, h1⟩
  ·refine c_condT S rfl c1 (wp_skip (x_thenN (wp_seq (wp_block (c_region (s_move S rfl rfl fun a S => ?_))))))
   obtain ⟨c2, h2⟩ := chk_of h1; clear h1
   refine s_iaddrS S rfl rfl rfl underlying35 T40 c2.1 c2.2 rfl fun p1 a S => s_ldA S (fun (c : Unit × (Option Addr × Nat)) => [.i ((gt x1 y1).1), .q Y30 c.2.1 c.2.2 ((gt x1 y1).2)]) rfl T40 (fun _ => rfl) rfl fun ch1 a S => ?_
   refine s_alloc S Z40 rfl ⟨rfl, rfl, trivial⟩ rfl fun g1 a w S => s_assign S rfl rfl fun a S => s_store S rfl rfl rfl (s' := [.i ((gt x1 y1).1), .q Y30 ch1.2.1 ch1.2.2 ((gt x1 y1).2)]) .h T40 rfl rfl fun w S => c_end (wp_seq_k fun K2 hK2 => ?_)
   have j2 : ∀ m y2 a w, St 24 m b0 [(18, (.b y2)), (3, (.i y1)), (7, (.i y1)), (6, (.i ((x1).length : Int))), (5, (.q Y40 ch_0_0 ch_0_1 x1)), (0, (.q Y40 ch_0_0 ch_0_1 x1))] [] a w → smithylaw13_cut.j2 x1 y1 (smithylaw13_cut.l1 k x1 q1) y2 = some r → K2 a w := by
    intro m y2 a w S h0
    delta smithylaw13_cut.j2 at h0
    refine hK2 a w ?_
    rcases ite_of h0 with ⟨c3, h1⟩ | ⟨c3, h1⟩
    ·refine c_condT S rfl c3 (c_region (s_move S rfl rfl fun a S => s_move S rfl rfl fun a S => ?_))
     obtain ⟨c4, h2⟩ := chk_of h1; clear h1
     refine s_cutS S (i := 0) (j := y1) (ys := x1.take (Int.toNat y1)) rfl rfl underlying35 T40 (.inl ⟨rfl, rfl⟩) (.inr ⟨_, _, rfl, rfl⟩) c4 rfl (cut_pre rfl) fun A1 cp1 a S => s_assign S rfl rfl fun a S => c_end (wp_ret (x_blockR (x_thenR (x_thenR (x_blockR (x_thenR ?_))))))
     obtain rfl := Option.some.inj h2
     exact b_ret1 (d := (.q Y40 A1 cp1 (x1.take (Int.toNat y1)))) S rfl rfl fun ok => S.retX (Hx := []) hb _ _ ((A1, cp1) : (Option Addr) × Nat) .nil ok
    ·refine c_condF S rfl c3 (wp_skip (x_blockN (x_thenN (c_region' (s_bin S rfl rfl rfl rfl fun a S => s_move S rfl rfl fun a S => c_end' (x_thenN ?_))))))
     exact ⟨_, (wr .i64 (y1 + 1)), (S.sb rfl .nil), h1⟩
   refine c_region' (s_move S rfl rfl fun a S => s_bin S rfl rfl rfl rfl fun a S => s_move S rfl rfl fun a S => ?_)
   rcases ite_of h2 with ⟨c5, h3⟩ | ⟨c5, h3⟩
   ·refine s_gF S (b := (decide (30 < y1))) rfl rfl c5 rfl fun a S => s_gF S (b := (decide (30 < y1))) rfl rfl c5 rfl fun a S => s_gF S (b := (decide (30 < y1))) rfl rfl c5 rfl fun a S => s_pick S (b := true) (hc_of rfl c5) rfl rfl fun a S => c_end' (x_thenN ?_)
    exact j2 _ true a w (S.sb rfl .nil) h3
   ·refine s_gT S (b := (decide (30 < y1))) rfl rfl c5 (s_fieldAddr S rfl I40_1 T32 (by decide) rfl rfl fun a S => s_gT S (b := (decide (30 < y1))) rfl rfl c5 (s_loadSl S rfl .h T32 (A := ch1.2.1) (len := ((gt x1 y1).2).length) (cap := ch1.2.2) rfl rfl fun a S => s_gT S (b := (decide (30 < y1))) rfl rfl c5 (bindX h3 fun t1 et1 h4 => s_callP S _ N8 rfl rfl (smithyref13_Great.ok k ((gt x1 y1).2) ch1.2.1 ch1.2.2 t1 et1 _ _) fun ch2 m le1 a w S => s_pick S (b := false) (hc_of rfl c5) rfl rfl fun a S => c_end' (x_thenN ?_))))
    exact j2 _ t1 a w (S.sb rfl .nil) h4
  ·refine c_condF S rfl c1 (wp_exit (x_thenX (x_thenX (x_blockX (x_thenN ?_)))))
   exact j1 _ a w (S.sub ⟨rfl, trivial⟩ .nil) h1
abbrev store_Store_Len.Ty : Type := L72 → Option Int
def store_Store_Len.Ctr (s : store_Store_Len.Ty) : Prop := ∀ (x1 : L72) (ch_0_0 : Nat) (ch_0_1 : Option Addr) (ch_0_2 : Nat) (ch_0_3 : Nat) (r : Int), Ct (C := Unit) Try.prog 17 (s x1 = some r) [Res.cells ch_0_0 74 [.s ch_0_1 ch_0_2 ch_0_3], Res.row (Ty.prod yi Y69) 71 ch_0_1 ch_0_2 ch_0_3 x1] [(.p ch_0_0)] (fun _ => (.i r)) fun _ => [Res.cells ch_0_0 74 [.s ch_0_1 ch_0_2 ch_0_3], Res.row (Ty.prod yi Y69) 71 ch_0_1 ch_0_2 ch_0_3 x1]
def store_Store_Len.f (x1 : L72) : Option Int := some ((x1).length : Int)
theorem store_Store_Len.ok : store_Store_Len.Ctr (store_Store_Len.f) := by
 intro x1 ch_0_0 ch_0_1 ch_0_2 ch_0_3 r h0 mi w0 ok hm
 delta store_Store_Len.f at h0
 refine c_enterZ (n := 10) ok hm func17 rfl rfl rfl fun b0 hb a S => c_region (s_assign S rfl rfl fun a S => c_end (wp_seq (c_region (s_move S rfl rfl fun a S => s_eqp S (b := false) rfl rfl underlying36 rfl rfl fun a S => c_end (c_condF S rfl rfl (wp_skip (x_thenN (c_region (s_move S rfl rfl fun a S => s_nilchk S rfl rfl fun a S => s_fieldAddr S rfl I74_0 T72 (by decide) rfl rfl fun a S => s_load1 S rfl .h T72 (v := (.slice ch_0_1 ch_0_2 ch_0_3)) rfl rfl fun a S => s_lenO S rfl .h1 underlying72 rfl fun a S => s_assign S rfl rfl fun a S => c_end (wp_ret ?_))))))))))
 obtain rfl := Option.some.inj h0
 exact b_ret1 (d := (.i ((x1).length : Int))) S rfl rfl fun ok => S.retX (Hx := []) hb _ _ (() : Unit) (.c0 (.c0 .n)) ok
abbrev store_Empty.Ty : Type := (L30) → Option Bool
def store_Empty.Ctr (s : store_Empty.Ty) : Prop := ∀ (x1 : L30) (ch_0_0 : Option Addr) (ch_0_1 : Nat) (ch_0_2 : Option Addr) (ch_0_3 : Nat) (r : Bool), Ct (C := Unit) Try.prog 12 (s x1 = some r) [] [(.agg (Y30.segs x1 ((), (), (), (ch_0_0, ch_0_1), (ch_0_2, ch_0_3))))] (fun _ => (.b r)) fun _ => []
def store_Empty.f (x1 : L30) : Option Bool := if (x1.2.1 == 0) = true then (if (decide (x1.2.2.1 = [0, 0, 0, 0])) = true then (if (((x1.2.2.2.1).length : Int) == 0) = true then (some (((x1.2.2.2.2).length : Int) == 0)) else (some false)) else (some false)) else (some false)
theorem store_Empty.ok : store_Empty.Ctr (store_Empty.f) := by
 intro x1 ch_0_0 ch_0_1 ch_0_2 ch_0_3 r h0 mi w0 ok hm
 delta store_Empty.f at h0
 refine c_enterZ (n := 24) ok hm func12 rfl rfl rfl fun b0 hb a S => c_region (s_box S rfl rfl rfl fun g1 a w S => s_assign S rfl rfl fun a S => c_end (c_region (s_fieldAddr S rfl I30_1 T24 (by decide) rfl rfl fun a S => s_load1 S rfl .h T24 (v := (.int .u64 x1.2.1)) rfl rfl fun a S => s_bin S rfl rfl rfl rfl fun a S => s_move S rfl rfl fun a S => ?_)))
 rcases ite_of h0 with ⟨c1, h1⟩ | ⟨c1, h1⟩
 ·refine s_gT S (b := (x1.2.1 == 0)) rfl rfl c1 (s_fieldAddr S rfl I30_2 T26 (by decide) rfl rfl fun a S => s_gT S (b := (x1.2.1 == 0)) rfl rfl c1 (s_loada S rfl .h T26 (s' := [.w4 x1.2.2.1]) rfl rfl fun a S => s_gT S (b := (x1.2.1 == 0)) rfl rfl c1 (s_build S (ds := []) (dv := (.a4 [0, 0, 0, 0])) rfl (fun _ => by kernel_rfl) ⟨rfl, trivial⟩ rfl fun a S => s_gT S (b := (x1.2.1 == 0)) rfl rfl c1 (s_eqa S rfl rfl underlying26 underlying24 T24 Q26 rfl fun a S => s_pick S (b := true) (hc_of rfl c1) rfl rfl fun a S => s_move S rfl rfl fun a S => ?_))))
  rcases ite_of h1 with ⟨c2, h2⟩ | ⟨c2, h2⟩
  ·refine s_gT S (b := (decide (x1.2.2.1 = [0, 0, 0, 0]))) rfl rfl c2 (s_fieldAddr S rfl I30_3 T27 (by decide) rfl rfl fun a S => s_gT S (b := (decide (x1.2.2.1 = [0, 0, 0, 0]))) rfl rfl c2 (s_loadSl S rfl .h T27 (A := ch_0_0) (len := (x1.2.2.2.1).length) (cap := ch_0_1) rfl rfl fun a S => s_gT S (b := (decide (x1.2.2.1 = [0, 0, 0, 0]))) rfl rfl c2 (s_lenS S rfl underlying27 rfl fun a S => s_gT S (b := (decide (x1.2.2.1 = [0, 0, 0, 0]))) rfl rfl c2 (s_bin S rfl rfl rfl rfl fun a S => s_pick S (b := true) (hc_of rfl c2) rfl rfl fun a S => s_move S rfl rfl fun a S => ?_))))
   rcases ite_of h2 with ⟨c3, h3⟩ | ⟨c3, h3⟩
   ·refine s_gT S (b := (((x1.2.2.2.1).length : Int) == 0)) rfl rfl c3 (s_fieldAddr S rfl I30_4 T28 (by decide) rfl rfl fun a S => s_gT S (b := (((x1.2.2.2.1).length : Int) == 0)) rfl rfl c3 (s_loadSl S rfl .h T28 (A := ch_0_2) (len := (x1.2.2.2.2).length) (cap := ch_0_3) rfl rfl fun a S => s_gT S (b := (((x1.2.2.2.1).length : Int) == 0)) rfl rfl c3 (s_lenS S rfl underlying28 rfl fun a S => s_gT S (b := (((x1.2.2.2.1).length : Int) == 0)) rfl rfl c3 (s_bin S rfl rfl rfl rfl fun a S => s_pick S (b := true) (hc_of rfl c3) rfl rfl fun a S => s_assign S rfl rfl fun a S => c_end (wp_ret ?_)))))
    obtain rfl := Option.some.inj h3
    exact b_ret1 (d := (.b (((x1.2.2.2.2).length : Int) == 0))) S rfl rfl (S.rt hb)
   ·refine s_gF S (b := (((x1.2.2.2.1).length : Int) == 0)) rfl rfl c3 rfl fun a S => s_gF S (b := (((x1.2.2.2.1).length : Int) == 0)) rfl rfl c3 rfl fun a S => s_gF S (b := (((x1.2.2.2.1).length : Int) == 0)) rfl rfl c3 rfl fun a S => s_gF S (b := (((x1.2.2.2.1).length : Int) == 0)) rfl rfl c3 rfl fun a S => s_pick S (b := false) (hc_of rfl c3) rfl rfl fun a S => s_assign S rfl rfl fun a S => c_end (wp_ret ?_)
    obtain rfl := Option.some.inj h3
    exact b_ret1 (d := (.b false)) S rfl rfl (S.rt hb)
  ·refine s_gF S (b := (decide (x1.2.2.1 = [0, 0, 0, 0]))) rfl rfl c2 rfl fun a S => s_gF S (b := (decide (x1.2.2.1 = [0, 0, 0, 0]))) rfl rfl c2 rfl fun a S => s_gF S (b := (decide (x1.2.2.1 = [0, 0, 0, 0]))) rfl rfl c2 rfl fun a S => s_gF S (b := (decide (x1.2.2.1 = [0, 0, 0, 0]))) rfl rfl c2 rfl fun a S => s_pick S (b := false) (hc_of rfl c2) rfl rfl fun a S => s_move S rfl rfl fun a S => s_gF S (b := false) rfl rfl rfl rfl fun a S => s_gF S (b := false) rfl rfl rfl rfl fun a S => s_gF S (b := false) rfl rfl rfl rfl fun a S => s_gF S (b := false) rfl rfl rfl rfl fun a S => s_pick S (b := false) (hc_of rfl rfl) rfl rfl fun a S => s_assign S rfl rfl fun a S => c_end (wp_ret ?_)
   obtain rfl := Option.some.inj h2
   exact b_ret1 (d := (.b false)) S rfl rfl (S.rt hb)
 ·refine s_gF S (b := (x1.2.1 == 0)) rfl rfl c1 rfl fun a S => s_gF S (b := (x1.2.1 == 0)) rfl rfl c1 rfl fun a S => s_gF S (b := (x1.2.1 == 0)) rfl rfl c1 rfl fun a S => s_gF S (b := (x1.2.1 == 0)) rfl rfl c1 rfl fun a S => s_pick S (b := false) (hc_of rfl c1) rfl rfl fun a S => s_move S rfl rfl fun a S => s_gF S (b := false) rfl rfl rfl rfl fun a S => s_gF S (b := false) rfl rfl rfl rfl fun a S => s_gF S (b := false) rfl rfl rfl rfl fun a S => s_gF S (b := false) rfl rfl rfl rfl fun a S => s_pick S (b := false) (hc_of rfl rfl) rfl rfl fun a S => s_move S rfl rfl fun a S => s_gF S (b := false) rfl rfl rfl rfl fun a S => s_gF S (b := false) rfl rfl rfl rfl fun a S => s_gF S (b := false) rfl rfl rfl rfl fun a S => s_gF S (b := false) rfl rfl rfl rfl fun a S => s_pick S (b := false) (hc_of rfl rfl) rfl rfl fun a S => s_assign S rfl rfl fun a S => c_end (wp_ret ?_)
  obtain rfl := Option.some.inj h1
  exact b_ret1 (d := (.b false)) S rfl rfl (S.rt hb)
abbrev bits_Len64.Ty : Type := Int → Option Int
def bits_Len64.Ctr (s : bits_Len64.Ty) : Prop := ∀ (x1 : Int) (r : Int), Ct (C := Unit) Try.prog 59 (s x1 = some r) [] [(.w x1)] (fun _ => (.i r)) fun _ => []
def bits_Len64.j3 (y5 : Int) (y6 : Int) : Option Int := if (0 : Int) ≤ (wr .u8 y6) ∧ (wr .u8 y6) < (txt0.size : Int) then (some (wr .i64 (y5 + (wr .i64 (bt txt0 (wr .u8 y6)))))) else none
def bits_Len64.j2 (y3 : Int) (y4 : Int) : Option Int := if (decide (256 ≤ y4)) = true then (bits_Len64.j3 (wr .i64 (y3 + 8)) (shr y4 8)) else (bits_Len64.j3 y3 y4)
def bits_Len64.j1 (y1 : Int) (y2 : Int) : Option Int := if (decide (65536 ≤ y2)) = true then (bits_Len64.j2 (wr .i64 (y1 + 16)) (shr y2 16)) else (bits_Len64.j2 y1 y2)
def bits_Len64.f (x1 : Int) : Option Int := if (decide (4294967296 ≤ x1)) = true then (bits_Len64.j1 32 (shr x1 32)) else (bits_Len64.j1 0 x1)
theorem bits_Len64.ok : bits_Len64.Ctr (bits_Len64.f) := by
 intro x1 r h0 mi w0 ok hm
 delta bits_Len64.f at h0
 refine c_enterZ (n := 25) ok hm func59 rfl rfl rfl fun b0 hb a S => c_region (s_assign S rfl rfl fun a S => c_end (wp_seq_k fun K1 hK1 => ?_))
 have j1 : ∀ m y1 y2 a w, St 25 m b0 [(2, (.i y1)), (0, (.w y2))] [] a w → bits_Len64.j1 y1 y2 = some r → K1 a w := by
  intro m y1 y2 a w S h0
  delta bits_Len64.j1 at h0
  refine hK1 a w (wp_seq_k fun K2 hK2 => ?_)
  have j2 : ∀ m y3 y4 a w, St 25 m b0 [(2, (.i y3)), (0, (.w y4))] [] a w → bits_Len64.j2 y3 y4 = some r → K2 a w := by
   intro m y3 y4 a w S h0
   delta bits_Len64.j2 at h0
   refine hK2 a w (wp_seq_k fun K3 hK3 => ?_)
   have j3 : ∀ m y5 y6 a w, St 25 m b0 [(2, (.i y5)), (0, (.w y6))] [] a w → bits_Len64.j3 y5 y6 = some r → K3 a w := by
    intro m y5 y6 a w S h0
    delta bits_Len64.j3 at h0
    refine hK3 a w (c_region (s_move S rfl rfl fun a S => s_move S rfl rfl fun a S => s_conv S rfl rfl underlying5 rfl fun a S => ?_))
    obtain ⟨c1, h1⟩ := chk_of h0; clear h0
    refine s_indexT S rfl rfl underlying9 c1.1 c1.2 rfl fun a S => s_conv S rfl rfl underlying3 rfl fun a S => s_bin S rfl rfl rfl rfl fun a S => s_assign S rfl rfl fun a S => c_end (wp_ret ?_)
    obtain rfl := Option.some.inj h1
    exact b_ret1 (d := (.i (wr .i64 (y5 + (wr .i64 (bt txt0 (wr .u8 y6))))))) S rfl rfl (S.rt hb)
   refine c_region (s_move S rfl rfl fun a S => s_bin S rfl rfl rfl rfl fun a S => c_end ?_)
   rcases ite_of h0 with ⟨c2, h1⟩ | ⟨c2, h1⟩
   ·refine c_condT S rfl c2 (c_region (s_move S rfl rfl fun a S => s_shr S (e := 8) rfl rfl (by decide) rfl rfl fun a S => s_assign S rfl rfl fun a S => c_end (c_region' (s_move S rfl rfl fun a S => s_bin S rfl rfl rfl rfl fun a S => s_assign S rfl rfl fun a S => c_end' (x_thenN ?_)))))
    exact j3 _ (wr .i64 (y3 + 8)) (shr y4 8) a w (S.sb rfl .nil) h1
   ·refine c_condF S rfl c2 (wp_skip (x_thenN ?_))
    exact j3 _ y3 y4 a w (S.sb rfl .nil) h1
  refine c_region (s_move S rfl rfl fun a S => s_bin S rfl rfl rfl rfl fun a S => c_end ?_)
  rcases ite_of h0 with ⟨c3, h1⟩ | ⟨c3, h1⟩
  ·refine c_condT S rfl c3 (c_region (s_move S rfl rfl fun a S => s_shr S (e := 16) rfl rfl (by decide) rfl rfl fun a S => s_assign S rfl rfl fun a S => c_end (c_region' (s_move S rfl rfl fun a S => s_bin S rfl rfl rfl rfl fun a S => s_assign S rfl rfl fun a S => c_end' (x_thenN ?_)))))
   exact j2 _ (wr .i64 (y1 + 16)) (shr y2 16) a w (S.sb rfl .nil) h1
  ·refine c_condF S rfl c3 (wp_skip (x_thenN ?_))
   exact j2 _ y1 y2 a w (S.sb rfl .nil) h1
 refine c_region (s_move S rfl rfl fun a S => s_bin S rfl rfl rfl rfl fun a S => c_end ?_)
 rcases ite_of h0 with ⟨c4, h1⟩ | ⟨c4, h1⟩
 ·refine c_condT S rfl c4 (c_region (s_move S rfl rfl fun a S => s_shr S (e := 32) rfl rfl (by decide) rfl rfl fun a S => s_assign S rfl rfl fun a S => c_end (c_region' (s_assign S rfl rfl fun a S => c_end' (x_thenN ?_)))))
  exact j1 _ 32 (shr x1 32) a w0 (S.sb rfl .nil) h1
 ·refine c_condF S rfl c4 (wp_skip (x_thenN ?_))
  exact j1 _ 0 x1 a w0 (S.sb rfl .nil) h1
abbrev bits_Len.Ty : Type := Int → Option Int
def bits_Len.Ctr (s : bits_Len.Ty) : Prop := ∀ (x1 : Int) (r : Int), Ct (C := Unit) Try.prog 47 (s x1 = some r) [] [(.w x1)] (fun _ => (.i r)) fun _ => []
def bits_Len.f (x1 : Int) : Option Int := (bits_Len64.f x1).bind fun t1 => (some t1)
theorem bits_Len.ok : bits_Len.Ctr (bits_Len.f) := by
 intro x1 r h0 mi w0 ok hm
 delta bits_Len.f at h0
 refine c_enterZ (n := 8) ok hm func47 rfl rfl rfl fun b0 hb a S => c_region (s_assign S rfl rfl fun a S => c_end (wp_seq (c_condF S rfl rfl (wp_skip (x_thenN (c_region (s_move S rfl rfl fun a S => bindX h0 fun t1 et1 h1 => s_callP S _ N59 rfl rfl (bits_Len64.ok x1 t1 et1 _ _) fun ch1 m le1 a w S => s_assign S rfl rfl fun a S => c_end (wp_ret ?_))))))))
 obtain rfl := Option.some.inj h1
 exact b_ret1 (d := (.i t1)) S rfl rfl (S.rt hb)
abbrev bytes_Compare.Ty : Type := (List Int) → (List Int) → Option Int
def bytes_Compare.Ctr (s : bytes_Compare.Ty) : Prop := ∀ (x1 : List Int) (x2 : List Int) (ch_0_0 : Option Addr) (ch_0_1 : Nat) (ch_1_0 : Option Addr) (ch_1_1 : Nat) (r : Int), Ct (C := Unit) Try.prog 48 (s x1 x2 = some r) [] [(.q yb ch_0_0 ch_0_1 x1), (.q yb ch_1_0 ch_1_1 x2)] (fun _ => (.i r)) fun _ => []
def bytes_Compare.f (x1 : List Int) (x2 : List Int) : Option Int := some (Lib.compareBytes (u8s x1) (u8s x2))
theorem bytes_Compare.ok : bytes_Compare.Ctr (bytes_Compare.f) := by
 intro x1 x2 ch_0_0 ch_0_1 ch_1_0 ch_1_1 r h0 mi w0 ok hm
 delta bytes_Compare.f at h0
 refine c_enterZ (n := 8) ok hm func48 rfl rfl rfl fun b0 hb a S => c_region (s_assign S rfl rfl fun a S => c_end (c_region (s_move S rfl rfl fun a S => s_move S rfl rfl fun a S => s_extCmp S X60 rfl rfl rfl fun a S => s_assign S rfl rfl fun a S => c_end (wp_ret ?_))))
 obtain rfl := Option.some.inj h0
 exact b_ret1 (d := (.i (Lib.compareBytes (u8s x1) (u8s x2)))) S rfl rfl (S.rt hb)
abbrev addr_Compare.Ty : Type := (List Int) → (List Int) → Option Int
def addr_Compare.Ctr (s : addr_Compare.Ty) : Prop := ∀ (x1 : List Int) (x2 : List Int) (r : Int), Ct (C := Unit) Try.prog 36 (s x1 x2 = some r) [] [(.agg [.b20 x1]), (.agg [.b20 x2])] (fun _ => (.i r)) fun _ => []
def addr_Compare.f (x1 : List Int) (x2 : List Int) : Option Int := (bytes_Compare.f (((x1).drop 0).take 20) (((x2).drop 0).take 20)).bind fun t1 => (some t1)
theorem addr_Compare.ok : addr_Compare.Ctr (addr_Compare.f) := by
 intro x1 x2 r h0 mi w0 ok hm
 delta addr_Compare.f at h0
 refine c_enterZ (n := 8) ok hm func36 rfl rfl rfl fun b0 hb a S => c_region (s_box S rfl rfl rfl fun g1 a w S => s_box S rfl rfl rfl fun g2 a w S => s_assign S rfl rfl fun a S => c_end ?_)
 replace S := S.freeze .h
 obtain ⟨m, le1, S⟩ := S
 replace S := S.freeze .h1
 obtain ⟨m, le1, S⟩ := S
 refine wp_seq (c_heldS S (.take 0 (.take 1 (.alts (.run 2 true (.take 3 .done) .nil)))) 4 [Res.fro g2 23 [.b20 x2], Res.fro g1 23 [.b20 x1]] (.c0 (.c0 .n)) ⟨Res.stay_fro, Res.stay_fro, trivial⟩ [(3, (.p g2)), (2, (.p g1))] (subR rfl) (by kernel_rfl) (by kernel_rfl) ?_); clear S; intro w S CL hw le
 refine h_sliceA S CL hw le (subR rfl) (i := 0) (j := 20) (o' := 0) (len := 20) (cap := 20) rfl underlying23 T5 (.inl ⟨rfl, rfl⟩) (.inl ⟨rfl, rfl⟩) (by decide) rfl rfl rfl rfl rfl trivial fun a S CL => h_sliceA S CL hw le (subR rfl) (i := 0) (j := 20) (o' := 0) (len := 20) (cap := 20) rfl underlying23 T5 (.inl ⟨rfl, rfl⟩) (.inl ⟨rfl, rfl⟩) (by decide) rfl rfl rfl rfl rfl trivial fun a S CL => h_run' S rfl trivial ?_
 replace S := (S.slup' (u := 5) (lo := 0) (c := 20) (ys := ((x1).drop 0).take 20) rfl (Pull.mem .h1).1 .h (.inl rfl) (by decide) (by decide) rfl).2
 replace S := (S.slup' (u := 6) (lo := 0) (c := 20) (ys := ((x2).drop 0).take 20) rfl (Pull.mem .h).1 .h (.inl rfl) (by decide) (by decide) rfl).2
 replace CL := CL.drop (lq' := [(3, (.p g2)), (2, (.p g1))]) (subR rfl)
 refine bindX h0 fun t1 et1 h1 => s_callP S _ N48 rfl rfl (bytes_Compare.ok (((x1).drop 0).take 20) (((x2).drop 0).take 20) (ad g1) 20 (ad g2) 20 t1 et1 _ _) fun ch1 m le1 a w S => ?_
 replace le := le.trans le1
 refine CL.bk hw S (.c0 (.c0 .n)) le fun hw => ?_
 replace CL := CL.add (t := 7) (d := (.i t1)) S rfl rfl
 refine h_assign S CL hw le (subR rfl) rfl rfl rfl trivial fun a S CL => ?_
 refine h_done ?_; clear CL hw le
 refine x_thenN (wp_ret ?_)
 obtain rfl := Option.some.inj h1
 exact b_ret1 (d := (.i t1)) S rfl rfl (S.rt hb)
abbrev store_Store_All_1.Ty : Type := (L30) → (L30) → Option Int
def store_Store_All_1.Ctr (s : store_Store_All_1.Ty) : Prop := ∀ (x1 : L30) (x2 : L30) (ch_0_0 : Option Addr) (ch_0_1 : Nat) (ch_0_2 : Option Addr) (ch_0_3 : Nat) (ch_1_0 : Option Addr) (ch_1_1 : Nat) (ch_1_2 : Option Addr) (ch_1_3 : Nat) (r : Int), Ct (C := Unit) Try.prog 35 (s x1 x2 = some r) [] [(.agg (Y30.segs x1 ((), (), (), (ch_0_0, ch_0_1), (ch_0_2, ch_0_3)))), (.agg (Y30.segs x2 ((), (), (), (ch_1_0, ch_1_1), (ch_1_2, ch_1_3))))] (fun _ => (.i r)) fun _ => []
def store_Store_All_1.f (x1 : L30) (x2 : L30) : Option Int := (addr_Compare.f x1.1 x2.1).bind fun t1 => (some t1)
theorem store_Store_All_1.ok : store_Store_All_1.Ctr (store_Store_All_1.f) := by
 intro x1 x2 ch_0_0 ch_0_1 ch_0_2 ch_0_3 ch_1_0 ch_1_1 ch_1_2 ch_1_3 r h0 mi w0 ok hm
 delta store_Store_All_1.f at h0
 refine c_enterZ (n := 10) ok hm func35 rfl rfl rfl fun b0 hb a S => c_region (s_box S rfl rfl rfl fun g1 a w S => s_box S rfl rfl rfl fun g2 a w S => s_assign S rfl rfl fun a S => c_end (c_region (s_fieldAddr S rfl I30_0 T23 (by decide) rfl rfl fun a S => s_loada S rfl .h1 T23 (s' := [.b20 x1.1]) rfl rfl fun a S => s_fieldAddr S rfl I30_0 T23 (by decide) rfl rfl fun a S => s_loada S rfl .h T23 (s' := [.b20 x2.1]) rfl rfl fun a S => bindX h0 fun t1 et1 h1 => s_callP S _ N36 rfl rfl (addr_Compare.ok x1.1 x2.1 t1 et1 _ _) fun ch1 m le1 a w S => s_assign S rfl rfl fun a S => c_end (wp_ret ?_))))
 obtain rfl := Option.some.inj h1
 exact b_ret1 (d := (.i t1)) S rfl rfl (S.rt hb)
abbrev api_Account_n50_0z_3f35.Ty : Type := (List L30) → Int → Int → Option ((List L30))
def api_Account_n50_0z_3f35.Ctr (s : api_Account_n50_0z_3f35.Ty) : Prop := ∀ (x1 : List L30) (x2 : Int) (x3 : Int) (ch_0_0 : Option Addr) (ch_0_1 : Nat) (ch_0_2 : Nat) (ch_0_3 : Mem) (r : (List L30)), Ct (C := Unit) Try.prog 50 (s x1 x2 x3 = some r) [Res.row (Ty.atZ ch_0_3 Y30) 30 ch_0_0 ch_0_1 ch_0_2 x1, Res.priv ch_0_3] [(.s ch_0_0 ch_0_1 ch_0_2), (.i x2), (.i x3), (.v (.func (.func 35) #[] #[]))] (fun _ => (.tup [])) fun _ => [Res.row (Ty.atZ ch_0_3 Y30) 30 ch_0_0 ch_0_1 ch_0_2 r, Res.priv ch_0_3]
def api_Account_n50_0z_3f35.j1 (y2 : Int) (rec1 : (List L30) → Int → Option ((List L30))) (y8 : List L30) : Option ((List L30)) := rec1 y8 (wr .i64 (y2 + 1))
def api_Account_n50_0z_3f35.j3 (y11 : List L30) (y12 : Int) (rec2 : (List L30) → Int → Option ((List L30))) : Option ((List L30)) := rec2 ((y11.set (Int.toNat y12) (gt y11 (wr .i64 (y12 - 1)))).set (Int.toNat (wr .i64 (y12 - 1))) (gt y11 y12)) (wr .i64 (y12 - 1))
def api_Account_n50_0z_3f35.j2 (y2 : Int) (rec1 : (List L30) → Int → Option ((List L30))) (y11 : List L30) (y12 : Int) (rec2 : (List L30) → Int → Option ((List L30))) (y13 : Bool) : Option ((List L30)) := if y13 = true then (if (0 : Int) ≤ (wr .i64 (y12 - 1)) ∧ (wr .i64 (y12 - 1)) < ((y11).length : Int) then (if (0 : Int) ≤ y12 ∧ y12 < ((y11).length : Int) then (if (0 : Int) ≤ (wr .i64 (y12 - 1)) ∧ (wr .i64 (y12 - 1)) < ((y11.set (Int.toNat y12) (gt y11 (wr .i64 (y12 - 1)))).length : Int) then (api_Account_n50_0z_3f35.j3 y11 y12 rec2) else none) else none) else none) else (api_Account_n50_0z_3f35.j1 y2 rec1 y11)
def api_Account_n50_0z_3f35.b2 (x2 : Int) (y2 : Int) (rec1 : (List L30) → Int → Option ((List L30))) (rec2 : (List L30) → Int → Option ((List L30))) (y11 : List L30) (y12 : Int) : Option ((List L30)) := if (decide (x2 < y12)) = true then (if (0 : Int) ≤ y12 ∧ y12 < ((y11).length : Int) then (if (0 : Int) ≤ (wr .i64 (y12 - 1)) ∧ (wr .i64 (y12 - 1)) < ((y11).length : Int) then ((store_Store_All_1.f (gt y11 y12) (gt y11 (wr .i64 (y12 - 1)))).bind fun t1 => (api_Account_n50_0z_3f35.j2 y2 rec1 y11 y12 rec2 (decide (t1 < 0)))) else none) else none) else (api_Account_n50_0z_3f35.j2 y2 rec1 y11 y12 rec2 false)
def api_Account_n50_0z_3f35.l2 (x2 : Int) (y2 : Int) (rec1 : (List L30) → Int → Option ((List L30))) : Nat → (List L30) → Int → Option ((List L30))
  | 0, _, _ => none
  | q + 1, y11, y12 => api_Account_n50_0z_3f35.b2 x2 y2 rec1 (api_Account_n50_0z_3f35.l2 x2 y2 rec1 q) y11 y12
def api_Account_n50_0z_3f35.b1 (k : Nat) (x2 : Int) (x3 : Int) (rec1 : (List L30) → Int → Option ((List L30))) (y1 : List L30) (y2 : Int) : Option ((List L30)) := if (decide (y2 < x3)) = true then (api_Account_n50_0z_3f35.l2 x2 y2 rec1 k y1 y2) else (some y1)
def api_Account_n50_0z_3f35.l1 (k : Nat) (x2 : Int) (x3 : Int) : Nat → (List L30) → Int → Option ((List L30))
  | 0, _, _ => none
  | q + 1, y1, y2 => api_Account_n50_0z_3f35.b1 k x2 x3 (api_Account_n50_0z_3f35.l1 k x2 x3 q) y1 y2
def api_Account_n50_0z_3f35.f (k : Nat) (x1 : List L30) (x2 : Int) (x3 : Int) : Option ((List L30)) := api_Account_n50_0z_3f35.l1 k x2 x3 k x1 (wr .i64 (x2 + 1))
theorem api_Account_n50_0z_3f35.ok (k : Nat) : api_Account_n50_0z_3f35.Ctr (api_Account_n50_0z_3f35.f k) := by
 intro x1 x2 x3 ch_0_0 ch_0_1 ch_0_2 ch_0_3 r h0 mi w0 ok hm
 delta api_Account_n50_0z_3f35.f at h0
 refine c_enterZ (n := 53) ok hm func50 rfl rfl rfl fun b0 hb a S => c_region (s_move S rfl rfl fun a S => s_bin S rfl rfl rfl rfl fun a S => s_assign S rfl rfl fun a S => c_end (wp_block ?_))
 refine c_loop (fun q1 a w => ∃ m y1 y2, St 53 m b0 [(8, (.i y2)), (0, (.s ch_0_0 ch_0_1 ch_0_2)), (1, (.i x2)), (2, (.i x3)), (3, (.v (.func (.func 35) #[] #[])))] [Res.row (Ty.atZ ch_0_3 Y30) 30 ch_0_0 ch_0_1 ch_0_2 y1, Res.priv ch_0_3] a w ∧ api_Account_n50_0z_3f35.l1 k x2 x3 q1 y1 y2 = some r) ?_ ?_ (k := k) ⟨_, x1, (wr .i64 (x2 + 1)), (S.sb rfl (.c0 (.c0 .n))), h0⟩
 ·rintro a w ⟨m, y1, y2, S, h0⟩
  exact (nomatch (show (none : Option ((List L30))) = some r from h0))
 ·clear S h0
  rintro q1 a w ⟨m, y1, y2, S, h0⟩
  replace h0 : api_Account_n50_0z_3f35.b1 k x2 x3 (api_Account_n50_0z_3f35.l1 k x2 x3 q1) y1 y2 = some r := h0
  delta api_Account_n50_0z_3f35.b1 at h0
  refine wp_seq (c_region (s_move S rfl rfl fun a S => s_move S rfl rfl fun a S => s_bin S rfl rfl rfl rfl fun a S => c_end ?_))
  rcases ite_of h0 with ⟨c1, h1⟩ | ⟨c1, h1⟩
  ·refine c_condT S rfl c1 (wp_skip (x_thenN (wp_seq_k fun K1 hK1 => ?_)))
   have j1 : ∀ m y8 a w, St 53 m b0 [(8, (.i y2)), (0, (.s ch_0_0 ch_0_1 ch_0_2)), (1, (.i x2)), (2, (.i x3)), (3, (.v (.func (.func 35) #[] #[])))] [Res.row (Ty.atZ ch_0_3 Y30) 30 ch_0_0 ch_0_1 ch_0_2 y8, Res.priv ch_0_3] a w → api_Account_n50_0z_3f35.j1 y2 (api_Account_n50_0z_3f35.l1 k x2 x3 q1) y8 = some r → K1 a w := by
    intro m y8 a w S h0
    delta api_Account_n50_0z_3f35.j1 at h0
    refine hK1 a w (c_region' (s_move S rfl rfl fun a S => s_bin S rfl rfl rfl rfl fun a S => s_assign S rfl rfl fun a S => c_end' (x_thenN ?_)))
    exact ⟨_, y8, (wr .i64 (y2 + 1)), (S.sb rfl (.c0 (.c0 .n))), h0⟩
   refine wp_block (c_region (s_move S rfl rfl fun a S => s_assign S rfl rfl fun a S => c_end (wp_block ?_)))
   refine c_loop (fun q2 a w => ∃ m y11 y12, St 53 m b0 [(9, (.i y12)), (8, (.i y2)), (0, (.s ch_0_0 ch_0_1 ch_0_2)), (1, (.i x2)), (2, (.i x3)), (3, (.v (.func (.func 35) #[] #[])))] [Res.row (Ty.atZ ch_0_3 Y30) 30 ch_0_0 ch_0_1 ch_0_2 y11, Res.priv ch_0_3] a w ∧ api_Account_n50_0z_3f35.l2 x2 y2 (api_Account_n50_0z_3f35.l1 k x2 x3 q1) q2 y11 y12 = some r) ?_ ?_ (k := k) ⟨_, y1, y2, (S.sb rfl (.c0 (.c0 .n))), h1⟩
   ·rintro a w ⟨m, y11, y12, S, h0⟩
    exact (nomatch (show (none : Option ((List L30))) = some r from h0))
   ·clear S h1
    rintro q2 a w ⟨m, y11, y12, S, h0⟩
    replace h0 : api_Account_n50_0z_3f35.b2 x2 y2 (api_Account_n50_0z_3f35.l1 k x2 x3 q1) (api_Account_n50_0z_3f35.l2 x2 y2 (api_Account_n50_0z_3f35.l1 k x2 x3 q1) q2) y11 y12 = some r := h0
    delta api_Account_n50_0z_3f35.b2 at h0
    refine wp_seq (wp_seq_k fun K2 hK2 => ?_)
    have j2 : ∀ m y13 a w, St 53 m b0 [(34, (.b y13)), (9, (.i y12)), (8, (.i y2)), (0, (.s ch_0_0 ch_0_1 ch_0_2)), (1, (.i x2)), (2, (.i x3)), (3, (.v (.func (.func 35) #[] #[])))] [Res.row (Ty.atZ ch_0_3 Y30) 30 ch_0_0 ch_0_1 ch_0_2 y11, Res.priv ch_0_3] a w → api_Account_n50_0z_3f35.j2 y2 (api_Account_n50_0z_3f35.l1 k x2 x3 q1) y11 y12 (api_Account_n50_0z_3f35.l2 x2 y2 (api_Account_n50_0z_3f35.l1 k x2 x3 q1) q2) y13 = some r → K2 a w := by
     intro m y13 a w S h0
     delta api_Account_n50_0z_3f35.j2 at h0
     refine hK2 a w ?_
     rcases ite_of h0 with ⟨c2, h1⟩ | ⟨c2, h1⟩
     ·refine c_condT S rfl c2 (wp_skip (x_thenN (wp_seq_k fun K3 hK3 => ?_)))
      have j3 : ∀ m a w, St 53 m b0 [(9, (.i y12)), (8, (.i y2)), (0, (.s ch_0_0 ch_0_1 ch_0_2)), (1, (.i x2)), (2, (.i x3)), (3, (.v (.func (.func 35) #[] #[])))] [Res.row (Ty.atZ ch_0_3 Y30) 30 ch_0_0 ch_0_1 ch_0_2 ((y11.set (Int.toNat y12) (gt y11 (wr .i64 (y12 - 1)))).set (Int.toNat (wr .i64 (y12 - 1))) (gt y11 y12)), Res.priv ch_0_3] a w → api_Account_n50_0z_3f35.j3 y11 y12 (api_Account_n50_0z_3f35.l2 x2 y2 (api_Account_n50_0z_3f35.l1 k x2 x3 q1) q2) = some r → K3 a w := by
       intro m a w S h0
       delta api_Account_n50_0z_3f35.j3 at h0
       refine hK3 a w (c_region' (s_move S rfl rfl fun a S => s_bin S rfl rfl rfl rfl fun a S => s_assign S rfl rfl fun a S => c_end' (x_thenN ?_)))
       exact ⟨_, ((y11.set (Int.toNat y12) (gt y11 (wr .i64 (y12 - 1)))).set (Int.toNat (wr .i64 (y12 - 1))) (gt y11 y12)), (wr .i64 (y12 - 1)), (S.sb rfl (.c0 (.c0 .n))), h0⟩
      refine wp_block (c_heldS S (.take 0 (.take 1 (.take 2 (.take 3 (.take 4 (.take 5 (.take 6 (.take 7 (.take 10 (.take 11 (.alts (.run 8 true (.alts (.run 9 true (.alts (.run 12 true (.alts (.run 13 true (.alts (.run 14 true (.alts (.run 15 true (.alts (.run 16 true (.alts (.run 17 false .done .nil)) .nil)) .nil)) .nil)) .nil)) .nil)) (.run 12 true (.alts (.run 9 true (.alts (.run 13 true (.alts (.run 14 true (.alts (.run 15 true (.alts (.run 16 true (.alts (.run 17 false .done .nil)) .nil)) .nil)) .nil)) .nil)) (.run 13 true (.alts (.run 9 true (.alts (.run 14 true (.alts (.run 15 true (.alts (.run 16 true (.alts (.run 17 false .done .nil)) .nil)) .nil)) .nil)) .nil)) .nil))) .nil))) (.run 12 true (.alts (.run 8 true (.alts (.run 9 true (.alts (.run 13 true (.alts (.run 14 true (.alts (.run 15 true (.alts (.run 16 true (.alts (.run 17 false .done .nil)) .nil)) .nil)) .nil)) .nil)) (.run 13 true (.alts (.run 9 true (.alts (.run 14 true (.alts (.run 15 true (.alts (.run 16 true (.alts (.run 17 false .done .nil)) .nil)) .nil)) .nil)) .nil)) .nil))) (.run 13 true (.alts (.run 8 true (.alts (.run 9 true (.alts (.run 14 true (.alts (.run 15 true (.alts (.run 16 true (.alts (.run 17 false .done .nil)) .nil)) .nil)) .nil)) .nil)) .nil)) .nil))) .nil))))))))))))) 17 [] .nil trivial [(9, (.i y12)), (0, (.s ch_0_0 ch_0_1 ch_0_2))] (subR rfl) (by kernel_rfl) (by kernel_rfl) fun w S CL hw le => ?_)
      refine h_move S CL hw le (subR rfl) rfl rfl rfl trivial fun a S CL => h_move S CL hw le (subR rfl) rfl rfl rfl trivial fun a S CL => h_move S CL hw le (subR rfl) rfl rfl rfl trivial fun a S CL => h_move S CL hw le (subR rfl) rfl rfl rfl trivial fun a S CL => h_bin S CL hw le (subR rfl) rfl rfl rfl rfl rfl trivial fun a S CL => h_move S CL hw le (subR rfl) rfl rfl rfl trivial fun a S CL => h_move S CL hw le (subR rfl) rfl rfl rfl trivial fun a S CL => h_bin S CL hw le (subR rfl) rfl rfl rfl rfl rfl trivial fun a S CL => h_move S CL hw le (subR rfl) rfl rfl rfl trivial fun a S CL => h_move S CL hw le (subR rfl) rfl rfl rfl trivial fun a S CL => ?_
      obtain ⟨c3, h2⟩ := chk_of h1; clear h1
      obtain ⟨c4, h3⟩ := chk_of h2; clear h2
      obtain ⟨c5, h4⟩ := chk_of h3; clear h3
      refine h_alts ?_
      refine h_runO S rfl trivial ?_ ?_
      ·refine s_iaddrO S (ty' := (Ty.atZ ch_0_3 Y30)) rfl .h rfl underlying32 T30 c3.1 c3.2 rfl fun g1 a hA1 S => CL.bk hw S .nil le fun hw => h_alts ?_
       refine h_runO S rfl trivial ?_ ?_
       ·refine s_ldRA S (ty' := (Ty.atZ ch_0_3 Y30)) (i := (wr .i64 (y12 - 1))) (off := 0) (fun c => ((Ty.atZ ch_0_3 Y30).segs (gt y11 (wr .i64 (y12 - 1))) c)) rfl hA1 .h T30 c3.1 c3.2 rfl (fun _ => rfl) rfl fun ch1 a S => ?_
        refine CL.br hw S .nil le rfl trivial fun hw => (s_iaddrO S (ty' := (Ty.atZ ch_0_3 Y30)) rfl .h rfl underlying32 T30 c4.1 c4.2 rfl fun g2 a hA2 S => CL.br hw S .nil le rfl trivial fun hw => (s_ldRA S (ty' := (Ty.atZ ch_0_3 Y30)) (i := y12) (off := 0) (fun c => ((Ty.atZ ch_0_3 Y30).segs (gt y11 y12) c)) rfl hA2 .h T30 c4.1 c4.2 rfl (fun _ => rfl) rfl fun ch2 a S => ?_))
        refine CL.br hw S .nil le rfl trivial fun hw => (s_iaddrO S (ty' := (Ty.atZ ch_0_3 Y30)) rfl .h rfl underlying32 T30 c4.1 c4.2 rfl fun g3 a hA3 S => CL.br hw S .nil le rfl trivial fun hw => (s_stR S (ty' := (Ty.atZ ch_0_3 Y30)) (i := y12) (off := 0) (u := gt y11 (wr .i64 (y12 - 1))) (fun _ => ch1) rfl rfl rfl hA3 .h T30 c4.1 c4.2 rfl (show 0 + 27 ≤ (Y30).size by decide) rfl (fun _ => rfl) fun w S => CL.br hw S .nil le rfl trivial fun hw => (s_iaddrO S (ty' := (Ty.atZ ch_0_3 Y30)) rfl .h rfl underlying32 T30 c5.1 c5.2 rfl fun g4 a hA4 S => CL.br hw S .nil le rfl trivial fun hw => (s_stR S (ty' := (Ty.atZ ch_0_3 Y30)) (i := (wr .i64 (y12 - 1))) (off := 0) (u := gt y11 y12) (fun _ => ch2) rfl rfl rfl hA4 .h T30 c5.1 c5.2 rfl (show 0 + 27 ≤ (Y30).size by decide) rfl (fun _ => rfl) fun w S => ?_))))
        refine h_back ⟨fun h => (nomatch h), ?_⟩
        refine h_done ?_; clear CL hw le
        refine x_blockN (x_thenN ?_)
        exact j3 _ a w (S.sb rfl (.c0 (.c0 .n))) h4
       refine h_runO S rfl trivial ?_ ?_
       ·refine s_iaddrO S (ty' := (Ty.atZ ch_0_3 Y30)) rfl .h rfl underlying32 T30 c4.1 c4.2 rfl fun g2 a hA2 S => CL.bk hw S .nil le fun hw => h_alts ?_
        refine h_runO S rfl trivial ?_ ?_
        ·refine s_ldRA S (ty' := (Ty.atZ ch_0_3 Y30)) (i := (wr .i64 (y12 - 1))) (off := 0) (fun c => ((Ty.atZ ch_0_3 Y30).segs (gt y11 (wr .i64 (y12 - 1))) c)) rfl hA1 .h T30 c3.1 c3.2 rfl (fun _ => rfl) rfl fun ch1 a S => ?_
         refine CL.br hw S .nil le rfl trivial fun hw => (s_ldRA S (ty' := (Ty.atZ ch_0_3 Y30)) (i := y12) (off := 0) (fun c => ((Ty.atZ ch_0_3 Y30).segs (gt y11 y12) c)) rfl hA2 .h T30 c4.1 c4.2 rfl (fun _ => rfl) rfl fun ch2 a S => ?_)
         refine CL.br hw S .nil le rfl trivial fun hw => (s_iaddrO S (ty' := (Ty.atZ ch_0_3 Y30)) rfl .h rfl underlying32 T30 c4.1 c4.2 rfl fun g3 a hA3 S => CL.br hw S .nil le rfl trivial fun hw => (s_stR S (ty' := (Ty.atZ ch_0_3 Y30)) (i := y12) (off := 0) (u := gt y11 (wr .i64 (y12 - 1))) (fun _ => ch1) rfl rfl rfl hA3 .h T30 c4.1 c4.2 rfl (show 0 + 27 ≤ (Y30).size by decide) rfl (fun _ => rfl) fun w S => CL.br hw S .nil le rfl trivial fun hw => (s_iaddrO S (ty' := (Ty.atZ ch_0_3 Y30)) rfl .h rfl underlying32 T30 c5.1 c5.2 rfl fun g4 a hA4 S => CL.br hw S .nil le rfl trivial fun hw => (s_stR S (ty' := (Ty.atZ ch_0_3 Y30)) (i := (wr .i64 (y12 - 1))) (off := 0) (u := gt y11 y12) (fun _ => ch2) rfl rfl rfl hA4 .h T30 c5.1 c5.2 rfl (show 0 + 27 ≤ (Y30).size by decide) rfl (fun _ => rfl) fun w S => ?_))))
         refine h_back ⟨fun h => (nomatch h), ?_⟩
         refine h_done ?_; clear CL hw le
         refine x_blockN (x_thenN ?_)
         exact j3 _ a w (S.sb rfl (.c0 (.c0 .n))) h4
        refine h_runO S rfl trivial ?_ ?_
        ·refine s_ldRA S (ty' := (Ty.atZ ch_0_3 Y30)) (i := y12) (off := 0) (fun c => ((Ty.atZ ch_0_3 Y30).segs (gt y11 y12) c)) rfl hA2 .h T30 c4.1 c4.2 rfl (fun _ => rfl) rfl fun ch1 a S => ?_
         refine CL.br hw S .nil le rfl trivial fun hw => (s_ldRA S (ty' := (Ty.atZ ch_0_3 Y30)) (i := (wr .i64 (y12 - 1))) (off := 0) (fun c => ((Ty.atZ ch_0_3 Y30).segs (gt y11 (wr .i64 (y12 - 1))) c)) rfl hA1 .h T30 c3.1 c3.2 rfl (fun _ => rfl) rfl fun ch2 a S => ?_)
         refine CL.br hw S .nil le rfl trivial fun hw => (s_iaddrO S (ty' := (Ty.atZ ch_0_3 Y30)) rfl .h rfl underlying32 T30 c4.1 c4.2 rfl fun g3 a hA3 S => CL.br hw S .nil le rfl trivial fun hw => (s_stR S (ty' := (Ty.atZ ch_0_3 Y30)) (i := y12) (off := 0) (u := gt y11 (wr .i64 (y12 - 1))) (fun _ => ch2) rfl rfl rfl hA3 .h T30 c4.1 c4.2 rfl (show 0 + 27 ≤ (Y30).size by decide) rfl (fun _ => rfl) fun w S => CL.br hw S .nil le rfl trivial fun hw => (s_iaddrO S (ty' := (Ty.atZ ch_0_3 Y30)) rfl .h rfl underlying32 T30 c5.1 c5.2 rfl fun g4 a hA4 S => CL.br hw S .nil le rfl trivial fun hw => (s_stR S (ty' := (Ty.atZ ch_0_3 Y30)) (i := (wr .i64 (y12 - 1))) (off := 0) (u := gt y11 y12) (fun _ => ch1) rfl rfl rfl hA4 .h T30 c5.1 c5.2 rfl (show 0 + 27 ≤ (Y30).size by decide) rfl (fun _ => rfl) fun w S => ?_))))
         refine h_back ⟨fun h => (nomatch h), ?_⟩
         refine h_done ?_; clear CL hw le
         refine x_blockN (x_thenN ?_)
         exact j3 _ a w (S.sb rfl (.c0 (.c0 .n))) h4
        exact h_nil
       exact h_nil
      refine h_runO S rfl trivial ?_ ?_
      ·refine s_iaddrO S (ty' := (Ty.atZ ch_0_3 Y30)) rfl .h rfl underlying32 T30 c4.1 c4.2 rfl fun g1 a hA1 S => CL.bk hw S .nil le fun hw => h_alts ?_
       refine h_runO S rfl trivial ?_ ?_
       ·refine s_iaddrO S (ty' := (Ty.atZ ch_0_3 Y30)) rfl .h rfl underlying32 T30 c3.1 c3.2 rfl fun g2 a hA2 S => CL.bk hw S .nil le fun hw => h_alts ?_
        refine h_runO S rfl trivial ?_ ?_
        ·refine s_ldRA S (ty' := (Ty.atZ ch_0_3 Y30)) (i := (wr .i64 (y12 - 1))) (off := 0) (fun c => ((Ty.atZ ch_0_3 Y30).segs (gt y11 (wr .i64 (y12 - 1))) c)) rfl hA2 .h T30 c3.1 c3.2 rfl (fun _ => rfl) rfl fun ch1 a S => ?_
         refine CL.br hw S .nil le rfl trivial fun hw => (s_ldRA S (ty' := (Ty.atZ ch_0_3 Y30)) (i := y12) (off := 0) (fun c => ((Ty.atZ ch_0_3 Y30).segs (gt y11 y12) c)) rfl hA1 .h T30 c4.1 c4.2 rfl (fun _ => rfl) rfl fun ch2 a S => ?_)
         refine CL.br hw S .nil le rfl trivial fun hw => (s_iaddrO S (ty' := (Ty.atZ ch_0_3 Y30)) rfl .h rfl underlying32 T30 c4.1 c4.2 rfl fun g3 a hA3 S => CL.br hw S .nil le rfl trivial fun hw => (s_stR S (ty' := (Ty.atZ ch_0_3 Y30)) (i := y12) (off := 0) (u := gt y11 (wr .i64 (y12 - 1))) (fun _ => ch1) rfl rfl rfl hA3 .h T30 c4.1 c4.2 rfl (show 0 + 27 ≤ (Y30).size by decide) rfl (fun _ => rfl) fun w S => CL.br hw S .nil le rfl trivial fun hw => (s_iaddrO S (ty' := (Ty.atZ ch_0_3 Y30)) rfl .h rfl underlying32 T30 c5.1 c5.2 rfl fun g4 a hA4 S => CL.br hw S .nil le rfl trivial fun hw => (s_stR S (ty' := (Ty.atZ ch_0_3 Y30)) (i := (wr .i64 (y12 - 1))) (off := 0) (u := gt y11 y12) (fun _ => ch2) rfl rfl rfl hA4 .h T30 c5.1 c5.2 rfl (show 0 + 27 ≤ (Y30).size by decide) rfl (fun _ => rfl) fun w S => ?_))))
         refine h_back ⟨fun h => (nomatch h), ?_⟩
         refine h_done ?_; clear CL hw le
         refine x_blockN (x_thenN ?_)
         exact j3 _ a w (S.sb rfl (.c0 (.c0 .n))) h4
        refine h_runO S rfl trivial ?_ ?_
        ·refine s_ldRA S (ty' := (Ty.atZ ch_0_3 Y30)) (i := y12) (off := 0) (fun c => ((Ty.atZ ch_0_3 Y30).segs (gt y11 y12) c)) rfl hA1 .h T30 c4.1 c4.2 rfl (fun _ => rfl) rfl fun ch1 a S => ?_
         refine CL.br hw S .nil le rfl trivial fun hw => (s_ldRA S (ty' := (Ty.atZ ch_0_3 Y30)) (i := (wr .i64 (y12 - 1))) (off := 0) (fun c => ((Ty.atZ ch_0_3 Y30).segs (gt y11 (wr .i64 (y12 - 1))) c)) rfl hA2 .h T30 c3.1 c3.2 rfl (fun _ => rfl) rfl fun ch2 a S => ?_)
         refine CL.br hw S .nil le rfl trivial fun hw => (s_iaddrO S (ty' := (Ty.atZ ch_0_3 Y30)) rfl .h rfl underlying32 T30 c4.1 c4.2 rfl fun g3 a hA3 S => CL.br hw S .nil le rfl trivial fun hw => (s_stR S (ty' := (Ty.atZ ch_0_3 Y30)) (i := y12) (off := 0) (u := gt y11 (wr .i64 (y12 - 1))) (fun _ => ch2) rfl rfl rfl hA3 .h T30 c4.1 c4.2 rfl (show 0 + 27 ≤ (Y30).size by decide) rfl (fun _ => rfl) fun w S => CL.br hw S .nil le rfl trivial fun hw => (s_iaddrO S (ty' := (Ty.atZ ch_0_3 Y30)) rfl .h rfl underlying32 T30 c5.1 c5.2 rfl fun g4 a hA4 S => CL.br hw S .nil le rfl trivial fun hw => (s_stR S (ty' := (Ty.atZ ch_0_3 Y30)) (i := (wr .i64 (y12 - 1))) (off := 0) (u := gt y11 y12) (fun _ => ch1) rfl rfl rfl hA4 .h T30 c5.1 c5.2 rfl (show 0 + 27 ≤ (Y30).size by decide) rfl (fun _ => rfl) fun w S => ?_))))
         refine h_back ⟨fun h => (nomatch h), ?_⟩
         refine h_done ?_; clear CL hw le
         refine x_blockN (x_thenN ?_)
         exact j3 _ a w (S.sb rfl (.c0 (.c0 .n))) h4
        exact h_nil
       refine h_runO S rfl trivial ?_ ?_
       ·refine s_ldRA S (ty' := (Ty.atZ ch_0_3 Y30)) (i := y12) (off := 0) (fun c => ((Ty.atZ ch_0_3 Y30).segs (gt y11 y12) c)) rfl hA1 .h T30 c4.1 c4.2 rfl (fun _ => rfl) rfl fun ch1 a S => ?_
        refine CL.br hw S .nil le rfl trivial fun hw => (s_iaddrO S (ty' := (Ty.atZ ch_0_3 Y30)) rfl .h rfl underlying32 T30 c3.1 c3.2 rfl fun g2 a hA2 S => CL.br hw S .nil le rfl trivial fun hw => (s_ldRA S (ty' := (Ty.atZ ch_0_3 Y30)) (i := (wr .i64 (y12 - 1))) (off := 0) (fun c => ((Ty.atZ ch_0_3 Y30).segs (gt y11 (wr .i64 (y12 - 1))) c)) rfl hA2 .h T30 c3.1 c3.2 rfl (fun _ => rfl) rfl fun ch2 a S => ?_))
        refine CL.br hw S .nil le rfl trivial fun hw => (s_iaddrO S (ty' := (Ty.atZ ch_0_3 Y30)) rfl .h rfl underlying32 T30 c4.1 c4.2 rfl fun g3 a hA3 S => CL.br hw S .nil le rfl trivial fun hw => (s_stR S (ty' := (Ty.atZ ch_0_3 Y30)) (i := y12) (off := 0) (u := gt y11 (wr .i64 (y12 - 1))) (fun _ => ch2) rfl rfl rfl hA3 .h T30 c4.1 c4.2 rfl (show 0 + 27 ≤ (Y30).size by decide) rfl (fun _ => rfl) fun w S => CL.br hw S .nil le rfl trivial fun hw => (s_iaddrO S (ty' := (Ty.atZ ch_0_3 Y30)) rfl .h rfl underlying32 T30 c5.1 c5.2 rfl fun g4 a hA4 S => CL.br hw S .nil le rfl trivial fun hw => (s_stR S (ty' := (Ty.atZ ch_0_3 Y30)) (i := (wr .i64 (y12 - 1))) (off := 0) (u := gt y11 y12) (fun _ => ch1) rfl rfl rfl hA4 .h T30 c5.1 c5.2 rfl (show 0 + 27 ≤ (Y30).size by decide) rfl (fun _ => rfl) fun w S => ?_))))
        refine h_back ⟨fun h => (nomatch h), ?_⟩
        refine h_done ?_; clear CL hw le
        refine x_blockN (x_thenN ?_)
        exact j3 _ a w (S.sb rfl (.c0 (.c0 .n))) h4
       exact h_nil
      exact h_nil
     ·refine c_condF S rfl c2 (wp_exit (x_thenX (x_thenX (x_blockX (x_blockN (x_thenN ?_))))))
      exact j1 _ y11 a w (S.sb rfl (.c0 (.c0 .n))) h1
    refine c_heldS S (.take 0 (.take 1 (.take 2 (.take 3 (.take 4 (.take 5 (.take 6 (.take 9 (.take 10 (.take 11 (.alts (.run 7 true (.alts (.run 8 true (.alts (.run 12 true (.alts (.run 13 true (.alts (.run 14 true (.take 15 (.take 16 .done)) .nil)) .nil)) .nil)) (.run 12 true (.alts (.run 8 true (.alts (.run 13 true (.alts (.run 14 true (.take 15 (.take 16 .done)) .nil)) .nil)) (.run 13 true (.alts (.run 8 true (.alts (.run 14 true (.take 15 (.take 16 .done)) .nil)) .nil)) .nil))) .nil))) (.run 12 true (.alts (.run 7 true (.alts (.run 8 true (.alts (.run 13 true (.alts (.run 14 true (.take 15 (.take 16 .done)) .nil)) .nil)) (.run 13 true (.alts (.run 8 true (.alts (.run 14 true (.take 15 (.take 16 .done)) .nil)) .nil)) .nil))) (.run 13 true (.alts (.run 7 true (.alts (.run 8 true (.alts (.run 14 true (.take 15 (.take 16 .done)) .nil)) .nil)) .nil)) .nil))) .nil))))))))))))) 17 [] .nil trivial [(9, (.i y12)), (0, (.s ch_0_0 ch_0_1 ch_0_2)), (1, (.i x2)), (3, (.v (.func (.func 35) #[] #[])))] (subR rfl) (by kernel_rfl) (by kernel_rfl) fun w S CL hw le => ?_
    refine h_move S CL hw le (subR rfl) rfl rfl rfl trivial fun a S CL => h_move S CL hw le (subR rfl) rfl rfl rfl trivial fun a S CL => h_bin S CL hw le (subR rfl) rfl rfl rfl rfl rfl trivial fun a S CL => h_move S CL hw le (subR rfl) rfl rfl rfl trivial fun a S CL => ?_
    rcases ite_of h0 with ⟨c6, h1⟩ | ⟨c6, h1⟩
    ·refine h_move S CL hw le (subR rfl) rfl rfl rfl ⟨_, _, rfl, rfl, c6⟩ fun a S CL => h_move S CL hw le (subR rfl) rfl rfl rfl ⟨_, _, rfl, rfl, c6⟩ fun a S CL => h_move S CL hw le (subR rfl) rfl rfl rfl ⟨_, _, rfl, rfl, c6⟩ fun a S CL => h_move S CL hw le (subR rfl) rfl rfl rfl ⟨_, _, rfl, rfl, c6⟩ fun a S CL => h_move S CL hw le (subR rfl) rfl rfl rfl ⟨_, _, rfl, rfl, c6⟩ fun a S CL => h_bin S CL hw le (subR rfl) rfl rfl rfl rfl rfl ⟨_, _, rfl, rfl, c6⟩ fun a S CL => ?_
     obtain ⟨c7, h2⟩ := chk_of h1; clear h1
     obtain ⟨c8, h3⟩ := chk_of h2; clear h2
     refine bindX h3 fun t1 et1 h4 => h_alts ?_
     refine h_runO S rfl ⟨_, _, rfl, rfl, c6⟩ ?_ ?_
     ·refine s_iaddrO S (ty' := (Ty.atZ ch_0_3 Y30)) rfl .h rfl underlying32 T30 c7.1 c7.2 rfl fun g5 a hA5 S => CL.bk hw S .nil le fun hw => h_alts ?_
      refine h_runO S rfl ⟨_, _, rfl, rfl, c6⟩ ?_ ?_
      ·refine s_ldRA S (ty' := (Ty.atZ ch_0_3 Y30)) (i := y12) (off := 0) (fun c => ((Ty.atZ ch_0_3 Y30).segs (gt y11 y12) c)) rfl hA5 .h T30 c7.1 c7.2 rfl (fun _ => rfl) rfl fun ch3 a S => ?_
       refine CL.bk hw S .nil le fun hw => h_run' S rfl ⟨_, _, rfl, rfl, c6⟩ (s_iaddrO S (ty' := (Ty.atZ ch_0_3 Y30)) rfl .h rfl underlying32 T30 c8.1 c8.2 rfl fun g6 a hA6 S => CL.bk hw S .nil le fun hw => h_run' S rfl ⟨_, _, rfl, rfl, c6⟩ (s_ldRA S (ty' := (Ty.atZ ch_0_3 Y30)) (i := (wr .i64 (y12 - 1))) (off := 0) (fun c => ((Ty.atZ ch_0_3 Y30).segs (gt y11 (wr .i64 (y12 - 1))) c)) rfl hA6 .h T30 c8.1 c8.2 rfl (fun _ => rfl) rfl fun ch4 a S => ?_))
       refine CL.bk hw S .nil le fun hw => h_run' S rfl ⟨_, _, rfl, rfl, c6⟩ (s_callL S (ds' := [(.agg ((Ty.atZ ch_0_3 Y30).segs (gt y11 y12) ch3)), (.agg ((Ty.atZ ch_0_3 Y30).segs (gt y11 (wr .i64 (y12 - 1))) ch4))]) (ds := [(.agg (Y30.segs (gt y11 y12) ch3)), (.agg (Y30.segs (gt y11 (wr .i64 (y12 - 1))) ch4))]) (fun (ch : Unit) => ((.i t1) : D)) (fun _ _ _ h => h) (by obtain ⟨mm, g1, gZ, g2⟩ := S.plend .h1; exact ⟨mm, g1, g2, fun ok => ⟨(okA_lend gZ ok.1), (okA_lend gZ ok.2.1), trivial⟩⟩) N35 rfl rfl rfl (fun _ => store_Store_All_1.ok (gt y11 y12) (gt y11 (wr .i64 (y12 - 1))) ch3.2.2.2.1.1 ch3.2.2.2.1.2 ch3.2.2.2.2.1 ch3.2.2.2.2.2 ch4.2.2.2.1.1 ch4.2.2.2.1.2 ch4.2.2.2.2.1 ch4.2.2.2.2.2 t1 et1 _ _) fun ch5 a w S => CL.bk hw S .nil le fun hw => ?_)
       replace CL := CL.add (t := 32) (d := (.i t1)) S rfl rfl
       refine h_bin S CL hw le (subR rfl) rfl rfl rfl rfl rfl ⟨_, _, rfl, rfl, c6⟩ fun a S CL => h_pick S CL hw le (subR rfl) (b := true) (hc_of rfl c6) rfl rfl rfl trivial fun a S CL => ?_
       refine h_done ?_; clear CL hw le
       refine x_thenN ?_
       exact j2 _ (decide (t1 < 0)) a w (S.sb rfl (.c0 (.c0 .n))) h4
      refine h_runO S rfl ⟨_, _, rfl, rfl, c6⟩ ?_ ?_
      ·refine s_iaddrO S (ty' := (Ty.atZ ch_0_3 Y30)) rfl .h rfl underlying32 T30 c8.1 c8.2 rfl fun g6 a hA6 S => CL.bk hw S .nil le fun hw => h_alts ?_
       refine h_runO S rfl ⟨_, _, rfl, rfl, c6⟩ ?_ ?_
       ·refine s_ldRA S (ty' := (Ty.atZ ch_0_3 Y30)) (i := y12) (off := 0) (fun c => ((Ty.atZ ch_0_3 Y30).segs (gt y11 y12) c)) rfl hA5 .h T30 c7.1 c7.2 rfl (fun _ => rfl) rfl fun ch3 a S => ?_
        refine CL.bk hw S .nil le fun hw => h_run' S rfl ⟨_, _, rfl, rfl, c6⟩ (s_ldRA S (ty' := (Ty.atZ ch_0_3 Y30)) (i := (wr .i64 (y12 - 1))) (off := 0) (fun c => ((Ty.atZ ch_0_3 Y30).segs (gt y11 (wr .i64 (y12 - 1))) c)) rfl hA6 .h T30 c8.1 c8.2 rfl (fun _ => rfl) rfl fun ch4 a S => ?_)
        refine CL.bk hw S .nil le fun hw => h_run' S rfl ⟨_, _, rfl, rfl, c6⟩ (s_callL S (ds' := [(.agg ((Ty.atZ ch_0_3 Y30).segs (gt y11 y12) ch3)), (.agg ((Ty.atZ ch_0_3 Y30).segs (gt y11 (wr .i64 (y12 - 1))) ch4))]) (ds := [(.agg (Y30.segs (gt y11 y12) ch3)), (.agg (Y30.segs (gt y11 (wr .i64 (y12 - 1))) ch4))]) (fun (ch : Unit) => ((.i t1) : D)) (fun _ _ _ h => h) (by obtain ⟨mm, g1, gZ, g2⟩ := S.plend .h1; exact ⟨mm, g1, g2, fun ok => ⟨(okA_lend gZ ok.1), (okA_lend gZ ok.2.1), trivial⟩⟩) N35 rfl rfl rfl (fun _ => store_Store_All_1.ok (gt y11 y12) (gt y11 (wr .i64 (y12 - 1))) ch3.2.2.2.1.1 ch3.2.2.2.1.2 ch3.2.2.2.2.1 ch3.2.2.2.2.2 ch4.2.2.2.1.1 ch4.2.2.2.1.2 ch4.2.2.2.2.1 ch4.2.2.2.2.2 t1 et1 _ _) fun ch5 a w S => CL.bk hw S .nil le fun hw => ?_)
        replace CL := CL.add (t := 32) (d := (.i t1)) S rfl rfl
        refine h_bin S CL hw le (subR rfl) rfl rfl rfl rfl rfl ⟨_, _, rfl, rfl, c6⟩ fun a S CL => h_pick S CL hw le (subR rfl) (b := true) (hc_of rfl c6) rfl rfl rfl trivial fun a S CL => ?_
        refine h_done ?_; clear CL hw le
        refine x_thenN ?_
        exact j2 _ (decide (t1 < 0)) a w (S.sb rfl (.c0 (.c0 .n))) h4
       refine h_runO S rfl ⟨_, _, rfl, rfl, c6⟩ ?_ ?_
       ·refine s_ldRA S (ty' := (Ty.atZ ch_0_3 Y30)) (i := (wr .i64 (y12 - 1))) (off := 0) (fun c => ((Ty.atZ ch_0_3 Y30).segs (gt y11 (wr .i64 (y12 - 1))) c)) rfl hA6 .h T30 c8.1 c8.2 rfl (fun _ => rfl) rfl fun ch3 a S => ?_
        refine CL.bk hw S .nil le fun hw => h_run' S rfl ⟨_, _, rfl, rfl, c6⟩ (s_ldRA S (ty' := (Ty.atZ ch_0_3 Y30)) (i := y12) (off := 0) (fun c => ((Ty.atZ ch_0_3 Y30).segs (gt y11 y12) c)) rfl hA5 .h T30 c7.1 c7.2 rfl (fun _ => rfl) rfl fun ch4 a S => ?_)
        refine CL.bk hw S .nil le fun hw => h_run' S rfl ⟨_, _, rfl, rfl, c6⟩ (s_callL S (ds' := [(.agg ((Ty.atZ ch_0_3 Y30).segs (gt y11 y12) ch4)), (.agg ((Ty.atZ ch_0_3 Y30).segs (gt y11 (wr .i64 (y12 - 1))) ch3))]) (ds := [(.agg (Y30.segs (gt y11 y12) ch4)), (.agg (Y30.segs (gt y11 (wr .i64 (y12 - 1))) ch3))]) (fun (ch : Unit) => ((.i t1) : D)) (fun _ _ _ h => h) (by obtain ⟨mm, g1, gZ, g2⟩ := S.plend .h1; exact ⟨mm, g1, g2, fun ok => ⟨(okA_lend gZ ok.1), (okA_lend gZ ok.2.1), trivial⟩⟩) N35 rfl rfl rfl (fun _ => store_Store_All_1.ok (gt y11 y12) (gt y11 (wr .i64 (y12 - 1))) ch4.2.2.2.1.1 ch4.2.2.2.1.2 ch4.2.2.2.2.1 ch4.2.2.2.2.2 ch3.2.2.2.1.1 ch3.2.2.2.1.2 ch3.2.2.2.2.1 ch3.2.2.2.2.2 t1 et1 _ _) fun ch5 a w S => CL.bk hw S .nil le fun hw => ?_)
        replace CL := CL.add (t := 32) (d := (.i t1)) S rfl rfl
        refine h_bin S CL hw le (subR rfl) rfl rfl rfl rfl rfl ⟨_, _, rfl, rfl, c6⟩ fun a S CL => h_pick S CL hw le (subR rfl) (b := true) (hc_of rfl c6) rfl rfl rfl trivial fun a S CL => ?_
        refine h_done ?_; clear CL hw le
        refine x_thenN ?_
        exact j2 _ (decide (t1 < 0)) a w (S.sb rfl (.c0 (.c0 .n))) h4
       exact h_nil
      exact h_nil
     refine h_runO S rfl ⟨_, _, rfl, rfl, c6⟩ ?_ ?_
     ·refine s_iaddrO S (ty' := (Ty.atZ ch_0_3 Y30)) rfl .h rfl underlying32 T30 c8.1 c8.2 rfl fun g5 a hA5 S => CL.bk hw S .nil le fun hw => h_alts ?_
      refine h_runO S rfl ⟨_, _, rfl, rfl, c6⟩ ?_ ?_
      ·refine s_iaddrO S (ty' := (Ty.atZ ch_0_3 Y30)) rfl .h rfl underlying32 T30 c7.1 c7.2 rfl fun g6 a hA6 S => CL.bk hw S .nil le fun hw => h_alts ?_
       refine h_runO S rfl ⟨_, _, rfl, rfl, c6⟩ ?_ ?_
       ·refine s_ldRA S (ty' := (Ty.atZ ch_0_3 Y30)) (i := y12) (off := 0) (fun c => ((Ty.atZ ch_0_3 Y30).segs (gt y11 y12) c)) rfl hA6 .h T30 c7.1 c7.2 rfl (fun _ => rfl) rfl fun ch3 a S => ?_
        refine CL.bk hw S .nil le fun hw => h_run' S rfl ⟨_, _, rfl, rfl, c6⟩ (s_ldRA S (ty' := (Ty.atZ ch_0_3 Y30)) (i := (wr .i64 (y12 - 1))) (off := 0) (fun c => ((Ty.atZ ch_0_3 Y30).segs (gt y11 (wr .i64 (y12 - 1))) c)) rfl hA5 .h T30 c8.1 c8.2 rfl (fun _ => rfl) rfl fun ch4 a S => ?_)
        refine CL.bk hw S .nil le fun hw => h_run' S rfl ⟨_, _, rfl, rfl, c6⟩ (s_callL S (ds' := [(.agg ((Ty.atZ ch_0_3 Y30).segs (gt y11 y12) ch3)), (.agg ((Ty.atZ ch_0_3 Y30).segs (gt y11 (wr .i64 (y12 - 1))) ch4))]) (ds := [(.agg (Y30.segs (gt y11 y12) ch3)), (.agg (Y30.segs (gt y11 (wr .i64 (y12 - 1))) ch4))]) (fun (ch : Unit) => ((.i t1) : D)) (fun _ _ _ h => h) (by obtain ⟨mm, g1, gZ, g2⟩ := S.plend .h1; exact ⟨mm, g1, g2, fun ok => ⟨(okA_lend gZ ok.1), (okA_lend gZ ok.2.1), trivial⟩⟩) N35 rfl rfl rfl (fun _ => store_Store_All_1.ok (gt y11 y12) (gt y11 (wr .i64 (y12 - 1))) ch3.2.2.2.1.1 ch3.2.2.2.1.2 ch3.2.2.2.2.1 ch3.2.2.2.2.2 ch4.2.2.2.1.1 ch4.2.2.2.1.2 ch4.2.2.2.2.1 ch4.2.2.2.2.2 t1 et1 _ _) fun ch5 a w S => CL.bk hw S .nil le fun hw => ?_)
        replace CL := CL.add (t := 32) (d := (.i t1)) S rfl rfl
        refine h_bin S CL hw le (subR rfl) rfl rfl rfl rfl rfl ⟨_, _, rfl, rfl, c6⟩ fun a S CL => h_pick S CL hw le (subR rfl) (b := true) (hc_of rfl c6) rfl rfl rfl trivial fun a S CL => ?_
        refine h_done ?_; clear CL hw le
        refine x_thenN ?_
        exact j2 _ (decide (t1 < 0)) a w (S.sb rfl (.c0 (.c0 .n))) h4
       refine h_runO S rfl ⟨_, _, rfl, rfl, c6⟩ ?_ ?_
       ·refine s_ldRA S (ty' := (Ty.atZ ch_0_3 Y30)) (i := (wr .i64 (y12 - 1))) (off := 0) (fun c => ((Ty.atZ ch_0_3 Y30).segs (gt y11 (wr .i64 (y12 - 1))) c)) rfl hA5 .h T30 c8.1 c8.2 rfl (fun _ => rfl) rfl fun ch3 a S => ?_
        refine CL.bk hw S .nil le fun hw => h_run' S rfl ⟨_, _, rfl, rfl, c6⟩ (s_ldRA S (ty' := (Ty.atZ ch_0_3 Y30)) (i := y12) (off := 0) (fun c => ((Ty.atZ ch_0_3 Y30).segs (gt y11 y12) c)) rfl hA6 .h T30 c7.1 c7.2 rfl (fun _ => rfl) rfl fun ch4 a S => ?_)
        refine CL.bk hw S .nil le fun hw => h_run' S rfl ⟨_, _, rfl, rfl, c6⟩ (s_callL S (ds' := [(.agg ((Ty.atZ ch_0_3 Y30).segs (gt y11 y12) ch4)), (.agg ((Ty.atZ ch_0_3 Y30).segs (gt y11 (wr .i64 (y12 - 1))) ch3))]) (ds := [(.agg (Y30.segs (gt y11 y12) ch4)), (.agg (Y30.segs (gt y11 (wr .i64 (y12 - 1))) ch3))]) (fun (ch : Unit) => ((.i t1) : D)) (fun _ _ _ h => h) (by obtain ⟨mm, g1, gZ, g2⟩ := S.plend .h1; exact ⟨mm, g1, g2, fun ok => ⟨(okA_lend gZ ok.1), (okA_lend gZ ok.2.1), trivial⟩⟩) N35 rfl rfl rfl (fun _ => store_Store_All_1.ok (gt y11 y12) (gt y11 (wr .i64 (y12 - 1))) ch4.2.2.2.1.1 ch4.2.2.2.1.2 ch4.2.2.2.2.1 ch4.2.2.2.2.2 ch3.2.2.2.1.1 ch3.2.2.2.1.2 ch3.2.2.2.2.1 ch3.2.2.2.2.2 t1 et1 _ _) fun ch5 a w S => CL.bk hw S .nil le fun hw => ?_)
        replace CL := CL.add (t := 32) (d := (.i t1)) S rfl rfl
        refine h_bin S CL hw le (subR rfl) rfl rfl rfl rfl rfl ⟨_, _, rfl, rfl, c6⟩ fun a S CL => h_pick S CL hw le (subR rfl) (b := true) (hc_of rfl c6) rfl rfl rfl trivial fun a S CL => ?_
        refine h_done ?_; clear CL hw le
        refine x_thenN ?_
        exact j2 _ (decide (t1 < 0)) a w (S.sb rfl (.c0 (.c0 .n))) h4
       exact h_nil
      refine h_runO S rfl ⟨_, _, rfl, rfl, c6⟩ ?_ ?_
      ·refine s_ldRA S (ty' := (Ty.atZ ch_0_3 Y30)) (i := (wr .i64 (y12 - 1))) (off := 0) (fun c => ((Ty.atZ ch_0_3 Y30).segs (gt y11 (wr .i64 (y12 - 1))) c)) rfl hA5 .h T30 c8.1 c8.2 rfl (fun _ => rfl) rfl fun ch3 a S => ?_
       refine CL.bk hw S .nil le fun hw => h_run' S rfl ⟨_, _, rfl, rfl, c6⟩ (s_iaddrO S (ty' := (Ty.atZ ch_0_3 Y30)) rfl .h rfl underlying32 T30 c7.1 c7.2 rfl fun g6 a hA6 S => CL.bk hw S .nil le fun hw => h_run' S rfl ⟨_, _, rfl, rfl, c6⟩ (s_ldRA S (ty' := (Ty.atZ ch_0_3 Y30)) (i := y12) (off := 0) (fun c => ((Ty.atZ ch_0_3 Y30).segs (gt y11 y12) c)) rfl hA6 .h T30 c7.1 c7.2 rfl (fun _ => rfl) rfl fun ch4 a S => ?_))
       refine CL.bk hw S .nil le fun hw => h_run' S rfl ⟨_, _, rfl, rfl, c6⟩ (s_callL S (ds' := [(.agg ((Ty.atZ ch_0_3 Y30).segs (gt y11 y12) ch4)), (.agg ((Ty.atZ ch_0_3 Y30).segs (gt y11 (wr .i64 (y12 - 1))) ch3))]) (ds := [(.agg (Y30.segs (gt y11 y12) ch4)), (.agg (Y30.segs (gt y11 (wr .i64 (y12 - 1))) ch3))]) (fun (ch : Unit) => ((.i t1) : D)) (fun _ _ _ h => h) (by obtain ⟨mm, g1, gZ, g2⟩ := S.plend .h1; exact ⟨mm, g1, g2, fun ok => ⟨(okA_lend gZ ok.1), (okA_lend gZ ok.2.1), trivial⟩⟩) N35 rfl rfl rfl (fun _ => store_Store_All_1.ok (gt y11 y12) (gt y11 (wr .i64 (y12 - 1))) ch4.2.2.2.1.1 ch4.2.2.2.1.2 ch4.2.2.2.2.1 ch4.2.2.2.2.2 ch3.2.2.2.1.1 ch3.2.2.2.1.2 ch3.2.2.2.2.1 ch3.2.2.2.2.2 t1 et1 _ _) fun ch5 a w S => CL.bk hw S .nil le fun hw => ?_)
       replace CL := CL.add (t := 32) (d := (.i t1)) S rfl rfl
       refine h_bin S CL hw le (subR rfl) rfl rfl rfl rfl rfl ⟨_, _, rfl, rfl, c6⟩ fun a S CL => h_pick S CL hw le (subR rfl) (b := true) (hc_of rfl c6) rfl rfl rfl trivial fun a S CL => ?_
       refine h_done ?_; clear CL hw le
       refine x_thenN ?_
       exact j2 _ (decide (t1 < 0)) a w (S.sb rfl (.c0 (.c0 .n))) h4
      exact h_nil
     exact h_nil
    ·refine h_skip S CL rfl rfl rfl (ne_bool c6) rfl fun a S CL => h_skip S CL rfl rfl rfl (ne_bool c6) rfl fun a S CL => h_skip S CL rfl rfl rfl (ne_bool c6) rfl fun a S CL => h_skip S CL rfl rfl rfl (ne_bool c6) rfl fun a S CL => h_skip S CL rfl rfl rfl (ne_bool c6) rfl fun a S CL => h_skip S CL rfl rfl rfl (ne_bool c6) rfl fun a S CL => h_alts ?_
     refine h_skipOt S rfl rfl rfl (ne_bool c6) rfl ?_ ?_
     ·clear S a; intro a S
      refine CL.bk hw S .nil le fun hw => h_alts ?_
      refine h_skipOt S rfl rfl rfl (ne_bool c6) rfl ?_ ?_
      ·clear S a; intro a S
       refine CL.bk hw S .nil le fun hw => h_skipRt S rfl rfl rfl (ne_bool c6) rfl fun a S => CL.bk hw S .nil le fun hw => h_skipRt S rfl rfl rfl (ne_bool c6) rfl fun a S => CL.bk hw S .nil le fun hw => h_skipRt S rfl rfl rfl (ne_bool c6) rfl fun a S => CL.bk hw S .nil le fun hw => ?_
       replace CL := CL.add (t := 32) (d := .u) S rfl rfl
       refine h_skip S CL rfl rfl rfl (ne_bool c6) rfl fun a S CL => h_pick S CL hw le (subR rfl) (b := false) (hc_of rfl c6) rfl rfl rfl trivial fun a S CL => ?_
       refine h_done ?_; clear CL hw le
       refine x_thenN ?_
       exact j2 _ false a w (S.sb rfl (.c0 (.c0 .n))) h1
      refine h_skipOt S rfl rfl rfl (ne_bool c6) rfl ?_ ?_
      ·clear S a; intro a S
       refine CL.bk hw S .nil le fun hw => h_alts ?_
       refine h_skipOt S rfl rfl rfl (ne_bool c6) rfl ?_ ?_
       ·clear S a; intro a S
        refine CL.bk hw S .nil le fun hw => h_skipRt S rfl rfl rfl (ne_bool c6) rfl fun a S => CL.bk hw S .nil le fun hw => h_skipRt S rfl rfl rfl (ne_bool c6) rfl fun a S => CL.bk hw S .nil le fun hw => ?_
        replace CL := CL.add (t := 32) (d := .u) S rfl rfl
        refine h_skip S CL rfl rfl rfl (ne_bool c6) rfl fun a S CL => h_pick S CL hw le (subR rfl) (b := false) (hc_of rfl c6) rfl rfl rfl trivial fun a S CL => ?_
        refine h_done ?_; clear CL hw le
        refine x_thenN ?_
        exact j2 _ false a w (S.sb rfl (.c0 (.c0 .n))) h1
       refine h_skipOt S rfl rfl rfl (ne_bool c6) rfl ?_ ?_
       ·clear S a; intro a S
        refine CL.bk hw S .nil le fun hw => h_skipRt S rfl rfl rfl (ne_bool c6) rfl fun a S => CL.bk hw S .nil le fun hw => h_skipRt S rfl rfl rfl (ne_bool c6) rfl fun a S => CL.bk hw S .nil le fun hw => ?_
        replace CL := CL.add (t := 32) (d := .u) S rfl rfl
        refine h_skip S CL rfl rfl rfl (ne_bool c6) rfl fun a S CL => h_pick S CL hw le (subR rfl) (b := false) (hc_of rfl c6) rfl rfl rfl trivial fun a S CL => ?_
        refine h_done ?_; clear CL hw le
        refine x_thenN ?_
        exact j2 _ false a w (S.sb rfl (.c0 (.c0 .n))) h1
       exact h_nil
      exact h_nil
     refine h_skipOt S rfl rfl rfl (ne_bool c6) rfl ?_ ?_
     ·clear S a; intro a S
      refine CL.bk hw S .nil le fun hw => h_alts ?_
      refine h_skipOt S rfl rfl rfl (ne_bool c6) rfl ?_ ?_
      ·clear S a; intro a S
       refine CL.bk hw S .nil le fun hw => h_alts ?_
       refine h_skipOt S rfl rfl rfl (ne_bool c6) rfl ?_ ?_
       ·clear S a; intro a S
        refine CL.bk hw S .nil le fun hw => h_skipRt S rfl rfl rfl (ne_bool c6) rfl fun a S => CL.bk hw S .nil le fun hw => h_skipRt S rfl rfl rfl (ne_bool c6) rfl fun a S => CL.bk hw S .nil le fun hw => ?_
        replace CL := CL.add (t := 32) (d := .u) S rfl rfl
        refine h_skip S CL rfl rfl rfl (ne_bool c6) rfl fun a S CL => h_pick S CL hw le (subR rfl) (b := false) (hc_of rfl c6) rfl rfl rfl trivial fun a S CL => ?_
        refine h_done ?_; clear CL hw le
        refine x_thenN ?_
        exact j2 _ false a w (S.sb rfl (.c0 (.c0 .n))) h1
       refine h_skipOt S rfl rfl rfl (ne_bool c6) rfl ?_ ?_
       ·clear S a; intro a S
        refine CL.bk hw S .nil le fun hw => h_skipRt S rfl rfl rfl (ne_bool c6) rfl fun a S => CL.bk hw S .nil le fun hw => h_skipRt S rfl rfl rfl (ne_bool c6) rfl fun a S => CL.bk hw S .nil le fun hw => ?_
        replace CL := CL.add (t := 32) (d := .u) S rfl rfl
        refine h_skip S CL rfl rfl rfl (ne_bool c6) rfl fun a S CL => h_pick S CL hw le (subR rfl) (b := false) (hc_of rfl c6) rfl rfl rfl trivial fun a S CL => ?_
        refine h_done ?_; clear CL hw le
        refine x_thenN ?_
        exact j2 _ false a w (S.sb rfl (.c0 (.c0 .n))) h1
       exact h_nil
      refine h_skipOt S rfl rfl rfl (ne_bool c6) rfl ?_ ?_
      ·clear S a; intro a S
       refine CL.bk hw S .nil le fun hw => h_skipRt S rfl rfl rfl (ne_bool c6) rfl fun a S => CL.bk hw S .nil le fun hw => h_skipRt S rfl rfl rfl (ne_bool c6) rfl fun a S => CL.bk hw S .nil le fun hw => h_skipRt S rfl rfl rfl (ne_bool c6) rfl fun a S => CL.bk hw S .nil le fun hw => ?_
       replace CL := CL.add (t := 32) (d := .u) S rfl rfl
       refine h_skip S CL rfl rfl rfl (ne_bool c6) rfl fun a S CL => h_pick S CL hw le (subR rfl) (b := false) (hc_of rfl c6) rfl rfl rfl trivial fun a S CL => ?_
       refine h_done ?_; clear CL hw le
       refine x_thenN ?_
       exact j2 _ false a w (S.sb rfl (.c0 (.c0 .n))) h1
      exact h_nil
     exact h_nil
  ·refine c_condF S rfl c1 (wp_exit (x_thenX (x_thenX (x_blockX (b_end ?_)))))
   obtain rfl := Option.some.inj h1
   exact b_ret0 S rfl (S.retX (Hx := []) hb _ _ (() : Unit) (.c0 (.c0 .n)) trivial)
end
end GW
