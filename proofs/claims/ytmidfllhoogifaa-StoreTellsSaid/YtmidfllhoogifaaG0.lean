/-
  Printed by a program of these sessions (wip/gw/gx.py): for each Go function a Lean function with the same answers, and the walk that shows it.
-/
import Derived.Test.YtmidfllhoogifaaProg
import Derived.Test.YtmidfllhoogifaaGA
set_option linter.unusedVariables false
set_option maxRecDepth 10000
namespace GW
open Go Go.RowKit Go.Proofs
/-! smithy/smithylaw13.fixed -/
abbrev smithylaw13_fixed.Ty : Type := Option Bool
def smithylaw13_fixed.Ctr (s : smithylaw13_fixed.Ty) : Prop := ∀ (r : Bool) (h0 : s = some r) (mi : Mem) (w0 : World), okL mi [] → Pre mi [] w0 → Calls Try.prog 9 (([] : List D).map D.val).toArray w0 (RetX mi [] (fun (ch : Unit) => ((.v (.bool r)) : D)) (fun (ch : Unit) => []) w0)
def smithylaw13_fixed.f (k : Nat) : Option Bool := (store_New.f).bind fun t1 => ((store_Store_Commit.f k (t1) 0 [([0, 0, 0, 0, 0, 0, 0, 0, 0, 0, 0, 0, 0, 0, 0, 0, 0, 0, 0, 1], 0, [5, 0, 0, 0], ([] : List Int), ([] : List ((List Int) × (List Int))))]).bind fun t2 => ((store_Store_Commit.f k (t2.2.2) 0 [([0, 0, 0, 0, 0, 0, 0, 0, 0, 0, 0, 0, 0, 0, 0, 0, 0, 0, 0, 1], 0, [7, 0, 0, 0], ([] : List Int), ([] : List ((List Int) × (List Int))))]).bind fun t3 => ((store_Store_Find.f k (t3.2.2) 1 [0, 0, 0, 0, 0, 0, 0, 0, 0, 0, 0, 0, 0, 0, 0, 0, 0, 0, 0, 1]).bind fun t4 => ((store_Store_Find.f k (t3.2.2) 2 [0, 0, 0, 0, 0, 0, 0, 0, 0, 0, 0, 0, 0, 0, 0, 0, 0, 0, 0, 1]).bind fun t5 => ((store_Store_Find.f k (t3.2.2) 0 [0, 0, 0, 0, 0, 0, 0, 0, 0, 0, 0, 0, 0, 0, 0, 0, 0, 0, 0, 1]).bind fun t6 => (if (t2.1 == 1) = true then (if (t2.2.1 == 0) = true then (if (t3.1 == 2) = true then (if (t3.2.1 == 0) = true then (if (decide (t4.1.2.2.1 = [5, 0, 0, 0])) = true then (if (decide (t5.1.2.2.1 = [7, 0, 0, 0])) = true then (some (!t6.2)) else (some false)) else (some false)) else (some false)) else (some false)) else (some false)) else (some false)))))))
theorem smithylaw13_fixed.ok (k : Nat) : smithylaw13_fixed.Ctr (smithylaw13_fixed.f k) := by
 intro r h0 mi w0 ok hm
 delta smithylaw13_fixed.f at h0
 refine c_enterX (n := 79) [] (l := []) Try.func9 rfl rfl rfl rfl ok hm ?_
 clear ok hm
 intro b0 hb a S
 refine c_region ?_
 refine s_assign S rfl rfl ?_; clear S a; intro a S
 refine c_end ?_
 refine c_region ?_
 obtain ⟨t1, et1, h1⟩ := bind_of h0; clear h0
 refine s_callX S (ds' := []) (ds := []) [] [] (fun (ch : Nat × (Option Addr) × Nat × Nat) => ((.v (.pointer (some ⟨ch.1, 0, none⟩))) : D)) (fun (ch : Nat × (Option Addr) × Nat × Nat) => [Res.cells ch.1 74 [.one (.slice ch.2.1 ch.2.2.1 ch.2.2.2)], Res.row (Ty.prod (Ty.int .i64) Y69) 71 ch.2.1 ch.2.2.1 ch.2.2.2 t1]) (fun (ch : Nat × (Option Addr) × Nat × Nat) => [Res.cells ch.1 74 [.one (.slice ch.2.1 ch.2.2.1 ch.2.2.2)], Res.row (Ty.prod (Ty.int .i64) Y69) 71 ch.2.1 ch.2.2.1 ch.2.2.2 t1]) (fun _ => rfl) N14 rfl rfl (fun ok => ok) .nil rfl (store_New.ok t1 et1 _ _) ?_; clear S a; intro ch1 m le1 a w S
 refine s_assign S rfl rfl ?_; clear S a; intro a S
 refine c_end ?_
 refine c_region ?_
 refine s_move S rfl rfl ?_; clear S a; intro a S
 refine s_build S (ds := [(19, (.v (.int .u8 1)))]) (dv := (.agg [.ints .u8 [0, 0, 0, 0, 0, 0, 0, 0, 0, 0, 0, 0, 0, 0, 0, 0, 0, 0, 0, 1] 20])) rfl (fun _ => by kernel_rfl) ⟨rfl, trivial⟩ rfl ?_; clear S a; intro a S
 refine s_build S (ds := [(0, (.v (.int .u64 5)))]) (dv := (.agg [.ints .u64 [5, 0, 0, 0] 4])) rfl (fun _ => by kernel_rfl) ⟨rfl, trivial⟩ rfl ?_; clear S a; intro a S
 refine s_bldS S (ds := [(0, (.agg [.ints .u8 [0, 0, 0, 0, 0, 0, 0, 0, 0, 0, 0, 0, 0, 0, 0, 0, 0, 0, 0, 1] 20])), (2, (.agg [.ints .u64 [5, 0, 0, 0] 4]))]) (zs := [.ints .u8 [0, 0, 0, 0, 0, 0, 0, 0, 0, 0, 0, 0, 0, 0, 0, 0, 0, 0, 0, 0] 20, .one (.int .u64 0), .ints .u64 [0, 0, 0, 0] 4, .one (.slice none 0 0), .one (.slice none 0 0)]) (s' := [.ints .u8 [0, 0, 0, 0, 0, 0, 0, 0, 0, 0, 0, 0, 0, 0, 0, 0, 0, 0, 0, 1] 20, .one (.int .u64 0), .ints .u64 [5, 0, 0, 0] 4, .one (.slice none 0 0), .one (.slice none 0 0)]) rfl Try.underlying30 P30 Z30 ⟨rfl, rfl, rfl, rfl, rfl, trivial⟩ rfl rfl ?_; clear S a; intro a S
 replace S := S.slot (u := 17) (d' := (.agg [.ints .u8 [0, 0, 0, 0, 0, 0, 0, 0, 0, 0, 0, 0, 0, 0, 0, 0, 0, 0, 0, 1] 20, .one (.int .u64 0), .ints .u64 [5, 0, 0, 0] 4, .sl none (([] : List Int)).length 0 (RdS (Ty.int .u8) none ([] : List Int)), .sl none (([] : List ((List Int) × (List Int)))).length 0 (RdS Y66 none ([] : List ((List Int) × (List Int))))])) rfl rfl (by have h := (S.get 17 (.agg [.ints .u8 [0, 0, 0, 0, 0, 0, 0, 0, 0, 0, 0, 0, 0, 0, 0, 0, 0, 0, 0, 1] 20, .one (.int .u64 0), .ints .u64 [5, 0, 0, 0] 4, .one (.slice none 0 0), .one (.slice none 0 0)]) rfl).2; exact ⟨h.1, h.2.1, h.2.2.1, ok_nil, ok_nil, trivial⟩)
 refine s_bldSl S (ty' := Y30) (ds := [(0, (.agg [.ints .u8 [0, 0, 0, 0, 0, 0, 0, 0, 0, 0, 0, 0, 0, 0, 0, 0, 0, 0, 0, 1] 20, .one (.int .u64 0), .ints .u64 [5, 0, 0, 0] 4, .sl none (([] : List Int)).length 0 (RdS (Ty.int .u8) none ([] : List Int)), .sl none (([] : List ((List Int) × (List Int)))).length 0 (RdS Y66 none ([] : List ((List Int) × (List Int))))]))]) (z := ([0, 0, 0, 0, 0, 0, 0, 0, 0, 0, 0, 0, 0, 0, 0, 0, 0, 0, 0, 0], 0, [0, 0, 0, 0], ([] : List Int), ([] : List ((List Int) × (List Int))))) (c0 := ((), (), (), (none, 0), (none, 0))) (ys := [([0, 0, 0, 0, 0, 0, 0, 0, 0, 0, 0, 0, 0, 0, 0, 0, 0, 0, 0, 1], 0, [5, 0, 0, 0], ([] : List Int), ([] : List ((List Int) × (List Int))))]) (cs := [((), (), (), (none, 0), (none, 0))]) rfl Try.underlying32 J30 Z30 rfl ⟨rfl, rfl, rfl, ⟨Nat.le_refl _, Nat.zero_le _, RdS.nil _ _ _, RdS.mono _ _ _⟩, ⟨Nat.le_refl _, Nat.zero_le _, RdS.nil _ _ _, RdS.mono _ _ _⟩, trivial⟩ rfl rfl rfl rfl rfl rfl ?_; clear S a w; intro g1 a w S
 replace S := S.rowfro .here
 obtain ⟨m, le1, S, hro⟩ := S
 replace S := S.slotro (u := 18) rfl hro
 obtain ⟨t2, et2, h2⟩ := bind_of h1; clear h1
 refine s_callX S (ds' := [(.v (.pointer (some ⟨ch1.1, 0, none⟩))), (.v (.int .i64 0)), (.sl (some ⟨g1, 0, none⟩) ([([0, 0, 0, 0, 0, 0, 0, 0, 0, 0, 0, 0, 0, 0, 0, 0, 0, 0, 0, 1], 0, [5, 0, 0, 0], ([] : List Int), ([] : List ((List Int) × (List Int))))]).length 1 (RdS Y30 (some ⟨g1, 0, none⟩) [([0, 0, 0, 0, 0, 0, 0, 0, 0, 0, 0, 0, 0, 0, 0, 0, 0, 0, 0, 1], 0, [5, 0, 0, 0], ([] : List Int), ([] : List ((List Int) × (List Int))))]))]) (ds := [(.v (.pointer (some ⟨ch1.1, 0, none⟩))), (.v (.int .i64 0)), (.sl (some ⟨g1, 0, none⟩) ([([0, 0, 0, 0, 0, 0, 0, 0, 0, 0, 0, 0, 0, 0, 0, 0, 0, 0, 0, 1], 0, [5, 0, 0, 0], ([] : List Int), ([] : List ((List Int) × (List Int))))]).length 1 (RdS Y30 (some ⟨g1, 0, none⟩) [([0, 0, 0, 0, 0, 0, 0, 0, 0, 0, 0, 0, 0, 0, 0, 0, 0, 0, 0, 1], 0, [5, 0, 0, 0], ([] : List Int), ([] : List ((List Int) × (List Int))))]))]) [Res.cells ch1.1 74 [.one (.slice ch1.2.1 ch1.2.2.1 ch1.2.2.2)], Res.row (Ty.prod (Ty.int .i64) Y69) 71 ch1.2.1 ch1.2.2.1 ch1.2.2.2 t1] [] (fun (ch : (Option Addr) × Nat × Nat) => ((.tup [(false, [.one (.int .i64 t2.1)]), (false, [.one (.int .i64 t2.2.1)])]) : D)) (fun (ch : (Option Addr) × Nat × Nat) => [Res.cells ch1.1 74 [.one (.slice ch.1 ch.2.1 ch.2.2)], Res.row (Ty.prod (Ty.int .i64) Y69) 71 ch.1 ch.2.1 ch.2.2 t2.2.2]) (fun (ch : (Option Addr) × Nat × Nat) => [Res.cells ch1.1 74 [.one (.slice ch.1 ch.2.1 ch.2.2)], Res.row (Ty.prod (Ty.int .i64) Y69) 71 ch.1 ch.2.1 ch.2.2 t2.2.2]) (fun _ => rfl) N16 rfl rfl (fun ok => ok) (.cons .here (.cons .here .nil)) rfl (store_Store_Commit.ok k (t1) 0 [([0, 0, 0, 0, 0, 0, 0, 0, 0, 0, 0, 0, 0, 0, 0, 0, 0, 0, 0, 1], 0, [5, 0, 0, 0], ([] : List Int), ([] : List ((List Int) × (List Int))))] ch1.1 ch1.2.1 ch1.2.2.1 ch1.2.2.2 (some ⟨g1, 0, none⟩) 1 t2 et2 _ _) ?_; clear S a w; intro ch2 m le1 a w S
 refine s_move S rfl rfl ?_; clear S a; intro a S
 refine s_extract S rfl rfl rfl rfl ?_; clear S a; intro a S
 refine s_extract S rfl rfl rfl rfl ?_; clear S a; intro a S
 refine s_assign S rfl rfl ?_; clear S a; intro a S
 refine s_assign S rfl rfl ?_; clear S a; intro a S
 refine c_end ?_
 refine c_region ?_
 refine s_move S rfl rfl ?_; clear S a; intro a S
 refine s_build S (ds := [(19, (.v (.int .u8 1)))]) (dv := (.agg [.ints .u8 [0, 0, 0, 0, 0, 0, 0, 0, 0, 0, 0, 0, 0, 0, 0, 0, 0, 0, 0, 1] 20])) rfl (fun _ => by kernel_rfl) ⟨rfl, trivial⟩ rfl ?_; clear S a; intro a S
 refine s_build S (ds := [(0, (.v (.int .u64 7)))]) (dv := (.agg [.ints .u64 [7, 0, 0, 0] 4])) rfl (fun _ => by kernel_rfl) ⟨rfl, trivial⟩ rfl ?_; clear S a; intro a S
 refine s_bldS S (ds := [(0, (.agg [.ints .u8 [0, 0, 0, 0, 0, 0, 0, 0, 0, 0, 0, 0, 0, 0, 0, 0, 0, 0, 0, 1] 20])), (2, (.agg [.ints .u64 [7, 0, 0, 0] 4]))]) (zs := [.ints .u8 [0, 0, 0, 0, 0, 0, 0, 0, 0, 0, 0, 0, 0, 0, 0, 0, 0, 0, 0, 0] 20, .one (.int .u64 0), .ints .u64 [0, 0, 0, 0] 4, .one (.slice none 0 0), .one (.slice none 0 0)]) (s' := [.ints .u8 [0, 0, 0, 0, 0, 0, 0, 0, 0, 0, 0, 0, 0, 0, 0, 0, 0, 0, 0, 1] 20, .one (.int .u64 0), .ints .u64 [7, 0, 0, 0] 4, .one (.slice none 0 0), .one (.slice none 0 0)]) rfl Try.underlying30 P30 Z30 ⟨rfl, rfl, rfl, rfl, rfl, trivial⟩ rfl rfl ?_; clear S a; intro a S
 replace S := S.slot (u := 26) (d' := (.agg [.ints .u8 [0, 0, 0, 0, 0, 0, 0, 0, 0, 0, 0, 0, 0, 0, 0, 0, 0, 0, 0, 1] 20, .one (.int .u64 0), .ints .u64 [7, 0, 0, 0] 4, .sl none (([] : List Int)).length 0 (RdS (Ty.int .u8) none ([] : List Int)), .sl none (([] : List ((List Int) × (List Int)))).length 0 (RdS Y66 none ([] : List ((List Int) × (List Int))))])) rfl rfl (by have h := (S.get 26 (.agg [.ints .u8 [0, 0, 0, 0, 0, 0, 0, 0, 0, 0, 0, 0, 0, 0, 0, 0, 0, 0, 0, 1] 20, .one (.int .u64 0), .ints .u64 [7, 0, 0, 0] 4, .one (.slice none 0 0), .one (.slice none 0 0)]) rfl).2; exact ⟨h.1, h.2.1, h.2.2.1, ok_nil, ok_nil, trivial⟩)
 refine s_bldSl S (ty' := Y30) (ds := [(0, (.agg [.ints .u8 [0, 0, 0, 0, 0, 0, 0, 0, 0, 0, 0, 0, 0, 0, 0, 0, 0, 0, 0, 1] 20, .one (.int .u64 0), .ints .u64 [7, 0, 0, 0] 4, .sl none (([] : List Int)).length 0 (RdS (Ty.int .u8) none ([] : List Int)), .sl none (([] : List ((List Int) × (List Int)))).length 0 (RdS Y66 none ([] : List ((List Int) × (List Int))))]))]) (z := ([0, 0, 0, 0, 0, 0, 0, 0, 0, 0, 0, 0, 0, 0, 0, 0, 0, 0, 0, 0], 0, [0, 0, 0, 0], ([] : List Int), ([] : List ((List Int) × (List Int))))) (c0 := ((), (), (), (none, 0), (none, 0))) (ys := [([0, 0, 0, 0, 0, 0, 0, 0, 0, 0, 0, 0, 0, 0, 0, 0, 0, 0, 0, 1], 0, [7, 0, 0, 0], ([] : List Int), ([] : List ((List Int) × (List Int))))]) (cs := [((), (), (), (none, 0), (none, 0))]) rfl Try.underlying32 J30 Z30 rfl ⟨rfl, rfl, rfl, ⟨Nat.le_refl _, Nat.zero_le _, RdS.nil _ _ _, RdS.mono _ _ _⟩, ⟨Nat.le_refl _, Nat.zero_le _, RdS.nil _ _ _, RdS.mono _ _ _⟩, trivial⟩ rfl rfl rfl rfl rfl rfl ?_; clear S a w; intro g2 a w S
 replace S := S.rowfro .here
 obtain ⟨m, le1, S, hro⟩ := S
 replace S := S.slotro (u := 27) rfl hro
 obtain ⟨t3, et3, h3⟩ := bind_of h2; clear h2
 refine s_callX S (ds' := [(.v (.pointer (some ⟨ch1.1, 0, none⟩))), (.v (.int .i64 0)), (.sl (some ⟨g2, 0, none⟩) ([([0, 0, 0, 0, 0, 0, 0, 0, 0, 0, 0, 0, 0, 0, 0, 0, 0, 0, 0, 1], 0, [7, 0, 0, 0], ([] : List Int), ([] : List ((List Int) × (List Int))))]).length 1 (RdS Y30 (some ⟨g2, 0, none⟩) [([0, 0, 0, 0, 0, 0, 0, 0, 0, 0, 0, 0, 0, 0, 0, 0, 0, 0, 0, 1], 0, [7, 0, 0, 0], ([] : List Int), ([] : List ((List Int) × (List Int))))]))]) (ds := [(.v (.pointer (some ⟨ch1.1, 0, none⟩))), (.v (.int .i64 0)), (.sl (some ⟨g2, 0, none⟩) ([([0, 0, 0, 0, 0, 0, 0, 0, 0, 0, 0, 0, 0, 0, 0, 0, 0, 0, 0, 1], 0, [7, 0, 0, 0], ([] : List Int), ([] : List ((List Int) × (List Int))))]).length 1 (RdS Y30 (some ⟨g2, 0, none⟩) [([0, 0, 0, 0, 0, 0, 0, 0, 0, 0, 0, 0, 0, 0, 0, 0, 0, 0, 0, 1], 0, [7, 0, 0, 0], ([] : List Int), ([] : List ((List Int) × (List Int))))]))]) [Res.cells ch1.1 74 [.one (.slice ch2.1 ch2.2.1 ch2.2.2)], Res.row (Ty.prod (Ty.int .i64) Y69) 71 ch2.1 ch2.2.1 ch2.2.2 t2.2.2] [] (fun (ch : (Option Addr) × Nat × Nat) => ((.tup [(false, [.one (.int .i64 t3.1)]), (false, [.one (.int .i64 t3.2.1)])]) : D)) (fun (ch : (Option Addr) × Nat × Nat) => [Res.cells ch1.1 74 [.one (.slice ch.1 ch.2.1 ch.2.2)], Res.row (Ty.prod (Ty.int .i64) Y69) 71 ch.1 ch.2.1 ch.2.2 t3.2.2]) (fun (ch : (Option Addr) × Nat × Nat) => [Res.cells ch1.1 74 [.one (.slice ch.1 ch.2.1 ch.2.2)], Res.row (Ty.prod (Ty.int .i64) Y69) 71 ch.1 ch.2.1 ch.2.2 t3.2.2]) (fun _ => rfl) N16 rfl rfl (fun ok => ok) (.cons .here (.cons .here .nil)) rfl (store_Store_Commit.ok k (t2.2.2) 0 [([0, 0, 0, 0, 0, 0, 0, 0, 0, 0, 0, 0, 0, 0, 0, 0, 0, 0, 0, 1], 0, [7, 0, 0, 0], ([] : List Int), ([] : List ((List Int) × (List Int))))] ch1.1 ch2.1 ch2.2.1 ch2.2.2 (some ⟨g2, 0, none⟩) 1 t3 et3 _ _) ?_; clear S a w; intro ch3 m le1 a w S
 refine s_move S rfl rfl ?_; clear S a; intro a S
 refine s_extract S rfl rfl rfl rfl ?_; clear S a; intro a S
 refine s_extract S rfl rfl rfl rfl ?_; clear S a; intro a S
 refine s_assign S rfl rfl ?_; clear S a; intro a S
 refine s_assign S rfl rfl ?_; clear S a; intro a S
 refine c_end ?_
 refine c_region ?_
 refine s_move S rfl rfl ?_; clear S a; intro a S
 refine s_build S (ds := [(19, (.v (.int .u8 1)))]) (dv := (.agg [.ints .u8 [0, 0, 0, 0, 0, 0, 0, 0, 0, 0, 0, 0, 0, 0, 0, 0, 0, 0, 0, 1] 20])) rfl (fun _ => by kernel_rfl) ⟨rfl, trivial⟩ rfl ?_; clear S a; intro a S
 obtain ⟨t4, et4, h4⟩ := bind_of h3; clear h3
 refine s_callX S (ds' := [(.v (.pointer (some ⟨ch1.1, 0, none⟩))), (.v (.int .i64 1)), (.agg [.ints .u8 [0, 0, 0, 0, 0, 0, 0, 0, 0, 0, 0, 0, 0, 0, 0, 0, 0, 0, 0, 1] 20])]) (ds := [(.v (.pointer (some ⟨ch1.1, 0, none⟩))), (.v (.int .i64 1)), (.agg [.ints .u8 [0, 0, 0, 0, 0, 0, 0, 0, 0, 0, 0, 0, 0, 0, 0, 0, 0, 0, 0, 1] 20])]) [Res.cells ch1.1 74 [.one (.slice ch3.1 ch3.2.1 ch3.2.2)], Res.row (Ty.prod (Ty.int .i64) Y69) 71 ch3.1 ch3.2.1 ch3.2.2 t3.2.2] [] (fun (ch : (Option Addr) × Nat × Nat × (Option Addr) × Nat × Nat) => ((.tup [(true, [.ints .u8 t4.1.1 20, .one (.int .u64 t4.1.2.1), .ints .u64 t4.1.2.2.1 4, .one (.slice ch.1 ch.2.1 ch.2.2.1), .one (.slice ch.2.2.2.1 ch.2.2.2.2.1 ch.2.2.2.2.2)]), (false, [.one (.bool t4.2)])]) : D)) (fun (ch : (Option Addr) × Nat × Nat × (Option Addr) × Nat × Nat) => [Res.row (Ty.int .u8) 5 ch.1 ch.2.1 ch.2.2.1 t4.1.2.2.2.1, Res.row Y66 66 ch.2.2.2.1 ch.2.2.2.2.1 ch.2.2.2.2.2 t4.1.2.2.2.2, Res.cells ch1.1 74 [.one (.slice ch3.1 ch3.2.1 ch3.2.2)], Res.row (Ty.prod (Ty.int .i64) Y69) 71 ch3.1 ch3.2.1 ch3.2.2 t3.2.2]) (fun (ch : (Option Addr) × Nat × Nat × (Option Addr) × Nat × Nat) => [Res.row (Ty.int .u8) 5 ch.1 ch.2.1 ch.2.2.1 t4.1.2.2.2.1, Res.row Y66 66 ch.2.2.2.1 ch.2.2.2.2.1 ch.2.2.2.2.2 t4.1.2.2.2.2, Res.cells ch1.1 74 [.one (.slice ch3.1 ch3.2.1 ch3.2.2)], Res.row (Ty.prod (Ty.int .i64) Y69) 71 ch3.1 ch3.2.1 ch3.2.2 t3.2.2]) (fun _ => rfl) N20 rfl rfl (fun ok => ok) (.cons .here (.cons .here .nil)) rfl (store_Store_Find.ok k (t3.2.2) 1 [0, 0, 0, 0, 0, 0, 0, 0, 0, 0, 0, 0, 0, 0, 0, 0, 0, 0, 0, 1] ch1.1 ch3.1 ch3.2.1 ch3.2.2 t4 et4 _ _) ?_; clear S a w; intro ch4 m le1 a w S
 refine s_move S rfl rfl ?_; clear S a; intro a S
 refine s_extract S rfl rfl rfl rfl ?_; clear S a; intro a S
 refine s_extract S rfl rfl rfl rfl ?_; clear S a; intro a S
 refine s_alloc S Z30 rfl ⟨rfl, rfl, rfl, rfl, rfl, trivial⟩ rfl ?_; clear S a w; intro g3 a w S
 refine s_store S rfl rfl rfl (s' := [.ints .u8 t4.1.1 20, .one (.int .u64 t4.1.2.1), .ints .u64 t4.1.2.2.1 4, .one (.slice ch4.1 ch4.2.1 ch4.2.2.1), .one (.slice ch4.2.2.2.1 ch4.2.2.2.2.1 ch4.2.2.2.2.2)]) .here T30 rfl rfl ?_; clear S w; intro w S
 refine s_assign S rfl rfl ?_; clear S a; intro a S
 refine c_end ?_
 refine c_region ?_
 refine s_move S rfl rfl ?_; clear S a; intro a S
 refine s_build S (ds := [(19, (.v (.int .u8 1)))]) (dv := (.agg [.ints .u8 [0, 0, 0, 0, 0, 0, 0, 0, 0, 0, 0, 0, 0, 0, 0, 0, 0, 0, 0, 1] 20])) rfl (fun _ => by kernel_rfl) ⟨rfl, trivial⟩ rfl ?_; clear S a; intro a S
 obtain ⟨t5, et5, h5⟩ := bind_of h4; clear h4
 refine s_callX S (ds' := [(.v (.pointer (some ⟨ch1.1, 0, none⟩))), (.v (.int .i64 2)), (.agg [.ints .u8 [0, 0, 0, 0, 0, 0, 0, 0, 0, 0, 0, 0, 0, 0, 0, 0, 0, 0, 0, 1] 20])]) (ds := [(.v (.pointer (some ⟨ch1.1, 0, none⟩))), (.v (.int .i64 2)), (.agg [.ints .u8 [0, 0, 0, 0, 0, 0, 0, 0, 0, 0, 0, 0, 0, 0, 0, 0, 0, 0, 0, 1] 20])]) [Res.cells ch1.1 74 [.one (.slice ch3.1 ch3.2.1 ch3.2.2)], Res.row (Ty.prod (Ty.int .i64) Y69) 71 ch3.1 ch3.2.1 ch3.2.2 t3.2.2] [Res.cells g3 30 [.ints .u8 t4.1.1 20, .one (.int .u64 t4.1.2.1), .ints .u64 t4.1.2.2.1 4, .one (.slice ch4.1 ch4.2.1 ch4.2.2.1), .one (.slice ch4.2.2.2.1 ch4.2.2.2.2.1 ch4.2.2.2.2.2)], Res.row (Ty.int .u8) 5 ch4.1 ch4.2.1 ch4.2.2.1 t4.1.2.2.2.1, Res.row Y66 66 ch4.2.2.2.1 ch4.2.2.2.2.1 ch4.2.2.2.2.2 t4.1.2.2.2.2] (fun (ch : (Option Addr) × Nat × Nat × (Option Addr) × Nat × Nat) => ((.tup [(true, [.ints .u8 t5.1.1 20, .one (.int .u64 t5.1.2.1), .ints .u64 t5.1.2.2.1 4, .one (.slice ch.1 ch.2.1 ch.2.2.1), .one (.slice ch.2.2.2.1 ch.2.2.2.2.1 ch.2.2.2.2.2)]), (false, [.one (.bool t5.2)])]) : D)) (fun (ch : (Option Addr) × Nat × Nat × (Option Addr) × Nat × Nat) => [Res.row (Ty.int .u8) 5 ch.1 ch.2.1 ch.2.2.1 t5.1.2.2.2.1, Res.row Y66 66 ch.2.2.2.1 ch.2.2.2.2.1 ch.2.2.2.2.2 t5.1.2.2.2.2, Res.cells ch1.1 74 [.one (.slice ch3.1 ch3.2.1 ch3.2.2)], Res.row (Ty.prod (Ty.int .i64) Y69) 71 ch3.1 ch3.2.1 ch3.2.2 t3.2.2]) (fun (ch : (Option Addr) × Nat × Nat × (Option Addr) × Nat × Nat) => [Res.row (Ty.int .u8) 5 ch.1 ch.2.1 ch.2.2.1 t5.1.2.2.2.1, Res.row Y66 66 ch.2.2.2.1 ch.2.2.2.2.1 ch.2.2.2.2.2 t5.1.2.2.2.2, Res.cells ch1.1 74 [.one (.slice ch3.1 ch3.2.1 ch3.2.2)], Res.row (Ty.prod (Ty.int .i64) Y69) 71 ch3.1 ch3.2.1 ch3.2.2 t3.2.2, Res.cells g3 30 [.ints .u8 t4.1.1 20, .one (.int .u64 t4.1.2.1), .ints .u64 t4.1.2.2.1 4, .one (.slice ch4.1 ch4.2.1 ch4.2.2.1), .one (.slice ch4.2.2.2.1 ch4.2.2.2.2.1 ch4.2.2.2.2.2)], Res.row (Ty.int .u8) 5 ch4.1 ch4.2.1 ch4.2.2.1 t4.1.2.2.2.1, Res.row Y66 66 ch4.2.2.2.1 ch4.2.2.2.2.1 ch4.2.2.2.2.2 t4.1.2.2.2.2]) (fun _ => rfl) N20 rfl rfl (fun ok => ok) (.cons (.there (.there (.there .here))) (.cons (.there (.there (.there .here))) (.cons .here (.cons .here (.cons .here .nil))))) rfl (store_Store_Find.ok k (t3.2.2) 2 [0, 0, 0, 0, 0, 0, 0, 0, 0, 0, 0, 0, 0, 0, 0, 0, 0, 0, 0, 1] ch1.1 ch3.1 ch3.2.1 ch3.2.2 t5 et5 _ _) ?_; clear S a w; intro ch5 m le1 a w S
 refine s_move S rfl rfl ?_; clear S a; intro a S
 refine s_extract S rfl rfl rfl rfl ?_; clear S a; intro a S
 refine s_extract S rfl rfl rfl rfl ?_; clear S a; intro a S
 refine s_alloc S Z30 rfl ⟨rfl, rfl, rfl, rfl, rfl, trivial⟩ rfl ?_; clear S a w; intro g4 a w S
 refine s_store S rfl rfl rfl (s' := [.ints .u8 t5.1.1 20, .one (.int .u64 t5.1.2.1), .ints .u64 t5.1.2.2.1 4, .one (.slice ch5.1 ch5.2.1 ch5.2.2.1), .one (.slice ch5.2.2.2.1 ch5.2.2.2.2.1 ch5.2.2.2.2.2)]) .here T30 rfl rfl ?_; clear S w; intro w S
 refine s_assign S rfl rfl ?_; clear S a; intro a S
 refine c_end ?_
 refine c_region ?_
 refine s_move S rfl rfl ?_; clear S a; intro a S
 refine s_build S (ds := [(19, (.v (.int .u8 1)))]) (dv := (.agg [.ints .u8 [0, 0, 0, 0, 0, 0, 0, 0, 0, 0, 0, 0, 0, 0, 0, 0, 0, 0, 0, 1] 20])) rfl (fun _ => by kernel_rfl) ⟨rfl, trivial⟩ rfl ?_; clear S a; intro a S
 obtain ⟨t6, et6, h6⟩ := bind_of h5; clear h5
 refine s_callX S (ds' := [(.v (.pointer (some ⟨ch1.1, 0, none⟩))), (.v (.int .i64 0)), (.agg [.ints .u8 [0, 0, 0, 0, 0, 0, 0, 0, 0, 0, 0, 0, 0, 0, 0, 0, 0, 0, 0, 1] 20])]) (ds := [(.v (.pointer (some ⟨ch1.1, 0, none⟩))), (.v (.int .i64 0)), (.agg [.ints .u8 [0, 0, 0, 0, 0, 0, 0, 0, 0, 0, 0, 0, 0, 0, 0, 0, 0, 0, 0, 1] 20])]) [Res.cells ch1.1 74 [.one (.slice ch3.1 ch3.2.1 ch3.2.2)], Res.row (Ty.prod (Ty.int .i64) Y69) 71 ch3.1 ch3.2.1 ch3.2.2 t3.2.2] [Res.cells g4 30 [.ints .u8 t5.1.1 20, .one (.int .u64 t5.1.2.1), .ints .u64 t5.1.2.2.1 4, .one (.slice ch5.1 ch5.2.1 ch5.2.2.1), .one (.slice ch5.2.2.2.1 ch5.2.2.2.2.1 ch5.2.2.2.2.2)], Res.row (Ty.int .u8) 5 ch5.1 ch5.2.1 ch5.2.2.1 t5.1.2.2.2.1, Res.row Y66 66 ch5.2.2.2.1 ch5.2.2.2.2.1 ch5.2.2.2.2.2 t5.1.2.2.2.2, Res.cells g3 30 [.ints .u8 t4.1.1 20, .one (.int .u64 t4.1.2.1), .ints .u64 t4.1.2.2.1 4, .one (.slice ch4.1 ch4.2.1 ch4.2.2.1), .one (.slice ch4.2.2.2.1 ch4.2.2.2.2.1 ch4.2.2.2.2.2)], Res.row (Ty.int .u8) 5 ch4.1 ch4.2.1 ch4.2.2.1 t4.1.2.2.2.1, Res.row Y66 66 ch4.2.2.2.1 ch4.2.2.2.2.1 ch4.2.2.2.2.2 t4.1.2.2.2.2] (fun (ch : (Option Addr) × Nat × Nat × (Option Addr) × Nat × Nat) => ((.tup [(true, [.ints .u8 t6.1.1 20, .one (.int .u64 t6.1.2.1), .ints .u64 t6.1.2.2.1 4, .one (.slice ch.1 ch.2.1 ch.2.2.1), .one (.slice ch.2.2.2.1 ch.2.2.2.2.1 ch.2.2.2.2.2)]), (false, [.one (.bool t6.2)])]) : D)) (fun (ch : (Option Addr) × Nat × Nat × (Option Addr) × Nat × Nat) => [Res.row (Ty.int .u8) 5 ch.1 ch.2.1 ch.2.2.1 t6.1.2.2.2.1, Res.row Y66 66 ch.2.2.2.1 ch.2.2.2.2.1 ch.2.2.2.2.2 t6.1.2.2.2.2, Res.cells ch1.1 74 [.one (.slice ch3.1 ch3.2.1 ch3.2.2)], Res.row (Ty.prod (Ty.int .i64) Y69) 71 ch3.1 ch3.2.1 ch3.2.2 t3.2.2]) (fun (ch : (Option Addr) × Nat × Nat × (Option Addr) × Nat × Nat) => [Res.row (Ty.int .u8) 5 ch.1 ch.2.1 ch.2.2.1 t6.1.2.2.2.1, Res.row Y66 66 ch.2.2.2.1 ch.2.2.2.2.1 ch.2.2.2.2.2 t6.1.2.2.2.2, Res.cells ch1.1 74 [.one (.slice ch3.1 ch3.2.1 ch3.2.2)], Res.row (Ty.prod (Ty.int .i64) Y69) 71 ch3.1 ch3.2.1 ch3.2.2 t3.2.2, Res.cells g4 30 [.ints .u8 t5.1.1 20, .one (.int .u64 t5.1.2.1), .ints .u64 t5.1.2.2.1 4, .one (.slice ch5.1 ch5.2.1 ch5.2.2.1), .one (.slice ch5.2.2.2.1 ch5.2.2.2.2.1 ch5.2.2.2.2.2)], Res.row (Ty.int .u8) 5 ch5.1 ch5.2.1 ch5.2.2.1 t5.1.2.2.2.1, Res.row Y66 66 ch5.2.2.2.1 ch5.2.2.2.2.1 ch5.2.2.2.2.2 t5.1.2.2.2.2, Res.cells g3 30 [.ints .u8 t4.1.1 20, .one (.int .u64 t4.1.2.1), .ints .u64 t4.1.2.2.1 4, .one (.slice ch4.1 ch4.2.1 ch4.2.2.1), .one (.slice ch4.2.2.2.1 ch4.2.2.2.2.1 ch4.2.2.2.2.2)], Res.row (Ty.int .u8) 5 ch4.1 ch4.2.1 ch4.2.2.1 t4.1.2.2.2.1, Res.row Y66 66 ch4.2.2.2.1 ch4.2.2.2.2.1 ch4.2.2.2.2.2 t4.1.2.2.2.2]) (fun _ => rfl) N20 rfl rfl (fun ok => ok) (.cons (.there (.there (.there .here))) (.cons (.there (.there (.there .here))) (.cons .here (.cons .here (.cons .here (.cons .here (.cons .here (.cons .here .nil)))))))) rfl (store_Store_Find.ok k (t3.2.2) 0 [0, 0, 0, 0, 0, 0, 0, 0, 0, 0, 0, 0, 0, 0, 0, 0, 0, 0, 0, 1] ch1.1 ch3.1 ch3.2.1 ch3.2.2 t6 et6 _ _) ?_; clear S a w; intro ch6 m le1 a w S
 refine s_move S rfl rfl ?_; clear S a; intro a S
 refine s_extract S rfl rfl rfl rfl ?_; clear S a; intro a S
 refine s_extract S rfl rfl rfl rfl ?_; clear S a; intro a S
 refine s_alloc S Z30 rfl ⟨rfl, rfl, rfl, rfl, rfl, trivial⟩ rfl ?_; clear S a w; intro g5 a w S
 refine s_store S rfl rfl rfl (s' := [.ints .u8 t6.1.1 20, .one (.int .u64 t6.1.2.1), .ints .u64 t6.1.2.2.1 4, .one (.slice ch6.1 ch6.2.1 ch6.2.2.1), .one (.slice ch6.2.2.2.1 ch6.2.2.2.2.1 ch6.2.2.2.2.2)]) .here T30 rfl rfl ?_; clear S w; intro w S
 refine s_assign S rfl rfl ?_; clear S a; intro a S
 refine c_end ?_
 refine c_region ?_
 refine s_move S rfl rfl ?_; clear S a; intro a S
 refine s_bin S rfl rfl rfl rfl ?_; clear S a; intro a S
 refine s_move S rfl rfl ?_; clear S a; intro a S
 rcases ite_of h6 with ⟨c1, h7⟩ | ⟨c1, h7⟩ <;> clear h6
 ·refine s_gT S (b := (t2.1 == 1)) rfl rfl c1 ?_
  refine s_move S rfl rfl ?_; clear S a; intro a S
  refine s_gT S (b := (t2.1 == 1)) rfl rfl c1 ?_
  refine s_bin S rfl rfl rfl rfl ?_; clear S a; intro a S
  refine s_pick S (b := true) (hc_of rfl c1) rfl rfl ?_; clear S a; intro a S
  refine s_move S rfl rfl ?_; clear S a; intro a S
  rcases ite_of h7 with ⟨c2, h8⟩ | ⟨c2, h8⟩ <;> clear h7
  ·refine s_gT S (b := (t2.2.1 == 0)) rfl rfl c2 ?_
   refine s_move S rfl rfl ?_; clear S a; intro a S
   refine s_gT S (b := (t2.2.1 == 0)) rfl rfl c2 ?_
   refine s_bin S rfl rfl rfl rfl ?_; clear S a; intro a S
   refine s_pick S (b := true) (hc_of rfl c2) rfl rfl ?_; clear S a; intro a S
   refine s_move S rfl rfl ?_; clear S a; intro a S
   rcases ite_of h8 with ⟨c3, h9⟩ | ⟨c3, h9⟩ <;> clear h8
   ·refine s_gT S (b := (t3.1 == 2)) rfl rfl c3 ?_
    refine s_move S rfl rfl ?_; clear S a; intro a S
    refine s_gT S (b := (t3.1 == 2)) rfl rfl c3 ?_
    refine s_bin S rfl rfl rfl rfl ?_; clear S a; intro a S
    refine s_pick S (b := true) (hc_of rfl c3) rfl rfl ?_; clear S a; intro a S
    refine s_move S rfl rfl ?_; clear S a; intro a S
    rcases ite_of h9 with ⟨c4, h10⟩ | ⟨c4, h10⟩ <;> clear h9
    ·refine s_gT S (b := (t3.2.1 == 0)) rfl rfl c4 ?_
     refine s_fieldAddr S rfl I30_2 T26 (by decide) rfl rfl ?_; clear S a; intro a S
     refine s_gT S (b := (t3.2.1 == 0)) rfl rfl c4 ?_
     refine s_loada S rfl (.there (.there (.there (.there (.there (.there (.there (.there .here)))))))) T26 (s' := [.ints .u64 t4.1.2.2.1 4]) rfl rfl ?_; clear S a; intro a S
     refine s_gT S (b := (t3.2.1 == 0)) rfl rfl c4 ?_
     refine s_build S (ds := [(0, (.v (.int .u64 5)))]) (dv := (.agg [.ints .u64 [5, 0, 0, 0] 4])) rfl (fun _ => by kernel_rfl) ⟨rfl, trivial⟩ rfl ?_; clear S a; intro a S
     refine s_gT S (b := (t3.2.1 == 0)) rfl rfl c4 ?_
     refine s_eqa S rfl rfl Try.underlying26 Try.underlying24 T24 Q26 rfl ?_; clear S a; intro a S
     refine s_pick S (b := true) (hc_of rfl c4) rfl rfl ?_; clear S a; intro a S
     refine s_move S rfl rfl ?_; clear S a; intro a S
     rcases ite_of h10 with ⟨c5, h11⟩ | ⟨c5, h11⟩ <;> clear h10
     ·refine s_gT S (b := (decide (t4.1.2.2.1 = [5, 0, 0, 0]))) rfl rfl c5 ?_
      refine s_fieldAddr S rfl I30_2 T26 (by decide) rfl rfl ?_; clear S a; intro a S
      refine s_gT S (b := (decide (t4.1.2.2.1 = [5, 0, 0, 0]))) rfl rfl c5 ?_
      refine s_loada S rfl (.there (.there (.there (.there (.there .here))))) T26 (s' := [.ints .u64 t5.1.2.2.1 4]) rfl rfl ?_; clear S a; intro a S
      refine s_gT S (b := (decide (t4.1.2.2.1 = [5, 0, 0, 0]))) rfl rfl c5 ?_
      refine s_build S (ds := [(0, (.v (.int .u64 7)))]) (dv := (.agg [.ints .u64 [7, 0, 0, 0] 4])) rfl (fun _ => by kernel_rfl) ⟨rfl, trivial⟩ rfl ?_; clear S a; intro a S
      refine s_gT S (b := (decide (t4.1.2.2.1 = [5, 0, 0, 0]))) rfl rfl c5 ?_
      refine s_eqa S rfl rfl Try.underlying26 Try.underlying24 T24 Q26 rfl ?_; clear S a; intro a S
      refine s_pick S (b := true) (hc_of rfl c5) rfl rfl ?_; clear S a; intro a S
      refine s_move S rfl rfl ?_; clear S a; intro a S
      rcases ite_of h11 with ⟨c6, h12⟩ | ⟨c6, h12⟩ <;> clear h11
      ·refine s_gT S (b := (decide (t5.1.2.2.1 = [7, 0, 0, 0]))) rfl rfl c6 ?_
       refine s_move S rfl rfl ?_; clear S a; intro a S
       refine s_gT S (b := (decide (t5.1.2.2.1 = [7, 0, 0, 0]))) rfl rfl c6 ?_
       refine s_not S rfl rfl ?_; clear S a; intro a S
       refine s_pick S (b := true) (hc_of rfl c6) rfl rfl ?_; clear S a; intro a S
       refine s_assign S rfl rfl ?_; clear S a; intro a S
       refine c_end ?_
       refine wp_ret ?_
       obtain rfl := Option.some.inj h12
       exact b_ret1 (d := (.v (.bool (!t6.2)))) S rfl rfl fun ok => S.retX (Hx := []) hb _ _ (() : Unit) .nil ok
      ·refine s_gF S (b := (decide (t5.1.2.2.1 = [7, 0, 0, 0]))) rfl rfl c6 rfl ?_; clear S a; intro a S
       refine s_gF S (b := (decide (t5.1.2.2.1 = [7, 0, 0, 0]))) rfl rfl c6 rfl ?_; clear S a; intro a S
       refine s_pick S (b := false) (hc_of rfl c6) rfl rfl ?_; clear S a; intro a S
       refine s_assign S rfl rfl ?_; clear S a; intro a S
       refine c_end ?_
       refine wp_ret ?_
       obtain rfl := Option.some.inj h12
       exact b_ret1 (d := (.v (.bool false))) S rfl rfl fun ok => S.retX (Hx := []) hb _ _ (() : Unit) .nil ok
     ·refine s_gF S (b := (decide (t4.1.2.2.1 = [5, 0, 0, 0]))) rfl rfl c5 rfl ?_; clear S a; intro a S
      refine s_gF S (b := (decide (t4.1.2.2.1 = [5, 0, 0, 0]))) rfl rfl c5 rfl ?_; clear S a; intro a S
      refine s_gF S (b := (decide (t4.1.2.2.1 = [5, 0, 0, 0]))) rfl rfl c5 rfl ?_; clear S a; intro a S
      refine s_gF S (b := (decide (t4.1.2.2.1 = [5, 0, 0, 0]))) rfl rfl c5 rfl ?_; clear S a; intro a S
      refine s_pick S (b := false) (hc_of rfl c5) rfl rfl ?_; clear S a; intro a S
      refine s_move S rfl rfl ?_; clear S a; intro a S
      refine s_gF S (b := false) rfl rfl rfl rfl ?_; clear S a; intro a S
      refine s_gF S (b := false) rfl rfl rfl rfl ?_; clear S a; intro a S
      refine s_pick S (b := false) (hc_of rfl rfl) rfl rfl ?_; clear S a; intro a S
      refine s_assign S rfl rfl ?_; clear S a; intro a S
      refine c_end ?_
      refine wp_ret ?_
      obtain rfl := Option.some.inj h11
      exact b_ret1 (d := (.v (.bool false))) S rfl rfl fun ok => S.retX (Hx := []) hb _ _ (() : Unit) .nil ok
    ·refine s_gF S (b := (t3.2.1 == 0)) rfl rfl c4 rfl ?_; clear S a; intro a S
     refine s_gF S (b := (t3.2.1 == 0)) rfl rfl c4 rfl ?_; clear S a; intro a S
     refine s_gF S (b := (t3.2.1 == 0)) rfl rfl c4 rfl ?_; clear S a; intro a S
     refine s_gF S (b := (t3.2.1 == 0)) rfl rfl c4 rfl ?_; clear S a; intro a S
     refine s_pick S (b := false) (hc_of rfl c4) rfl rfl ?_; clear S a; intro a S
     refine s_move S rfl rfl ?_; clear S a; intro a S
     refine s_gF S (b := false) rfl rfl rfl rfl ?_; clear S a; intro a S
     refine s_gF S (b := false) rfl rfl rfl rfl ?_; clear S a; intro a S
     refine s_gF S (b := false) rfl rfl rfl rfl ?_; clear S a; intro a S
     refine s_gF S (b := false) rfl rfl rfl rfl ?_; clear S a; intro a S
     refine s_pick S (b := false) (hc_of rfl rfl) rfl rfl ?_; clear S a; intro a S
     refine s_move S rfl rfl ?_; clear S a; intro a S
     refine s_gF S (b := false) rfl rfl rfl rfl ?_; clear S a; intro a S
     refine s_gF S (b := false) rfl rfl rfl rfl ?_; clear S a; intro a S
     refine s_pick S (b := false) (hc_of rfl rfl) rfl rfl ?_; clear S a; intro a S
     refine s_assign S rfl rfl ?_; clear S a; intro a S
     refine c_end ?_
     refine wp_ret ?_
     obtain rfl := Option.some.inj h10
     exact b_ret1 (d := (.v (.bool false))) S rfl rfl fun ok => S.retX (Hx := []) hb _ _ (() : Unit) .nil ok
   ·refine s_gF S (b := (t3.1 == 2)) rfl rfl c3 rfl ?_; clear S a; intro a S
    refine s_gF S (b := (t3.1 == 2)) rfl rfl c3 rfl ?_; clear S a; intro a S
    refine s_pick S (b := false) (hc_of rfl c3) rfl rfl ?_; clear S a; intro a S
    refine s_move S rfl rfl ?_; clear S a; intro a S
    refine s_gF S (b := false) rfl rfl rfl rfl ?_; clear S a; intro a S
    refine s_gF S (b := false) rfl rfl rfl rfl ?_; clear S a; intro a S
    refine s_gF S (b := false) rfl rfl rfl rfl ?_; clear S a; intro a S
    refine s_gF S (b := false) rfl rfl rfl rfl ?_; clear S a; intro a S
    refine s_pick S (b := false) (hc_of rfl rfl) rfl rfl ?_; clear S a; intro a S
    refine s_move S rfl rfl ?_; clear S a; intro a S
    refine s_gF S (b := false) rfl rfl rfl rfl ?_; clear S a; intro a S
    refine s_gF S (b := false) rfl rfl rfl rfl ?_; clear S a; intro a S
    refine s_gF S (b := false) rfl rfl rfl rfl ?_; clear S a; intro a S
    refine s_gF S (b := false) rfl rfl rfl rfl ?_; clear S a; intro a S
    refine s_pick S (b := false) (hc_of rfl rfl) rfl rfl ?_; clear S a; intro a S
    refine s_move S rfl rfl ?_; clear S a; intro a S
    refine s_gF S (b := false) rfl rfl rfl rfl ?_; clear S a; intro a S
    refine s_gF S (b := false) rfl rfl rfl rfl ?_; clear S a; intro a S
    refine s_pick S (b := false) (hc_of rfl rfl) rfl rfl ?_; clear S a; intro a S
    refine s_assign S rfl rfl ?_; clear S a; intro a S
    refine c_end ?_
    refine wp_ret ?_
    obtain rfl := Option.some.inj h9
    exact b_ret1 (d := (.v (.bool false))) S rfl rfl fun ok => S.retX (Hx := []) hb _ _ (() : Unit) .nil ok
  ·refine s_gF S (b := (t2.2.1 == 0)) rfl rfl c2 rfl ?_; clear S a; intro a S
   refine s_gF S (b := (t2.2.1 == 0)) rfl rfl c2 rfl ?_; clear S a; intro a S
   refine s_pick S (b := false) (hc_of rfl c2) rfl rfl ?_; clear S a; intro a S
   refine s_move S rfl rfl ?_; clear S a; intro a S
   refine s_gF S (b := false) rfl rfl rfl rfl ?_; clear S a; intro a S
   refine s_gF S (b := false) rfl rfl rfl rfl ?_; clear S a; intro a S
   refine s_pick S (b := false) (hc_of rfl rfl) rfl rfl ?_; clear S a; intro a S
   refine s_move S rfl rfl ?_; clear S a; intro a S
   refine s_gF S (b := false) rfl rfl rfl rfl ?_; clear S a; intro a S
   refine s_gF S (b := false) rfl rfl rfl rfl ?_; clear S a; intro a S
   refine s_gF S (b := false) rfl rfl rfl rfl ?_; clear S a; intro a S
   refine s_gF S (b := false) rfl rfl rfl rfl ?_; clear S a; intro a S
   refine s_pick S (b := false) (hc_of rfl rfl) rfl rfl ?_; clear S a; intro a S
   refine s_move S rfl rfl ?_; clear S a; intro a S
   refine s_gF S (b := false) rfl rfl rfl rfl ?_; clear S a; intro a S
   refine s_gF S (b := false) rfl rfl rfl rfl ?_; clear S a; intro a S
   refine s_gF S (b := false) rfl rfl rfl rfl ?_; clear S a; intro a S
   refine s_gF S (b := false) rfl rfl rfl rfl ?_; clear S a; intro a S
   refine s_pick S (b := false) (hc_of rfl rfl) rfl rfl ?_; clear S a; intro a S
   refine s_move S rfl rfl ?_; clear S a; intro a S
   refine s_gF S (b := false) rfl rfl rfl rfl ?_; clear S a; intro a S
   refine s_gF S (b := false) rfl rfl rfl rfl ?_; clear S a; intro a S
   refine s_pick S (b := false) (hc_of rfl rfl) rfl rfl ?_; clear S a; intro a S
   refine s_assign S rfl rfl ?_; clear S a; intro a S
   refine c_end ?_
   refine wp_ret ?_
   obtain rfl := Option.some.inj h8
   exact b_ret1 (d := (.v (.bool false))) S rfl rfl fun ok => S.retX (Hx := []) hb _ _ (() : Unit) .nil ok
 ·refine s_gF S (b := (t2.1 == 1)) rfl rfl c1 rfl ?_; clear S a; intro a S
  refine s_gF S (b := (t2.1 == 1)) rfl rfl c1 rfl ?_; clear S a; intro a S
  refine s_pick S (b := false) (hc_of rfl c1) rfl rfl ?_; clear S a; intro a S
  refine s_move S rfl rfl ?_; clear S a; intro a S
  refine s_gF S (b := false) rfl rfl rfl rfl ?_; clear S a; intro a S
  refine s_gF S (b := false) rfl rfl rfl rfl ?_; clear S a; intro a S
  refine s_pick S (b := false) (hc_of rfl rfl) rfl rfl ?_; clear S a; intro a S
  refine s_move S rfl rfl ?_; clear S a; intro a S
  refine s_gF S (b := false) rfl rfl rfl rfl ?_; clear S a; intro a S
  refine s_gF S (b := false) rfl rfl rfl rfl ?_; clear S a; intro a S
  refine s_pick S (b := false) (hc_of rfl rfl) rfl rfl ?_; clear S a; intro a S
  refine s_move S rfl rfl ?_; clear S a; intro a S
  refine s_gF S (b := false) rfl rfl rfl rfl ?_; clear S a; intro a S
  refine s_gF S (b := false) rfl rfl rfl rfl ?_; clear S a; intro a S
  refine s_gF S (b := false) rfl rfl rfl rfl ?_; clear S a; intro a S
  refine s_gF S (b := false) rfl rfl rfl rfl ?_; clear S a; intro a S
  refine s_pick S (b := false) (hc_of rfl rfl) rfl rfl ?_; clear S a; intro a S
  refine s_move S rfl rfl ?_; clear S a; intro a S
  refine s_gF S (b := false) rfl rfl rfl rfl ?_; clear S a; intro a S
  refine s_gF S (b := false) rfl rfl rfl rfl ?_; clear S a; intro a S
  refine s_gF S (b := false) rfl rfl rfl rfl ?_; clear S a; intro a S
  refine s_gF S (b := false) rfl rfl rfl rfl ?_; clear S a; intro a S
  refine s_pick S (b := false) (hc_of rfl rfl) rfl rfl ?_; clear S a; intro a S
  refine s_move S rfl rfl ?_; clear S a; intro a S
  refine s_gF S (b := false) rfl rfl rfl rfl ?_; clear S a; intro a S
  refine s_gF S (b := false) rfl rfl rfl rfl ?_; clear S a; intro a S
  refine s_pick S (b := false) (hc_of rfl rfl) rfl rfl ?_; clear S a; intro a S
  refine s_assign S rfl rfl ?_; clear S a; intro a S
  refine c_end ?_
  refine wp_ret ?_
  obtain rfl := Option.some.inj h7
  exact b_ret1 (d := (.v (.bool false))) S rfl rfl fun ok => S.retX (Hx := []) hb _ _ (() : Unit) .nil ok
/-! smithy/smithyref01.Of -/
abbrev smithyref01_Of.Ty : Type := (List Int) → Option ((List Int))
def smithyref01_Of.Ctr (s : smithyref01_Of.Ty) : Prop := ∀ (x1 : List Int) (r : (List Int)) (h0 : s x1 = some r) (mi : Mem) (w0 : World), okL mi [(.agg [.ints .u64 x1 4])] → Pre mi [] w0 → Calls Try.prog 42 (([(.agg [.ints .u64 x1 4])] : List D).map D.val).toArray w0 (RetX mi [] (fun (ch : Unit) => ((.agg [.ints .i64 r 32]) : D)) (fun (ch : Unit) => []) w0)
def smithyref01_Of.j1 (y1 : List Int) : Option ((List Int)) := some y1
def smithyref01_Of.b1 (x1 : List Int) (rec1 : Int → (List Int) → Option ((List Int))) (y4 : Int) (y5 : List Int) : Option ((List Int)) := if (decide (y4 < 32)) = true then (if (0 : Int) ≤ (wr .i64 (Int.tdiv y4 8)) ∧ (wr .i64 (Int.tdiv y4 8)) < 4 then (if (0 : Int) ≤ (wr .i64 (8 * (Int.tmod y4 8))) then (if (0 : Int) ≤ y4 ∧ y4 < 32 then (rec1 (wr .i64 (y4 + 1)) (y5.set (Int.toNat y4) (wr .i64 (Int.tmod (shr (rd x1 (wr .i64 (Int.tdiv y4 8))) (min (Int.toNat (wr .i64 (8 * (Int.tmod y4 8)))) 64)) 256)))) else none) else none) else none) else (smithyref01_Of.j1 y5)
def smithyref01_Of.l1 (x1 : List Int) : Nat → Int → (List Int) → Option ((List Int))
  | 0, _, _ => none
  | q + 1, y4, y5 => smithyref01_Of.b1 x1 (smithyref01_Of.l1 x1 q) y4 y5
def smithyref01_Of.f (k : Nat) (x1 : List Int) : Option ((List Int)) := smithyref01_Of.l1 x1 k 0 [0, 0, 0, 0, 0, 0, 0, 0, 0, 0, 0, 0, 0, 0, 0, 0, 0, 0, 0, 0, 0, 0, 0, 0, 0, 0, 0, 0, 0, 0, 0, 0]
theorem smithyref01_Of.ok (k : Nat) : smithyref01_Of.Ctr (smithyref01_Of.f k) := by
 intro x1 r h0 mi w0 ok hm
 delta smithyref01_Of.f at h0
 refine c_enterX (n := 23) [(.agg [.ints .u64 x1 4])] (l := [(0, (.agg [.ints .u64 x1 4]))]) Try.func42 rfl rfl rfl rfl ok hm ?_
 clear ok hm
 intro b0 hb a S
 refine c_region ?_
 refine s_box S rfl rfl rfl ?_; clear S a; intro g1 a w S
 refine s_alloc S Z87 rfl ⟨rfl, trivial⟩ rfl ?_; clear S a w; intro g2 a w S
 refine c_end ?_
 refine c_region ?_
 refine s_build S (ds := []) (dv := (.agg [.ints .i64 [0, 0, 0, 0, 0, 0, 0, 0, 0, 0, 0, 0, 0, 0, 0, 0, 0, 0, 0, 0, 0, 0, 0, 0, 0, 0, 0, 0, 0, 0, 0, 0] 32])) rfl (fun _ => by kernel_rfl) ⟨rfl, trivial⟩ rfl ?_; clear S a; intro a S
 refine s_alloc S Z87 rfl ⟨rfl, trivial⟩ rfl ?_; clear S a w; intro g3 a w S
 refine s_store S rfl rfl rfl (s' := [.ints .i64 [0, 0, 0, 0, 0, 0, 0, 0, 0, 0, 0, 0, 0, 0, 0, 0, 0, 0, 0, 0, 0, 0, 0, 0, 0, 0, 0, 0, 0, 0, 0, 0] 32]) .here T87 rfl rfl ?_; clear S w; intro w S
 refine c_end ?_
 refine wp_seq_k ?_
 intro K1 hK1
 have j1 : ∀ (m : Mem) (g13 : Nat) (g14 : Nat) (y1 : List Int) (a : Act) (w : World), St 23 m b0 [(3, (.v (.pointer (some ⟨g13, 0, none⟩)))), (2, (.v (.pointer (some ⟨g14, 0, none⟩))))] [Res.cells g13 87 [.ints .i64 y1 32], Res.cells g14 87 [.ints .i64 [0, 0, 0, 0, 0, 0, 0, 0, 0, 0, 0, 0, 0, 0, 0, 0, 0, 0, 0, 0, 0, 0, 0, 0, 0, 0, 0, 0, 0, 0, 0, 0] 32]] a w → smithyref01_Of.j1 y1 = some r → K1 a w := by
  intro m g13 g14 y1 a w S h0
  delta smithyref01_Of.j1 at h0
  refine hK1 a w ?_
  refine c_region ?_
  refine s_loada S rfl .here T87 (s' := [.ints .i64 y1 32]) rfl rfl ?_; clear S a; intro a S
  refine s_store S rfl rfl rfl (s' := [.ints .i64 y1 32]) (.there .here) T87 rfl rfl ?_; clear S w; intro w S
  refine c_end ?_
  refine wp_ret ?_
  obtain rfl := Option.some.inj h0
  exact b_ret1 (d := (.agg [.ints .i64 y1 32])) S rfl (resD_cell rfl (.there .here) T87 rfl rfl) fun ok => S.retX (Hx := []) hb _ _ (() : Unit) .nil ok
 refine c_region ?_
 refine s_assign S rfl rfl ?_; clear S a; intro a S
 refine c_end ?_
 refine wp_block ?_
 refine c_loop (fun q1 a w => ∃ (m : Mem) (y4 : Int) (g21 : Nat) (g22 : Nat) (g23 : Nat) (y5 : List Int), St 23 m b0 [(4, (.v (.int .i64 y4))), (3, (.v (.pointer (some ⟨g21, 0, none⟩)))), (2, (.v (.pointer (some ⟨g22, 0, none⟩)))), (1, (.v (.pointer (some ⟨g23, 0, none⟩))))] [Res.cells g21 87 [.ints .i64 y5 32], Res.cells g22 87 [.ints .i64 [0, 0, 0, 0, 0, 0, 0, 0, 0, 0, 0, 0, 0, 0, 0, 0, 0, 0, 0, 0, 0, 0, 0, 0, 0, 0, 0, 0, 0, 0, 0, 0] 32], Res.cells g23 26 [.ints .u64 x1 4]] a w ∧ smithyref01_Of.l1 x1 q1 y4 y5 = some r) ?_ ?_ (k := k) ⟨_, 0, g3, g2, g1, [0, 0, 0, 0, 0, 0, 0, 0, 0, 0, 0, 0, 0, 0, 0, 0, 0, 0, 0, 0, 0, 0, 0, 0, 0, 0, 0, 0, 0, 0, 0, 0], (S.sub (subR rfl) (.cons .here (.cons .here (.cons .here .nil)))), h0⟩
 ·rintro a w ⟨m, y4, g21, g22, g23, y5, S, h0⟩
  exact (nomatch (show (none : Option ((List Int))) = some r from h0))
 ·clear S h0
  rintro q1 a w ⟨m, y4, g21, g22, g23, y5, S, h0⟩
  replace h0 : smithyref01_Of.b1 x1 (smithyref01_Of.l1 x1 q1) y4 y5 = some r := h0
  delta smithyref01_Of.b1 at h0
  refine wp_seq ?_
  refine c_region ?_
  refine s_move S rfl rfl ?_; clear S a; intro a S
  refine s_bin S rfl rfl rfl rfl ?_; clear S a; intro a S
  refine c_end ?_
  rcases ite_of h0 with ⟨c1, h1⟩ | ⟨c1, h1⟩ <;> clear h0
  ·refine c_condT S rfl c1 ?_
   refine wp_skip ?_
   refine x_thenN ?_
   refine wp_seq ?_
   refine wp_block ?_
   refine c_region' ?_
   refine s_move S rfl rfl ?_; clear S a; intro a S
   refine s_move S rfl rfl ?_; clear S a; intro a S
   refine s_quo S rfl rfl (by decide) rfl ?_; clear S a; intro a S
   obtain ⟨c2, h2⟩ := chk_of h1; clear h1
   refine s_iaddr S rfl rfl Try.underlying26 T24 c2.1 c2.2 (mul1 _ _) rfl ?_; clear S a; intro a S
   refine s_loadi S (i := (wr .i64 (Int.tdiv y4 8))) rfl (.there (.there .here)) T24 .here rfl c2.1 c2.2 rfl ?_; clear S a; intro a S
   refine s_move S rfl rfl ?_; clear S a; intro a S
   refine s_rem S rfl rfl (by decide) rfl ?_; clear S a; intro a S
   refine s_bin S rfl rfl rfl rfl ?_; clear S a; intro a S
   obtain ⟨c3, h3⟩ := chk_of h2; clear h2
   refine s_shr S (e := (min (Int.toNat (wr .i64 (8 * (Int.tmod y4 8)))) 64)) rfl rfl c3 rfl rfl ?_; clear S a; intro a S
   refine s_rem S rfl rfl (by decide) rfl ?_; clear S a; intro a S
   refine s_conv S rfl rfl Try.underlying3 rfl ?_; clear S a; intro a S
   obtain ⟨c4, h4⟩ := chk_of h3; clear h3
   refine s_iaddr S rfl rfl Try.underlying87 T3 c4.1 c4.2 (mul1 _ _) rfl ?_; clear S a; intro a S
   refine s_storei S (i := y4) rfl rfl .here T3 .here rfl c4.1 c4.2 ?_; clear S w; intro w S
   refine c_end' ?_
   refine x_blockN ?_
   refine x_thenN ?_
   refine c_region' ?_
   refine s_move S rfl rfl ?_; clear S a; intro a S
   refine s_bin S rfl rfl rfl rfl ?_; clear S a; intro a S
   refine s_assign S rfl rfl ?_; clear S a; intro a S
   refine c_end' ?_
   refine x_thenN ?_
   exact ⟨_, (wr .i64 (y4 + 1)), g21, g22, g23, (y5.set (Int.toNat y4) (wr .i64 (Int.tmod (shr (rd x1 (wr .i64 (Int.tdiv y4 8))) (min (Int.toNat (wr .i64 (8 * (Int.tmod y4 8)))) 64)) 256))), (S.sub (subR rfl) (.cons .here (.cons .here (.cons .here .nil)))), h4⟩
  ·refine c_condF S rfl c1 ?_
   refine wp_exit ?_
   refine x_thenX ?_
   refine x_thenX ?_
   refine x_blockX ?_
   refine x_thenN ?_
   exact j1 _ g21 g22 y5 a w (S.sub (subR rfl) (.cons .here (.cons .here .nil))) h1
/-! smithy/smithyref01.Compare -/
abbrev smithyref01_Compare.Ty : Type := (List Int) → (List Int) → Option Int
def smithyref01_Compare.Ctr (s : smithyref01_Compare.Ty) : Prop := ∀ (x1 : List Int) (x2 : List Int) (r : Int) (h0 : s x1 x2 = some r) (mi : Mem) (w0 : World), okL mi [(.agg [.ints .i64 x1 32]), (.agg [.ints .i64 x2 32])] → Pre mi [] w0 → Calls Try.prog 41 (([(.agg [.ints .i64 x1 32]), (.agg [.ints .i64 x2 32])] : List D).map D.val).toArray w0 (RetX mi [] (fun (ch : Unit) => ((.v (.int .i64 r)) : D)) (fun (ch : Unit) => []) w0)
def smithyref01_Compare.j1 : Option Int := some 0
def smithyref01_Compare.b1 (x1 : List Int) (x2 : List Int) (rec1 : Int → Option Int) (y1 : Int) : Option Int := if (decide (0 ≤ y1)) = true then (if (0 : Int) ≤ y1 ∧ y1 < 32 then (if (decide ((rd x1 y1) < (rd x2 y1))) = true then (some (-1)) else (if (decide ((rd x2 y1) < (rd x1 y1))) = true then (some 1) else (rec1 (wr .i64 (y1 - 1))))) else none) else smithyref01_Compare.j1
def smithyref01_Compare.l1 (x1 : List Int) (x2 : List Int) : Nat → Int → Option Int
  | 0, _ => none
  | q + 1, y1 => smithyref01_Compare.b1 x1 x2 (smithyref01_Compare.l1 x1 x2 q) y1
def smithyref01_Compare.f (k : Nat) (x1 : List Int) (x2 : List Int) : Option Int := smithyref01_Compare.l1 x1 x2 k 31
theorem smithyref01_Compare.ok (k : Nat) : smithyref01_Compare.Ctr (smithyref01_Compare.f k) := by
 intro x1 x2 r h0 mi w0 ok hm
 delta smithyref01_Compare.f at h0
 refine c_enterX (n := 24) [(.agg [.ints .i64 x1 32]), (.agg [.ints .i64 x2 32])] (l := [(0, (.agg [.ints .i64 x1 32])), (1, (.agg [.ints .i64 x2 32]))]) Try.func41 rfl rfl rfl rfl ok hm ?_
 clear ok hm
 intro b0 hb a S
 refine c_region ?_
 refine s_box S rfl rfl rfl ?_; clear S a; intro g1 a w S
 refine s_box S rfl rfl rfl ?_; clear S a w; intro g2 a w S
 refine s_assign S rfl rfl ?_; clear S a; intro a S
 refine c_end ?_
 refine wp_seq_k ?_
 intro K1 hK1
 have j1 : ∀ (m : Mem) (a : Act) (w : World), St 24 m b0 [] [] a w → smithyref01_Compare.j1 = some r → K1 a w := by
  intro m a w S h0
  delta smithyref01_Compare.j1 at h0
  refine hK1 a w ?_
  refine c_region ?_
  refine s_assign S rfl rfl ?_; clear S a; intro a S
  refine c_end ?_
  refine wp_ret ?_
  obtain rfl := Option.some.inj h0
  exact b_ret1 (d := (.v (.int .i64 0))) S rfl rfl fun ok => S.retX (Hx := []) hb _ _ (() : Unit) .nil ok
 refine c_region ?_
 refine s_assign S rfl rfl ?_; clear S a; intro a S
 refine c_end ?_
 refine wp_block ?_
 refine c_loop (fun q1 a w => ∃ (m : Mem) (y1 : Int) (g13 : Nat) (g14 : Nat), St 24 m b0 [(5, (.v (.int .i64 y1))), (3, (.v (.pointer (some ⟨g13, 0, none⟩)))), (2, (.v (.pointer (some ⟨g14, 0, none⟩))))] [Res.cells g13 87 [.ints .i64 x2 32], Res.cells g14 87 [.ints .i64 x1 32]] a w ∧ smithyref01_Compare.l1 x1 x2 q1 y1 = some r) ?_ ?_ (k := k) ⟨_, 31, g2, g1, (S.sub (subR rfl) (.cons .here (.cons .here .nil))), h0⟩
 ·rintro a w ⟨m, y1, g13, g14, S, h0⟩
  exact (nomatch (show (none : Option Int) = some r from h0))
 ·clear S h0
  rintro q1 a w ⟨m, y1, g13, g14, S, h0⟩
  replace h0 : smithyref01_Compare.b1 x1 x2 (smithyref01_Compare.l1 x1 x2 q1) y1 = some r := h0
  delta smithyref01_Compare.b1 at h0
  refine wp_seq ?_
  refine c_region ?_
  refine s_move S rfl rfl ?_; clear S a; intro a S
  refine s_bin S rfl rfl rfl rfl ?_; clear S a; intro a S
  refine c_end ?_
  rcases ite_of h0 with ⟨c1, h1⟩ | ⟨c1, h1⟩ <;> clear h0
  ·refine c_condT S rfl c1 ?_
   refine wp_skip ?_
   refine x_thenN ?_
   refine wp_seq ?_
   refine wp_block ?_
   refine wp_seq ?_
   refine wp_seq (c_heldS S (.take 0 (.take 1 (.take 2 (.take 3 (.take 4 (.take 5 (.take 6 .done))))))) 7 [Res.cells g13 87 [.ints .i64 x2 32], Res.cells g14 87 [.ints .i64 x1 32]] (.cons .here (.cons .here .nil)) ⟨Res.stay_cells, Res.stay_cells, trivial⟩ [(5, (.v (.int .i64 y1))), (3, (.v (.pointer (some ⟨g13, 0, none⟩)))), (2, (.v (.pointer (some ⟨g14, 0, none⟩))))] (subR rfl) (by kernel_rfl) (by kernel_rfl) ?_); clear S; intro w S CL hw le
   refine h_move S CL hw le (subR rfl) rfl rfl rfl trivial ?_; clear S CL a; intro a S CL
   obtain ⟨c2, h2⟩ := chk_of h1; clear h1
   refine h_iaddr S CL hw le (subR rfl) rfl rfl Try.underlying87 T3 c2.1 c2.2 (mul1 _ _) rfl rfl trivial ?_; clear S CL a; intro a S CL
   refine h_loadi S CL hw le (subR rfl) (i := y1) rfl (.there .here) T3 .here rfl c2.1 c2.2 rfl rfl trivial ?_; clear S CL a; intro a S CL
   refine h_move S CL hw le (subR rfl) rfl rfl rfl trivial ?_; clear S CL a; intro a S CL
   refine h_iaddr S CL hw le (subR rfl) rfl rfl Try.underlying87 T3 c2.1 c2.2 (mul1 _ _) rfl rfl trivial ?_; clear S CL a; intro a S CL
   refine h_loadi S CL hw le (subR rfl) (i := y1) rfl .here T3 .here rfl c2.1 c2.2 rfl rfl trivial ?_; clear S CL a; intro a S CL
   refine h_bin S CL hw le (subR rfl) rfl rfl rfl rfl rfl trivial ?_; clear S CL a; intro a S CL
   refine h_done ?_; clear CL hw le
   refine x_thenN ?_
   rcases ite_of h2 with ⟨c3, h3⟩ | ⟨c3, h3⟩ <;> clear h2
   ·refine c_condT S rfl c3 ?_
    refine c_region ?_
    refine s_assign S rfl rfl ?_; clear S a; intro a S
    refine c_end ?_
    refine wp_ret ?_
    refine x_thenR ?_
    refine x_blockR ?_
    refine x_thenR ?_
    refine x_thenR ?_
    refine x_blockR ?_
    refine x_thenR ?_
    obtain rfl := Option.some.inj h3
    exact b_ret1 (d := (.v (.int .i64 (-1)))) S rfl rfl fun ok => S.retX (Hx := []) hb _ _ (() : Unit) .nil ok
   ·refine c_condF S rfl c3 ?_
    refine wp_skip ?_
    refine x_thenN ?_
    refine wp_seq (c_heldS S (.take 0 (.take 1 (.take 2 (.take 3 (.take 4 (.take 5 (.take 6 .done))))))) 7 [Res.cells g13 87 [.ints .i64 x2 32], Res.cells g14 87 [.ints .i64 x1 32]] (.cons .here (.cons .here .nil)) ⟨Res.stay_cells, Res.stay_cells, trivial⟩ [(5, (.v (.int .i64 y1))), (3, (.v (.pointer (some ⟨g13, 0, none⟩)))), (2, (.v (.pointer (some ⟨g14, 0, none⟩))))] (subR rfl) (by kernel_rfl) (by kernel_rfl) ?_); clear S; intro w S CL hw le
    refine h_move S CL hw le (subR rfl) rfl rfl rfl trivial ?_; clear S CL a; intro a S CL
    refine h_iaddr S CL hw le (subR rfl) rfl rfl Try.underlying87 T3 c2.1 c2.2 (mul1 _ _) rfl rfl trivial ?_; clear S CL a; intro a S CL
    refine h_loadi S CL hw le (subR rfl) (i := y1) rfl (.there .here) T3 .here rfl c2.1 c2.2 rfl rfl trivial ?_; clear S CL a; intro a S CL
    refine h_move S CL hw le (subR rfl) rfl rfl rfl trivial ?_; clear S CL a; intro a S CL
    refine h_iaddr S CL hw le (subR rfl) rfl rfl Try.underlying87 T3 c2.1 c2.2 (mul1 _ _) rfl rfl trivial ?_; clear S CL a; intro a S CL
    refine h_loadi S CL hw le (subR rfl) (i := y1) rfl .here T3 .here rfl c2.1 c2.2 rfl rfl trivial ?_; clear S CL a; intro a S CL
    refine h_bin S CL hw le (subR rfl) rfl rfl rfl rfl rfl trivial ?_; clear S CL a; intro a S CL
    refine h_done ?_; clear CL hw le
    refine x_thenN ?_
    rcases ite_of h3 with ⟨c4, h4⟩ | ⟨c4, h4⟩ <;> clear h3
    ·refine c_condT S rfl c4 ?_
     refine c_region ?_
     refine s_assign S rfl rfl ?_; clear S a; intro a S
     refine c_end ?_
     refine wp_ret ?_
     refine x_blockR ?_
     refine x_thenR ?_
     refine x_thenR ?_
     refine x_blockR ?_
     refine x_thenR ?_
     obtain rfl := Option.some.inj h4
     exact b_ret1 (d := (.v (.int .i64 1))) S rfl rfl fun ok => S.retX (Hx := []) hb _ _ (() : Unit) .nil ok
    ·refine c_condF S rfl c4 ?_
     refine wp_skip ?_
     refine x_blockN ?_
     refine x_thenN ?_
     refine c_region' ?_
     refine s_move S rfl rfl ?_; clear S a; intro a S
     refine s_bin S rfl rfl rfl rfl ?_; clear S a; intro a S
     refine s_assign S rfl rfl ?_; clear S a; intro a S
     refine c_end' ?_
     refine x_thenN ?_
     exact ⟨_, (wr .i64 (y1 - 1)), g13, g14, (S.sub (subR rfl) (.cons .here (.cons .here .nil))), h4⟩
  ·refine c_condF S rfl c1 ?_
   refine wp_exit ?_
   refine x_thenX ?_
   refine x_thenX ?_
   refine x_blockX ?_
   refine x_thenN ?_
   exact j1 _ a w (S.sub trivial .nil) h1
/-! smithy/smithyref13.less -/
abbrev smithyref13_less.Ty : Type := (List Int) → (List Int) → Option Bool
def smithyref13_less.Ctr (s : smithyref13_less.Ty) : Prop := ∀ (x1 : List Int) (x2 : List Int) (r : Bool) (h0 : s x1 x2 = some r) (mi : Mem) (w0 : World), okL mi [(.agg [.ints .u64 x1 4]), (.agg [.ints .u64 x2 4])] → Pre mi [] w0 → Calls Try.prog 29 (([(.agg [.ints .u64 x1 4]), (.agg [.ints .u64 x2 4])] : List D).map D.val).toArray w0 (RetX mi [] (fun (ch : Unit) => ((.v (.bool r)) : D)) (fun (ch : Unit) => []) w0)
def smithyref13_less.f (k : Nat) (x1 : List Int) (x2 : List Int) : Option Bool := (smithyref01_Of.f k x1).bind fun t1 => ((smithyref01_Of.f k x2).bind fun t2 => ((smithyref01_Compare.f k t1 t2).bind fun t3 => (some (decide (t3 < 0)))))
theorem smithyref13_less.ok (k : Nat) : smithyref13_less.Ctr (smithyref13_less.f k) := by
 intro x1 x2 r h0 mi w0 ok hm
 delta smithyref13_less.f at h0
 refine c_enterX (n := 11) [(.agg [.ints .u64 x1 4]), (.agg [.ints .u64 x2 4])] (l := [(0, (.agg [.ints .u64 x1 4])), (1, (.agg [.ints .u64 x2 4]))]) Try.func29 rfl rfl rfl rfl ok hm ?_
 clear ok hm
 intro b0 hb a S
 refine c_region ?_
 refine s_box S rfl rfl rfl ?_; clear S a; intro g1 a w S
 refine s_box S rfl rfl rfl ?_; clear S a w; intro g2 a w S
 refine s_assign S rfl rfl ?_; clear S a; intro a S
 refine c_end ?_
 refine wp_seq (c_heldS S (.take 0 (.take 2 (.alts (.run 1 true (.alts (.run 3 true (.alts (.run 4 true (.take 5 (.take 6 .done)) .nil)) .nil)) .nil)))) 7 [Res.cells g2 26 [.ints .u64 x2 4], Res.cells g1 26 [.ints .u64 x1 4]] (.cons .here (.cons .here .nil)) ⟨Res.stay_cells, Res.stay_cells, trivial⟩ [(3, (.v (.pointer (some ⟨g2, 0, none⟩)))), (2, (.v (.pointer (some ⟨g1, 0, none⟩))))] (subR rfl) (by kernel_rfl) (by kernel_rfl) ?_); clear S; intro w S CL hw le
 refine h_loada S CL hw le (subR rfl) rfl (.there .here) T26 (s' := [.ints .u64 x1 4]) rfl rfl rfl trivial ?_; clear S CL a; intro a S CL
 refine h_loada S CL hw le (subR rfl) rfl .here T26 (s' := [.ints .u64 x2 4]) rfl rfl rfl trivial ?_; clear S CL a; intro a S CL
 refine h_run' S rfl trivial ?_
 obtain ⟨t1, et1, h1⟩ := bind_of h0; clear h0
 refine s_callP S (fun (ch : Unit) => ((.agg [.ints .i64 t1 32]) : D)) N42 rfl rfl (smithyref01_Of.ok k x1 t1 et1 _ _) ?_; clear S a; intro ch1 m le1 a w S
 replace le := le.trans le1
 replace hw := CL.again hw S (.cons .here (.cons .here .nil)) le
 refine h_back ⟨fun _ => hw, ?_⟩
 refine h_run' S rfl trivial ?_
 obtain ⟨t2, et2, h2⟩ := bind_of h1; clear h1
 refine s_callP S (fun (ch : Unit) => ((.agg [.ints .i64 t2 32]) : D)) N42 rfl rfl (smithyref01_Of.ok k x2 t2 et2 _ _) ?_; clear S a; intro ch2 m le1 a w S
 replace le := le.trans le1
 replace hw := CL.again hw S (.cons .here (.cons .here .nil)) le
 refine h_back ⟨fun _ => hw, ?_⟩
 refine h_run' S rfl trivial ?_
 obtain ⟨t3, et3, h3⟩ := bind_of h2; clear h2
 refine s_callP S (fun (ch : Unit) => ((.v (.int .i64 t3)) : D)) N41 rfl rfl (smithyref01_Compare.ok k t1 t2 t3 et3 _ _) ?_; clear S a; intro ch3 m le1 a w S
 replace le := le.trans le1
 replace hw := CL.again hw S (.cons .here (.cons .here .nil)) le
 refine h_back ⟨fun _ => hw, ?_⟩
 replace CL := CL.add (t := 9) (d := (.v (.int .i64 t3))) S rfl rfl
 refine h_bin S CL hw le (subR rfl) rfl rfl rfl rfl rfl trivial ?_; clear S CL a; intro a S CL
 refine h_assign S CL hw le (subR rfl) rfl rfl rfl trivial ?_; clear S CL a; intro a S CL
 refine h_done ?_; clear CL hw le
 refine x_thenN ?_
 refine wp_ret ?_
 obtain rfl := Option.some.inj h3
 exact b_ret1 (d := (.v (.bool (decide (t3 < 0))))) S rfl rfl fun ok => S.retX (Hx := []) hb _ _ (() : Unit) .nil ok
/-! smithy/smithyref13.Right -/
abbrev smithyref13_Right.Ty : Type := ((List Int) × Int × (List Int) × (List Int) × (List ((List Int) × (List Int)))) → Option Bool
def smithyref13_Right.Ctr (s : smithyref13_Right.Ty) : Prop := ∀ (x1 : (List Int) × Int × (List Int) × (List Int) × (List ((List Int) × (List Int)))) (ch_0_0 : Option Addr) (ch_0_1 : Nat) (ch_0_2 : Option Addr) (ch_0_3 : Nat) (r : Bool) (h0 : s x1 = some r) (mi : Mem) (w0 : World), okL mi [(.agg [.ints .u8 x1.1 20, .one (.int .u64 x1.2.1), .ints .u64 x1.2.2.1 4, .sl ch_0_0 (x1.2.2.2.1).length ch_0_1 (RdS (Ty.int .u8) ch_0_0 x1.2.2.2.1), .sl ch_0_2 (x1.2.2.2.2).length ch_0_3 (RdS Y66 ch_0_2 x1.2.2.2.2)])] → Pre mi [] w0 → Calls Try.prog 11 (([(.agg [.ints .u8 x1.1 20, .one (.int .u64 x1.2.1), .ints .u64 x1.2.2.1 4, .sl ch_0_0 (x1.2.2.2.1).length ch_0_1 (RdS (Ty.int .u8) ch_0_0 x1.2.2.2.1), .sl ch_0_2 (x1.2.2.2.2).length ch_0_3 (RdS Y66 ch_0_2 x1.2.2.2.2)])] : List D).map D.val).toArray w0 (RetX mi [] (fun (ch : Unit) => ((.v (.bool r)) : D)) (fun (ch : Unit) => []) w0)
def smithyref13_Right.j1 : Option Bool := some true
def smithyref13_Right.j2 (y1 : Int) (rec1 : Int → Option Bool) (y2 : Bool) : Option Bool := if y2 = true then (some false) else (rec1 (wr .i64 (y1 + 1)))
def smithyref13_Right.b1 (k : Nat) (x1 : (List Int) × Int × (List Int) × (List Int) × (List ((List Int) × (List Int)))) (rec1 : Int → Option Bool) (y1 : Int) : Option Bool := if (decide (y1 < ((x1.2.2.2.2).length : Int))) = true then (if (0 : Int) ≤ y1 ∧ y1 < ((x1.2.2.2.2).length : Int) then (if (decide ((gt x1.2.2.2.2 y1).2 = [0, 0, 0, 0])) = true then (some false) else (if (decide (0 < y1)) = true then (if (0 : Int) ≤ (wr .i64 (y1 - 1)) ∧ (wr .i64 (y1 - 1)) < ((x1.2.2.2.2).length : Int) then ((smithyref13_less.f k ((gt x1.2.2.2.2 (wr .i64 (y1 - 1))).1) ((gt x1.2.2.2.2 y1).1)).bind fun t1 => (smithyref13_Right.j2 y1 rec1 (!t1))) else none) else (smithyref13_Right.j2 y1 rec1 false))) else none) else smithyref13_Right.j1
def smithyref13_Right.l1 (k : Nat) (x1 : (List Int) × Int × (List Int) × (List Int) × (List ((List Int) × (List Int)))) : Nat → Int → Option Bool
  | 0, _ => none
  | q + 1, y1 => smithyref13_Right.b1 k x1 (smithyref13_Right.l1 k x1 q) y1
def smithyref13_Right.f (k : Nat) (x1 : (List Int) × Int × (List Int) × (List Int) × (List ((List Int) × (List Int)))) : Option Bool := smithyref13_Right.l1 k x1 k 0
theorem smithyref13_Right.ok (k : Nat) : smithyref13_Right.Ctr (smithyref13_Right.f k) := by
 intro x1 ch_0_0 ch_0_1 ch_0_2 ch_0_3 r h0 mi w0 ok hm
 delta smithyref13_Right.f at h0
 refine c_enterX (n := 38) [(.agg [.ints .u8 x1.1 20, .one (.int .u64 x1.2.1), .ints .u64 x1.2.2.1 4, .sl ch_0_0 (x1.2.2.2.1).length ch_0_1 (RdS (Ty.int .u8) ch_0_0 x1.2.2.2.1), .sl ch_0_2 (x1.2.2.2.2).length ch_0_3 (RdS Y66 ch_0_2 x1.2.2.2.2)])] (l := [(0, (.agg [.ints .u8 x1.1 20, .one (.int .u64 x1.2.1), .ints .u64 x1.2.2.1 4, .sl ch_0_0 (x1.2.2.2.1).length ch_0_1 (RdS (Ty.int .u8) ch_0_0 x1.2.2.2.1), .sl ch_0_2 (x1.2.2.2.2).length ch_0_3 (RdS Y66 ch_0_2 x1.2.2.2.2)]))]) Try.func11 rfl rfl rfl rfl ok hm ?_
 clear ok hm
 intro b0 hb a S
 refine c_region ?_
 refine s_box S rfl rfl rfl ?_; clear S a; intro g1 a w S
 refine s_assign S rfl rfl ?_; clear S a; intro a S
 refine c_end ?_
 refine wp_seq_k ?_
 intro K1 hK1
 have j1 : ∀ (m : Mem) (a : Act) (w : World), St 38 m b0 [] [] a w → smithyref13_Right.j1 = some r → K1 a w := by
  intro m a w S h0
  delta smithyref13_Right.j1 at h0
  refine hK1 a w ?_
  refine c_region ?_
  refine s_assign S rfl rfl ?_; clear S a; intro a S
  refine c_end ?_
  refine wp_ret ?_
  obtain rfl := Option.some.inj h0
  exact b_ret1 (d := (.v (.bool true))) S rfl rfl fun ok => S.retX (Hx := []) hb _ _ (() : Unit) .nil ok
 refine c_region ?_
 refine s_fieldAddr S rfl I30_4 T28 (by decide) rfl rfl ?_; clear S a; intro a S
 refine s_loadSl S rfl .here T28 (A := ch_0_2) (len := (x1.2.2.2.2).length) (cap := ch_0_3) rfl rfl ?_; clear S a; intro a S
 refine s_lenS S rfl Try.underlying28 rfl ?_; clear S a; intro a S
 refine s_move S rfl rfl ?_; clear S a; intro a S
 refine c_end ?_
 refine wp_block ?_
 refine c_loop (fun q1 a w => ∃ (m : Mem) (y1 : Int) (g9 : Nat), St 38 m b0 [(7, (.v (.int .i64 y1))), (6, (.v (.int .i64 ((x1.2.2.2.2).length : Int)))), (1, (.v (.pointer (some ⟨g9, 0, none⟩))))] [Res.cells g9 30 [.ints .u8 x1.1 20, .one (.int .u64 x1.2.1), .ints .u64 x1.2.2.1 4, .sl ch_0_0 (x1.2.2.2.1).length ch_0_1 (RdS (Ty.int .u8) ch_0_0 x1.2.2.2.1), .sl ch_0_2 (x1.2.2.2.2).length ch_0_3 (RdS Y66 ch_0_2 x1.2.2.2.2)]] a w ∧ smithyref13_Right.l1 k x1 q1 y1 = some r) ?_ ?_ (k := k) ⟨_, 0, g1, (S.sub (subR rfl) (.cons .here .nil)), h0⟩
 ·rintro a w ⟨m, y1, g9, S, h0⟩
  exact (nomatch (show (none : Option Bool) = some r from h0))
 ·clear S h0
  rintro q1 a w ⟨m, y1, g9, S, h0⟩
  replace h0 : smithyref13_Right.b1 k x1 (smithyref13_Right.l1 k x1 q1) y1 = some r := h0
  delta smithyref13_Right.b1 at h0
  refine c_region ?_
  refine s_bin S rfl rfl rfl rfl ?_; clear S a; intro a S
  refine c_end ?_
  refine wp_seq ?_
  rcases ite_of h0 with ⟨c1, h1⟩ | ⟨c1, h1⟩ <;> clear h0
  ·refine c_condT S rfl c1 ?_
   refine wp_skip ?_
   refine x_thenN ?_
   refine wp_seq ?_
   refine wp_block ?_
   refine c_region ?_
   refine s_move S rfl rfl ?_; clear S a; intro a S
   refine s_assign S rfl rfl ?_; clear S a; intro a S
   refine c_end ?_
   refine wp_seq ?_
   refine c_region ?_
   refine s_fieldAddr S rfl I30_4 T28 (by decide) rfl rfl ?_; clear S a; intro a S
   refine s_loadSl S rfl .here T28 (A := ch_0_2) (len := (x1.2.2.2.2).length) (cap := ch_0_3) rfl rfl ?_; clear S a; intro a S
   refine s_move S rfl rfl ?_; clear S a; intro a S
   obtain ⟨c2, h2⟩ := chk_of h1; clear h1
   refine s_iaddrS S rfl rfl rfl Try.underlying28 T66 c2.1 c2.2 rfl ?_; clear S a; intro p1 a S
   refine s_faddrP S (tF := (Ty.arr .u64 4)) (y := (gt x1.2.2.2.2 y1).2) rfl I66_1 T26 (by decide) (fun m h => (at_snd (at_0 h))) rfl ?_; clear S a; intro a S
   refine s_ldA S (fun (c : Unit) => [.ints .u64 ((gt x1.2.2.2.2 y1).2) 4]) rfl T26 (fun _ => rfl) rfl ?_; clear S a; intro ch1 a S
   refine s_build S (ds := []) (dv := (.agg [.ints .u64 [0, 0, 0, 0] 4])) rfl (fun _ => by kernel_rfl) ⟨rfl, trivial⟩ rfl ?_; clear S a; intro a S
   refine s_eqa S rfl rfl Try.underlying26 Try.underlying24 T24 Q26 rfl ?_; clear S a; intro a S
   refine c_end ?_
   rcases ite_of h2 with ⟨c3, h3⟩ | ⟨c3, h3⟩ <;> clear h2
   ·refine c_condT S rfl c3 ?_
    refine c_region ?_
    refine s_assign S rfl rfl ?_; clear S a; intro a S
    refine c_end ?_
    refine wp_ret ?_
    refine x_thenR ?_
    refine x_blockR ?_
    refine x_thenR ?_
    refine x_thenR ?_
    refine x_blockR ?_
    refine x_thenR ?_
    obtain rfl := Option.some.inj h3
    exact b_ret1 (d := (.v (.bool false))) S rfl rfl fun ok => S.retX (Hx := []) hb _ _ (() : Unit) .nil ok
   ·refine c_condF S rfl c3 ?_
    refine wp_skip ?_
    refine x_thenN ?_
    refine wp_seq_k ?_
    intro K2 hK2
    have j2 : ∀ (m : Mem) (y2 : Bool) (g10 : Nat) (a : Act) (w : World), St 38 m b0 [(36, (.v (.bool y2))), (7, (.v (.int .i64 y1))), (6, (.v (.int .i64 ((x1.2.2.2.2).length : Int)))), (1, (.v (.pointer (some ⟨g10, 0, none⟩))))] [Res.cells g10 30 [.ints .u8 x1.1 20, .one (.int .u64 x1.2.1), .ints .u64 x1.2.2.1 4, .sl ch_0_0 (x1.2.2.2.1).length ch_0_1 (RdS (Ty.int .u8) ch_0_0 x1.2.2.2.1), .sl ch_0_2 (x1.2.2.2.2).length ch_0_3 (RdS Y66 ch_0_2 x1.2.2.2.2)]] a w → smithyref13_Right.j2 y1 (smithyref13_Right.l1 k x1 q1) y2 = some r → K2 a w := by
     intro m y2 g10 a w S h0
     delta smithyref13_Right.j2 at h0
     refine hK2 a w ?_
     rcases ite_of h0 with ⟨c4, h1⟩ | ⟨c4, h1⟩ <;> clear h0
     ·refine c_condT S rfl c4 ?_
      refine c_region ?_
      refine s_assign S rfl rfl ?_; clear S a; intro a S
      refine c_end ?_
      refine wp_ret ?_
      refine x_blockR ?_
      refine x_thenR ?_
      refine x_thenR ?_
      refine x_blockR ?_
      refine x_thenR ?_
      obtain rfl := Option.some.inj h1
      exact b_ret1 (d := (.v (.bool false))) S rfl rfl fun ok => S.retX (Hx := []) hb _ _ (() : Unit) .nil ok
     ·refine c_condF S rfl c4 ?_
      refine wp_skip ?_
      refine x_blockN ?_
      refine x_thenN ?_
      refine c_region' ?_
      refine s_bin S rfl rfl rfl rfl ?_; clear S a; intro a S
      refine s_move S rfl rfl ?_; clear S a; intro a S
      refine c_end' ?_
      refine x_thenN ?_
      exact ⟨_, (wr .i64 (y1 + 1)), g10, (S.sub (subR rfl) (.cons .here .nil)), h1⟩
    refine c_heldS S (.take 0 (.take 1 (.take 2 (.take 3 (.take 4 (.take 5 (.take 6 (.take 7 (.take 8 (.take 9 (.take 10 (.take 11 (.take 12 (.take 13 (.take 14 (.take 15 (.alts (.run 16 true (.take 17 (.take 18 .done)) .nil)))))))))))))))))) 19 [Res.cells g9 30 [.ints .u8 x1.1 20, .one (.int .u64 x1.2.1), .ints .u64 x1.2.2.1 4, .sl ch_0_0 (x1.2.2.2.1).length ch_0_1 (RdS (Ty.int .u8) ch_0_0 x1.2.2.2.1), .sl ch_0_2 (x1.2.2.2.2).length ch_0_3 (RdS Y66 ch_0_2 x1.2.2.2.2)]] (.cons .here .nil) ⟨Res.stay_cells, trivial⟩ [(3, (.v (.int .i64 y1))), (1, (.v (.pointer (some ⟨g9, 0, none⟩))))] (subR rfl) (by kernel_rfl) (by kernel_rfl) ?_; clear S; intro w S CL hw le
    refine h_move S CL hw le (subR rfl) rfl rfl rfl trivial ?_; clear S CL a; intro a S CL
    refine h_bin S CL hw le (subR rfl) rfl rfl rfl rfl rfl trivial ?_; clear S CL a; intro a S CL
    refine h_move S CL hw le (subR rfl) rfl rfl rfl trivial ?_; clear S CL a; intro a S CL
    rcases ite_of h3 with ⟨c5, h4⟩ | ⟨c5, h4⟩ <;> clear h3
    ·refine h_fieldAddr S CL hw le (subR rfl) rfl I30_4 T28 (by decide) rfl rfl rfl ⟨_, _, rfl, rfl, c5⟩ ?_; clear S CL a; intro a S CL
     refine h_loadSl S CL hw le (subR rfl) rfl .here T28 (A := ch_0_2) (len := (x1.2.2.2.2).length) (cap := ch_0_3) rfl rfl rfl ⟨_, _, rfl, rfl, c5⟩ ?_; clear S CL a; intro a S CL
     refine h_move S CL hw le (subR rfl) rfl rfl rfl ⟨_, _, rfl, rfl, c5⟩ ?_; clear S CL a; intro a S CL
     refine h_bin S CL hw le (subR rfl) rfl rfl rfl rfl rfl ⟨_, _, rfl, rfl, c5⟩ ?_; clear S CL a; intro a S CL
     obtain ⟨c6, h5⟩ := chk_of h4; clear h4
     refine h_iaddrS S CL hw le (subR rfl) rfl rfl rfl Try.underlying28 T66 c6.1 c6.2 rfl rfl ⟨_, _, rfl, rfl, c5⟩ ?_; clear S CL a; intro p4 a S CL
     refine h_faddrP S CL hw le (subR rfl) (tF := (Ty.arr .u64 4)) (y := (gt x1.2.2.2.2 (wr .i64 (y1 - 1))).1) rfl I66_0 T26 (by decide) (fun m h => (at_fst (at_0 h))) rfl rfl ⟨_, _, rfl, rfl, c5⟩ ?_; clear S CL a; intro a S CL
     refine h_ldA S CL hw le (subR rfl) (fun (c : Unit) => [.ints .u64 ((gt x1.2.2.2.2 (wr .i64 (y1 - 1))).1) 4]) rfl T26 (fun _ => rfl) rfl rfl ⟨_, _, rfl, rfl, c5⟩ ?_; clear S CL a; intro ch2 a S CL
     refine h_fieldAddr S CL hw le (subR rfl) rfl I30_4 T28 (by decide) rfl rfl rfl ⟨_, _, rfl, rfl, c5⟩ ?_; clear S CL a; intro a S CL
     refine h_loadSl S CL hw le (subR rfl) rfl .here T28 (A := ch_0_2) (len := (x1.2.2.2.2).length) (cap := ch_0_3) rfl rfl rfl ⟨_, _, rfl, rfl, c5⟩ ?_; clear S CL a; intro a S CL
     refine h_move S CL hw le (subR rfl) rfl rfl rfl ⟨_, _, rfl, rfl, c5⟩ ?_; clear S CL a; intro a S CL
     refine h_iaddrS S CL hw le (subR rfl) rfl rfl rfl Try.underlying28 T66 c2.1 c2.2 rfl rfl ⟨_, _, rfl, rfl, c5⟩ ?_; clear S CL a; intro p5 a S CL
     refine h_faddrP S CL hw le (subR rfl) (tF := (Ty.arr .u64 4)) (y := (gt x1.2.2.2.2 y1).1) rfl I66_0 T26 (by decide) (fun m h => (at_fst (at_0 h))) rfl rfl ⟨_, _, rfl, rfl, c5⟩ ?_; clear S CL a; intro a S CL
     refine h_ldA S CL hw le (subR rfl) (fun (c : Unit) => [.ints .u64 ((gt x1.2.2.2.2 y1).1) 4]) rfl T26 (fun _ => rfl) rfl rfl ⟨_, _, rfl, rfl, c5⟩ ?_; clear S CL a; intro ch3 a S CL
     refine h_run' S rfl ⟨_, _, rfl, rfl, c5⟩ ?_
     obtain ⟨t1, et1, h6⟩ := bind_of h5; clear h5
     refine s_callP S (fun (ch : Unit) => ((.v (.bool t1)) : D)) N29 rfl rfl (smithyref13_less.ok k ((gt x1.2.2.2.2 (wr .i64 (y1 - 1))).1) ((gt x1.2.2.2.2 y1).1) t1 et1 _ _) ?_; clear S a; intro ch4 m le1 a w S
     replace le := le.trans le1
     replace hw := CL.again hw S (.cons .here .nil) le
     refine h_back ⟨fun _ => hw, ?_⟩
     replace CL := CL.add (t := 34) (d := (.v (.bool t1))) S rfl rfl
     refine h_not S CL hw le (subR rfl) rfl rfl rfl ⟨_, _, rfl, rfl, c5⟩ ?_; clear S CL a; intro a S CL
     refine h_pick S CL hw le (subR rfl) (b := true) (hc_of rfl c5) rfl rfl rfl trivial ?_; clear S CL a; intro a S CL
     refine h_done ?_; clear CL hw le
     refine x_thenN ?_
     exact j2 _ (!t1) g9 a w (S.sub (subR rfl) (.cons .here .nil)) h6
    ·refine h_skip S CL rfl rfl rfl (ne_bool c5) rfl ?_; clear S CL a; intro a S CL
     refine h_skip S CL rfl rfl rfl (ne_bool c5) rfl ?_; clear S CL a; intro a S CL
     refine h_skip S CL rfl rfl rfl (ne_bool c5) rfl ?_; clear S CL a; intro a S CL
     refine h_skip S CL rfl rfl rfl (ne_bool c5) rfl ?_; clear S CL a; intro a S CL
     refine h_skip S CL rfl rfl rfl (ne_bool c5) rfl ?_; clear S CL a; intro a S CL
     refine h_skip S CL rfl rfl rfl (ne_bool c5) rfl ?_; clear S CL a; intro a S CL
     refine h_skip S CL rfl rfl rfl (ne_bool c5) rfl ?_; clear S CL a; intro a S CL
     refine h_skip S CL rfl rfl rfl (ne_bool c5) rfl ?_; clear S CL a; intro a S CL
     refine h_skip S CL rfl rfl rfl (ne_bool c5) rfl ?_; clear S CL a; intro a S CL
     refine h_skip S CL rfl rfl rfl (ne_bool c5) rfl ?_; clear S CL a; intro a S CL
     refine h_skip S CL rfl rfl rfl (ne_bool c5) rfl ?_; clear S CL a; intro a S CL
     refine h_skip S CL rfl rfl rfl (ne_bool c5) rfl ?_; clear S CL a; intro a S CL
     refine h_skip S CL rfl rfl rfl (ne_bool c5) rfl ?_; clear S CL a; intro a S CL
     refine h_skipRt S rfl rfl rfl (ne_bool c5) rfl ?_; clear S a; intro a S
     replace hw := CL.again hw S (.cons .here .nil) le
     refine h_back ⟨fun _ => hw, ?_⟩
     replace CL := CL.add (t := 34) (d := .u) S rfl rfl
     refine h_skip S CL rfl rfl rfl (ne_bool c5) rfl ?_; clear S CL a; intro a S CL
     refine h_pick S CL hw le (subR rfl) (b := false) (hc_of rfl c5) rfl rfl rfl trivial ?_; clear S CL a; intro a S CL
     refine h_done ?_; clear CL hw le
     refine x_thenN ?_
     exact j2 _ false g9 a w (S.sub (subR rfl) (.cons .here .nil)) h4
  ·refine c_condF S rfl c1 ?_
   refine wp_exit ?_
   refine x_thenX ?_
   refine x_thenX ?_
   refine x_blockX ?_
   refine x_thenN ?_
   exact j1 _ a w (S.sub trivial .nil) h1
/-! smithy/store.Empty -/
abbrev store_Empty.Ty : Type := ((List Int) × Int × (List Int) × (List Int) × (List ((List Int) × (List Int)))) → Option Bool
def store_Empty.Ctr (s : store_Empty.Ty) : Prop := ∀ (x1 : (List Int) × Int × (List Int) × (List Int) × (List ((List Int) × (List Int)))) (ch_0_0 : Option Addr) (ch_0_1 : Nat) (ch_0_2 : Option Addr) (ch_0_3 : Nat) (r : Bool) (h0 : s x1 = some r) (mi : Mem) (w0 : World), okL mi [(.agg [.ints .u8 x1.1 20, .one (.int .u64 x1.2.1), .ints .u64 x1.2.2.1 4, .sl ch_0_0 (x1.2.2.2.1).length ch_0_1 (RdS (Ty.int .u8) ch_0_0 x1.2.2.2.1), .sl ch_0_2 (x1.2.2.2.2).length ch_0_3 (RdS Y66 ch_0_2 x1.2.2.2.2)])] → Pre mi [] w0 → Calls Try.prog 12 (([(.agg [.ints .u8 x1.1 20, .one (.int .u64 x1.2.1), .ints .u64 x1.2.2.1 4, .sl ch_0_0 (x1.2.2.2.1).length ch_0_1 (RdS (Ty.int .u8) ch_0_0 x1.2.2.2.1), .sl ch_0_2 (x1.2.2.2.2).length ch_0_3 (RdS Y66 ch_0_2 x1.2.2.2.2)])] : List D).map D.val).toArray w0 (RetX mi [] (fun (ch : Unit) => ((.v (.bool r)) : D)) (fun (ch : Unit) => []) w0)
def store_Empty.f (x1 : (List Int) × Int × (List Int) × (List Int) × (List ((List Int) × (List Int)))) : Option Bool := if (x1.2.1 == 0) = true then (if (decide (x1.2.2.1 = [0, 0, 0, 0])) = true then (if (((x1.2.2.2.1).length : Int) == 0) = true then (some (((x1.2.2.2.2).length : Int) == 0)) else (some false)) else (some false)) else (some false)
theorem store_Empty.ok : store_Empty.Ctr (store_Empty.f) := by
 intro x1 ch_0_0 ch_0_1 ch_0_2 ch_0_3 r h0 mi w0 ok hm
 delta store_Empty.f at h0
 refine c_enterX (n := 24) [(.agg [.ints .u8 x1.1 20, .one (.int .u64 x1.2.1), .ints .u64 x1.2.2.1 4, .sl ch_0_0 (x1.2.2.2.1).length ch_0_1 (RdS (Ty.int .u8) ch_0_0 x1.2.2.2.1), .sl ch_0_2 (x1.2.2.2.2).length ch_0_3 (RdS Y66 ch_0_2 x1.2.2.2.2)])] (l := [(0, (.agg [.ints .u8 x1.1 20, .one (.int .u64 x1.2.1), .ints .u64 x1.2.2.1 4, .sl ch_0_0 (x1.2.2.2.1).length ch_0_1 (RdS (Ty.int .u8) ch_0_0 x1.2.2.2.1), .sl ch_0_2 (x1.2.2.2.2).length ch_0_3 (RdS Y66 ch_0_2 x1.2.2.2.2)]))]) Try.func12 rfl rfl rfl rfl ok hm ?_
 clear ok hm
 intro b0 hb a S
 refine c_region ?_
 refine s_box S rfl rfl rfl ?_; clear S a; intro g1 a w S
 refine s_assign S rfl rfl ?_; clear S a; intro a S
 refine c_end ?_
 refine c_region ?_
 refine s_fieldAddr S rfl I30_1 T24 (by decide) rfl rfl ?_; clear S a; intro a S
 refine s_load1 S rfl .here T24 (v := (.int .u64 x1.2.1)) rfl rfl ?_; clear S a; intro a S
 refine s_bin S rfl rfl rfl rfl ?_; clear S a; intro a S
 refine s_move S rfl rfl ?_; clear S a; intro a S
 rcases ite_of h0 with ⟨c1, h1⟩ | ⟨c1, h1⟩ <;> clear h0
 ·refine s_gT S (b := (x1.2.1 == 0)) rfl rfl c1 ?_
  refine s_fieldAddr S rfl I30_2 T26 (by decide) rfl rfl ?_; clear S a; intro a S
  refine s_gT S (b := (x1.2.1 == 0)) rfl rfl c1 ?_
  refine s_loada S rfl .here T26 (s' := [.ints .u64 x1.2.2.1 4]) rfl rfl ?_; clear S a; intro a S
  refine s_gT S (b := (x1.2.1 == 0)) rfl rfl c1 ?_
  refine s_build S (ds := []) (dv := (.agg [.ints .u64 [0, 0, 0, 0] 4])) rfl (fun _ => by kernel_rfl) ⟨rfl, trivial⟩ rfl ?_; clear S a; intro a S
  refine s_gT S (b := (x1.2.1 == 0)) rfl rfl c1 ?_
  refine s_eqa S rfl rfl Try.underlying26 Try.underlying24 T24 Q26 rfl ?_; clear S a; intro a S
  refine s_pick S (b := true) (hc_of rfl c1) rfl rfl ?_; clear S a; intro a S
  refine s_move S rfl rfl ?_; clear S a; intro a S
  rcases ite_of h1 with ⟨c2, h2⟩ | ⟨c2, h2⟩ <;> clear h1
  ·refine s_gT S (b := (decide (x1.2.2.1 = [0, 0, 0, 0]))) rfl rfl c2 ?_
   refine s_fieldAddr S rfl I30_3 T27 (by decide) rfl rfl ?_; clear S a; intro a S
   refine s_gT S (b := (decide (x1.2.2.1 = [0, 0, 0, 0]))) rfl rfl c2 ?_
   refine s_loadSl S rfl .here T27 (A := ch_0_0) (len := (x1.2.2.2.1).length) (cap := ch_0_1) rfl rfl ?_; clear S a; intro a S
   refine s_gT S (b := (decide (x1.2.2.1 = [0, 0, 0, 0]))) rfl rfl c2 ?_
   refine s_lenS S rfl Try.underlying27 rfl ?_; clear S a; intro a S
   refine s_gT S (b := (decide (x1.2.2.1 = [0, 0, 0, 0]))) rfl rfl c2 ?_
   refine s_bin S rfl rfl rfl rfl ?_; clear S a; intro a S
   refine s_pick S (b := true) (hc_of rfl c2) rfl rfl ?_; clear S a; intro a S
   refine s_move S rfl rfl ?_; clear S a; intro a S
   rcases ite_of h2 with ⟨c3, h3⟩ | ⟨c3, h3⟩ <;> clear h2
   ·refine s_gT S (b := (((x1.2.2.2.1).length : Int) == 0)) rfl rfl c3 ?_
    refine s_fieldAddr S rfl I30_4 T28 (by decide) rfl rfl ?_; clear S a; intro a S
    refine s_gT S (b := (((x1.2.2.2.1).length : Int) == 0)) rfl rfl c3 ?_
    refine s_loadSl S rfl .here T28 (A := ch_0_2) (len := (x1.2.2.2.2).length) (cap := ch_0_3) rfl rfl ?_; clear S a; intro a S
    refine s_gT S (b := (((x1.2.2.2.1).length : Int) == 0)) rfl rfl c3 ?_
    refine s_lenS S rfl Try.underlying28 rfl ?_; clear S a; intro a S
    refine s_gT S (b := (((x1.2.2.2.1).length : Int) == 0)) rfl rfl c3 ?_
    refine s_bin S rfl rfl rfl rfl ?_; clear S a; intro a S
    refine s_pick S (b := true) (hc_of rfl c3) rfl rfl ?_; clear S a; intro a S
    refine s_assign S rfl rfl ?_; clear S a; intro a S
    refine c_end ?_
    refine wp_ret ?_
    obtain rfl := Option.some.inj h3
    exact b_ret1 (d := (.v (.bool (((x1.2.2.2.2).length : Int) == 0)))) S rfl rfl fun ok => S.retX (Hx := []) hb _ _ (() : Unit) .nil ok
   ·refine s_gF S (b := (((x1.2.2.2.1).length : Int) == 0)) rfl rfl c3 rfl ?_; clear S a; intro a S
    refine s_gF S (b := (((x1.2.2.2.1).length : Int) == 0)) rfl rfl c3 rfl ?_; clear S a; intro a S
    refine s_gF S (b := (((x1.2.2.2.1).length : Int) == 0)) rfl rfl c3 rfl ?_; clear S a; intro a S
    refine s_gF S (b := (((x1.2.2.2.1).length : Int) == 0)) rfl rfl c3 rfl ?_; clear S a; intro a S
    refine s_pick S (b := false) (hc_of rfl c3) rfl rfl ?_; clear S a; intro a S
    refine s_assign S rfl rfl ?_; clear S a; intro a S
    refine c_end ?_
    refine wp_ret ?_
    obtain rfl := Option.some.inj h3
    exact b_ret1 (d := (.v (.bool false))) S rfl rfl fun ok => S.retX (Hx := []) hb _ _ (() : Unit) .nil ok
  ·refine s_gF S (b := (decide (x1.2.2.1 = [0, 0, 0, 0]))) rfl rfl c2 rfl ?_; clear S a; intro a S
   refine s_gF S (b := (decide (x1.2.2.1 = [0, 0, 0, 0]))) rfl rfl c2 rfl ?_; clear S a; intro a S
   refine s_gF S (b := (decide (x1.2.2.1 = [0, 0, 0, 0]))) rfl rfl c2 rfl ?_; clear S a; intro a S
   refine s_gF S (b := (decide (x1.2.2.1 = [0, 0, 0, 0]))) rfl rfl c2 rfl ?_; clear S a; intro a S
   refine s_pick S (b := false) (hc_of rfl c2) rfl rfl ?_; clear S a; intro a S
   refine s_move S rfl rfl ?_; clear S a; intro a S
   refine s_gF S (b := false) rfl rfl rfl rfl ?_; clear S a; intro a S
   refine s_gF S (b := false) rfl rfl rfl rfl ?_; clear S a; intro a S
   refine s_gF S (b := false) rfl rfl rfl rfl ?_; clear S a; intro a S
   refine s_gF S (b := false) rfl rfl rfl rfl ?_; clear S a; intro a S
   refine s_pick S (b := false) (hc_of rfl rfl) rfl rfl ?_; clear S a; intro a S
   refine s_assign S rfl rfl ?_; clear S a; intro a S
   refine c_end ?_
   refine wp_ret ?_
   obtain rfl := Option.some.inj h2
   exact b_ret1 (d := (.v (.bool false))) S rfl rfl fun ok => S.retX (Hx := []) hb _ _ (() : Unit) .nil ok
 ·refine s_gF S (b := (x1.2.1 == 0)) rfl rfl c1 rfl ?_; clear S a; intro a S
  refine s_gF S (b := (x1.2.1 == 0)) rfl rfl c1 rfl ?_; clear S a; intro a S
  refine s_gF S (b := (x1.2.1 == 0)) rfl rfl c1 rfl ?_; clear S a; intro a S
  refine s_gF S (b := (x1.2.1 == 0)) rfl rfl c1 rfl ?_; clear S a; intro a S
  refine s_pick S (b := false) (hc_of rfl c1) rfl rfl ?_; clear S a; intro a S
  refine s_move S rfl rfl ?_; clear S a; intro a S
  refine s_gF S (b := false) rfl rfl rfl rfl ?_; clear S a; intro a S
  refine s_gF S (b := false) rfl rfl rfl rfl ?_; clear S a; intro a S
  refine s_gF S (b := false) rfl rfl rfl rfl ?_; clear S a; intro a S
  refine s_gF S (b := false) rfl rfl rfl rfl ?_; clear S a; intro a S
  refine s_pick S (b := false) (hc_of rfl rfl) rfl rfl ?_; clear S a; intro a S
  refine s_move S rfl rfl ?_; clear S a; intro a S
  refine s_gF S (b := false) rfl rfl rfl rfl ?_; clear S a; intro a S
  refine s_gF S (b := false) rfl rfl rfl rfl ?_; clear S a; intro a S
  refine s_gF S (b := false) rfl rfl rfl rfl ?_; clear S a; intro a S
  refine s_gF S (b := false) rfl rfl rfl rfl ?_; clear S a; intro a S
  refine s_pick S (b := false) (hc_of rfl rfl) rfl rfl ?_; clear S a; intro a S
  refine s_assign S rfl rfl ?_; clear S a; intro a S
  refine c_end ?_
  refine wp_ret ?_
  obtain rfl := Option.some.inj h1
  exact b_ret1 (d := (.v (.bool false))) S rfl rfl fun ok => S.retX (Hx := []) hb _ _ (() : Unit) .nil ok
/-! smithy/smithyref13.Empty -/
abbrev smithyref13_Empty.Ty : Type := ((List Int) × Int × (List Int) × (List Int) × (List ((List Int) × (List Int)))) → Option Bool
def smithyref13_Empty.Ctr (s : smithyref13_Empty.Ty) : Prop := ∀ (x1 : (List Int) × Int × (List Int) × (List Int) × (List ((List Int) × (List Int)))) (ch_0_0 : Option Addr) (ch_0_1 : Nat) (ch_0_2 : Option Addr) (ch_0_3 : Nat) (r : Bool) (h0 : s x1 = some r) (mi : Mem) (w0 : World), okL mi [(.agg [.ints .u8 x1.1 20, .one (.int .u64 x1.2.1), .ints .u64 x1.2.2.1 4, .sl ch_0_0 (x1.2.2.2.1).length ch_0_1 (RdS (Ty.int .u8) ch_0_0 x1.2.2.2.1), .sl ch_0_2 (x1.2.2.2.2).length ch_0_3 (RdS Y66 ch_0_2 x1.2.2.2.2)])] → Pre mi [] w0 → Calls Try.prog 13 (([(.agg [.ints .u8 x1.1 20, .one (.int .u64 x1.2.1), .ints .u64 x1.2.2.1 4, .sl ch_0_0 (x1.2.2.2.1).length ch_0_1 (RdS (Ty.int .u8) ch_0_0 x1.2.2.2.1), .sl ch_0_2 (x1.2.2.2.2).length ch_0_3 (RdS Y66 ch_0_2 x1.2.2.2.2)])] : List D).map D.val).toArray w0 (RetX mi [] (fun (ch : Unit) => ((.v (.bool r)) : D)) (fun (ch : Unit) => []) w0)
def smithyref13_Empty.f (x1 : (List Int) × Int × (List Int) × (List Int) × (List ((List Int) × (List Int)))) : Option Bool := if (x1.2.1 == 0) = true then (if (decide (x1.2.2.1 = [0, 0, 0, 0])) = true then (if (((x1.2.2.2.1).length : Int) == 0) = true then (some (((x1.2.2.2.2).length : Int) == 0)) else (some false)) else (some false)) else (some false)
theorem smithyref13_Empty.ok : smithyref13_Empty.Ctr (smithyref13_Empty.f) := by
 intro x1 ch_0_0 ch_0_1 ch_0_2 ch_0_3 r h0 mi w0 ok hm
 delta smithyref13_Empty.f at h0
 refine c_enterX (n := 24) [(.agg [.ints .u8 x1.1 20, .one (.int .u64 x1.2.1), .ints .u64 x1.2.2.1 4, .sl ch_0_0 (x1.2.2.2.1).length ch_0_1 (RdS (Ty.int .u8) ch_0_0 x1.2.2.2.1), .sl ch_0_2 (x1.2.2.2.2).length ch_0_3 (RdS Y66 ch_0_2 x1.2.2.2.2)])] (l := [(0, (.agg [.ints .u8 x1.1 20, .one (.int .u64 x1.2.1), .ints .u64 x1.2.2.1 4, .sl ch_0_0 (x1.2.2.2.1).length ch_0_1 (RdS (Ty.int .u8) ch_0_0 x1.2.2.2.1), .sl ch_0_2 (x1.2.2.2.2).length ch_0_3 (RdS Y66 ch_0_2 x1.2.2.2.2)]))]) Try.func13 rfl rfl rfl rfl ok hm ?_
 clear ok hm
 intro b0 hb a S
 refine c_region ?_
 refine s_box S rfl rfl rfl ?_; clear S a; intro g1 a w S
 refine s_assign S rfl rfl ?_; clear S a; intro a S
 refine c_end ?_
 refine c_region ?_
 refine s_fieldAddr S rfl I30_1 T24 (by decide) rfl rfl ?_; clear S a; intro a S
 refine s_load1 S rfl .here T24 (v := (.int .u64 x1.2.1)) rfl rfl ?_; clear S a; intro a S
 refine s_bin S rfl rfl rfl rfl ?_; clear S a; intro a S
 refine s_move S rfl rfl ?_; clear S a; intro a S
 rcases ite_of h0 with ⟨c1, h1⟩ | ⟨c1, h1⟩ <;> clear h0
 ·refine s_gT S (b := (x1.2.1 == 0)) rfl rfl c1 ?_
  refine s_fieldAddr S rfl I30_2 T26 (by decide) rfl rfl ?_; clear S a; intro a S
  refine s_gT S (b := (x1.2.1 == 0)) rfl rfl c1 ?_
  refine s_loada S rfl .here T26 (s' := [.ints .u64 x1.2.2.1 4]) rfl rfl ?_; clear S a; intro a S
  refine s_gT S (b := (x1.2.1 == 0)) rfl rfl c1 ?_
  refine s_build S (ds := []) (dv := (.agg [.ints .u64 [0, 0, 0, 0] 4])) rfl (fun _ => by kernel_rfl) ⟨rfl, trivial⟩ rfl ?_; clear S a; intro a S
  refine s_gT S (b := (x1.2.1 == 0)) rfl rfl c1 ?_
  refine s_eqa S rfl rfl Try.underlying26 Try.underlying24 T24 Q26 rfl ?_; clear S a; intro a S
  refine s_pick S (b := true) (hc_of rfl c1) rfl rfl ?_; clear S a; intro a S
  refine s_move S rfl rfl ?_; clear S a; intro a S
  rcases ite_of h1 with ⟨c2, h2⟩ | ⟨c2, h2⟩ <;> clear h1
  ·refine s_gT S (b := (decide (x1.2.2.1 = [0, 0, 0, 0]))) rfl rfl c2 ?_
   refine s_fieldAddr S rfl I30_3 T27 (by decide) rfl rfl ?_; clear S a; intro a S
   refine s_gT S (b := (decide (x1.2.2.1 = [0, 0, 0, 0]))) rfl rfl c2 ?_
   refine s_loadSl S rfl .here T27 (A := ch_0_0) (len := (x1.2.2.2.1).length) (cap := ch_0_1) rfl rfl ?_; clear S a; intro a S
   refine s_gT S (b := (decide (x1.2.2.1 = [0, 0, 0, 0]))) rfl rfl c2 ?_
   refine s_lenS S rfl Try.underlying27 rfl ?_; clear S a; intro a S
   refine s_gT S (b := (decide (x1.2.2.1 = [0, 0, 0, 0]))) rfl rfl c2 ?_
   refine s_bin S rfl rfl rfl rfl ?_; clear S a; intro a S
   refine s_pick S (b := true) (hc_of rfl c2) rfl rfl ?_; clear S a; intro a S
   refine s_move S rfl rfl ?_; clear S a; intro a S
   rcases ite_of h2 with ⟨c3, h3⟩ | ⟨c3, h3⟩ <;> clear h2
   ·refine s_gT S (b := (((x1.2.2.2.1).length : Int) == 0)) rfl rfl c3 ?_
    refine s_fieldAddr S rfl I30_4 T28 (by decide) rfl rfl ?_; clear S a; intro a S
    refine s_gT S (b := (((x1.2.2.2.1).length : Int) == 0)) rfl rfl c3 ?_
    refine s_loadSl S rfl .here T28 (A := ch_0_2) (len := (x1.2.2.2.2).length) (cap := ch_0_3) rfl rfl ?_; clear S a; intro a S
    refine s_gT S (b := (((x1.2.2.2.1).length : Int) == 0)) rfl rfl c3 ?_
    refine s_lenS S rfl Try.underlying28 rfl ?_; clear S a; intro a S
    refine s_gT S (b := (((x1.2.2.2.1).length : Int) == 0)) rfl rfl c3 ?_
    refine s_bin S rfl rfl rfl rfl ?_; clear S a; intro a S
    refine s_pick S (b := true) (hc_of rfl c3) rfl rfl ?_; clear S a; intro a S
    refine s_assign S rfl rfl ?_; clear S a; intro a S
    refine c_end ?_
    refine wp_ret ?_
    obtain rfl := Option.some.inj h3
    exact b_ret1 (d := (.v (.bool (((x1.2.2.2.2).length : Int) == 0)))) S rfl rfl fun ok => S.retX (Hx := []) hb _ _ (() : Unit) .nil ok
   ·refine s_gF S (b := (((x1.2.2.2.1).length : Int) == 0)) rfl rfl c3 rfl ?_; clear S a; intro a S
    refine s_gF S (b := (((x1.2.2.2.1).length : Int) == 0)) rfl rfl c3 rfl ?_; clear S a; intro a S
    refine s_gF S (b := (((x1.2.2.2.1).length : Int) == 0)) rfl rfl c3 rfl ?_; clear S a; intro a S
    refine s_gF S (b := (((x1.2.2.2.1).length : Int) == 0)) rfl rfl c3 rfl ?_; clear S a; intro a S
    refine s_pick S (b := false) (hc_of rfl c3) rfl rfl ?_; clear S a; intro a S
    refine s_assign S rfl rfl ?_; clear S a; intro a S
    refine c_end ?_
    refine wp_ret ?_
    obtain rfl := Option.some.inj h3
    exact b_ret1 (d := (.v (.bool false))) S rfl rfl fun ok => S.retX (Hx := []) hb _ _ (() : Unit) .nil ok
  ·refine s_gF S (b := (decide (x1.2.2.1 = [0, 0, 0, 0]))) rfl rfl c2 rfl ?_; clear S a; intro a S
   refine s_gF S (b := (decide (x1.2.2.1 = [0, 0, 0, 0]))) rfl rfl c2 rfl ?_; clear S a; intro a S
   refine s_gF S (b := (decide (x1.2.2.1 = [0, 0, 0, 0]))) rfl rfl c2 rfl ?_; clear S a; intro a S
   refine s_gF S (b := (decide (x1.2.2.1 = [0, 0, 0, 0]))) rfl rfl c2 rfl ?_; clear S a; intro a S
   refine s_pick S (b := false) (hc_of rfl c2) rfl rfl ?_; clear S a; intro a S
   refine s_move S rfl rfl ?_; clear S a; intro a S
   refine s_gF S (b := false) rfl rfl rfl rfl ?_; clear S a; intro a S
   refine s_gF S (b := false) rfl rfl rfl rfl ?_; clear S a; intro a S
   refine s_gF S (b := false) rfl rfl rfl rfl ?_; clear S a; intro a S
   refine s_gF S (b := false) rfl rfl rfl rfl ?_; clear S a; intro a S
   refine s_pick S (b := false) (hc_of rfl rfl) rfl rfl ?_; clear S a; intro a S
   refine s_assign S rfl rfl ?_; clear S a; intro a S
   refine c_end ?_
   refine wp_ret ?_
   obtain rfl := Option.some.inj h2
   exact b_ret1 (d := (.v (.bool false))) S rfl rfl fun ok => S.retX (Hx := []) hb _ _ (() : Unit) .nil ok
 ·refine s_gF S (b := (x1.2.1 == 0)) rfl rfl c1 rfl ?_; clear S a; intro a S
  refine s_gF S (b := (x1.2.1 == 0)) rfl rfl c1 rfl ?_; clear S a; intro a S
  refine s_gF S (b := (x1.2.1 == 0)) rfl rfl c1 rfl ?_; clear S a; intro a S
  refine s_gF S (b := (x1.2.1 == 0)) rfl rfl c1 rfl ?_; clear S a; intro a S
  refine s_pick S (b := false) (hc_of rfl c1) rfl rfl ?_; clear S a; intro a S
  refine s_move S rfl rfl ?_; clear S a; intro a S
  refine s_gF S (b := false) rfl rfl rfl rfl ?_; clear S a; intro a S
  refine s_gF S (b := false) rfl rfl rfl rfl ?_; clear S a; intro a S
  refine s_gF S (b := false) rfl rfl rfl rfl ?_; clear S a; intro a S
  refine s_gF S (b := false) rfl rfl rfl rfl ?_; clear S a; intro a S
  refine s_pick S (b := false) (hc_of rfl rfl) rfl rfl ?_; clear S a; intro a S
  refine s_move S rfl rfl ?_; clear S a; intro a S
  refine s_gF S (b := false) rfl rfl rfl rfl ?_; clear S a; intro a S
  refine s_gF S (b := false) rfl rfl rfl rfl ?_; clear S a; intro a S
  refine s_gF S (b := false) rfl rfl rfl rfl ?_; clear S a; intro a S
  refine s_gF S (b := false) rfl rfl rfl rfl ?_; clear S a; intro a S
  refine s_pick S (b := false) (hc_of rfl rfl) rfl rfl ?_; clear S a; intro a S
  refine s_assign S rfl rfl ?_; clear S a; intro a S
  refine c_end ?_
  refine wp_ret ?_
  obtain rfl := Option.some.inj h1
  exact b_ret1 (d := (.v (.bool false))) S rfl rfl fun ok => S.retX (Hx := []) hb _ _ (() : Unit) .nil ok
/-! smithy/smithylaw13.StoreTells -/
abbrev smithylaw13_StoreTells.Ty : Type := ((List Int) × Int × (List Int) × (List Int) × (List ((List Int) × (List Int)))) → Option Bool
def smithylaw13_StoreTells.Ctr (s : smithylaw13_StoreTells.Ty) : Prop := ∀ (x1 : (List Int) × Int × (List Int) × (List Int) × (List ((List Int) × (List Int)))) (ch_0_0 : Option Addr) (ch_0_1 : Nat) (ch_0_2 : Option Addr) (ch_0_3 : Nat) (r : Bool) (h0 : s x1 = some r) (mi : Mem) (w0 : World), okL mi [(.agg [.ints .u8 x1.1 20, .one (.int .u64 x1.2.1), .ints .u64 x1.2.2.1 4, .sl ch_0_0 (x1.2.2.2.1).length ch_0_1 (RdS (Ty.int .u8) ch_0_0 x1.2.2.2.1), .sl ch_0_2 (x1.2.2.2.2).length ch_0_3 (RdS Y66 ch_0_2 x1.2.2.2.2)])] → Pre mi [] w0 → Calls Try.prog 3 (([(.agg [.ints .u8 x1.1 20, .one (.int .u64 x1.2.1), .ints .u64 x1.2.2.1 4, .sl ch_0_0 (x1.2.2.2.1).length ch_0_1 (RdS (Ty.int .u8) ch_0_0 x1.2.2.2.1), .sl ch_0_2 (x1.2.2.2.2).length ch_0_3 (RdS Y66 ch_0_2 x1.2.2.2.2)])] : List D).map D.val).toArray w0 (RetX mi [] (fun (ch : Unit) => ((.v (.bool r)) : D)) (fun (ch : Unit) => []) w0)
def smithylaw13_StoreTells.f (k : Nat) (x1 : (List Int) × Int × (List Int) × (List Int) × (List ((List Int) × (List Int)))) : Option Bool := (smithyref13_Great.f k [(x1.1, x1.2.1, x1.2.2.1, x1.2.2.2.1, x1.2.2.2.2)]).bind fun t1 => (if t1 = true then ((smithylaw13_fixed.f k).bind fun t2 => (some t2)) else ((smithylaw13_fixed.f k).bind fun t3 => (if t3 = true then ((store_Right.f k (x1.1, x1.2.1, x1.2.2.1, x1.2.2.2.1, x1.2.2.2.2)).bind fun t4 => ((smithyref13_Right.f k (x1.1, x1.2.1, x1.2.2.1, x1.2.2.2.1, x1.2.2.2.2)).bind fun t5 => (if (t4 == t5) = true then ((store_Empty.f (x1.1, x1.2.1, x1.2.2.1, x1.2.2.2.1, x1.2.2.2.2)).bind fun t6 => ((smithyref13_Empty.f (x1.1, x1.2.1, x1.2.2.1, x1.2.2.2.1, x1.2.2.2.2)).bind fun t7 => (some (t6 == t7)))) else (some false)))) else (some false))))
theorem smithylaw13_StoreTells.ok (k : Nat) : smithylaw13_StoreTells.Ctr (smithylaw13_StoreTells.f k) := by
 intro x1 ch_0_0 ch_0_1 ch_0_2 ch_0_3 r h0 mi w0 ok hm
 delta smithylaw13_StoreTells.f at h0
 refine c_enterX (n := 22) [(.agg [.ints .u8 x1.1 20, .one (.int .u64 x1.2.1), .ints .u64 x1.2.2.1 4, .sl ch_0_0 (x1.2.2.2.1).length ch_0_1 (RdS (Ty.int .u8) ch_0_0 x1.2.2.2.1), .sl ch_0_2 (x1.2.2.2.2).length ch_0_3 (RdS Y66 ch_0_2 x1.2.2.2.2)])] (l := [(0, (.agg [.ints .u8 x1.1 20, .one (.int .u64 x1.2.1), .ints .u64 x1.2.2.1 4, .sl ch_0_0 (x1.2.2.2.1).length ch_0_1 (RdS (Ty.int .u8) ch_0_0 x1.2.2.2.1), .sl ch_0_2 (x1.2.2.2.2).length ch_0_3 (RdS Y66 ch_0_2 x1.2.2.2.2)]))]) Try.func3 rfl rfl rfl rfl ok hm ?_
 clear ok hm
 intro b0 hb a S
 refine c_region ?_
 refine s_box S rfl rfl rfl ?_; clear S a; intro g1 a w S
 refine s_assign S rfl rfl ?_; clear S a; intro a S
 refine c_end ?_
 refine wp_seq ?_
 refine c_region ?_
 refine s_loada S rfl .here T30 (s' := [.ints .u8 x1.1 20, .one (.int .u64 x1.2.1), .ints .u64 x1.2.2.1 4, .sl ch_0_0 (x1.2.2.2.1).length ch_0_1 (RdS (Ty.int .u8) ch_0_0 x1.2.2.2.1), .sl ch_0_2 (x1.2.2.2.2).length ch_0_3 (RdS Y66 ch_0_2 x1.2.2.2.2)]) rfl rfl ?_; clear S a; intro a S
 refine s_bldSl S (ty' := Y30) (ds := [(0, (.agg [.ints .u8 x1.1 20, .one (.int .u64 x1.2.1), .ints .u64 x1.2.2.1 4, .sl ch_0_0 (x1.2.2.2.1).length ch_0_1 (RdS (Ty.int .u8) ch_0_0 x1.2.2.2.1), .sl ch_0_2 (x1.2.2.2.2).length ch_0_3 (RdS Y66 ch_0_2 x1.2.2.2.2)]))]) (z := ([0, 0, 0, 0, 0, 0, 0, 0, 0, 0, 0, 0, 0, 0, 0, 0, 0, 0, 0, 0], 0, [0, 0, 0, 0], ([] : List Int), ([] : List ((List Int) × (List Int))))) (c0 := ((), (), (), (none, 0), (none, 0))) (ys := [(x1.1, x1.2.1, x1.2.2.1, x1.2.2.2.1, x1.2.2.2.2)]) (cs := [((), (), (), (ch_0_0, ch_0_1), (ch_0_2, ch_0_3))]) rfl Try.underlying32 J30 Z30 rfl ⟨rfl, rfl, rfl, ⟨Nat.le_refl _, Nat.zero_le _, RdS.nil _ _ _, RdS.mono _ _ _⟩, ⟨Nat.le_refl _, Nat.zero_le _, RdS.nil _ _ _, RdS.mono _ _ _⟩, trivial⟩ rfl rfl rfl rfl rfl rfl ?_; clear S a w; intro g2 a w S
 replace S := S.rowfro .here
 obtain ⟨m, le1, S, hro⟩ := S
 replace S := S.slotro (u := 4) rfl hro
 obtain ⟨t1, et1, h1⟩ := bind_of h0; clear h0
 refine s_callP S (fun (ch : Unit) => ((.v (.bool t1)) : D)) N8 rfl rfl (smithyref13_Great.ok k [(x1.1, x1.2.1, x1.2.2.1, x1.2.2.2.1, x1.2.2.2.2)] (some ⟨g2, 0, none⟩) 1 t1 et1 _ _) ?_; clear S a w; intro ch1 m le1 a w S
 refine c_end ?_
 rcases ite_of h1 with ⟨c1, h2⟩ | ⟨c1, h2⟩ <;> clear h1
 ·refine c_condT S rfl c1 ?_
  refine c_region ?_
  obtain ⟨t2, et2, h3⟩ := bind_of h2; clear h2
  refine s_callP S (fun (ch : Unit) => ((.v (.bool t2)) : D)) N9 rfl rfl (smithylaw13_fixed.ok k t2 et2 _ _) ?_; clear S a w; intro ch2 m le1 a w S
  refine s_assign S rfl rfl ?_; clear S a; intro a S
  refine c_end ?_
  refine wp_ret ?_
  refine x_thenR ?_
  obtain rfl := Option.some.inj h3
  exact b_ret1 (d := (.v (.bool t2))) S rfl rfl fun ok => S.retX (Hx := []) hb _ _ (() : Unit) .nil ok
 ·refine c_condF S rfl c1 ?_
  refine wp_skip ?_
  refine x_thenN ?_
  refine wp_seq (c_heldS S (.alts (.run 0 true (.take 1 (.take 2 (.take 4 (.alts (.run 3 true (.alts (.run 5 true (.take 6 (.take 7 (.take 8 (.take 9 (.take 11 (.alts (.run 10 true (.alts (.run 12 true (.take 13 (.take 14 (.take 15 .done))) .nil)) .nil))))))) .nil)) .nil))))) .nil)) 16 [Res.cells g1 30 [.ints .u8 x1.1 20, .one (.int .u64 x1.2.1), .ints .u64 x1.2.2.1 4, .sl ch_0_0 (x1.2.2.2.1).length ch_0_1 (RdS (Ty.int .u8) ch_0_0 x1.2.2.2.1), .sl ch_0_2 (x1.2.2.2.2).length ch_0_3 (RdS Y66 ch_0_2 x1.2.2.2.2)]] (.cons .here .nil) ⟨Res.stay_cells, trivial⟩ [(1, (.v (.pointer (some ⟨g1, 0, none⟩))))] ⟨rfl, trivial⟩ (by kernel_rfl) (by kernel_rfl) ?_); clear S; intro w S CL hw le
  refine h_run' S rfl trivial ?_
  obtain ⟨t3, et3, h3⟩ := bind_of h2; clear h2
  refine s_callP S (fun (ch : Unit) => ((.v (.bool t3)) : D)) N9 rfl rfl (smithylaw13_fixed.ok k t3 et3 _ _) ?_; clear S a; intro ch3 m le1 a w S
  replace le := le.trans le1
  replace hw := CL.again hw S (.cons .here .nil) le
  refine h_back ⟨fun _ => hw, ?_⟩
  replace CL := CL.add (t := 7) (d := (.v (.bool t3))) S rfl rfl
  refine h_move S CL hw le (subR rfl) rfl rfl rfl trivial ?_; clear S CL a; intro a S CL
  rcases ite_of h3 with ⟨c2, h4⟩ | ⟨c2, h4⟩ <;> clear h3
  ·refine h_loada S CL hw le (subR rfl) rfl .here T30 (s' := [.ints .u8 x1.1 20, .one (.int .u64 x1.2.1), .ints .u64 x1.2.2.1 4, .sl ch_0_0 (x1.2.2.2.1).length ch_0_1 (RdS (Ty.int .u8) ch_0_0 x1.2.2.2.1), .sl ch_0_2 (x1.2.2.2.2).length ch_0_3 (RdS Y66 ch_0_2 x1.2.2.2.2)]) rfl rfl rfl ⟨_, _, rfl, rfl, c2⟩ ?_; clear S CL a; intro a S CL
   refine h_loada S CL hw le (subR rfl) rfl .here T30 (s' := [.ints .u8 x1.1 20, .one (.int .u64 x1.2.1), .ints .u64 x1.2.2.1 4, .sl ch_0_0 (x1.2.2.2.1).length ch_0_1 (RdS (Ty.int .u8) ch_0_0 x1.2.2.2.1), .sl ch_0_2 (x1.2.2.2.2).length ch_0_3 (RdS Y66 ch_0_2 x1.2.2.2.2)]) rfl rfl rfl ⟨_, _, rfl, rfl, c2⟩ ?_; clear S CL a; intro a S CL
   refine h_run' S rfl ⟨_, _, rfl, rfl, c2⟩ ?_
   obtain ⟨t4, et4, h5⟩ := bind_of h4; clear h4
   refine s_callP S (fun (ch : Unit) => ((.v (.bool t4)) : D)) N10 rfl rfl (store_Right.ok k (x1.1, x1.2.1, x1.2.2.1, x1.2.2.2.1, x1.2.2.2.2) ch_0_0 ch_0_1 ch_0_2 ch_0_3 t4 et4 _ _) ?_; clear S a; intro ch4 m le1 a w S
   replace le := le.trans le1
   replace hw := CL.again hw S (.cons .here .nil) le
   refine h_back ⟨fun _ => hw, ?_⟩
   replace CL := CL.add (t := 10) (d := (.v (.bool t4))) S rfl rfl
   refine h_run' S rfl ⟨_, _, rfl, rfl, c2⟩ ?_
   obtain ⟨t5, et5, h6⟩ := bind_of h5; clear h5
   refine s_callP S (fun (ch : Unit) => ((.v (.bool t5)) : D)) N11 rfl rfl (smithyref13_Right.ok k (x1.1, x1.2.1, x1.2.2.1, x1.2.2.2.1, x1.2.2.2.2) ch_0_0 ch_0_1 ch_0_2 ch_0_3 t5 et5 _ _) ?_; clear S a; intro ch5 m le1 a w S
   replace le := le.trans le1
   replace hw := CL.again hw S (.cons .here .nil) le
   refine h_back ⟨fun _ => hw, ?_⟩
   replace CL := CL.add (t := 12) (d := (.v (.bool t5))) S rfl rfl
   refine h_eqb S CL hw le (subR rfl) rfl rfl Try.underlying4 rfl rfl ⟨_, _, rfl, rfl, c2⟩ ?_; clear S CL a; intro a S CL
   refine h_pick S CL hw le (subR rfl) (b := true) (hc_of rfl c2) rfl rfl rfl trivial ?_; clear S CL a; intro a S CL
   refine h_move S CL hw le (subR rfl) rfl rfl rfl trivial ?_; clear S CL a; intro a S CL
   rcases ite_of h6 with ⟨c3, h7⟩ | ⟨c3, h7⟩ <;> clear h6
   ·refine h_loada S CL hw le (subR rfl) rfl .here T30 (s' := [.ints .u8 x1.1 20, .one (.int .u64 x1.2.1), .ints .u64 x1.2.2.1 4, .sl ch_0_0 (x1.2.2.2.1).length ch_0_1 (RdS (Ty.int .u8) ch_0_0 x1.2.2.2.1), .sl ch_0_2 (x1.2.2.2.2).length ch_0_3 (RdS Y66 ch_0_2 x1.2.2.2.2)]) rfl rfl rfl ⟨_, _, rfl, rfl, c3⟩ ?_; clear S CL a; intro a S CL
    refine h_loada S CL hw le (subR rfl) rfl .here T30 (s' := [.ints .u8 x1.1 20, .one (.int .u64 x1.2.1), .ints .u64 x1.2.2.1 4, .sl ch_0_0 (x1.2.2.2.1).length ch_0_1 (RdS (Ty.int .u8) ch_0_0 x1.2.2.2.1), .sl ch_0_2 (x1.2.2.2.2).length ch_0_3 (RdS Y66 ch_0_2 x1.2.2.2.2)]) rfl rfl rfl ⟨_, _, rfl, rfl, c3⟩ ?_; clear S CL a; intro a S CL
    refine h_run' S rfl ⟨_, _, rfl, rfl, c3⟩ ?_
    obtain ⟨t6, et6, h8⟩ := bind_of h7; clear h7
    refine s_callP S (fun (ch : Unit) => ((.v (.bool t6)) : D)) N12 rfl rfl (store_Empty.ok (x1.1, x1.2.1, x1.2.2.1, x1.2.2.2.1, x1.2.2.2.2) ch_0_0 ch_0_1 ch_0_2 ch_0_3 t6 et6 _ _) ?_; clear S a; intro ch6 m le1 a w S
    replace le := le.trans le1
    replace hw := CL.again hw S (.cons .here .nil) le
    refine h_back ⟨fun _ => hw, ?_⟩
    replace CL := CL.add (t := 17) (d := (.v (.bool t6))) S rfl rfl
    refine h_run' S rfl ⟨_, _, rfl, rfl, c3⟩ ?_
    obtain ⟨t7, et7, h9⟩ := bind_of h8; clear h8
    refine s_callP S (fun (ch : Unit) => ((.v (.bool t7)) : D)) N13 rfl rfl (smithyref13_Empty.ok (x1.1, x1.2.1, x1.2.2.1, x1.2.2.2.1, x1.2.2.2.2) ch_0_0 ch_0_1 ch_0_2 ch_0_3 t7 et7 _ _) ?_; clear S a; intro ch7 m le1 a w S
    replace le := le.trans le1
    replace hw := CL.again hw S (.cons .here .nil) le
    refine h_back ⟨fun _ => hw, ?_⟩
    replace CL := CL.add (t := 19) (d := (.v (.bool t7))) S rfl rfl
    refine h_eqb S CL hw le (subR rfl) rfl rfl Try.underlying4 rfl rfl ⟨_, _, rfl, rfl, c3⟩ ?_; clear S CL a; intro a S CL
    refine h_pick S CL hw le (subR rfl) (b := true) (hc_of rfl c3) rfl rfl rfl trivial ?_; clear S CL a; intro a S CL
    refine h_assign S CL hw le (subR rfl) rfl rfl rfl trivial ?_; clear S CL a; intro a S CL
    refine h_done ?_; clear CL hw le
    refine x_thenN ?_
    refine wp_ret ?_
    obtain rfl := Option.some.inj h9
    exact b_ret1 (d := (.v (.bool (t6 == t7)))) S rfl rfl fun ok => S.retX (Hx := []) hb _ _ (() : Unit) .nil ok
   ·refine h_skip S CL rfl rfl rfl (ne_bool c3) rfl ?_; clear S CL a; intro a S CL
    refine h_skip S CL rfl rfl rfl (ne_bool c3) rfl ?_; clear S CL a; intro a S CL
    refine h_skipRt S rfl rfl rfl (ne_bool c3) rfl ?_; clear S a; intro a S
    replace hw := CL.again hw S (.cons .here .nil) le
    refine h_back ⟨fun _ => hw, ?_⟩
    replace CL := CL.add (t := 17) (d := .u) S rfl rfl
    refine h_skipRt S rfl rfl rfl (ne_bool c3) rfl ?_; clear S a; intro a S
    replace hw := CL.again hw S (.cons .here .nil) le
    refine h_back ⟨fun _ => hw, ?_⟩
    replace CL := CL.add (t := 19) (d := .u) S rfl rfl
    refine h_skip S CL rfl rfl rfl (ne_bool c3) rfl ?_; clear S CL a; intro a S CL
    refine h_pick S CL hw le (subR rfl) (b := false) (hc_of rfl c3) rfl rfl rfl trivial ?_; clear S CL a; intro a S CL
    refine h_assign S CL hw le (subR rfl) rfl rfl rfl trivial ?_; clear S CL a; intro a S CL
    refine h_done ?_; clear CL hw le
    refine x_thenN ?_
    refine wp_ret ?_
    obtain rfl := Option.some.inj h7
    exact b_ret1 (d := (.v (.bool false))) S rfl rfl fun ok => S.retX (Hx := []) hb _ _ (() : Unit) .nil ok
  ·refine h_skip S CL rfl rfl rfl (ne_bool c2) rfl ?_; clear S CL a; intro a S CL
   refine h_skip S CL rfl rfl rfl (ne_bool c2) rfl ?_; clear S CL a; intro a S CL
   refine h_skipRt S rfl rfl rfl (ne_bool c2) rfl ?_; clear S a; intro a S
   replace hw := CL.again hw S (.cons .here .nil) le
   refine h_back ⟨fun _ => hw, ?_⟩
   replace CL := CL.add (t := 10) (d := .u) S rfl rfl
   refine h_skipRt S rfl rfl rfl (ne_bool c2) rfl ?_; clear S a; intro a S
   replace hw := CL.again hw S (.cons .here .nil) le
   refine h_back ⟨fun _ => hw, ?_⟩
   replace CL := CL.add (t := 12) (d := .u) S rfl rfl
   refine h_skip S CL rfl rfl rfl (ne_bool c2) rfl ?_; clear S CL a; intro a S CL
   refine h_pick S CL hw le (subR rfl) (b := false) (hc_of rfl c2) rfl rfl rfl trivial ?_; clear S CL a; intro a S CL
   refine h_move S CL hw le (subR rfl) rfl rfl rfl trivial ?_; clear S CL a; intro a S CL
   refine h_skip S CL rfl rfl rfl (ne_bool rfl) rfl ?_; clear S CL a; intro a S CL
   refine h_skip S CL rfl rfl rfl (ne_bool rfl) rfl ?_; clear S CL a; intro a S CL
   refine h_skipRt S rfl rfl rfl (ne_bool rfl) rfl ?_; clear S a; intro a S
   replace hw := CL.again hw S (.cons .here .nil) le
   refine h_back ⟨fun _ => hw, ?_⟩
   replace CL := CL.add (t := 17) (d := .u) S rfl rfl
   refine h_skipRt S rfl rfl rfl (ne_bool rfl) rfl ?_; clear S a; intro a S
   replace hw := CL.again hw S (.cons .here .nil) le
   refine h_back ⟨fun _ => hw, ?_⟩
   replace CL := CL.add (t := 19) (d := .u) S rfl rfl
   refine h_skip S CL rfl rfl rfl (ne_bool rfl) rfl ?_; clear S CL a; intro a S CL
   refine h_pick S CL hw le (subR rfl) (b := false) (hc_of rfl rfl) rfl rfl rfl trivial ?_; clear S CL a; intro a S CL
   refine h_assign S CL hw le (subR rfl) rfl rfl rfl trivial ?_; clear S CL a; intro a S CL
   refine h_done ?_; clear CL hw le
   refine x_thenN ?_
   refine wp_ret ?_
   obtain rfl := Option.some.inj h4
   exact b_ret1 (d := (.v (.bool false))) S rfl rfl fun ok => S.retX (Hx := []) hb _ _ (() : Unit) .nil ok
end GW
