/-
  Printed by a program of these sessions (wip/gw/gx.py): for each Go function a Lean function with the same answers, and the walk that shows it.
-/
import Derived.Test.YtcpinokfhfmilaaProg
import Derived.Test.YtcpinokfhfmilaaGA
set_option linter.unusedVariables false
set_option maxRecDepth 10000
namespace GW
open Go Go.RowKit Go.Proofs
/-! smithy/smithylaw10.MemSums -/
abbrev smithylaw10_MemSums.Ty : Type := (List (Int × Int × Int × Int × (List Int) × (List Int) × (List Int))) → Option Bool
def smithylaw10_MemSums.Ctr (s : smithylaw10_MemSums.Ty) : Prop := ∀ (x1 : List (Int × Int × Int × Int × (List Int) × (List Int) × (List Int))) (ch_0_0 : Option Addr) (ch_0_1 : Nat) (r : Bool) (h0 : s x1 = some r) (mi : Mem) (w0 : World), okL mi [(.sl ch_0_0 (x1).length ch_0_1 (RdS (Ty.prod (Ty.int .i64) (Ty.prod (Ty.int .i64) (Ty.prod (Ty.int .i64) (Ty.prod (Ty.int .i64) (Ty.prod (Ty.arr .u64 4) (Ty.prod (Ty.arr .u64 4) (Ty.slice (Ty.int .u8)))))))) ch_0_0 x1))] → Pre mi [] w0 → Calls Try.prog 5 (([(.sl ch_0_0 (x1).length ch_0_1 (RdS (Ty.prod (Ty.int .i64) (Ty.prod (Ty.int .i64) (Ty.prod (Ty.int .i64) (Ty.prod (Ty.int .i64) (Ty.prod (Ty.arr .u64 4) (Ty.prod (Ty.arr .u64 4) (Ty.slice (Ty.int .u8)))))))) ch_0_0 x1))] : List D).map D.val).toArray w0 (RetX mi [] (fun (ch : Unit) => ((.v (.bool r)) : D)) (fun (ch : Unit) => []) w0)
def smithylaw10_MemSums.j1 (y1 : Int) (y2 : List Int) : Option Bool := (smithylaw10_fixed.f).bind fun t3 => (if t3 = true then ((mem_Memory_Len.f (y2)).bind fun t4 => ((smithyref10_Price.f (wr .u64 (wr .i64 (Int.tdiv t4 32)))).bind fun t5 => (if (y1 == t5) = true then ((mem_Memory_Len.f (y2)).bind fun t6 => (some ((Int.tmod t6 32) == 0))) else (some false)))) else (some false))
def smithylaw10_MemSums.b1 (t7 : (List (Int × Int × Int × Int × (List Int) × (List Int) × (List Int)))) (rec1 : Int → Int → (List Int) → Option Bool) (y5 : Int) (y6 : Int) (y7 : List Int) : Option Bool := if (decide (y5 < ((t7).length : Int))) = true then (if 0 ≤ y5 ∧ y5 < ((t7).length : Int) then ((mem_Memory_Cost.f (y7) ((gt t7 y5).2.2.2.2.1) ((gt t7 y5).2.2.2.2.2.1)).bind fun t12 => ((mem_Memory_Reach.f (y7) ((gt t7 y5).2.2.2.2.1) ((gt t7 y5).2.2.2.2.2.1)).bind fun t13 => (if (!(t13.1 == t12.2)) = true then (some false) else (rec1 (wr .i64 (y5 + 1)) (wr .u64 (y6 + t12.1)) t13.2)))) else none) else (smithylaw10_MemSums.j1 y6 y7)
def smithylaw10_MemSums.l1 (t7 : (List (Int × Int × Int × Int × (List Int) × (List Int) × (List Int)))) : Nat → Int → Int → (List Int) → Option Bool
  | 0, _, _, _ => none
  | q + 1, y5, y6, y7 => smithylaw10_MemSums.b1 t7 (smithylaw10_MemSums.l1 t7 q) y5 y6 y7
def smithylaw10_MemSums.f (k : Nat) (x1 : List (Int × Int × Int × Int × (List Int) × (List Int) × (List Int))) : Option Bool := (mem_New.f).bind fun t1 => ((smithylaw10_cut.f k x1).bind fun t7 => (smithylaw10_MemSums.l1 t7 k 0 0 t1))
theorem smithylaw10_MemSums.ok (k : Nat) : smithylaw10_MemSums.Ctr (smithylaw10_MemSums.f k) := by
  intro x1 ch_0_0 ch_0_1 r h0 mi w0 ok hm
  delta smithylaw10_MemSums.f at h0
  refine c_enterX (n := 56) [(.sl ch_0_0 (x1).length ch_0_1 (RdS (Ty.prod (Ty.int .i64) (Ty.prod (Ty.int .i64) (Ty.prod (Ty.int .i64) (Ty.prod (Ty.int .i64) (Ty.prod (Ty.arr .u64 4) (Ty.prod (Ty.arr .u64 4) (Ty.slice (Ty.int .u8)))))))) ch_0_0 x1))] (l := [(0, (.sl ch_0_0 (x1).length ch_0_1 (RdS (Ty.prod (Ty.int .i64) (Ty.prod (Ty.int .i64) (Ty.prod (Ty.int .i64) (Ty.prod (Ty.int .i64) (Ty.prod (Ty.arr .u64 4) (Ty.prod (Ty.arr .u64 4) (Ty.slice (Ty.int .u8)))))))) ch_0_0 x1)))]) Try.func5 rfl rfl rfl rfl ok hm ?_
  clear ok hm
  intro b0 hb a S
  refine c_region ?_
  refine s_assign S rfl rfl ?_; clear S a; intro a S
  refine c_end ?_
  refine c_region ?_
  obtain ⟨t1, et1, h1⟩ := bind_of h0; clear h0
  refine s_callX S (ds' := []) (ds := []) [] [] (fun (ch : Nat × (Option Addr) × Nat × Nat) => ((.v (.pointer (some ⟨ch.1, 0, none⟩))) : D)) (fun (ch : Nat × (Option Addr) × Nat × Nat) => [Res.cells ch.1 72 [.one (.slice ch.2.1 ch.2.2.1 ch.2.2.2)], Res.row (Ty.int .u8) 5 ch.2.1 ch.2.2.1 ch.2.2.2 t1]) (fun (ch : Nat × (Option Addr) × Nat × Nat) => [Res.cells ch.1 72 [.one (.slice ch.2.1 ch.2.2.1 ch.2.2.2)], Res.row (Ty.int .u8) 5 ch.2.1 ch.2.2.1 ch.2.2.2 t1]) (fun _ => rfl) N15 rfl rfl (fun ok => ok) .nil rfl (mem_New.ok t1 et1 _ _) ?_; clear S a; intro ch1 m le1 a w S
  refine s_assign S rfl rfl ?_; clear S a; intro a S
  refine c_end ?_
  refine wp_seq ?_
  refine c_region ?_
  refine s_move S rfl rfl ?_; clear S a; intro a S
  refine s_eqp S (b := false) rfl rfl Try.underlying28 rfl rfl ?_; clear S a; intro a S
  refine c_end ?_
  refine c_condF S rfl rfl ?_
  refine wp_skip ?_
  refine x_thenN ?_
  refine c_region ?_
  refine s_assign S rfl rfl ?_; clear S a; intro a S
  refine c_end ?_
  refine wp_seq_k ?_
  intro K1 hK1
  have j1 : ∀ (m : Mem) (y1 : Int) (g1 : Nat) (A1 : Option Addr) (nn1 : Nat) (cp1 : Nat) (y2 : List Int) (a : Act) (w : World), St 56 m b0 [(4, (.v (.int .u64 y1))), (3, (.v (.pointer (some ⟨g1, 0, none⟩))))] [Res.cells g1 72 [.one (.slice A1 nn1 cp1)], Res.row (Ty.int .u8) 5 A1 nn1 cp1 y2] a w → smithylaw10_MemSums.j1 y1 y2 = some r → K1 a w := by
    intro m y1 g1 A1 nn1 cp1 y2 a w S h0
    delta smithylaw10_MemSums.j1 at h0
    refine hK1 a w ?_
    refine c_region ?_
    obtain ⟨t3, et3, h1⟩ := bind_of h0; clear h0
    refine s_callX S (ds' := []) (ds := []) [] [Res.cells g1 72 [.one (.slice A1 nn1 cp1)], Res.row (Ty.int .u8) 5 A1 nn1 cp1 y2] (fun (ch : Unit) => ((.v (.bool t3)) : D)) (fun (ch : Unit) => []) (fun (ch : Unit) => [Res.cells g1 72 [.one (.slice A1 nn1 cp1)], Res.row (Ty.int .u8) 5 A1 nn1 cp1 y2]) (fun _ => rfl) N12 rfl rfl (fun ok => ok) (.cons .here (.cons .here .nil)) rfl (smithylaw10_fixed.ok t3 et3 _ _) ?_; clear S a w; intro ch2 m le1 a w S
    refine s_move S rfl rfl ?_; clear S a; intro a S
    rcases ite_of h1 with ⟨c1, h2⟩ | ⟨c1, h2⟩ <;> clear h1
    · refine s_gT S (b := t3) rfl rfl c1 ?_
      refine s_move S rfl rfl ?_; clear S a; intro a S
      refine s_gT S (b := t3) rfl rfl c1 ?_
      refine s_move S rfl rfl ?_; clear S a; intro a S
      refine s_gT S (b := t3) rfl rfl c1 ?_
      obtain ⟨t4, et4, h3⟩ := bind_of h2; clear h2
      refine s_callX S (ds' := [(.v (.pointer (some ⟨g1, 0, none⟩)))]) (ds := [(.v (.pointer (some ⟨g1, 0, none⟩)))]) [Res.cells g1 72 [.one (.slice A1 nn1 cp1)], Res.row (Ty.int .u8) 5 A1 nn1 cp1 y2] [] (fun (ch : Unit) => ((.v (.int .i64 t4)) : D)) (fun (ch : Unit) => [Res.cells g1 72 [.one (.slice A1 nn1 cp1)], Res.row (Ty.int .u8) 5 A1 nn1 cp1 y2]) (fun (ch : Unit) => [Res.cells g1 72 [.one (.slice A1 nn1 cp1)], Res.row (Ty.int .u8) 5 A1 nn1 cp1 y2]) (fun _ => rfl) N19 rfl rfl (fun ok => ok) (.cons .here (.cons .here .nil)) rfl (mem_Memory_Len.ok (y2) g1 A1 nn1 cp1 t4 et4 _ _) ?_; clear S a w; intro ch3 m le1 a w S
      refine s_gT S (b := t3) rfl rfl c1 ?_
      refine s_quo S rfl rfl (by decide) rfl ?_; clear S a; intro a S
      refine s_gT S (b := t3) rfl rfl c1 ?_
      refine s_conv S rfl rfl Try.underlying22 rfl ?_; clear S a; intro a S
      refine s_gT S (b := t3) rfl rfl c1 ?_
      obtain ⟨t5, et5, h4⟩ := bind_of h3; clear h3
      refine s_callX S (ds' := [(.v (.int .u64 (wr .u64 (wr .i64 (Int.tdiv t4 32)))))]) (ds := [(.v (.int .u64 (wr .u64 (wr .i64 (Int.tdiv t4 32)))))]) [] [Res.cells g1 72 [.one (.slice A1 nn1 cp1)], Res.row (Ty.int .u8) 5 A1 nn1 cp1 y2] (fun (ch : Unit) => ((.v (.int .u64 t5)) : D)) (fun (ch : Unit) => []) (fun (ch : Unit) => [Res.cells g1 72 [.one (.slice A1 nn1 cp1)], Res.row (Ty.int .u8) 5 A1 nn1 cp1 y2]) (fun _ => rfl) N14 rfl rfl (fun ok => ok) (.cons .here (.cons .here .nil)) rfl (smithyref10_Price.ok (wr .u64 (wr .i64 (Int.tdiv t4 32))) t5 et5 _ _) ?_; clear S a w; intro ch4 m le1 a w S
      refine s_gT S (b := t3) rfl rfl c1 ?_
      refine s_bin S rfl rfl rfl rfl ?_; clear S a; intro a S
      refine s_pick S (b := true) (hc_of rfl c1) rfl rfl ?_; clear S a; intro a S
      refine s_move S rfl rfl ?_; clear S a; intro a S
      rcases ite_of h4 with ⟨c2, h5⟩ | ⟨c2, h5⟩ <;> clear h4
      · refine s_gT S (b := (y1 == t5)) rfl rfl c2 ?_
        refine s_move S rfl rfl ?_; clear S a; intro a S
        refine s_gT S (b := (y1 == t5)) rfl rfl c2 ?_
        obtain ⟨t6, et6, h6⟩ := bind_of h5; clear h5
        refine s_callX S (ds' := [(.v (.pointer (some ⟨g1, 0, none⟩)))]) (ds := [(.v (.pointer (some ⟨g1, 0, none⟩)))]) [Res.cells g1 72 [.one (.slice A1 nn1 cp1)], Res.row (Ty.int .u8) 5 A1 nn1 cp1 y2] [] (fun (ch : Unit) => ((.v (.int .i64 t6)) : D)) (fun (ch : Unit) => [Res.cells g1 72 [.one (.slice A1 nn1 cp1)], Res.row (Ty.int .u8) 5 A1 nn1 cp1 y2]) (fun (ch : Unit) => [Res.cells g1 72 [.one (.slice A1 nn1 cp1)], Res.row (Ty.int .u8) 5 A1 nn1 cp1 y2]) (fun _ => rfl) N19 rfl rfl (fun ok => ok) (.cons .here (.cons .here .nil)) rfl (mem_Memory_Len.ok (y2) g1 A1 nn1 cp1 t6 et6 _ _) ?_; clear S a w; intro ch5 m le1 a w S
        refine s_gT S (b := (y1 == t5)) rfl rfl c2 ?_
        refine s_rem S rfl rfl (by decide) rfl ?_; clear S a; intro a S
        refine s_gT S (b := (y1 == t5)) rfl rfl c2 ?_
        refine s_bin S rfl rfl rfl rfl ?_; clear S a; intro a S
        refine s_pick S (b := true) (hc_of rfl c2) rfl rfl ?_; clear S a; intro a S
        refine s_assign S rfl rfl ?_; clear S a; intro a S
        refine c_end ?_
        refine wp_ret ?_
        obtain rfl := Option.some.inj h6
        exact b_ret1 (d := (.v (.bool ((Int.tmod t6 32) == 0)))) S rfl rfl fun ok => S.retX (Hx := []) hb _ _ (() : Unit) .nil ok
      · refine s_gF S (b := (y1 == t5)) rfl rfl c2 rfl ?_; clear S a; intro a S
        refine s_gF S (b := (y1 == t5)) rfl rfl c2 rfl ?_; clear S a; intro a S
        refine s_gF S (b := (y1 == t5)) rfl rfl c2 rfl ?_; clear S a; intro a S
        refine s_gF S (b := (y1 == t5)) rfl rfl c2 rfl ?_; clear S a; intro a S
        refine s_pick S (b := false) (hc_of rfl c2) rfl rfl ?_; clear S a; intro a S
        refine s_assign S rfl rfl ?_; clear S a; intro a S
        refine c_end ?_
        refine wp_ret ?_
        obtain rfl := Option.some.inj h5
        exact b_ret1 (d := (.v (.bool false))) S rfl rfl fun ok => S.retX (Hx := []) hb _ _ (() : Unit) .nil ok
    · refine s_gF S (b := t3) rfl rfl c1 rfl ?_; clear S a; intro a S
      refine s_gF S (b := t3) rfl rfl c1 rfl ?_; clear S a; intro a S
      refine s_gF S (b := t3) rfl rfl c1 rfl ?_; clear S a; intro a S
      refine s_gF S (b := t3) rfl rfl c1 rfl ?_; clear S a; intro a S
      refine s_gF S (b := t3) rfl rfl c1 rfl ?_; clear S a; intro a S
      refine s_gF S (b := t3) rfl rfl c1 rfl ?_; clear S a; intro a S
      refine s_gF S (b := t3) rfl rfl c1 rfl ?_; clear S a; intro a S
      refine s_pick S (b := false) (hc_of rfl c1) rfl rfl ?_; clear S a; intro a S
      refine s_move S rfl rfl ?_; clear S a; intro a S
      refine s_gF S (b := false) rfl rfl rfl rfl ?_; clear S a; intro a S
      refine s_gF S (b := false) rfl rfl rfl rfl ?_; clear S a; intro a S
      refine s_gF S (b := false) rfl rfl rfl rfl ?_; clear S a; intro a S
      refine s_gF S (b := false) rfl rfl rfl rfl ?_; clear S a; intro a S
      refine s_pick S (b := false) (hc_of rfl rfl) rfl rfl ?_; clear S a; intro a S
      refine s_assign S rfl rfl ?_; clear S a; intro a S
      refine c_end ?_
      refine wp_ret ?_
      obtain rfl := Option.some.inj h2
      exact b_ret1 (d := (.v (.bool false))) S rfl rfl fun ok => S.retX (Hx := []) hb _ _ (() : Unit) .nil ok
  refine c_region ?_
  refine s_move S rfl rfl ?_; clear S a; intro a S
  obtain ⟨t7, et7, h2⟩ := bind_of h1; clear h1
  refine s_callX S (ds' := [(.sl ch_0_0 (x1).length ch_0_1 (RdS (Ty.prod (Ty.int .i64) (Ty.prod (Ty.int .i64) (Ty.prod (Ty.int .i64) (Ty.prod (Ty.int .i64) (Ty.prod (Ty.arr .u64 4) (Ty.prod (Ty.arr .u64 4) (Ty.slice (Ty.int .u8)))))))) ch_0_0 x1))]) (ds := [(.sl ch_0_0 (x1).length ch_0_1 (RdS (Ty.prod (Ty.int .i64) (Ty.prod (Ty.int .i64) (Ty.prod (Ty.int .i64) (Ty.prod (Ty.int .i64) (Ty.prod (Ty.arr .u64 4) (Ty.prod (Ty.arr .u64 4) (Ty.slice (Ty.int .u8)))))))) ch_0_0 x1))]) [] [Res.cells ch1.1 72 [.one (.slice ch1.2.1 ch1.2.2.1 ch1.2.2.2)], Res.row (Ty.int .u8) 5 ch1.2.1 ch1.2.2.1 ch1.2.2.2 t1] (fun (ch : (Option Addr) × Nat) => ((.sl ch.1 (t7).length ch.2 (RdS (Ty.prod (Ty.int .i64) (Ty.prod (Ty.int .i64) (Ty.prod (Ty.int .i64) (Ty.prod (Ty.int .i64) (Ty.prod (Ty.arr .u64 4) (Ty.prod (Ty.arr .u64 4) (Ty.slice (Ty.int .u8)))))))) ch.1 t7)) : D)) (fun (ch : (Option Addr) × Nat) => []) (fun (ch : (Option Addr) × Nat) => [Res.cells ch1.1 72 [.one (.slice ch1.2.1 ch1.2.2.1 ch1.2.2.2)], Res.row (Ty.int .u8) 5 ch1.2.1 ch1.2.2.1 ch1.2.2.2 t1]) (fun _ => rfl) N20 rfl rfl (fun ok => ok) (.cons .here (.cons .here .nil)) rfl (smithylaw10_cut.ok k x1 ch_0_0 ch_0_1 t7 et7 _ _) ?_; clear S a w; intro ch6 m le1 a w S
  refine s_lenS S rfl Try.underlying36 rfl ?_; clear S a; intro a S
  refine s_move S rfl rfl ?_; clear S a; intro a S
  refine c_end ?_
  refine wp_block ?_
  refine c_loop (fun q1 a w => ∃ (m : Mem) (y5 : Int) (A2 : Option Addr) (cp4 : Nat) (y6 : Int) (g6 : Nat) (A3 : Option Addr) (nn2 : Nat) (cp5 : Nat) (y7 : List Int), St 56 m b0 [(15, (.v (.int .i64 y5))), (14, (.v (.int .i64 ((t7).length : Int)))), (13, (.sl A2 (t7).length cp4 (RdS (Ty.prod (Ty.int .i64) (Ty.prod (Ty.int .i64) (Ty.prod (Ty.int .i64) (Ty.prod (Ty.int .i64) (Ty.prod (Ty.arr .u64 4) (Ty.prod (Ty.arr .u64 4) (Ty.slice (Ty.int .u8)))))))) A2 t7))), (4, (.v (.int .u64 y6))), (3, (.v (.pointer (some ⟨g6, 0, none⟩))))] [Res.cells g6 72 [.one (.slice A3 nn2 cp5)], Res.row (Ty.int .u8) 5 A3 nn2 cp5 y7] a w ∧ smithylaw10_MemSums.l1 t7 q1 y5 y6 y7 = some r) ?_ ?_ (k := k) ⟨_, 0, ch6.1, ch6.2, 0, ch1.1, ch1.2.1, ch1.2.2.1, ch1.2.2.2, t1, (S.sub ⟨rfl, rfl, rfl, rfl, rfl, trivial⟩ (.cons .here (.cons .here .nil))), h2⟩
  · rintro a w ⟨m, y5, A2, cp4, y6, g6, A3, nn2, cp5, y7, S, h0⟩
    exact (nomatch (show (none : Option Bool) = some r from h0))
  · clear S h2
    rintro q1 a w ⟨m, y5, A2, cp4, y6, g6, A3, nn2, cp5, y7, S, h0⟩
    replace h0 : smithylaw10_MemSums.b1 t7 (smithylaw10_MemSums.l1 t7 q1) y5 y6 y7 = some r := h0
    delta smithylaw10_MemSums.b1 at h0
    refine c_region ?_
    refine s_bin S rfl rfl rfl rfl ?_; clear S a; intro a S
    refine c_end ?_
    refine wp_seq ?_
    rcases ite_of h0 with ⟨c3, h1⟩ | ⟨c3, h1⟩ <;> clear h0
    · refine c_condT S rfl c3 ?_
      refine wp_skip ?_
      refine x_thenN ?_
      refine wp_seq ?_
      refine wp_block ?_
      refine c_region ?_
      obtain ⟨c4, h2⟩ := chk_of h1; clear h1
      refine s_iaddrS S rfl rfl rfl Try.underlying36 T40 c4.1 c4.2 rfl ?_; clear S a; intro p1 a S
      refine s_ldA S (fun (c : Unit × Unit × Unit × Unit × Unit × Unit × (Option Addr × Nat)) => [.one (.int .i64 ((gt t7 y5).1)), .one (.int .i64 ((gt t7 y5).2.1)), .one (.int .i64 ((gt t7 y5).2.2.1)), .one (.int .i64 ((gt t7 y5).2.2.2.1)), .ints .u64 ((gt t7 y5).2.2.2.2.1) 4, .ints .u64 ((gt t7 y5).2.2.2.2.2.1) 4, .sl c.2.2.2.2.2.2.1 ((gt t7 y5).2.2.2.2.2.2).length c.2.2.2.2.2.2.2 (RdS (Ty.int .u8) c.2.2.2.2.2.2.1 ((gt t7 y5).2.2.2.2.2.2))]) rfl T40 (fun _ => rfl) rfl ?_; clear S a; intro ch13 a S
      refine s_alloc S Z40 rfl ⟨rfl, rfl, rfl, rfl, rfl, rfl, rfl, trivial⟩ rfl ?_; clear S a w; intro g7 a w S
      refine s_store S rfl rfl rfl (s' := [.one (.int .i64 ((gt t7 y5).1)), .one (.int .i64 ((gt t7 y5).2.1)), .one (.int .i64 ((gt t7 y5).2.2.1)), .one (.int .i64 ((gt t7 y5).2.2.2.1)), .ints .u64 ((gt t7 y5).2.2.2.2.1) 4, .ints .u64 ((gt t7 y5).2.2.2.2.2.1) 4, .sl ch13.2.2.2.2.2.2.1 ((gt t7 y5).2.2.2.2.2.2).length ch13.2.2.2.2.2.2.2 (RdS (Ty.int .u8) ch13.2.2.2.2.2.2.1 ((gt t7 y5).2.2.2.2.2.2))]) .here T40 rfl rfl ?_; clear S w; intro w S
      refine c_end ?_
      refine c_region ?_
      refine s_move S rfl rfl ?_; clear S a; intro a S
      refine s_fieldAddr S rfl I40_4 T27 (by decide) rfl rfl ?_; clear S a; intro a S
      refine s_loada S rfl .here T27 (s' := [.ints .u64 ((gt t7 y5).2.2.2.2.1) 4]) rfl rfl ?_; clear S a; intro a S
      refine s_fieldAddr S rfl I40_5 T27 (by decide) rfl rfl ?_; clear S a; intro a S
      refine s_loada S rfl .here T27 (s' := [.ints .u64 ((gt t7 y5).2.2.2.2.2.1) 4]) rfl rfl ?_; clear S a; intro a S
      obtain ⟨t12, et12, h3⟩ := bind_of h2; clear h2
      refine s_callX S (ds' := [(.v (.pointer (some ⟨g6, 0, none⟩))), (.agg [.ints .u64 ((gt t7 y5).2.2.2.2.1) 4]), (.agg [.ints .u64 ((gt t7 y5).2.2.2.2.2.1) 4])]) (ds := [(.v (.pointer (some ⟨g6, 0, none⟩))), (.agg [.ints .u64 ((gt t7 y5).2.2.2.2.1) 4]), (.agg [.ints .u64 ((gt t7 y5).2.2.2.2.2.1) 4])]) [Res.cells g6 72 [.one (.slice A3 nn2 cp5)], Res.row (Ty.int .u8) 5 A3 nn2 cp5 y7] [Res.cells g7 40 [.one (.int .i64 ((gt t7 y5).1)), .one (.int .i64 ((gt t7 y5).2.1)), .one (.int .i64 ((gt t7 y5).2.2.1)), .one (.int .i64 ((gt t7 y5).2.2.2.1)), .ints .u64 ((gt t7 y5).2.2.2.2.1) 4, .ints .u64 ((gt t7 y5).2.2.2.2.2.1) 4, .sl ch13.2.2.2.2.2.2.1 ((gt t7 y5).2.2.2.2.2.2).length ch13.2.2.2.2.2.2.2 (RdS (Ty.int .u8) ch13.2.2.2.2.2.2.1 ((gt t7 y5).2.2.2.2.2.2))]] (fun (ch : Unit) => ((.tup [(false, [.one (.int .u64 t12.1)]), (false, [.one (.bool t12.2)])]) : D)) (fun (ch : Unit) => [Res.cells g6 72 [.one (.slice A3 nn2 cp5)], Res.row (Ty.int .u8) 5 A3 nn2 cp5 y7]) (fun (ch : Unit) => [Res.cells g6 72 [.one (.slice A3 nn2 cp5)], Res.row (Ty.int .u8) 5 A3 nn2 cp5 y7, Res.cells g7 40 [.one (.int .i64 ((gt t7 y5).1)), .one (.int .i64 ((gt t7 y5).2.1)), .one (.int .i64 ((gt t7 y5).2.2.1)), .one (.int .i64 ((gt t7 y5).2.2.2.1)), .ints .u64 ((gt t7 y5).2.2.2.2.1) 4, .ints .u64 ((gt t7 y5).2.2.2.2.2.1) 4, .sl ch13.2.2.2.2.2.2.1 ((gt t7 y5).2.2.2.2.2.2).length ch13.2.2.2.2.2.2.2 (RdS (Ty.int .u8) ch13.2.2.2.2.2.2.1 ((gt t7 y5).2.2.2.2.2.2))]]) (fun _ => rfl) N18 rfl rfl (fun ok => ok) (.cons (.there .here) (.cons (.there .here) (.cons .here .nil))) rfl (mem_Memory_Cost.ok (y7) ((gt t7 y5).2.2.2.2.1) ((gt t7 y5).2.2.2.2.2.1) g6 A3 nn2 cp5 t12 et12 _ _) ?_; clear S a w; intro ch14 m le1 a w S
      refine s_move S rfl rfl ?_; clear S a; intro a S
      refine s_extract S rfl rfl rfl rfl ?_; clear S a; intro a S
      refine s_extract S rfl rfl rfl rfl ?_; clear S a; intro a S
      refine s_assign S rfl rfl ?_; clear S a; intro a S
      refine s_assign S rfl rfl ?_; clear S a; intro a S
      refine c_end ?_
      refine wp_seq ?_
      refine c_region ?_
      refine s_move S rfl rfl ?_; clear S a; intro a S
      refine s_fieldAddr S rfl I40_4 T27 (by decide) rfl rfl ?_; clear S a; intro a S
      refine s_loada S rfl (.there (.there .here)) T27 (s' := [.ints .u64 ((gt t7 y5).2.2.2.2.1) 4]) rfl rfl ?_; clear S a; intro a S
      refine s_fieldAddr S rfl I40_5 T27 (by decide) rfl rfl ?_; clear S a; intro a S
      refine s_loada S rfl (.there (.there .here)) T27 (s' := [.ints .u64 ((gt t7 y5).2.2.2.2.2.1) 4]) rfl rfl ?_; clear S a; intro a S
      obtain ⟨t13, et13, h4⟩ := bind_of h3; clear h3
      refine s_callX S (ds' := [(.v (.pointer (some ⟨g6, 0, none⟩))), (.agg [.ints .u64 ((gt t7 y5).2.2.2.2.1) 4]), (.agg [.ints .u64 ((gt t7 y5).2.2.2.2.2.1) 4])]) (ds := [(.v (.pointer (some ⟨g6, 0, none⟩))), (.agg [.ints .u64 ((gt t7 y5).2.2.2.2.1) 4]), (.agg [.ints .u64 ((gt t7 y5).2.2.2.2.2.1) 4])]) [Res.cells g6 72 [.one (.slice A3 nn2 cp5)], Res.row (Ty.int .u8) 5 A3 nn2 cp5 y7] [Res.cells g7 40 [.one (.int .i64 ((gt t7 y5).1)), .one (.int .i64 ((gt t7 y5).2.1)), .one (.int .i64 ((gt t7 y5).2.2.1)), .one (.int .i64 ((gt t7 y5).2.2.2.1)), .ints .u64 ((gt t7 y5).2.2.2.2.1) 4, .ints .u64 ((gt t7 y5).2.2.2.2.2.1) 4, .sl ch13.2.2.2.2.2.2.1 ((gt t7 y5).2.2.2.2.2.2).length ch13.2.2.2.2.2.2.2 (RdS (Ty.int .u8) ch13.2.2.2.2.2.2.1 ((gt t7 y5).2.2.2.2.2.2))]] (fun (ch : (Option Addr) × Nat × Nat) => ((.v (.bool t13.1)) : D)) (fun (ch : (Option Addr) × Nat × Nat) => [Res.cells g6 72 [.one (.slice ch.1 ch.2.1 ch.2.2)], Res.row (Ty.int .u8) 5 ch.1 ch.2.1 ch.2.2 t13.2]) (fun (ch : (Option Addr) × Nat × Nat) => [Res.cells g6 72 [.one (.slice ch.1 ch.2.1 ch.2.2)], Res.row (Ty.int .u8) 5 ch.1 ch.2.1 ch.2.2 t13.2, Res.cells g7 40 [.one (.int .i64 ((gt t7 y5).1)), .one (.int .i64 ((gt t7 y5).2.1)), .one (.int .i64 ((gt t7 y5).2.2.1)), .one (.int .i64 ((gt t7 y5).2.2.2.1)), .ints .u64 ((gt t7 y5).2.2.2.2.1) 4, .ints .u64 ((gt t7 y5).2.2.2.2.2.1) 4, .sl ch13.2.2.2.2.2.2.1 ((gt t7 y5).2.2.2.2.2.2).length ch13.2.2.2.2.2.2.2 (RdS (Ty.int .u8) ch13.2.2.2.2.2.2.1 ((gt t7 y5).2.2.2.2.2.2))]]) (fun _ => rfl) N16 rfl rfl (fun ok => ok) (.cons .here (.cons .here (.cons .here .nil))) rfl (mem_Memory_Reach.ok (y7) ((gt t7 y5).2.2.2.2.1) ((gt t7 y5).2.2.2.2.2.1) g6 A3 nn2 cp5 t13 et13 _ _) ?_; clear S a w; intro ch15 m le1 a w S
      refine s_move S rfl rfl ?_; clear S a; intro a S
      refine s_neb S rfl rfl Try.underlying4 rfl ?_; clear S a; intro a S
      refine c_end ?_
      rcases ite_of h4 with ⟨c5, h5⟩ | ⟨c5, h5⟩ <;> clear h4
      · refine c_condT S rfl c5 ?_
        refine c_region ?_
        refine s_assign S rfl rfl ?_; clear S a; intro a S
        refine c_end ?_
        refine wp_ret ?_
        refine x_thenR ?_
        refine x_blockR ?_
        refine x_thenR ?_
        refine x_thenR ?_
        refine x_blockR ?_
        refine x_thenR ?_
        obtain rfl := Option.some.inj h5
        exact b_ret1 (d := (.v (.bool false))) S rfl rfl fun ok => S.retX (Hx := []) hb _ _ (() : Unit) .nil ok
      · refine c_condF S rfl c5 ?_
        refine wp_skip ?_
        refine x_thenN ?_
        refine c_region' ?_
        refine s_move S rfl rfl ?_; clear S a; intro a S
        refine s_move S rfl rfl ?_; clear S a; intro a S
        refine s_bin S rfl rfl rfl rfl ?_; clear S a; intro a S
        refine s_assign S rfl rfl ?_; clear S a; intro a S
        refine c_end' ?_
        refine x_blockN ?_
        refine x_thenN ?_
        refine c_region' ?_
        refine s_bin S rfl rfl rfl rfl ?_; clear S a; intro a S
        refine s_move S rfl rfl ?_; clear S a; intro a S
        refine c_end' ?_
        refine x_thenN ?_
        exact ⟨_, (wr .i64 (y5 + 1)), A2, cp4, (wr .u64 (y6 + t12.1)), g6, ch15.1, ch15.2.1, ch15.2.2, t13.2, (S.sub ⟨rfl, rfl, rfl, rfl, rfl, trivial⟩ (.cons .here (.cons .here .nil))), h5⟩
    · refine c_condF S rfl c3 ?_
      refine wp_exit ?_
      refine x_thenX ?_
      refine x_thenX ?_
      refine x_blockX ?_
      refine x_thenN ?_
      exact j1 _ y6 g6 A3 nn2 cp5 y7 a w (S.sub ⟨rfl, rfl, trivial⟩ (.cons .here (.cons .here .nil))) h1
/-! smithy/mem.NewStack -/
abbrev mem_NewStack.Ty : Type := Option (((List (List Int))))
def mem_NewStack.Ctr (s : mem_NewStack.Ty) : Prop := ∀ (r : ((List (List Int)))) (h0 : s = some r) (mi : Mem) (w0 : World), okL mi [] → Pre mi [] w0 → Calls Try.prog 21 (([] : List D).map D.val).toArray w0 (RetX mi [] (fun (ch : Nat × (Option Addr) × Nat × Nat) => ((.v (.pointer (some ⟨ch.1, 0, none⟩))) : D)) (fun (ch : Nat × (Option Addr) × Nat × Nat) => [Res.cells ch.1 75 [.one (.slice ch.2.1 ch.2.2.1 ch.2.2.2)], Res.row (Ty.arr .u64 4) 27 ch.2.1 ch.2.2.1 ch.2.2.2 r]) w0)
def mem_NewStack.f : Option (((List (List Int)))) := some (([] : List (List Int)))
theorem mem_NewStack.ok : mem_NewStack.Ctr (mem_NewStack.f) := by
  intro r h0 mi w0 ok hm
  delta mem_NewStack.f at h0
  refine c_enterX (n := 3) [] (l := []) Try.func21 rfl rfl rfl rfl ok hm ?_
  clear ok hm
  intro b0 hb a S
  refine c_region ?_
  refine s_assign S rfl rfl ?_; clear S a; intro a S
  refine c_end ?_
  refine c_region ?_
  refine s_bldS S (ds := []) (zs := [.one (.slice none 0 0)]) (s' := [.one (.slice none 0 0)]) rfl Try.underlying75 P75 Z75 ⟨rfl, trivial⟩ rfl rfl ?_; clear S a; intro a S
  refine s_box S rfl rfl rfl ?_; clear S a; intro g1 a w S
  refine s_assign S rfl rfl ?_; clear S a; intro a S
  refine c_end ?_
  refine wp_ret ?_
  replace S := S.nilrow (Ty.arr .u64 4) 27
  obtain rfl := Option.some.inj h0
  exact b_ret1 (d := (.v (.pointer (some ⟨g1, 0, none⟩)))) S rfl rfl fun ok => S.retX (Hx := []) hb _ _ ((g1, none, 0, 0) : Nat × (Option Addr) × Nat × Nat) (.cons (.there .here) (.cons .here .nil)) ok
/-! (*smithy/mem.Stack).Push -/
abbrev mem_Stack_Push.Ty : Type := ((List (List Int))) → (List Int) → Option (Bool × ((List (List Int))))
def mem_Stack_Push.Ctr (s : mem_Stack_Push.Ty) : Prop := ∀ (x1 : (List (List Int))) (x2 : List Int) (ch_0_0 : Nat) (ch_0_1 : Option Addr) (ch_0_2 : Nat) (ch_0_3 : Nat) (r : Bool × ((List (List Int)))) (h0 : s x1 x2 = some r) (mi : Mem) (w0 : World), okL mi [(.v (.pointer (some ⟨ch_0_0, 0, none⟩))), (.agg [.ints .u64 x2 4])] → Pre mi [Res.cells ch_0_0 75 [.one (.slice ch_0_1 ch_0_2 ch_0_3)], Res.row (Ty.arr .u64 4) 27 ch_0_1 ch_0_2 ch_0_3 x1] w0 → Calls Try.prog 22 (([(.v (.pointer (some ⟨ch_0_0, 0, none⟩))), (.agg [.ints .u64 x2 4])] : List D).map D.val).toArray w0 (RetX mi [Res.cells ch_0_0 75 [.one (.slice ch_0_1 ch_0_2 ch_0_3)], Res.row (Ty.arr .u64 4) 27 ch_0_1 ch_0_2 ch_0_3 x1] (fun (ch : (Option Addr) × Nat × Nat) => ((.v (.bool r.1)) : D)) (fun (ch : (Option Addr) × Nat × Nat) => [Res.cells ch_0_0 75 [.one (.slice ch.1 ch.2.1 ch.2.2)], Res.row (Ty.arr .u64 4) 27 ch.1 ch.2.1 ch.2.2 r.2]) w0)
def mem_Stack_Push.f (x1 : (List (List Int))) (x2 : List Int) : Option (Bool × ((List (List Int)))) := if (((x1).length : Int) == 1024) = true then (some (false, (x1))) else (if ((x1).length + ([x2]).length) * 32 ≤ 140737488355328 then (some (true, (x1 ++ [x2]))) else none)
theorem mem_Stack_Push.ok : mem_Stack_Push.Ctr (mem_Stack_Push.f) := by
  intro x1 x2 ch_0_0 ch_0_1 ch_0_2 ch_0_3 r h0 mi w0 ok hm
  delta mem_Stack_Push.f at h0
  refine c_enterX (n := 25) [(.v (.pointer (some ⟨ch_0_0, 0, none⟩))), (.agg [.ints .u64 x2 4])] (l := [(0, (.v (.pointer (some ⟨ch_0_0, 0, none⟩)))), (1, (.agg [.ints .u64 x2 4]))]) Try.func22 rfl rfl rfl rfl ok hm ?_
  clear ok hm
  intro b0 hb a S
  refine c_region ?_
  refine s_box S rfl rfl rfl ?_; clear S a; intro g1 a w S
  refine s_assign S rfl rfl ?_; clear S a; intro a S
  refine c_end ?_
  refine wp_seq ?_
  refine c_region ?_
  refine s_move S rfl rfl ?_; clear S a; intro a S
  refine s_eqp S (b := false) rfl rfl Try.underlying43 rfl rfl ?_; clear S a; intro a S
  refine s_move S rfl rfl ?_; clear S a; intro a S
  refine s_gT S (b := false) rfl rfl rfl ?_
  refine s_move S rfl rfl ?_; clear S a; intro a S
  refine s_gT S (b := false) rfl rfl rfl ?_
  refine s_nilchk S rfl rfl ?_; clear S a; intro a S
  refine s_gT S (b := false) rfl rfl rfl ?_
  refine s_fieldAddr S rfl I75_0 T42 (by decide) rfl rfl ?_; clear S a; intro a S
  refine s_gT S (b := false) rfl rfl rfl ?_
  refine s_load1 S rfl (.there .here) T42 (v := (.slice ch_0_1 ch_0_2 ch_0_3)) rfl rfl ?_; clear S a; intro a S
  refine s_gT S (b := false) rfl rfl rfl ?_
  refine s_lenO S rfl (.there (.there .here)) Try.underlying42 rfl ?_; clear S a; intro a S
  refine s_gT S (b := false) rfl rfl rfl ?_
  refine s_bin S rfl rfl rfl rfl ?_; clear S a; intro a S
  refine s_pick S (b := false) (hc_of rfl rfl) rfl rfl ?_; clear S a; intro a S
  refine c_end ?_
  rcases ite_of h0 with ⟨c1, h1⟩ | ⟨c1, h1⟩ <;> clear h0
  · refine c_condT S rfl c1 ?_
    refine c_region ?_
    refine s_assign S rfl rfl ?_; clear S a; intro a S
    refine c_end ?_
    refine wp_ret ?_
    refine x_thenR ?_
    obtain rfl := Option.some.inj h1
    exact b_ret1 (d := (.v (.bool false))) S rfl rfl fun ok => S.retX (Hx := []) hb _ _ ((ch_0_1, ch_0_2, ch_0_3) : (Option Addr) × Nat × Nat) (.cons (.there .here) (.cons (.there .here) .nil)) ok
  · refine c_condF S rfl c1 ?_
    refine wp_skip ?_
    refine x_thenN ?_
    refine wp_seq (c_heldS S (.take 0 (.take 1 (.take 2 (.take 3 (.take 4 (.take 5 (.alts (.run 6 true (.alts (.run 7 true (.alts (.run 8 true (.take 9 (.alts (.run 10 false .done .nil))) .nil)) .nil)) .nil)))))))) 10 [Res.cells g1 27 [.ints .u64 x2 4], Res.cells ch_0_0 75 [.one (.slice ch_0_1 ch_0_2 ch_0_3)]] (.cons .here (.cons .here .nil)) ⟨Res.stay_cells, Res.stay_cells, trivial⟩ [(3, (.v (.pointer (some ⟨g1, 0, none⟩)))), (0, (.v (.pointer (some ⟨ch_0_0, 0, none⟩))))] ⟨rfl, rfl, trivial⟩ (by kernel_rfl) (by kernel_rfl) ?_); clear S; intro w S CL hw le
    refine h_move S CL hw le ⟨rfl, rfl, trivial⟩ rfl rfl rfl trivial ?_; clear S CL a; intro a S CL
    refine h_move S CL hw le ⟨rfl, rfl, rfl, trivial⟩ rfl rfl rfl trivial ?_; clear S CL a; intro a S CL
    refine h_nilchk S CL hw le ⟨rfl, rfl, rfl, rfl, trivial⟩ rfl rfl rfl rfl trivial ?_; clear S CL a; intro a S CL
    refine h_fieldAddr S CL hw le ⟨rfl, rfl, rfl, rfl, rfl, trivial⟩ rfl I75_0 T42 (by decide) rfl rfl rfl trivial ?_; clear S CL a; intro a S CL
    refine h_load1 S CL hw le ⟨rfl, rfl, rfl, rfl, rfl, rfl, trivial⟩ rfl (.there .here) T42 (v := (.slice ch_0_1 ch_0_2 ch_0_3)) rfl rfl rfl trivial ?_; clear S CL a; intro a S CL
    refine h_loada S CL hw le ⟨rfl, rfl, rfl, rfl, rfl, rfl, rfl, trivial⟩ rfl .here T27 (s' := [.ints .u64 x2 4]) rfl rfl rfl trivial ?_; clear S CL a; intro a S CL
    refine h_run' S rfl trivial ?_
    refine s_bldSl S (ty' := (Ty.arr .u64 4)) (ds := [(0, (.agg [.ints .u64 x2 4]))]) (z := [0, 0, 0, 0]) (c0 := ()) (ys := [x2]) (cs := [()]) rfl Try.underlying42 J27 Z27 rfl ⟨rfl, trivial⟩ rfl rfl rfl rfl rfl rfl ?_; clear S a; intro g2 a w S
    replace hw := CL.again hw S (.cons (.there .here) (.cons (.there .here) .nil)) le
    refine h_back ⟨fun _ => hw, ?_⟩
    refine h_run' S rfl trivial ?_
    obtain ⟨c2, h2⟩ := chk_of h1; clear h1
    refine s_app S (k2 := 1) (ys := [x2]) rfl (fun _ _ => (.there (.there (.there .here)))) rfl rfl (S.holds _ (Pull.mem .here).1).1 (Res.row.src (S.holds _ (Pull.mem .here).1)) Try.underlying42 J27 c2 rfl ?_; clear S a; intro A1 cp1 a w S
    replace hw := CL.again hw S (.cons (.there .here) (.cons (.there .here) .nil)) le
    refine h_back ⟨fun _ => hw, ?_⟩
    refine h_run' S rfl trivial ?_
    refine s_nilchk S rfl rfl ?_; clear S a; intro a S
    replace hw := CL.again hw S (.cons (.there .here) (.cons (.there .here) .nil)) le
    refine h_back ⟨fun _ => hw, ?_⟩
    replace CL := CL.add (t := 23) (d := (.v (.pointer (some ⟨ch_0_0, 0, none⟩)))) S rfl rfl
    refine h_fieldAddr S CL hw le ⟨rfl, rfl, rfl, rfl, rfl, rfl, rfl, rfl, rfl, trivial⟩ rfl I75_0 T42 (by decide) rfl rfl rfl trivial ?_; clear S CL a; intro a S CL
    refine h_run' S rfl trivial ?_
    refine s_store S rfl rfl rfl (s' := [.one (.slice A1 (ch_0_2 + 1) cp1)]) (.there (.there .here)) T42 rfl rfl ?_; clear S; intro w S
    refine h_back ⟨fun h => (nomatch h), ?_⟩
    refine h_done ?_; clear CL hw le
    refine x_thenN ?_
    refine c_region ?_
    refine s_assign S rfl rfl ?_; clear S a; intro a S
    refine c_end ?_
    refine wp_ret ?_
    obtain rfl := Option.some.inj h2
    exact b_ret1 (d := (.v (.bool true))) S rfl rfl fun ok => S.retX (Hx := []) hb _ _ ((A1, ch_0_2 + 1, cp1) : (Option Addr) × Nat × Nat) (.cons (.there (.there .here)) (.cons (.there (.there .here)) .nil)) ok
/-! (*smithy/mem.Stack).Len -/
abbrev mem_Stack_Len.Ty : Type := ((List (List Int))) → Option Int
def mem_Stack_Len.Ctr (s : mem_Stack_Len.Ty) : Prop := ∀ (x1 : (List (List Int))) (ch_0_0 : Nat) (ch_0_1 : Option Addr) (ch_0_2 : Nat) (ch_0_3 : Nat) (r : Int) (h0 : s x1 = some r) (mi : Mem) (w0 : World), okL mi [(.v (.pointer (some ⟨ch_0_0, 0, none⟩)))] → Pre mi [Res.cells ch_0_0 75 [.one (.slice ch_0_1 ch_0_2 ch_0_3)], Res.row (Ty.arr .u64 4) 27 ch_0_1 ch_0_2 ch_0_3 x1] w0 → Calls Try.prog 26 (([(.v (.pointer (some ⟨ch_0_0, 0, none⟩)))] : List D).map D.val).toArray w0 (RetX mi [Res.cells ch_0_0 75 [.one (.slice ch_0_1 ch_0_2 ch_0_3)], Res.row (Ty.arr .u64 4) 27 ch_0_1 ch_0_2 ch_0_3 x1] (fun (ch : Unit) => ((.v (.int .i64 r)) : D)) (fun (ch : Unit) => [Res.cells ch_0_0 75 [.one (.slice ch_0_1 ch_0_2 ch_0_3)], Res.row (Ty.arr .u64 4) 27 ch_0_1 ch_0_2 ch_0_3 x1]) w0)
def mem_Stack_Len.f (x1 : (List (List Int))) : Option Int := some ((x1).length : Int)
theorem mem_Stack_Len.ok : mem_Stack_Len.Ctr (mem_Stack_Len.f) := by
  intro x1 ch_0_0 ch_0_1 ch_0_2 ch_0_3 r h0 mi w0 ok hm
  delta mem_Stack_Len.f at h0
  refine c_enterX (n := 10) [(.v (.pointer (some ⟨ch_0_0, 0, none⟩)))] (l := [(0, (.v (.pointer (some ⟨ch_0_0, 0, none⟩))))]) Try.func26 rfl rfl rfl rfl ok hm ?_
  clear ok hm
  intro b0 hb a S
  refine c_region ?_
  refine s_assign S rfl rfl ?_; clear S a; intro a S
  refine c_end ?_
  refine wp_seq ?_
  refine c_region ?_
  refine s_move S rfl rfl ?_; clear S a; intro a S
  refine s_eqp S (b := false) rfl rfl Try.underlying43 rfl rfl ?_; clear S a; intro a S
  refine c_end ?_
  refine c_condF S rfl rfl ?_
  refine wp_skip ?_
  refine x_thenN ?_
  refine c_region ?_
  refine s_move S rfl rfl ?_; clear S a; intro a S
  refine s_nilchk S rfl rfl ?_; clear S a; intro a S
  refine s_fieldAddr S rfl I75_0 T42 (by decide) rfl rfl ?_; clear S a; intro a S
  refine s_load1 S rfl .here T42 (v := (.slice ch_0_1 ch_0_2 ch_0_3)) rfl rfl ?_; clear S a; intro a S
  refine s_lenO S rfl (.there .here) Try.underlying42 rfl ?_; clear S a; intro a S
  refine s_assign S rfl rfl ?_; clear S a; intro a S
  refine c_end ?_
  refine wp_ret ?_
  obtain rfl := Option.some.inj h0
  exact b_ret1 (d := (.v (.int .i64 ((x1).length : Int)))) S rfl rfl fun ok => S.retX (Hx := []) hb _ _ (() : Unit) (.cons .here (.cons .here .nil)) ok
/-! (*smithy/mem.Stack).Dup -/
abbrev mem_Stack_Dup.Ty : Type := ((List (List Int))) → Int → Option (Bool × ((List (List Int))))
def mem_Stack_Dup.Ctr (s : mem_Stack_Dup.Ty) : Prop := ∀ (x1 : (List (List Int))) (x2 : Int) (ch_0_0 : Nat) (ch_0_1 : Option Addr) (ch_0_2 : Nat) (ch_0_3 : Nat) (r : Bool × ((List (List Int)))) (h0 : s x1 x2 = some r) (mi : Mem) (w0 : World), okL mi [(.v (.pointer (some ⟨ch_0_0, 0, none⟩))), (.v (.int .i64 x2))] → Pre mi [Res.cells ch_0_0 75 [.one (.slice ch_0_1 ch_0_2 ch_0_3)], Res.row (Ty.arr .u64 4) 27 ch_0_1 ch_0_2 ch_0_3 x1] w0 → Calls Try.prog 23 (([(.v (.pointer (some ⟨ch_0_0, 0, none⟩))), (.v (.int .i64 x2))] : List D).map D.val).toArray w0 (RetX mi [Res.cells ch_0_0 75 [.one (.slice ch_0_1 ch_0_2 ch_0_3)], Res.row (Ty.arr .u64 4) 27 ch_0_1 ch_0_2 ch_0_3 x1] (fun (ch : (Option Addr) × Nat × Nat) => ((.v (.bool r.1)) : D)) (fun (ch : (Option Addr) × Nat × Nat) => [Res.cells ch_0_0 75 [.one (.slice ch.1 ch.2.1 ch.2.2)], Res.row (Ty.arr .u64 4) 27 ch.1 ch.2.1 ch.2.2 r.2]) w0)
def mem_Stack_Dup.j2 (y2 : Bool) (y3 : List (List Int)) : Option (Bool × ((List (List Int)))) := some (y2, (y3))
def mem_Stack_Dup.j1 (x1 : (List (List Int))) (x2 : Int) (y1 : Bool) : Option (Bool × ((List (List Int)))) := if y1 = true then (some (false, (x1))) else (if 0 ≤ (wr .i64 (((x1).length : Int) - x2)) ∧ (wr .i64 (((x1).length : Int) - x2)) < ((x1).length : Int) then ((mem_Stack_Push.f (x1) (gt x1 (wr .i64 (((x1).length : Int) - x2)))).bind fun t1 => (mem_Stack_Dup.j2 t1.1 t1.2)) else none)
def mem_Stack_Dup.f (x1 : (List (List Int))) (x2 : Int) : Option (Bool × ((List (List Int)))) := if (decide (x2 < 1)) = true then (mem_Stack_Dup.j1 x1 x2 true) else ((mem_Stack_Len.f (x1)).bind fun t2 => (mem_Stack_Dup.j1 x1 x2 (decide (t2 < x2))))
theorem mem_Stack_Dup.ok : mem_Stack_Dup.Ctr (mem_Stack_Dup.f) := by
  intro x1 x2 ch_0_0 ch_0_1 ch_0_2 ch_0_3 r h0 mi w0 ok hm
  delta mem_Stack_Dup.f at h0
  refine c_enterX (n := 28) [(.v (.pointer (some ⟨ch_0_0, 0, none⟩))), (.v (.int .i64 x2))] (l := [(0, (.v (.pointer (some ⟨ch_0_0, 0, none⟩)))), (1, (.v (.int .i64 x2)))]) Try.func23 rfl rfl rfl rfl ok hm ?_
  clear ok hm
  intro b0 hb a S
  refine c_region ?_
  refine s_assign S rfl rfl ?_; clear S a; intro a S
  refine c_end ?_
  refine wp_seq ?_
  refine wp_seq_k ?_
  intro K1 hK1
  have j1 : ∀ (m : Mem) (y1 : Bool) (a : Act) (w : World), St 28 m b0 [(12, (.v (.bool y1))), (0, (.v (.pointer (some ⟨ch_0_0, 0, none⟩)))), (1, (.v (.int .i64 x2)))] [Res.cells ch_0_0 75 [.one (.slice ch_0_1 ch_0_2 ch_0_3)], Res.row (Ty.arr .u64 4) 27 ch_0_1 ch_0_2 ch_0_3 x1] a w → mem_Stack_Dup.j1 x1 x2 y1 = some r → K1 a w := by
    intro m y1 a w S h0
    delta mem_Stack_Dup.j1 at h0
    refine hK1 a w ?_
    rcases ite_of h0 with ⟨c1, h1⟩ | ⟨c1, h1⟩ <;> clear h0
    · refine c_condT S rfl c1 ?_
      refine c_region ?_
      refine s_assign S rfl rfl ?_; clear S a; intro a S
      refine c_end ?_
      refine wp_ret ?_
      refine x_thenR ?_
      obtain rfl := Option.some.inj h1
      exact b_ret1 (d := (.v (.bool false))) S rfl rfl fun ok => S.retX (Hx := []) hb _ _ ((ch_0_1, ch_0_2, ch_0_3) : (Option Addr) × Nat × Nat) (.cons .here (.cons .here .nil)) ok
    · refine c_condF S rfl c1 ?_
      refine wp_skip ?_
      refine x_thenN ?_
      refine wp_seq_k ?_
      intro K2 hK2
      have j2 : ∀ (m : Mem) (y2 : Bool) (A1 : Option Addr) (nn1 : Nat) (cp1 : Nat) (y3 : List (List Int)) (a : Act) (w : World), St 28 m b0 [(4, (.v (.bool y2)))] [Res.cells ch_0_0 75 [.one (.slice A1 nn1 cp1)], Res.row (Ty.arr .u64 4) 27 A1 nn1 cp1 y3] a w → mem_Stack_Dup.j2 y2 y3 = some r → K2 a w := by
        intro m y2 A1 nn1 cp1 y3 a w S h0
        delta mem_Stack_Dup.j2 at h0
        refine hK2 a w ?_
        refine wp_ret ?_
        obtain rfl := Option.some.inj h0
        exact b_ret1 (d := (.v (.bool y2))) S rfl rfl fun ok => S.retX (Hx := []) hb _ _ ((A1, nn1, cp1) : (Option Addr) × Nat × Nat) (.cons .here (.cons .here .nil)) ok
      refine c_heldS S (.take 0 (.take 1 (.take 2 (.take 3 (.take 5 (.take 6 (.take 7 (.take 10 (.alts (.run 4 true (.alts (.run 8 true (.alts (.run 9 true (.take 11 (.alts (.run 12 true (.alts (.run 13 true (.alts (.run 14 true (.take 15 .done) .nil)) .nil)) .nil))) .nil)) .nil)) (.run 8 true (.alts (.run 4 true (.alts (.run 9 true (.take 11 (.alts (.run 12 true (.alts (.run 13 true (.alts (.run 14 true (.take 15 .done) .nil)) .nil)) .nil))) .nil)) (.run 9 true (.take 11 (.alts (.run 4 true (.alts (.run 12 true (.alts (.run 13 true (.alts (.run 14 true (.take 15 .done) .nil)) .nil)) .nil)) .nil))) .nil))) .nil))))))))))) 16 [] .nil trivial [(0, (.v (.pointer (some ⟨ch_0_0, 0, none⟩)))), (1, (.v (.int .i64 x2)))] ⟨rfl, rfl, trivial⟩ (by kernel_rfl) (by kernel_rfl) ?_; clear S; intro w S CL hw le
      refine h_move S CL hw le ⟨rfl, rfl, trivial⟩ rfl rfl rfl trivial ?_; clear S CL a; intro a S CL
      refine h_move S CL hw le ⟨rfl, rfl, rfl, trivial⟩ rfl rfl rfl trivial ?_; clear S CL a; intro a S CL
      refine h_nilchk S CL hw le ⟨rfl, rfl, rfl, rfl, trivial⟩ rfl rfl rfl rfl trivial ?_; clear S CL a; intro a S CL
      refine h_fieldAddr S CL hw le ⟨rfl, rfl, rfl, rfl, rfl, trivial⟩ rfl I75_0 T42 (by decide) rfl rfl rfl trivial ?_; clear S CL a; intro a S CL
      refine h_move S CL hw le ⟨rfl, rfl, rfl, rfl, rfl, rfl, trivial⟩ rfl rfl rfl trivial ?_; clear S CL a; intro a S CL
      refine h_nilchk S CL hw le ⟨rfl, rfl, rfl, rfl, rfl, rfl, rfl, trivial⟩ rfl rfl rfl rfl trivial ?_; clear S CL a; intro a S CL
      refine h_fieldAddr S CL hw le ⟨rfl, rfl, rfl, rfl, rfl, rfl, rfl, rfl, trivial⟩ rfl I75_0 T42 (by decide) rfl rfl rfl trivial ?_; clear S CL a; intro a S CL
      refine h_move S CL hw le ⟨rfl, rfl, rfl, rfl, rfl, rfl, rfl, rfl, rfl, trivial⟩ rfl rfl rfl trivial ?_; clear S CL a; intro a S CL
      obtain ⟨c2, h2⟩ := chk_of h1; clear h1
      obtain ⟨t1, et1, h3⟩ := bind_of h2; clear h2
      refine h_alts ?_
      refine h_runO S rfl trivial ?_ ?_
      · refine s_load1 S rfl .here T42 (v := (.slice ch_0_1 ch_0_2 ch_0_3)) rfl rfl ?_; clear S a; intro a S
        replace hw := CL.again hw S .nil le
        refine h_back ⟨fun _ => hw, ?_⟩
        refine h_run' S rfl trivial ?_
        refine s_load1 S rfl .here T42 (v := (.slice ch_0_1 ch_0_2 ch_0_3)) rfl rfl ?_; clear S a; intro a S
        replace hw := CL.again hw S .nil le
        refine h_back ⟨fun _ => hw, ?_⟩
        refine h_run' S rfl trivial ?_
        refine s_lenO S rfl (.there .here) Try.underlying42 rfl ?_; clear S a; intro a S
        replace hw := CL.again hw S .nil le
        refine h_back ⟨fun _ => hw, ?_⟩
        replace CL := CL.add (t := 22) (d := (.v (.int .i64 ((x1).length : Int)))) S rfl rfl
        refine h_bin S CL hw le ⟨rfl, rfl, rfl, rfl, rfl, rfl, rfl, rfl, rfl, rfl, rfl, trivial⟩ rfl rfl rfl rfl rfl trivial ?_; clear S CL a; intro a S CL
        refine h_run' S rfl trivial ?_
        refine s_iaddrO S (ty' := (Ty.arr .u64 4)) rfl (.there .here) rfl Try.underlying42 T27 c2.1 c2.2 rfl ?_; clear S a; intro g1 a hA1 S
        replace hw := CL.again hw S .nil le
        refine h_back ⟨fun _ => hw, ?_⟩
        refine h_run' S rfl trivial ?_
        refine s_ldRA S (ty' := (Ty.arr .u64 4)) (i := (wr .i64 (((x1).length : Int) - x2))) (off := 0) (fun (c : Unit) => [.ints .u64 (gt x1 (wr .i64 (((x1).length : Int) - x2))) 4]) rfl hA1 (.there .here) T27 c2.1 c2.2 rfl (fun _ => rfl) rfl ?_; clear S a; intro ch1 a S
        replace hw := CL.again hw S .nil le
        refine h_back ⟨fun _ => hw, ?_⟩
        refine h_run' S rfl trivial ?_
        refine s_callX S (ds' := [(.v (.pointer (some ⟨ch_0_0, 0, none⟩))), (.agg [.ints .u64 (gt x1 (wr .i64 (((x1).length : Int) - x2))) 4])]) (ds := [(.v (.pointer (some ⟨ch_0_0, 0, none⟩))), (.agg [.ints .u64 (gt x1 (wr .i64 (((x1).length : Int) - x2))) 4])]) [Res.cells ch_0_0 75 [.one (.slice ch_0_1 ch_0_2 ch_0_3)], Res.row (Ty.arr .u64 4) 27 ch_0_1 ch_0_2 ch_0_3 x1] [] (fun (ch : (Option Addr) × Nat × Nat) => ((.v (.bool t1.1)) : D)) (fun (ch : (Option Addr) × Nat × Nat) => [Res.cells ch_0_0 75 [.one (.slice ch.1 ch.2.1 ch.2.2)], Res.row (Ty.arr .u64 4) 27 ch.1 ch.2.1 ch.2.2 t1.2]) (fun (ch : (Option Addr) × Nat × Nat) => [Res.cells ch_0_0 75 [.one (.slice ch.1 ch.2.1 ch.2.2)], Res.row (Ty.arr .u64 4) 27 ch.1 ch.2.1 ch.2.2 t1.2]) (fun _ => rfl) N22 rfl rfl (fun ok => ok) (.cons .here (.cons .here .nil)) rfl (mem_Stack_Push.ok (x1) (gt x1 (wr .i64 (((x1).length : Int) - x2))) ch_0_0 ch_0_1 ch_0_2 ch_0_3 t1 et1 _ _) ?_; clear S a; intro ch2 m le1 a w S
        replace le := le.trans le1
        replace hw := CL.again hw S .nil le
        refine h_back ⟨fun _ => hw, ?_⟩
        replace CL := CL.add (t := 27) (d := (.v (.bool t1.1))) S rfl rfl
        refine h_assign S CL hw le ⟨rfl, rfl, rfl, rfl, rfl, rfl, rfl, rfl, rfl, rfl, rfl, rfl, rfl, trivial⟩ rfl rfl rfl trivial ?_; clear S CL a; intro a S CL
        refine h_done ?_; clear CL hw le
        refine x_thenN ?_
        exact j2 _ t1.1 ch2.1 ch2.2.1 ch2.2.2 t1.2 a w (S.sub ⟨rfl, trivial⟩ (.cons .here (.cons .here .nil))) h3
      refine h_runO S rfl trivial ?_ ?_
      · refine s_load1 S rfl .here T42 (v := (.slice ch_0_1 ch_0_2 ch_0_3)) rfl rfl ?_; clear S a; intro a S
        replace hw := CL.again hw S .nil le
        refine h_back ⟨fun _ => hw, ?_⟩
        refine h_alts ?_
        refine h_runO S rfl trivial ?_ ?_
        · refine s_load1 S rfl .here T42 (v := (.slice ch_0_1 ch_0_2 ch_0_3)) rfl rfl ?_; clear S a; intro a S
          replace hw := CL.again hw S .nil le
          refine h_back ⟨fun _ => hw, ?_⟩
          refine h_run' S rfl trivial ?_
          refine s_lenO S rfl (.there .here) Try.underlying42 rfl ?_; clear S a; intro a S
          replace hw := CL.again hw S .nil le
          refine h_back ⟨fun _ => hw, ?_⟩
          replace CL := CL.add (t := 22) (d := (.v (.int .i64 ((x1).length : Int)))) S rfl rfl
          refine h_bin S CL hw le ⟨rfl, rfl, rfl, rfl, rfl, rfl, rfl, rfl, rfl, rfl, rfl, trivial⟩ rfl rfl rfl rfl rfl trivial ?_; clear S CL a; intro a S CL
          refine h_run' S rfl trivial ?_
          refine s_iaddrO S (ty' := (Ty.arr .u64 4)) rfl (.there .here) rfl Try.underlying42 T27 c2.1 c2.2 rfl ?_; clear S a; intro g1 a hA1 S
          replace hw := CL.again hw S .nil le
          refine h_back ⟨fun _ => hw, ?_⟩
          refine h_run' S rfl trivial ?_
          refine s_ldRA S (ty' := (Ty.arr .u64 4)) (i := (wr .i64 (((x1).length : Int) - x2))) (off := 0) (fun (c : Unit) => [.ints .u64 (gt x1 (wr .i64 (((x1).length : Int) - x2))) 4]) rfl hA1 (.there .here) T27 c2.1 c2.2 rfl (fun _ => rfl) rfl ?_; clear S a; intro ch1 a S
          replace hw := CL.again hw S .nil le
          refine h_back ⟨fun _ => hw, ?_⟩
          refine h_run' S rfl trivial ?_
          refine s_callX S (ds' := [(.v (.pointer (some ⟨ch_0_0, 0, none⟩))), (.agg [.ints .u64 (gt x1 (wr .i64 (((x1).length : Int) - x2))) 4])]) (ds := [(.v (.pointer (some ⟨ch_0_0, 0, none⟩))), (.agg [.ints .u64 (gt x1 (wr .i64 (((x1).length : Int) - x2))) 4])]) [Res.cells ch_0_0 75 [.one (.slice ch_0_1 ch_0_2 ch_0_3)], Res.row (Ty.arr .u64 4) 27 ch_0_1 ch_0_2 ch_0_3 x1] [] (fun (ch : (Option Addr) × Nat × Nat) => ((.v (.bool t1.1)) : D)) (fun (ch : (Option Addr) × Nat × Nat) => [Res.cells ch_0_0 75 [.one (.slice ch.1 ch.2.1 ch.2.2)], Res.row (Ty.arr .u64 4) 27 ch.1 ch.2.1 ch.2.2 t1.2]) (fun (ch : (Option Addr) × Nat × Nat) => [Res.cells ch_0_0 75 [.one (.slice ch.1 ch.2.1 ch.2.2)], Res.row (Ty.arr .u64 4) 27 ch.1 ch.2.1 ch.2.2 t1.2]) (fun _ => rfl) N22 rfl rfl (fun ok => ok) (.cons .here (.cons .here .nil)) rfl (mem_Stack_Push.ok (x1) (gt x1 (wr .i64 (((x1).length : Int) - x2))) ch_0_0 ch_0_1 ch_0_2 ch_0_3 t1 et1 _ _) ?_; clear S a; intro ch2 m le1 a w S
          replace le := le.trans le1
          replace hw := CL.again hw S .nil le
          refine h_back ⟨fun _ => hw, ?_⟩
          replace CL := CL.add (t := 27) (d := (.v (.bool t1.1))) S rfl rfl
          refine h_assign S CL hw le ⟨rfl, rfl, rfl, rfl, rfl, rfl, rfl, rfl, rfl, rfl, rfl, rfl, rfl, trivial⟩ rfl rfl rfl trivial ?_; clear S CL a; intro a S CL
          refine h_done ?_; clear CL hw le
          refine x_thenN ?_
          exact j2 _ t1.1 ch2.1 ch2.2.1 ch2.2.2 t1.2 a w (S.sub ⟨rfl, trivial⟩ (.cons .here (.cons .here .nil))) h3
        refine h_runO S rfl trivial ?_ ?_
        · refine s_lenO S rfl (.there .here) Try.underlying42 rfl ?_; clear S a; intro a S
          replace hw := CL.again hw S .nil le
          refine h_back ⟨fun _ => hw, ?_⟩
          replace CL := CL.add (t := 22) (d := (.v (.int .i64 ((x1).length : Int)))) S rfl rfl
          refine h_bin S CL hw le ⟨rfl, rfl, rfl, rfl, rfl, rfl, rfl, rfl, rfl, rfl, rfl, trivial⟩ rfl rfl rfl rfl rfl trivial ?_; clear S CL a; intro a S CL
          refine h_run' S rfl trivial ?_
          refine s_load1 S rfl .here T42 (v := (.slice ch_0_1 ch_0_2 ch_0_3)) rfl rfl ?_; clear S a; intro a S
          replace hw := CL.again hw S .nil le
          refine h_back ⟨fun _ => hw, ?_⟩
          refine h_run' S rfl trivial ?_
          refine s_iaddrO S (ty' := (Ty.arr .u64 4)) rfl (.there .here) rfl Try.underlying42 T27 c2.1 c2.2 rfl ?_; clear S a; intro g1 a hA1 S
          replace hw := CL.again hw S .nil le
          refine h_back ⟨fun _ => hw, ?_⟩
          refine h_run' S rfl trivial ?_
          refine s_ldRA S (ty' := (Ty.arr .u64 4)) (i := (wr .i64 (((x1).length : Int) - x2))) (off := 0) (fun (c : Unit) => [.ints .u64 (gt x1 (wr .i64 (((x1).length : Int) - x2))) 4]) rfl hA1 (.there .here) T27 c2.1 c2.2 rfl (fun _ => rfl) rfl ?_; clear S a; intro ch1 a S
          replace hw := CL.again hw S .nil le
          refine h_back ⟨fun _ => hw, ?_⟩
          refine h_run' S rfl trivial ?_
          refine s_callX S (ds' := [(.v (.pointer (some ⟨ch_0_0, 0, none⟩))), (.agg [.ints .u64 (gt x1 (wr .i64 (((x1).length : Int) - x2))) 4])]) (ds := [(.v (.pointer (some ⟨ch_0_0, 0, none⟩))), (.agg [.ints .u64 (gt x1 (wr .i64 (((x1).length : Int) - x2))) 4])]) [Res.cells ch_0_0 75 [.one (.slice ch_0_1 ch_0_2 ch_0_3)], Res.row (Ty.arr .u64 4) 27 ch_0_1 ch_0_2 ch_0_3 x1] [] (fun (ch : (Option Addr) × Nat × Nat) => ((.v (.bool t1.1)) : D)) (fun (ch : (Option Addr) × Nat × Nat) => [Res.cells ch_0_0 75 [.one (.slice ch.1 ch.2.1 ch.2.2)], Res.row (Ty.arr .u64 4) 27 ch.1 ch.2.1 ch.2.2 t1.2]) (fun (ch : (Option Addr) × Nat × Nat) => [Res.cells ch_0_0 75 [.one (.slice ch.1 ch.2.1 ch.2.2)], Res.row (Ty.arr .u64 4) 27 ch.1 ch.2.1 ch.2.2 t1.2]) (fun _ => rfl) N22 rfl rfl (fun ok => ok) (.cons .here (.cons .here .nil)) rfl (mem_Stack_Push.ok (x1) (gt x1 (wr .i64 (((x1).length : Int) - x2))) ch_0_0 ch_0_1 ch_0_2 ch_0_3 t1 et1 _ _) ?_; clear S a; intro ch2 m le1 a w S
          replace le := le.trans le1
          replace hw := CL.again hw S .nil le
          refine h_back ⟨fun _ => hw, ?_⟩
          replace CL := CL.add (t := 27) (d := (.v (.bool t1.1))) S rfl rfl
          refine h_assign S CL hw le ⟨rfl, rfl, rfl, rfl, rfl, rfl, rfl, rfl, rfl, rfl, rfl, rfl, rfl, trivial⟩ rfl rfl rfl trivial ?_; clear S CL a; intro a S CL
          refine h_done ?_; clear CL hw le
          refine x_thenN ?_
          exact j2 _ t1.1 ch2.1 ch2.2.1 ch2.2.2 t1.2 a w (S.sub ⟨rfl, trivial⟩ (.cons .here (.cons .here .nil))) h3
        exact h_nil
      exact h_nil
  refine c_region' ?_
  refine s_move S rfl rfl ?_; clear S a; intro a S
  refine s_bin S rfl rfl rfl rfl ?_; clear S a; intro a S
  refine s_move S rfl rfl ?_; clear S a; intro a S
  rcases ite_of h0 with ⟨c3, h1⟩ | ⟨c3, h1⟩ <;> clear h0
  · refine s_gF S (b := (decide (x2 < 1))) rfl rfl c3 rfl ?_; clear S a; intro a S
    refine s_gF S (b := (decide (x2 < 1))) rfl rfl c3 rfl ?_; clear S a; intro a S
    refine s_gF S (b := (decide (x2 < 1))) rfl rfl c3 rfl ?_; clear S a; intro a S
    refine s_gF S (b := (decide (x2 < 1))) rfl rfl c3 rfl ?_; clear S a; intro a S
    refine s_pick S (b := true) (hc_of rfl c3) rfl rfl ?_; clear S a; intro a S
    refine c_end' ?_
    refine x_thenN ?_
    exact j1 _ true a w0 (S.sub ⟨rfl, rfl, rfl, trivial⟩ (.cons .here (.cons .here .nil))) h1
  · refine s_gT S (b := (decide (x2 < 1))) rfl rfl c3 ?_
    refine s_move S rfl rfl ?_; clear S a; intro a S
    refine s_gT S (b := (decide (x2 < 1))) rfl rfl c3 ?_
    refine s_move S rfl rfl ?_; clear S a; intro a S
    refine s_gT S (b := (decide (x2 < 1))) rfl rfl c3 ?_
    obtain ⟨t2, et2, h2⟩ := bind_of h1; clear h1
    refine s_callX S (ds' := [(.v (.pointer (some ⟨ch_0_0, 0, none⟩)))]) (ds := [(.v (.pointer (some ⟨ch_0_0, 0, none⟩)))]) [Res.cells ch_0_0 75 [.one (.slice ch_0_1 ch_0_2 ch_0_3)], Res.row (Ty.arr .u64 4) 27 ch_0_1 ch_0_2 ch_0_3 x1] [] (fun (ch : Unit) => ((.v (.int .i64 t2)) : D)) (fun (ch : Unit) => [Res.cells ch_0_0 75 [.one (.slice ch_0_1 ch_0_2 ch_0_3)], Res.row (Ty.arr .u64 4) 27 ch_0_1 ch_0_2 ch_0_3 x1]) (fun (ch : Unit) => [Res.cells ch_0_0 75 [.one (.slice ch_0_1 ch_0_2 ch_0_3)], Res.row (Ty.arr .u64 4) 27 ch_0_1 ch_0_2 ch_0_3 x1]) (fun _ => rfl) N26 rfl rfl (fun ok => ok) (.cons .here (.cons .here .nil)) rfl (mem_Stack_Len.ok (x1) ch_0_0 ch_0_1 ch_0_2 ch_0_3 t2 et2 _ _) ?_; clear S a; intro ch3 m le1 a w S
    refine s_gT S (b := (decide (x2 < 1))) rfl rfl c3 ?_
    refine s_bin S rfl rfl rfl rfl ?_; clear S a; intro a S
    refine s_pick S (b := false) (hc_of rfl c3) rfl rfl ?_; clear S a; intro a S
    refine c_end' ?_
    refine x_thenN ?_
    exact j1 _ (decide (t2 < x2)) a w (S.sub ⟨rfl, rfl, rfl, trivial⟩ (.cons .here (.cons .here .nil))) h2
/-! (*smithy/mem.Stack).Pop -/
abbrev mem_Stack_Pop.Ty : Type := ((List (List Int))) → Option ((List Int) × Bool × ((List (List Int))))
def mem_Stack_Pop.Ctr (s : mem_Stack_Pop.Ty) : Prop := ∀ (x1 : (List (List Int))) (ch_0_0 : Nat) (ch_0_1 : Option Addr) (ch_0_2 : Nat) (ch_0_3 : Nat) (r : (List Int) × Bool × ((List (List Int)))) (h0 : s x1 = some r) (mi : Mem) (w0 : World), okL mi [(.v (.pointer (some ⟨ch_0_0, 0, none⟩)))] → Pre mi [Res.cells ch_0_0 75 [.one (.slice ch_0_1 ch_0_2 ch_0_3)], Res.row (Ty.arr .u64 4) 27 ch_0_1 ch_0_2 ch_0_3 x1] w0 → Calls Try.prog 24 (([(.v (.pointer (some ⟨ch_0_0, 0, none⟩)))] : List D).map D.val).toArray w0 (RetX mi [Res.cells ch_0_0 75 [.one (.slice ch_0_1 ch_0_2 ch_0_3)], Res.row (Ty.arr .u64 4) 27 ch_0_1 ch_0_2 ch_0_3 x1] (fun (ch : (Option Addr) × Nat × Nat) => ((.tup [(true, [.ints .u64 r.1 4]), (false, [.one (.bool r.2.1)])]) : D)) (fun (ch : (Option Addr) × Nat × Nat) => [Res.cells ch_0_0 75 [.one (.slice ch.1 ch.2.1 ch.2.2)], Res.row (Ty.arr .u64 4) 27 ch.1 ch.2.1 ch.2.2 r.2.2]) w0)
def mem_Stack_Pop.f (x1 : (List (List Int))) : Option ((List Int) × Bool × ((List (List Int)))) := (mem_Stack_Len.f (x1)).bind fun t1 => (if (t1 == 0) = true then (some ([0, 0, 0, 0], false, (x1))) else (if 0 ≤ (wr .i64 (t1 - 1)) ∧ (wr .i64 (t1 - 1)) < ((x1).length : Int) then (if (0 : Int) ≤ (wr .i64 (t1 - 1)) ∧ (wr .i64 (t1 - 1)) ≤ ((x1).length : Int) then (some (gt x1 (wr .i64 (t1 - 1)), true, (x1.take (Int.toNat (wr .i64 (t1 - 1)))))) else none) else none))
theorem mem_Stack_Pop.ok : mem_Stack_Pop.Ctr (mem_Stack_Pop.f) := by
  intro x1 ch_0_0 ch_0_1 ch_0_2 ch_0_3 r h0 mi w0 ok hm
  delta mem_Stack_Pop.f at h0
  refine c_enterX (n := 30) [(.v (.pointer (some ⟨ch_0_0, 0, none⟩)))] (l := [(0, (.v (.pointer (some ⟨ch_0_0, 0, none⟩))))]) Try.func24 rfl rfl rfl rfl ok hm ?_
  clear ok hm
  intro b0 hb a S
  refine c_region ?_
  refine s_alloc S Z27 rfl ⟨rfl, trivial⟩ rfl ?_; clear S a; intro g1 a w S
  refine s_assign S rfl rfl ?_; clear S a; intro a S
  refine c_end ?_
  refine c_region ?_
  refine s_move S rfl rfl ?_; clear S a; intro a S
  obtain ⟨t1, et1, h1⟩ := bind_of h0; clear h0
  refine s_callX S (ds' := [(.v (.pointer (some ⟨ch_0_0, 0, none⟩)))]) (ds := [(.v (.pointer (some ⟨ch_0_0, 0, none⟩)))]) [Res.cells ch_0_0 75 [.one (.slice ch_0_1 ch_0_2 ch_0_3)], Res.row (Ty.arr .u64 4) 27 ch_0_1 ch_0_2 ch_0_3 x1] [Res.cells g1 27 [.ints .u64 [0, 0, 0, 0] 4]] (fun (ch : Unit) => ((.v (.int .i64 t1)) : D)) (fun (ch : Unit) => [Res.cells ch_0_0 75 [.one (.slice ch_0_1 ch_0_2 ch_0_3)], Res.row (Ty.arr .u64 4) 27 ch_0_1 ch_0_2 ch_0_3 x1]) (fun (ch : Unit) => [Res.cells ch_0_0 75 [.one (.slice ch_0_1 ch_0_2 ch_0_3)], Res.row (Ty.arr .u64 4) 27 ch_0_1 ch_0_2 ch_0_3 x1, Res.cells g1 27 [.ints .u64 [0, 0, 0, 0] 4]]) (fun _ => rfl) N26 rfl rfl (fun ok => ok) (.cons (.there .here) (.cons (.there .here) (.cons .here .nil))) rfl (mem_Stack_Len.ok (x1) ch_0_0 ch_0_1 ch_0_2 ch_0_3 t1 et1 _ _) ?_; clear S a w; intro ch1 m le1 a w S
  refine s_assign S rfl rfl ?_; clear S a; intro a S
  refine c_end ?_
  refine wp_seq ?_
  refine c_region ?_
  refine s_move S rfl rfl ?_; clear S a; intro a S
  refine s_bin S rfl rfl rfl rfl ?_; clear S a; intro a S
  refine c_end ?_
  rcases ite_of h1 with ⟨c1, h2⟩ | ⟨c1, h2⟩ <;> clear h1
  · refine c_condT S rfl c1 ?_
    refine c_region ?_
    refine s_build S (ds := []) (dv := (.agg [.ints .u64 [0, 0, 0, 0] 4])) rfl (fun _ => by kernel_rfl) ⟨rfl, trivial⟩ rfl ?_; clear S a; intro a S
    refine s_store S rfl rfl rfl (s' := [.ints .u64 [0, 0, 0, 0] 4]) (.there (.there .here)) T27 rfl rfl ?_; clear S w; intro w S
    refine s_assign S rfl rfl ?_; clear S a; intro a S
    refine c_end ?_
    refine wp_ret ?_
    refine x_thenR ?_
    obtain rfl := Option.some.inj h2
    exact b_ret2 (d1 := (.agg [.ints .u64 [0, 0, 0, 0] 4])) (d2 := (.v (.bool false))) S rfl (resD_cell rfl (.there (.there .here)) T27 rfl rfl) rfl fun ok1 ok2 => S.retX (Hx := []) hb _ _ ((ch_0_1, ch_0_2, ch_0_3) : (Option Addr) × Nat × Nat) (.cons .here (.cons .here .nil)) ⟨ok1, ⟨ok2, trivial⟩, trivial⟩
  · refine c_condF S rfl c1 ?_
    refine wp_skip ?_
    refine x_thenN ?_
    refine c_region ?_
    refine s_move S rfl rfl ?_; clear S a; intro a S
    refine s_nilchk S rfl rfl ?_; clear S a; intro a S
    refine s_fieldAddr S rfl I75_0 T42 (by decide) rfl rfl ?_; clear S a; intro a S
    refine s_load1 S rfl .here T42 (v := (.slice ch_0_1 ch_0_2 ch_0_3)) rfl rfl ?_; clear S a; intro a S
    refine s_move S rfl rfl ?_; clear S a; intro a S
    refine s_bin S rfl rfl rfl rfl ?_; clear S a; intro a S
    obtain ⟨c2, h3⟩ := chk_of h2; clear h2
    refine s_iaddrO S (ty' := (Ty.arr .u64 4)) rfl (.there .here) rfl Try.underlying42 T27 c2.1 c2.2 rfl ?_; clear S a; intro g2 a hA1 S
    refine s_ldRA S (ty' := (Ty.arr .u64 4)) (i := (wr .i64 (t1 - 1))) (off := 0) (fun (c : Unit) => [.ints .u64 (gt x1 (wr .i64 (t1 - 1))) 4]) rfl hA1 (.there .here) T27 c2.1 c2.2 rfl (fun _ => rfl) rfl ?_; clear S a; intro ch2 a S
    refine s_alloc S Z27 rfl ⟨rfl, trivial⟩ rfl ?_; clear S a w; intro g3 a w S
    refine s_store S rfl rfl rfl (s' := [.ints .u64 (gt x1 (wr .i64 (t1 - 1))) 4]) .here T27 rfl rfl ?_; clear S w; intro w S
    refine c_end ?_
    refine c_region ?_
    refine s_move S rfl rfl ?_; clear S a; intro a S
    refine s_move S rfl rfl ?_; clear S a; intro a S
    refine s_nilchk S rfl rfl ?_; clear S a; intro a S
    refine s_fieldAddr S rfl I75_0 T42 (by decide) rfl rfl ?_; clear S a; intro a S
    refine s_load1 S rfl (.there .here) T42 (v := (.slice ch_0_1 ch_0_2 ch_0_3)) rfl rfl ?_; clear S a; intro a S
    refine s_move S rfl rfl ?_; clear S a; intro a S
    refine s_bin S rfl rfl rfl rfl ?_; clear S a; intro a S
    obtain ⟨c3, h4⟩ := chk_of h3; clear h3
    refine s_cutO S (j := (wr .i64 (t1 - 1))) rfl (.there (.there .here)) Try.underlying42 T27 (.inl rfl) rfl c3.1 c3.2 rfl ?_; clear S a; intro a S
    refine s_nilchk S rfl rfl ?_; clear S a; intro a S
    refine s_fieldAddr S rfl I75_0 T42 (by decide) rfl rfl ?_; clear S a; intro a S
    refine s_store S rfl rfl rfl (s' := [.one (.slice ch_0_1 (Int.toNat (wr .i64 (t1 - 1))) ch_0_3)]) (.there .here) T42 rfl rfl ?_; clear S w; intro w S
    refine c_end ?_
    refine c_region ?_
    refine s_loada S rfl .here T27 (s' := [.ints .u64 (gt x1 (wr .i64 (t1 - 1))) 4]) rfl rfl ?_; clear S a; intro a S
    refine s_store S rfl rfl rfl (s' := [.ints .u64 (gt x1 (wr .i64 (t1 - 1))) 4]) (.there (.there (.there .here))) T27 rfl rfl ?_; clear S w; intro w S
    refine s_assign S rfl rfl ?_; clear S a; intro a S
    refine c_end ?_
    refine wp_ret ?_
    obtain rfl := Option.some.inj h4
    exact b_ret2 (d1 := (.agg [.ints .u64 (gt x1 (wr .i64 (t1 - 1))) 4])) (d2 := (.v (.bool true))) S rfl (resD_cell rfl (.there (.there (.there .here))) T27 rfl rfl) rfl fun ok1 ok2 => S.retX (Hx := []) hb _ _ ((ch_0_1, Int.toNat (wr .i64 (t1 - 1)), ch_0_3) : (Option Addr) × Nat × Nat) (.cons (.there .here) (.cons (.there .here) .nil)) ⟨ok1, ⟨ok2, trivial⟩, trivial⟩
/-! (*smithy/mem.Stack).Swap -/
abbrev mem_Stack_Swap.Ty : Type := ((List (List Int))) → Int → Option (Bool × ((List (List Int))))
def mem_Stack_Swap.Ctr (s : mem_Stack_Swap.Ty) : Prop := ∀ (x1 : (List (List Int))) (x2 : Int) (ch_0_0 : Nat) (ch_0_1 : Option Addr) (ch_0_2 : Nat) (ch_0_3 : Nat) (r : Bool × ((List (List Int)))) (h0 : s x1 x2 = some r) (mi : Mem) (w0 : World), okL mi [(.v (.pointer (some ⟨ch_0_0, 0, none⟩))), (.v (.int .i64 x2))] → Pre mi [Res.cells ch_0_0 75 [.one (.slice ch_0_1 ch_0_2 ch_0_3)], Res.row (Ty.arr .u64 4) 27 ch_0_1 ch_0_2 ch_0_3 x1] w0 → Calls Try.prog 25 (([(.v (.pointer (some ⟨ch_0_0, 0, none⟩))), (.v (.int .i64 x2))] : List D).map D.val).toArray w0 (RetX mi [Res.cells ch_0_0 75 [.one (.slice ch_0_1 ch_0_2 ch_0_3)], Res.row (Ty.arr .u64 4) 27 ch_0_1 ch_0_2 ch_0_3 x1] (fun (ch : (Option Addr) × Nat × Nat) => ((.v (.bool r.1)) : D)) (fun (ch : (Option Addr) × Nat × Nat) => [Res.cells ch_0_0 75 [.one (.slice ch.1 ch.2.1 ch.2.2)], Res.row (Ty.arr .u64 4) 27 ch.1 ch.2.1 ch.2.2 r.2]) w0)
def mem_Stack_Swap.j2 (x1 : (List (List Int))) (x2 : Int) (t1 : Int) : Option (Bool × ((List (List Int)))) := some (true, ((x1.set (Int.toNat (wr .i64 (t1 - 1))) (gt x1 (wr .i64 ((wr .i64 (t1 - 1)) - x2)))).set (Int.toNat (wr .i64 ((wr .i64 (t1 - 1)) - x2))) (gt x1 (wr .i64 (t1 - 1)))))
def mem_Stack_Swap.j1 (x1 : (List (List Int))) (x2 : Int) (t1 : Int) (y1 : Bool) : Option (Bool × ((List (List Int)))) := if y1 = true then (some (false, (x1))) else (if 0 ≤ (wr .i64 ((wr .i64 (t1 - 1)) - x2)) ∧ (wr .i64 ((wr .i64 (t1 - 1)) - x2)) < ((x1).length : Int) then (if 0 ≤ (wr .i64 (t1 - 1)) ∧ (wr .i64 (t1 - 1)) < ((x1).length : Int) then (if 0 ≤ (wr .i64 ((wr .i64 (t1 - 1)) - x2)) ∧ (wr .i64 ((wr .i64 (t1 - 1)) - x2)) < ((x1.set (Int.toNat (wr .i64 (t1 - 1))) (gt x1 (wr .i64 ((wr .i64 (t1 - 1)) - x2)))).length : Int) then (mem_Stack_Swap.j2 x1 x2 t1) else none) else none) else none)
def mem_Stack_Swap.f (x1 : (List (List Int))) (x2 : Int) : Option (Bool × ((List (List Int)))) := (mem_Stack_Len.f (x1)).bind fun t1 => (if (decide (x2 < 1)) = true then (mem_Stack_Swap.j1 x1 x2 t1 true) else (mem_Stack_Swap.j1 x1 x2 t1 (decide ((wr .i64 (t1 - 1)) < x2))))
theorem mem_Stack_Swap.ok : mem_Stack_Swap.Ctr (mem_Stack_Swap.f) := by
  intro x1 x2 ch_0_0 ch_0_1 ch_0_2 ch_0_3 r h0 mi w0 ok hm
  delta mem_Stack_Swap.f at h0
  refine c_enterX (n := 46) [(.v (.pointer (some ⟨ch_0_0, 0, none⟩))), (.v (.int .i64 x2))] (l := [(0, (.v (.pointer (some ⟨ch_0_0, 0, none⟩)))), (1, (.v (.int .i64 x2)))]) Try.func25 rfl rfl rfl rfl ok hm ?_
  clear ok hm
  intro b0 hb a S
  refine c_region ?_
  refine s_assign S rfl rfl ?_; clear S a; intro a S
  refine c_end ?_
  refine c_region ?_
  refine s_move S rfl rfl ?_; clear S a; intro a S
  obtain ⟨t1, et1, h1⟩ := bind_of h0; clear h0
  refine s_callX S (ds' := [(.v (.pointer (some ⟨ch_0_0, 0, none⟩)))]) (ds := [(.v (.pointer (some ⟨ch_0_0, 0, none⟩)))]) [Res.cells ch_0_0 75 [.one (.slice ch_0_1 ch_0_2 ch_0_3)], Res.row (Ty.arr .u64 4) 27 ch_0_1 ch_0_2 ch_0_3 x1] [] (fun (ch : Unit) => ((.v (.int .i64 t1)) : D)) (fun (ch : Unit) => [Res.cells ch_0_0 75 [.one (.slice ch_0_1 ch_0_2 ch_0_3)], Res.row (Ty.arr .u64 4) 27 ch_0_1 ch_0_2 ch_0_3 x1]) (fun (ch : Unit) => [Res.cells ch_0_0 75 [.one (.slice ch_0_1 ch_0_2 ch_0_3)], Res.row (Ty.arr .u64 4) 27 ch_0_1 ch_0_2 ch_0_3 x1]) (fun _ => rfl) N26 rfl rfl (fun ok => ok) (.cons .here (.cons .here .nil)) rfl (mem_Stack_Len.ok (x1) ch_0_0 ch_0_1 ch_0_2 ch_0_3 t1 et1 _ _) ?_; clear S a; intro ch1 m le1 a w S
  refine s_bin S rfl rfl rfl rfl ?_; clear S a; intro a S
  refine s_assign S rfl rfl ?_; clear S a; intro a S
  refine c_end ?_
  refine wp_seq ?_
  refine wp_seq_k ?_
  intro K1 hK1
  have j1 : ∀ (m : Mem) (y1 : Bool) (a : Act) (w : World), St 46 m b0 [(15, (.v (.bool y1))), (5, (.v (.int .i64 (wr .i64 (t1 - 1))))), (0, (.v (.pointer (some ⟨ch_0_0, 0, none⟩)))), (1, (.v (.int .i64 x2)))] [Res.cells ch_0_0 75 [.one (.slice ch_0_1 ch_0_2 ch_0_3)], Res.row (Ty.arr .u64 4) 27 ch_0_1 ch_0_2 ch_0_3 x1] a w → mem_Stack_Swap.j1 x1 x2 t1 y1 = some r → K1 a w := by
    intro m y1 a w S h0
    delta mem_Stack_Swap.j1 at h0
    refine hK1 a w ?_
    rcases ite_of h0 with ⟨c1, h1⟩ | ⟨c1, h1⟩ <;> clear h0
    · refine c_condT S rfl c1 ?_
      refine c_region ?_
      refine s_assign S rfl rfl ?_; clear S a; intro a S
      refine c_end ?_
      refine wp_ret ?_
      refine x_thenR ?_
      obtain rfl := Option.some.inj h1
      exact b_ret1 (d := (.v (.bool false))) S rfl rfl fun ok => S.retX (Hx := []) hb _ _ ((ch_0_1, ch_0_2, ch_0_3) : (Option Addr) × Nat × Nat) (.cons .here (.cons .here .nil)) ok
    · refine c_condF S rfl c1 ?_
      refine wp_skip ?_
      refine x_thenN ?_
      refine wp_seq_k ?_
      intro K2 hK2
      have j2 : ∀ (m : Mem) (a : Act) (w : World), St 46 m b0 [] [Res.cells ch_0_0 75 [.one (.slice ch_0_1 ch_0_2 ch_0_3)], Res.row (Ty.arr .u64 4) 27 ch_0_1 ch_0_2 ch_0_3 ((x1.set (Int.toNat (wr .i64 (t1 - 1))) (gt x1 (wr .i64 ((wr .i64 (t1 - 1)) - x2)))).set (Int.toNat (wr .i64 ((wr .i64 (t1 - 1)) - x2))) (gt x1 (wr .i64 (t1 - 1))))] a w → mem_Stack_Swap.j2 x1 x2 t1 = some r → K2 a w := by
        intro m a w S h0
        delta mem_Stack_Swap.j2 at h0
        refine hK2 a w ?_
        refine c_region ?_
        refine s_assign S rfl rfl ?_; clear S a; intro a S
        refine c_end ?_
        refine wp_ret ?_
        obtain rfl := Option.some.inj h0
        exact b_ret1 (d := (.v (.bool true))) S rfl rfl fun ok => S.retX (Hx := []) hb _ _ ((ch_0_1, ch_0_2, ch_0_3) : (Option Addr) × Nat × Nat) (.cons .here (.cons .here .nil)) ok
      refine c_heldS S (.take 0 (.take 1 (.take 2 (.take 3 (.take 4 (.take 5 (.take 6 (.take 7 (.take 8 (.take 9 (.take 10 (.take 11 (.take 12 (.take 13 (.take 14 (.take 15 (.take 16 (.take 17 (.take 18 (.take 21 (.take 22 (.take 23 (.take 24 (.take 25 (.alts (.run 19 true (.alts (.run 20 true (.alts (.run 26 true (.alts (.run 27 true (.alts (.run 28 true (.alts (.run 29 true (.alts (.run 30 true (.alts (.run 31 false .done .nil)) .nil)) .nil)) .nil)) .nil)) .nil)) (.run 26 true (.alts (.run 20 true (.alts (.run 27 true (.alts (.run 28 true (.alts (.run 29 true (.alts (.run 30 true (.alts (.run 31 false .done .nil)) .nil)) .nil)) .nil)) .nil)) (.run 27 true (.alts (.run 20 true (.alts (.run 28 true (.alts (.run 29 true (.alts (.run 30 true (.alts (.run 31 false .done .nil)) .nil)) .nil)) .nil)) .nil)) .nil))) .nil))) (.run 26 true (.alts (.run 19 true (.alts (.run 20 true (.alts (.run 27 true (.alts (.run 28 true (.alts (.run 29 true (.alts (.run 30 true (.alts (.run 31 false .done .nil)) .nil)) .nil)) .nil)) .nil)) (.run 27 true (.alts (.run 20 true (.alts (.run 28 true (.alts (.run 29 true (.alts (.run 30 true (.alts (.run 31 false .done .nil)) .nil)) .nil)) .nil)) .nil)) .nil))) (.run 27 true (.alts (.run 19 true (.alts (.run 20 true (.alts (.run 28 true (.alts (.run 29 true (.alts (.run 30 true (.alts (.run 31 false .done .nil)) .nil)) .nil)) .nil)) .nil)) .nil)) .nil))) .nil))))))))))))))))))))))))))) 31 [Res.cells ch_0_0 75 [.one (.slice ch_0_1 ch_0_2 ch_0_3)]] (.cons .here .nil) ⟨Res.stay_cells, trivial⟩ [(5, (.v (.int .i64 (wr .i64 (t1 - 1))))), (0, (.v (.pointer (some ⟨ch_0_0, 0, none⟩)))), (1, (.v (.int .i64 x2)))] ⟨rfl, rfl, rfl, trivial⟩ (by kernel_rfl) (by kernel_rfl) ?_; clear S; intro w S CL hw le
      refine h_move S CL hw le ⟨rfl, rfl, rfl, trivial⟩ rfl rfl rfl trivial ?_; clear S CL a; intro a S CL
      refine h_nilchk S CL hw le ⟨rfl, rfl, rfl, rfl, trivial⟩ rfl rfl rfl rfl trivial ?_; clear S CL a; intro a S CL
      refine h_fieldAddr S CL hw le ⟨rfl, rfl, rfl, rfl, rfl, trivial⟩ rfl I75_0 T42 (by decide) rfl rfl rfl trivial ?_; clear S CL a; intro a S CL
      refine h_load1 S CL hw le ⟨rfl, rfl, rfl, rfl, rfl, rfl, trivial⟩ rfl .here T42 (v := (.slice ch_0_1 ch_0_2 ch_0_3)) rfl rfl rfl trivial ?_; clear S CL a; intro a S CL
      refine h_move S CL hw le ⟨rfl, rfl, rfl, rfl, rfl, rfl, rfl, trivial⟩ rfl rfl rfl trivial ?_; clear S CL a; intro a S CL
      refine h_move S CL hw le ⟨rfl, rfl, rfl, rfl, rfl, rfl, rfl, rfl, trivial⟩ rfl rfl rfl trivial ?_; clear S CL a; intro a S CL
      refine h_nilchk S CL hw le ⟨rfl, rfl, rfl, rfl, rfl, rfl, rfl, rfl, rfl, trivial⟩ rfl rfl rfl rfl trivial ?_; clear S CL a; intro a S CL
      refine h_fieldAddr S CL hw le ⟨rfl, rfl, rfl, rfl, rfl, rfl, rfl, rfl, rfl, rfl, trivial⟩ rfl I75_0 T42 (by decide) rfl rfl rfl trivial ?_; clear S CL a; intro a S CL
      refine h_load1 S CL hw le ⟨rfl, rfl, rfl, rfl, rfl, rfl, rfl, rfl, rfl, rfl, rfl, trivial⟩ rfl .here T42 (v := (.slice ch_0_1 ch_0_2 ch_0_3)) rfl rfl rfl trivial ?_; clear S CL a; intro a S CL
      refine h_move S CL hw le ⟨rfl, rfl, rfl, rfl, rfl, rfl, rfl, rfl, rfl, rfl, rfl, rfl, trivial⟩ rfl rfl rfl trivial ?_; clear S CL a; intro a S CL
      refine h_move S CL hw le ⟨rfl, rfl, rfl, rfl, rfl, rfl, rfl, rfl, rfl, rfl, rfl, rfl, rfl, trivial⟩ rfl rfl rfl trivial ?_; clear S CL a; intro a S CL
      refine h_bin S CL hw le ⟨rfl, rfl, rfl, rfl, rfl, rfl, rfl, rfl, rfl, rfl, rfl, rfl, rfl, rfl, trivial⟩ rfl rfl rfl rfl rfl trivial ?_; clear S CL a; intro a S CL
      refine h_move S CL hw le ⟨rfl, rfl, rfl, rfl, rfl, rfl, rfl, rfl, rfl, rfl, rfl, rfl, rfl, rfl, rfl, trivial⟩ rfl rfl rfl trivial ?_; clear S CL a; intro a S CL
      refine h_nilchk S CL hw le ⟨rfl, rfl, rfl, rfl, rfl, rfl, rfl, rfl, rfl, rfl, rfl, rfl, rfl, rfl, rfl, rfl, trivial⟩ rfl rfl rfl rfl trivial ?_; clear S CL a; intro a S CL
      refine h_fieldAddr S CL hw le ⟨rfl, rfl, rfl, rfl, rfl, rfl, rfl, rfl, rfl, rfl, rfl, rfl, rfl, rfl, rfl, rfl, rfl, trivial⟩ rfl I75_0 T42 (by decide) rfl rfl rfl trivial ?_; clear S CL a; intro a S CL
      refine h_load1 S CL hw le ⟨rfl, rfl, rfl, rfl, rfl, rfl, rfl, rfl, rfl, rfl, rfl, rfl, rfl, rfl, rfl, rfl, rfl, rfl, trivial⟩ rfl .here T42 (v := (.slice ch_0_1 ch_0_2 ch_0_3)) rfl rfl rfl trivial ?_; clear S CL a; intro a S CL
      refine h_move S CL hw le ⟨rfl, rfl, rfl, rfl, rfl, rfl, rfl, rfl, rfl, rfl, rfl, rfl, rfl, rfl, rfl, rfl, rfl, rfl, rfl, trivial⟩ rfl rfl rfl trivial ?_; clear S CL a; intro a S CL
      refine h_move S CL hw le ⟨rfl, rfl, rfl, rfl, rfl, rfl, rfl, rfl, rfl, rfl, rfl, rfl, rfl, rfl, rfl, rfl, rfl, rfl, rfl, rfl, trivial⟩ rfl rfl rfl trivial ?_; clear S CL a; intro a S CL
      refine h_bin S CL hw le ⟨rfl, rfl, rfl, rfl, rfl, rfl, rfl, rfl, rfl, rfl, rfl, rfl, rfl, rfl, rfl, rfl, rfl, rfl, rfl, rfl, rfl, trivial⟩ rfl rfl rfl rfl rfl trivial ?_; clear S CL a; intro a S CL
      refine h_move S CL hw le ⟨rfl, rfl, rfl, rfl, rfl, rfl, rfl, rfl, rfl, rfl, rfl, rfl, rfl, rfl, rfl, rfl, rfl, rfl, rfl, rfl, rfl, rfl, trivial⟩ rfl rfl rfl trivial ?_; clear S CL a; intro a S CL
      refine h_nilchk S CL hw le ⟨rfl, rfl, rfl, rfl, rfl, rfl, rfl, rfl, rfl, rfl, rfl, rfl, rfl, rfl, rfl, rfl, rfl, rfl, rfl, rfl, rfl, rfl, rfl, trivial⟩ rfl rfl rfl rfl trivial ?_; clear S CL a; intro a S CL
      refine h_fieldAddr S CL hw le ⟨rfl, rfl, rfl, rfl, rfl, rfl, rfl, rfl, rfl, rfl, rfl, rfl, rfl, rfl, rfl, rfl, rfl, rfl, rfl, rfl, rfl, rfl, rfl, rfl, trivial⟩ rfl I75_0 T42 (by decide) rfl rfl rfl trivial ?_; clear S CL a; intro a S CL
      refine h_load1 S CL hw le ⟨rfl, rfl, rfl, rfl, rfl, rfl, rfl, rfl, rfl, rfl, rfl, rfl, rfl, rfl, rfl, rfl, rfl, rfl, rfl, rfl, rfl, rfl, rfl, rfl, rfl, trivial⟩ rfl .here T42 (v := (.slice ch_0_1 ch_0_2 ch_0_3)) rfl rfl rfl trivial ?_; clear S CL a; intro a S CL
      refine h_move S CL hw le ⟨rfl, rfl, rfl, rfl, rfl, rfl, rfl, rfl, rfl, rfl, rfl, rfl, rfl, rfl, rfl, rfl, rfl, rfl, rfl, rfl, rfl, rfl, rfl, rfl, rfl, rfl, trivial⟩ rfl rfl rfl trivial ?_; clear S CL a; intro a S CL
      obtain ⟨c2, h2⟩ := chk_of h1; clear h1
      obtain ⟨c3, h3⟩ := chk_of h2; clear h2
      obtain ⟨c4, h4⟩ := chk_of h3; clear h3
      refine h_alts ?_
      refine h_runO S rfl trivial ?_ ?_
      · refine s_iaddrO S (ty' := (Ty.arr .u64 4)) rfl (.there .here) rfl Try.underlying42 T27 c2.1 c2.2 rfl ?_; clear S a; intro g1 a hA1 S
        replace hw := CL.again hw S (.cons .here .nil) le
        refine h_back ⟨fun _ => hw, ?_⟩
        refine h_alts ?_
        refine h_runO S rfl trivial ?_ ?_
        · refine s_ldRA S (ty' := (Ty.arr .u64 4)) (i := (wr .i64 ((wr .i64 (t1 - 1)) - x2))) (off := 0) (fun (c : Unit) => [.ints .u64 (gt x1 (wr .i64 ((wr .i64 (t1 - 1)) - x2))) 4]) rfl hA1 (.there .here) T27 c2.1 c2.2 rfl (fun _ => rfl) rfl ?_; clear S a; intro ch2 a S
          replace hw := CL.again hw S (.cons .here .nil) le
          refine h_back ⟨fun _ => hw, ?_⟩
          refine h_run' S rfl trivial ?_
          refine s_iaddrO S (ty' := (Ty.arr .u64 4)) rfl (.there .here) rfl Try.underlying42 T27 c3.1 c3.2 rfl ?_; clear S a; intro g2 a hA2 S
          replace hw := CL.again hw S (.cons .here .nil) le
          refine h_back ⟨fun _ => hw, ?_⟩
          refine h_run' S rfl trivial ?_
          refine s_ldRA S (ty' := (Ty.arr .u64 4)) (i := (wr .i64 (t1 - 1))) (off := 0) (fun (c : Unit) => [.ints .u64 (gt x1 (wr .i64 (t1 - 1))) 4]) rfl hA2 (.there .here) T27 c3.1 c3.2 rfl (fun _ => rfl) rfl ?_; clear S a; intro ch3 a S
          replace hw := CL.again hw S (.cons .here .nil) le
          refine h_back ⟨fun _ => hw, ?_⟩
          refine h_run' S rfl trivial ?_
          refine s_iaddrO S (ty' := (Ty.arr .u64 4)) rfl (.there .here) rfl Try.underlying42 T27 c3.1 c3.2 rfl ?_; clear S a; intro g3 a hA3 S
          replace hw := CL.again hw S (.cons .here .nil) le
          refine h_back ⟨fun _ => hw, ?_⟩
          refine h_run' S rfl trivial ?_
          refine s_stR S (ty' := (Ty.arr .u64 4)) (i := (wr .i64 (t1 - 1))) (off := 0) (u := gt x1 (wr .i64 ((wr .i64 (t1 - 1)) - x2))) (fun (c : Unit) => ()) rfl rfl rfl hA3 (.there .here) T27 c3.1 c3.2 rfl (by decide) rfl (fun _ => rfl) ?_; clear S; intro w S
          replace hw := CL.again hw S (.cons .here .nil) le
          refine h_back ⟨fun _ => hw, ?_⟩
          refine h_run' S rfl trivial ?_
          refine s_iaddrO S (ty' := (Ty.arr .u64 4)) rfl (.there .here) rfl Try.underlying42 T27 c4.1 c4.2 rfl ?_; clear S a; intro g4 a hA4 S
          replace hw := CL.again hw S (.cons .here .nil) le
          refine h_back ⟨fun _ => hw, ?_⟩
          refine h_run' S rfl trivial ?_
          refine s_stR S (ty' := (Ty.arr .u64 4)) (i := (wr .i64 ((wr .i64 (t1 - 1)) - x2))) (off := 0) (u := gt x1 (wr .i64 (t1 - 1))) (fun (c : Unit) => ()) rfl rfl rfl hA4 (.there .here) T27 c4.1 c4.2 rfl (by decide) rfl (fun _ => rfl) ?_; clear S; intro w S
          refine h_back ⟨fun h => (nomatch h), ?_⟩
          refine h_done ?_; clear CL hw le
          refine x_thenN ?_
          exact j2 _ a w (S.sub trivial (.cons .here (.cons .here .nil))) h4
        refine h_runO S rfl trivial ?_ ?_
        · refine s_iaddrO S (ty' := (Ty.arr .u64 4)) rfl (.there .here) rfl Try.underlying42 T27 c3.1 c3.2 rfl ?_; clear S a; intro g2 a hA2 S
          replace hw := CL.again hw S (.cons .here .nil) le
          refine h_back ⟨fun _ => hw, ?_⟩
          refine h_alts ?_
          refine h_runO S rfl trivial ?_ ?_
          · refine s_ldRA S (ty' := (Ty.arr .u64 4)) (i := (wr .i64 ((wr .i64 (t1 - 1)) - x2))) (off := 0) (fun (c : Unit) => [.ints .u64 (gt x1 (wr .i64 ((wr .i64 (t1 - 1)) - x2))) 4]) rfl hA1 (.there .here) T27 c2.1 c2.2 rfl (fun _ => rfl) rfl ?_; clear S a; intro ch2 a S
            replace hw := CL.again hw S (.cons .here .nil) le
            refine h_back ⟨fun _ => hw, ?_⟩
            refine h_run' S rfl trivial ?_
            refine s_ldRA S (ty' := (Ty.arr .u64 4)) (i := (wr .i64 (t1 - 1))) (off := 0) (fun (c : Unit) => [.ints .u64 (gt x1 (wr .i64 (t1 - 1))) 4]) rfl hA2 (.there .here) T27 c3.1 c3.2 rfl (fun _ => rfl) rfl ?_; clear S a; intro ch3 a S
            replace hw := CL.again hw S (.cons .here .nil) le
            refine h_back ⟨fun _ => hw, ?_⟩
            refine h_run' S rfl trivial ?_
            refine s_iaddrO S (ty' := (Ty.arr .u64 4)) rfl (.there .here) rfl Try.underlying42 T27 c3.1 c3.2 rfl ?_; clear S a; intro g3 a hA3 S
            replace hw := CL.again hw S (.cons .here .nil) le
            refine h_back ⟨fun _ => hw, ?_⟩
            refine h_run' S rfl trivial ?_
            refine s_stR S (ty' := (Ty.arr .u64 4)) (i := (wr .i64 (t1 - 1))) (off := 0) (u := gt x1 (wr .i64 ((wr .i64 (t1 - 1)) - x2))) (fun (c : Unit) => ()) rfl rfl rfl hA3 (.there .here) T27 c3.1 c3.2 rfl (by decide) rfl (fun _ => rfl) ?_; clear S; intro w S
            replace hw := CL.again hw S (.cons .here .nil) le
            refine h_back ⟨fun _ => hw, ?_⟩
            refine h_run' S rfl trivial ?_
            refine s_iaddrO S (ty' := (Ty.arr .u64 4)) rfl (.there .here) rfl Try.underlying42 T27 c4.1 c4.2 rfl ?_; clear S a; intro g4 a hA4 S
            replace hw := CL.again hw S (.cons .here .nil) le
            refine h_back ⟨fun _ => hw, ?_⟩
            refine h_run' S rfl trivial ?_
            refine s_stR S (ty' := (Ty.arr .u64 4)) (i := (wr .i64 ((wr .i64 (t1 - 1)) - x2))) (off := 0) (u := gt x1 (wr .i64 (t1 - 1))) (fun (c : Unit) => ()) rfl rfl rfl hA4 (.there .here) T27 c4.1 c4.2 rfl (by decide) rfl (fun _ => rfl) ?_; clear S; intro w S
            refine h_back ⟨fun h => (nomatch h), ?_⟩
            refine h_done ?_; clear CL hw le
            refine x_thenN ?_
            exact j2 _ a w (S.sub trivial (.cons .here (.cons .here .nil))) h4
          refine h_runO S rfl trivial ?_ ?_
          · refine s_ldRA S (ty' := (Ty.arr .u64 4)) (i := (wr .i64 (t1 - 1))) (off := 0) (fun (c : Unit) => [.ints .u64 (gt x1 (wr .i64 (t1 - 1))) 4]) rfl hA2 (.there .here) T27 c3.1 c3.2 rfl (fun _ => rfl) rfl ?_; clear S a; intro ch2 a S
            replace hw := CL.again hw S (.cons .here .nil) le
            refine h_back ⟨fun _ => hw, ?_⟩
            refine h_run' S rfl trivial ?_
            refine s_ldRA S (ty' := (Ty.arr .u64 4)) (i := (wr .i64 ((wr .i64 (t1 - 1)) - x2))) (off := 0) (fun (c : Unit) => [.ints .u64 (gt x1 (wr .i64 ((wr .i64 (t1 - 1)) - x2))) 4]) rfl hA1 (.there .here) T27 c2.1 c2.2 rfl (fun _ => rfl) rfl ?_; clear S a; intro ch3 a S
            replace hw := CL.again hw S (.cons .here .nil) le
            refine h_back ⟨fun _ => hw, ?_⟩
            refine h_run' S rfl trivial ?_
            refine s_iaddrO S (ty' := (Ty.arr .u64 4)) rfl (.there .here) rfl Try.underlying42 T27 c3.1 c3.2 rfl ?_; clear S a; intro g3 a hA3 S
            replace hw := CL.again hw S (.cons .here .nil) le
            refine h_back ⟨fun _ => hw, ?_⟩
            refine h_run' S rfl trivial ?_
            refine s_stR S (ty' := (Ty.arr .u64 4)) (i := (wr .i64 (t1 - 1))) (off := 0) (u := gt x1 (wr .i64 ((wr .i64 (t1 - 1)) - x2))) (fun (c : Unit) => ()) rfl rfl rfl hA3 (.there .here) T27 c3.1 c3.2 rfl (by decide) rfl (fun _ => rfl) ?_; clear S; intro w S
            replace hw := CL.again hw S (.cons .here .nil) le
            refine h_back ⟨fun _ => hw, ?_⟩
            refine h_run' S rfl trivial ?_
            refine s_iaddrO S (ty' := (Ty.arr .u64 4)) rfl (.there .here) rfl Try.underlying42 T27 c4.1 c4.2 rfl ?_; clear S a; intro g4 a hA4 S
            replace hw := CL.again hw S (.cons .here .nil) le
            refine h_back ⟨fun _ => hw, ?_⟩
            refine h_run' S rfl trivial ?_
            refine s_stR S (ty' := (Ty.arr .u64 4)) (i := (wr .i64 ((wr .i64 (t1 - 1)) - x2))) (off := 0) (u := gt x1 (wr .i64 (t1 - 1))) (fun (c : Unit) => ()) rfl rfl rfl hA4 (.there .here) T27 c4.1 c4.2 rfl (by decide) rfl (fun _ => rfl) ?_; clear S; intro w S
            refine h_back ⟨fun h => (nomatch h), ?_⟩
            refine h_done ?_; clear CL hw le
            refine x_thenN ?_
            exact j2 _ a w (S.sub trivial (.cons .here (.cons .here .nil))) h4
          exact h_nil
        exact h_nil
      refine h_runO S rfl trivial ?_ ?_
      · refine s_iaddrO S (ty' := (Ty.arr .u64 4)) rfl (.there .here) rfl Try.underlying42 T27 c3.1 c3.2 rfl ?_; clear S a; intro g1 a hA1 S
        replace hw := CL.again hw S (.cons .here .nil) le
        refine h_back ⟨fun _ => hw, ?_⟩
        refine h_alts ?_
        refine h_runO S rfl trivial ?_ ?_
        · refine s_iaddrO S (ty' := (Ty.arr .u64 4)) rfl (.there .here) rfl Try.underlying42 T27 c2.1 c2.2 rfl ?_; clear S a; intro g2 a hA2 S
          replace hw := CL.again hw S (.cons .here .nil) le
          refine h_back ⟨fun _ => hw, ?_⟩
          refine h_alts ?_
          refine h_runO S rfl trivial ?_ ?_
          · refine s_ldRA S (ty' := (Ty.arr .u64 4)) (i := (wr .i64 ((wr .i64 (t1 - 1)) - x2))) (off := 0) (fun (c : Unit) => [.ints .u64 (gt x1 (wr .i64 ((wr .i64 (t1 - 1)) - x2))) 4]) rfl hA2 (.there .here) T27 c2.1 c2.2 rfl (fun _ => rfl) rfl ?_; clear S a; intro ch2 a S
            replace hw := CL.again hw S (.cons .here .nil) le
            refine h_back ⟨fun _ => hw, ?_⟩
            refine h_run' S rfl trivial ?_
            refine s_ldRA S (ty' := (Ty.arr .u64 4)) (i := (wr .i64 (t1 - 1))) (off := 0) (fun (c : Unit) => [.ints .u64 (gt x1 (wr .i64 (t1 - 1))) 4]) rfl hA1 (.there .here) T27 c3.1 c3.2 rfl (fun _ => rfl) rfl ?_; clear S a; intro ch3 a S
            replace hw := CL.again hw S (.cons .here .nil) le
            refine h_back ⟨fun _ => hw, ?_⟩
            refine h_run' S rfl trivial ?_
            refine s_iaddrO S (ty' := (Ty.arr .u64 4)) rfl (.there .here) rfl Try.underlying42 T27 c3.1 c3.2 rfl ?_; clear S a; intro g3 a hA3 S
            replace hw := CL.again hw S (.cons .here .nil) le
            refine h_back ⟨fun _ => hw, ?_⟩
            refine h_run' S rfl trivial ?_
            refine s_stR S (ty' := (Ty.arr .u64 4)) (i := (wr .i64 (t1 - 1))) (off := 0) (u := gt x1 (wr .i64 ((wr .i64 (t1 - 1)) - x2))) (fun (c : Unit) => ()) rfl rfl rfl hA3 (.there .here) T27 c3.1 c3.2 rfl (by decide) rfl (fun _ => rfl) ?_; clear S; intro w S
            replace hw := CL.again hw S (.cons .here .nil) le
            refine h_back ⟨fun _ => hw, ?_⟩
            refine h_run' S rfl trivial ?_
            refine s_iaddrO S (ty' := (Ty.arr .u64 4)) rfl (.there .here) rfl Try.underlying42 T27 c4.1 c4.2 rfl ?_; clear S a; intro g4 a hA4 S
            replace hw := CL.again hw S (.cons .here .nil) le
            refine h_back ⟨fun _ => hw, ?_⟩
            refine h_run' S rfl trivial ?_
            refine s_stR S (ty' := (Ty.arr .u64 4)) (i := (wr .i64 ((wr .i64 (t1 - 1)) - x2))) (off := 0) (u := gt x1 (wr .i64 (t1 - 1))) (fun (c : Unit) => ()) rfl rfl rfl hA4 (.there .here) T27 c4.1 c4.2 rfl (by decide) rfl (fun _ => rfl) ?_; clear S; intro w S
            refine h_back ⟨fun h => (nomatch h), ?_⟩
            refine h_done ?_; clear CL hw le
            refine x_thenN ?_
            exact j2 _ a w (S.sub trivial (.cons .here (.cons .here .nil))) h4
          refine h_runO S rfl trivial ?_ ?_
          · refine s_ldRA S (ty' := (Ty.arr .u64 4)) (i := (wr .i64 (t1 - 1))) (off := 0) (fun (c : Unit) => [.ints .u64 (gt x1 (wr .i64 (t1 - 1))) 4]) rfl hA1 (.there .here) T27 c3.1 c3.2 rfl (fun _ => rfl) rfl ?_; clear S a; intro ch2 a S
            replace hw := CL.again hw S (.cons .here .nil) le
            refine h_back ⟨fun _ => hw, ?_⟩
            refine h_run' S rfl trivial ?_
            refine s_ldRA S (ty' := (Ty.arr .u64 4)) (i := (wr .i64 ((wr .i64 (t1 - 1)) - x2))) (off := 0) (fun (c : Unit) => [.ints .u64 (gt x1 (wr .i64 ((wr .i64 (t1 - 1)) - x2))) 4]) rfl hA2 (.there .here) T27 c2.1 c2.2 rfl (fun _ => rfl) rfl ?_; clear S a; intro ch3 a S
            replace hw := CL.again hw S (.cons .here .nil) le
            refine h_back ⟨fun _ => hw, ?_⟩
            refine h_run' S rfl trivial ?_
            refine s_iaddrO S (ty' := (Ty.arr .u64 4)) rfl (.there .here) rfl Try.underlying42 T27 c3.1 c3.2 rfl ?_; clear S a; intro g3 a hA3 S
            replace hw := CL.again hw S (.cons .here .nil) le
            refine h_back ⟨fun _ => hw, ?_⟩
            refine h_run' S rfl trivial ?_
            refine s_stR S (ty' := (Ty.arr .u64 4)) (i := (wr .i64 (t1 - 1))) (off := 0) (u := gt x1 (wr .i64 ((wr .i64 (t1 - 1)) - x2))) (fun (c : Unit) => ()) rfl rfl rfl hA3 (.there .here) T27 c3.1 c3.2 rfl (by decide) rfl (fun _ => rfl) ?_; clear S; intro w S
            replace hw := CL.again hw S (.cons .here .nil) le
            refine h_back ⟨fun _ => hw, ?_⟩
            refine h_run' S rfl trivial ?_
            refine s_iaddrO S (ty' := (Ty.arr .u64 4)) rfl (.there .here) rfl Try.underlying42 T27 c4.1 c4.2 rfl ?_; clear S a; intro g4 a hA4 S
            replace hw := CL.again hw S (.cons .here .nil) le
            refine h_back ⟨fun _ => hw, ?_⟩
            refine h_run' S rfl trivial ?_
            refine s_stR S (ty' := (Ty.arr .u64 4)) (i := (wr .i64 ((wr .i64 (t1 - 1)) - x2))) (off := 0) (u := gt x1 (wr .i64 (t1 - 1))) (fun (c : Unit) => ()) rfl rfl rfl hA4 (.there .here) T27 c4.1 c4.2 rfl (by decide) rfl (fun _ => rfl) ?_; clear S; intro w S
            refine h_back ⟨fun h => (nomatch h), ?_⟩
            refine h_done ?_; clear CL hw le
            refine x_thenN ?_
            exact j2 _ a w (S.sub trivial (.cons .here (.cons .here .nil))) h4
          exact h_nil
        refine h_runO S rfl trivial ?_ ?_
        · refine s_ldRA S (ty' := (Ty.arr .u64 4)) (i := (wr .i64 (t1 - 1))) (off := 0) (fun (c : Unit) => [.ints .u64 (gt x1 (wr .i64 (t1 - 1))) 4]) rfl hA1 (.there .here) T27 c3.1 c3.2 rfl (fun _ => rfl) rfl ?_; clear S a; intro ch2 a S
          replace hw := CL.again hw S (.cons .here .nil) le
          refine h_back ⟨fun _ => hw, ?_⟩
          refine h_run' S rfl trivial ?_
          refine s_iaddrO S (ty' := (Ty.arr .u64 4)) rfl (.there .here) rfl Try.underlying42 T27 c2.1 c2.2 rfl ?_; clear S a; intro g2 a hA2 S
          replace hw := CL.again hw S (.cons .here .nil) le
          refine h_back ⟨fun _ => hw, ?_⟩
          refine h_run' S rfl trivial ?_
          refine s_ldRA S (ty' := (Ty.arr .u64 4)) (i := (wr .i64 ((wr .i64 (t1 - 1)) - x2))) (off := 0) (fun (c : Unit) => [.ints .u64 (gt x1 (wr .i64 ((wr .i64 (t1 - 1)) - x2))) 4]) rfl hA2 (.there .here) T27 c2.1 c2.2 rfl (fun _ => rfl) rfl ?_; clear S a; intro ch3 a S
          replace hw := CL.again hw S (.cons .here .nil) le
          refine h_back ⟨fun _ => hw, ?_⟩
          refine h_run' S rfl trivial ?_
          refine s_iaddrO S (ty' := (Ty.arr .u64 4)) rfl (.there .here) rfl Try.underlying42 T27 c3.1 c3.2 rfl ?_; clear S a; intro g3 a hA3 S
          replace hw := CL.again hw S (.cons .here .nil) le
          refine h_back ⟨fun _ => hw, ?_⟩
          refine h_run' S rfl trivial ?_
          refine s_stR S (ty' := (Ty.arr .u64 4)) (i := (wr .i64 (t1 - 1))) (off := 0) (u := gt x1 (wr .i64 ((wr .i64 (t1 - 1)) - x2))) (fun (c : Unit) => ()) rfl rfl rfl hA3 (.there .here) T27 c3.1 c3.2 rfl (by decide) rfl (fun _ => rfl) ?_; clear S; intro w S
          replace hw := CL.again hw S (.cons .here .nil) le
          refine h_back ⟨fun _ => hw, ?_⟩
          refine h_run' S rfl trivial ?_
          refine s_iaddrO S (ty' := (Ty.arr .u64 4)) rfl (.there .here) rfl Try.underlying42 T27 c4.1 c4.2 rfl ?_; clear S a; intro g4 a hA4 S
          replace hw := CL.again hw S (.cons .here .nil) le
          refine h_back ⟨fun _ => hw, ?_⟩
          refine h_run' S rfl trivial ?_
          refine s_stR S (ty' := (Ty.arr .u64 4)) (i := (wr .i64 ((wr .i64 (t1 - 1)) - x2))) (off := 0) (u := gt x1 (wr .i64 (t1 - 1))) (fun (c : Unit) => ()) rfl rfl rfl hA4 (.there .here) T27 c4.1 c4.2 rfl (by decide) rfl (fun _ => rfl) ?_; clear S; intro w S
          refine h_back ⟨fun h => (nomatch h), ?_⟩
          refine h_done ?_; clear CL hw le
          refine x_thenN ?_
          exact j2 _ a w (S.sub trivial (.cons .here (.cons .here .nil))) h4
        exact h_nil
      exact h_nil
  refine c_region' ?_
  refine s_move S rfl rfl ?_; clear S a; intro a S
  refine s_bin S rfl rfl rfl rfl ?_; clear S a; intro a S
  refine s_move S rfl rfl ?_; clear S a; intro a S
  rcases ite_of h1 with ⟨c5, h2⟩ | ⟨c5, h2⟩ <;> clear h1
  · refine s_gF S (b := (decide (x2 < 1))) rfl rfl c5 rfl ?_; clear S a; intro a S
    refine s_gF S (b := (decide (x2 < 1))) rfl rfl c5 rfl ?_; clear S a; intro a S
    refine s_gF S (b := (decide (x2 < 1))) rfl rfl c5 rfl ?_; clear S a; intro a S
    refine s_pick S (b := true) (hc_of rfl c5) rfl rfl ?_; clear S a; intro a S
    refine c_end' ?_
    refine x_thenN ?_
    exact j1 _ true a w (S.sub ⟨rfl, rfl, rfl, rfl, trivial⟩ (.cons .here (.cons .here .nil))) h2
  · refine s_gT S (b := (decide (x2 < 1))) rfl rfl c5 ?_
    refine s_move S rfl rfl ?_; clear S a; intro a S
    refine s_gT S (b := (decide (x2 < 1))) rfl rfl c5 ?_
    refine s_move S rfl rfl ?_; clear S a; intro a S
    refine s_gT S (b := (decide (x2 < 1))) rfl rfl c5 ?_
    refine s_bin S rfl rfl rfl rfl ?_; clear S a; intro a S
    refine s_pick S (b := false) (hc_of rfl c5) rfl rfl ?_; clear S a; intro a S
    refine c_end' ?_
    refine x_thenN ?_
    exact j1 _ (decide ((wr .i64 (t1 - 1)) < x2)) a w (S.sub ⟨rfl, rfl, rfl, rfl, trivial⟩ (.cons .here (.cons .here .nil))) h2
/-! smithy/smithylaw10.MemBack -/
abbrev smithylaw10_MemBack.Ty : Type := (List (List Int)) → Int → Option Bool
def smithylaw10_MemBack.Ctr (s : smithylaw10_MemBack.Ty) : Prop := ∀ (x1 : List (List Int)) (x2 : Int) (ch_0_0 : Option Addr) (ch_0_1 : Nat) (r : Bool) (h0 : s x1 x2 = some r) (mi : Mem) (w0 : World), okL mi [(.sl ch_0_0 (x1).length ch_0_1 (RdS (Ty.arr .u64 4) ch_0_0 x1)), (.v (.int .i64 x2))] → Pre mi [] w0 → Calls Try.prog 6 (([(.sl ch_0_0 (x1).length ch_0_1 (RdS (Ty.arr .u64 4) ch_0_0 x1)), (.v (.int .i64 x2))] : List D).map D.val).toArray w0 (RetX mi [] (fun (ch : Unit) => ((.v (.bool r)) : D)) (fun (ch : Unit) => []) w0)
def smithylaw10_MemBack.j4 (y12 : List (List Int)) : Option Bool := (smithylaw10_fixed.f).bind fun t7 => (if t7 = true then ((mem_Stack_Len.f (y12)).bind fun t8 => (some (t8 == 0))) else (some false))
def smithylaw10_MemBack.j5 (y17 : Int) (rec1 : Int → (List (List Int)) → Option Bool) (t11 : (List Int) × Bool × ((List (List Int)))) (y19 : Bool) : Option Bool := if y19 = true then (some false) else (rec1 (wr .i64 (y17 - 1)) t11.2.2)
def smithylaw10_MemBack.b1 (x1 : List (List Int)) (rec1 : Int → (List (List Int)) → Option Bool) (y17 : Int) (y18 : List (List Int)) : Option Bool := if (decide (0 ≤ y17)) = true then ((mem_Stack_Pop.f (y18)).bind fun t11 => (if (!t11.2.1) = true then (smithylaw10_MemBack.j5 y17 rec1 t11 true) else (if 0 ≤ y17 ∧ y17 < ((x1).length : Int) then (smithylaw10_MemBack.j5 y17 rec1 t11 (!(decide (t11.1 = gt x1 y17)))) else none))) else (smithylaw10_MemBack.j4 y18)
def smithylaw10_MemBack.l1 (x1 : List (List Int)) : Nat → Int → (List (List Int)) → Option Bool
  | 0, _, _ => none
  | q + 1, y17, y18 => smithylaw10_MemBack.b1 x1 (smithylaw10_MemBack.l1 x1 q) y17 y18
def smithylaw10_MemBack.j3 (k : Nat) (x1 : List (List Int)) (y4 : Bool) (y5 : List (List Int)) : Option Bool := if y4 = true then (some false) else (smithylaw10_MemBack.l1 x1 k (wr .i64 (((x1).length : Int) - 1)) y5)
def smithylaw10_MemBack.j2 (k : Nat) (x1 : List (List Int)) (x2 : Int) (y3 : List (List Int)) : Option Bool := (mem_Stack_Swap.f (y3) x2).bind fun t12 => (if t12.1 = true then ((mem_Stack_Swap.f (t12.2) x2).bind fun t13 => (smithylaw10_MemBack.j3 k x1 (!t13.1) t13.2)) else (smithylaw10_MemBack.j3 k x1 false t12.2))
def smithylaw10_MemBack.j6 (k : Nat) (x1 : List (List Int)) (x2 : Int) (t15 : (List Int) × Bool × ((List (List Int)))) (y20 : Bool) : Option Bool := if y20 = true then (some false) else (smithylaw10_MemBack.j2 k x1 x2 t15.2.2)
def smithylaw10_MemBack.j1 (k : Nat) (x1 : List (List Int)) (x2 : Int) (y1 : List (List Int)) : Option Bool := (mem_Stack_Dup.f (y1) x2).bind fun t14 => (if t14.1 = true then ((mem_Stack_Pop.f (t14.2)).bind fun t15 => (if (!t15.2.1) = true then (smithylaw10_MemBack.j6 k x1 x2 t15 true) else (if 0 ≤ (wr .i64 (((x1).length : Int) - x2)) ∧ (wr .i64 (((x1).length : Int) - x2)) < ((x1).length : Int) then (smithylaw10_MemBack.j6 k x1 x2 t15 (!(decide (t15.1 = gt x1 (wr .i64 (((x1).length : Int) - x2)))))) else none))) else (smithylaw10_MemBack.j2 k x1 x2 t14.2))
def smithylaw10_MemBack.b2 (k : Nat) (x1 : List (List Int)) (x2 : Int) (rec2 : Int → (List (List Int)) → Option Bool) (y22 : Int) (y23 : List (List Int)) : Option Bool := if (decide (y22 < ((x1).length : Int))) = true then (if 0 ≤ y22 ∧ y22 < ((x1).length : Int) then ((mem_Stack_Push.f (y23) (gt x1 y22)).bind fun t18 => (rec2 (wr .i64 (y22 + 1)) t18.2)) else none) else (smithylaw10_MemBack.j1 k x1 x2 y23)
def smithylaw10_MemBack.l2 (k : Nat) (x1 : List (List Int)) (x2 : Int) : Nat → Int → (List (List Int)) → Option Bool
  | 0, _, _ => none
  | q + 1, y22, y23 => smithylaw10_MemBack.b2 k x1 x2 (smithylaw10_MemBack.l2 k x1 x2 q) y22 y23
def smithylaw10_MemBack.f (k : Nat) (x1 : List (List Int)) (x2 : Int) : Option Bool := (mem_NewStack.f).bind fun t1 => (if (decide (1000 < ((x1).length : Int))) = true then ((smithylaw10_fixed.f).bind fun t2 => (some t2)) else (smithylaw10_MemBack.l2 k x1 x2 k 0 t1))
theorem smithylaw10_MemBack.ok (k : Nat) : smithylaw10_MemBack.Ctr (smithylaw10_MemBack.f k) := by
  intro x1 x2 ch_0_0 ch_0_1 r h0 mi w0 ok hm
  delta smithylaw10_MemBack.f at h0
  refine c_enterX (n := 94) [(.sl ch_0_0 (x1).length ch_0_1 (RdS (Ty.arr .u64 4) ch_0_0 x1)), (.v (.int .i64 x2))] (l := [(0, (.sl ch_0_0 (x1).length ch_0_1 (RdS (Ty.arr .u64 4) ch_0_0 x1))), (1, (.v (.int .i64 x2)))]) Try.func6 rfl rfl rfl rfl ok hm ?_
  clear ok hm
  intro b0 hb a S
  refine c_region ?_
  refine s_assign S rfl rfl ?_; clear S a; intro a S
  refine c_end ?_
  refine c_region ?_
  obtain ⟨t1, et1, h1⟩ := bind_of h0; clear h0
  refine s_callX S (ds' := []) (ds := []) [] [] (fun (ch : Nat × (Option Addr) × Nat × Nat) => ((.v (.pointer (some ⟨ch.1, 0, none⟩))) : D)) (fun (ch : Nat × (Option Addr) × Nat × Nat) => [Res.cells ch.1 75 [.one (.slice ch.2.1 ch.2.2.1 ch.2.2.2)], Res.row (Ty.arr .u64 4) 27 ch.2.1 ch.2.2.1 ch.2.2.2 t1]) (fun (ch : Nat × (Option Addr) × Nat × Nat) => [Res.cells ch.1 75 [.one (.slice ch.2.1 ch.2.2.1 ch.2.2.2)], Res.row (Ty.arr .u64 4) 27 ch.2.1 ch.2.2.1 ch.2.2.2 t1]) (fun _ => rfl) N21 rfl rfl (fun ok => ok) .nil rfl (mem_NewStack.ok t1 et1 _ _) ?_; clear S a; intro ch1 m le1 a w S
  refine s_assign S rfl rfl ?_; clear S a; intro a S
  refine c_end ?_
  refine wp_seq ?_
  refine c_region ?_
  refine s_move S rfl rfl ?_; clear S a; intro a S
  refine s_eqp S (b := false) rfl rfl Try.underlying43 rfl rfl ?_; clear S a; intro a S
  refine s_move S rfl rfl ?_; clear S a; intro a S
  refine s_gT S (b := false) rfl rfl rfl ?_
  refine s_move S rfl rfl ?_; clear S a; intro a S
  refine s_gT S (b := false) rfl rfl rfl ?_
  refine s_lenS S rfl Try.underlying42 rfl ?_; clear S a; intro a S
  refine s_gT S (b := false) rfl rfl rfl ?_
  refine s_bin S rfl rfl rfl rfl ?_; clear S a; intro a S
  refine s_pick S (b := false) (hc_of rfl rfl) rfl rfl ?_; clear S a; intro a S
  refine c_end ?_
  rcases ite_of h1 with ⟨c1, h2⟩ | ⟨c1, h2⟩ <;> clear h1
  · refine c_condT S rfl c1 ?_
    refine c_region ?_
    refine s_move S rfl rfl ?_; clear S a; intro a S
    refine s_nep S (b := true) rfl rfl Try.underlying43 rfl rfl ?_; clear S a; intro a S
    refine s_move S rfl rfl ?_; clear S a; intro a S
    refine s_gT S (b := true) rfl rfl rfl ?_
    obtain ⟨t2, et2, h3⟩ := bind_of h2; clear h2
    refine s_callX S (ds' := []) (ds := []) [] [Res.cells ch1.1 75 [.one (.slice ch1.2.1 ch1.2.2.1 ch1.2.2.2)], Res.row (Ty.arr .u64 4) 27 ch1.2.1 ch1.2.2.1 ch1.2.2.2 t1] (fun (ch : Unit) => ((.v (.bool t2)) : D)) (fun (ch : Unit) => []) (fun (ch : Unit) => [Res.cells ch1.1 75 [.one (.slice ch1.2.1 ch1.2.2.1 ch1.2.2.2)], Res.row (Ty.arr .u64 4) 27 ch1.2.1 ch1.2.2.1 ch1.2.2.2 t1]) (fun _ => rfl) N12 rfl rfl (fun ok => ok) (.cons .here (.cons .here .nil)) rfl (smithylaw10_fixed.ok t2 et2 _ _) ?_; clear S a w; intro ch2 m le1 a w S
    refine s_pick S (b := true) (hc_of rfl rfl) rfl rfl ?_; clear S a; intro a S
    refine s_assign S rfl rfl ?_; clear S a; intro a S
    refine c_end ?_
    refine wp_ret ?_
    refine x_thenR ?_
    obtain rfl := Option.some.inj h3
    exact b_ret1 (d := (.v (.bool t2))) S rfl rfl fun ok => S.retX (Hx := []) hb _ _ (() : Unit) .nil ok
  · refine c_condF S rfl c1 ?_
    refine wp_skip ?_
    refine x_thenN ?_
    refine wp_seq_k ?_
    intro K1 hK1
    have j1 : ∀ (m : Mem) (g1 : Nat) (A1 : Option Addr) (nn1 : Nat) (cp1 : Nat) (y1 : List (List Int)) (a : Act) (w : World), St 94 m b0 [(5, (.v (.pointer (some ⟨g1, 0, none⟩)))), (0, (.sl ch_0_0 (x1).length ch_0_1 (RdS (Ty.arr .u64 4) ch_0_0 x1))), (1, (.v (.int .i64 x2)))] [Res.cells g1 75 [.one (.slice A1 nn1 cp1)], Res.row (Ty.arr .u64 4) 27 A1 nn1 cp1 y1] a w → smithylaw10_MemBack.j1 k x1 x2 y1 = some r → K1 a w := by
      intro m g1 A1 nn1 cp1 y1 a w S h0
      delta smithylaw10_MemBack.j1 at h0
      refine hK1 a w ?_
      refine wp_seq_k ?_
      intro K2 hK2
      have j2 : ∀ (m : Mem) (g4 : Nat) (A2 : Option Addr) (nn3 : Nat) (cp3 : Nat) (y3 : List (List Int)) (a : Act) (w : World), St 94 m b0 [(5, (.v (.pointer (some ⟨g4, 0, none⟩)))), (0, (.sl ch_0_0 (x1).length ch_0_1 (RdS (Ty.arr .u64 4) ch_0_0 x1))), (1, (.v (.int .i64 x2)))] [Res.cells g4 75 [.one (.slice A2 nn3 cp3)], Res.row (Ty.arr .u64 4) 27 A2 nn3 cp3 y3] a w → smithylaw10_MemBack.j2 k x1 x2 y3 = some r → K2 a w := by
        intro m g4 A2 nn3 cp3 y3 a w S h0
        delta smithylaw10_MemBack.j2 at h0
        refine hK2 a w ?_
        refine wp_seq ?_
        refine wp_seq_k ?_
        intro K3 hK3
        have j3 : ∀ (m : Mem) (y4 : Bool) (g5 : Nat) (A3 : Option Addr) (nn4 : Nat) (cp4 : Nat) (y5 : List (List Int)) (a : Act) (w : World), St 94 m b0 [(65, (.v (.bool y4))), (5, (.v (.pointer (some ⟨g5, 0, none⟩)))), (0, (.sl ch_0_0 (x1).length ch_0_1 (RdS (Ty.arr .u64 4) ch_0_0 x1)))] [Res.cells g5 75 [.one (.slice A3 nn4 cp4)], Res.row (Ty.arr .u64 4) 27 A3 nn4 cp4 y5] a w → smithylaw10_MemBack.j3 k x1 y4 y5 = some r → K3 a w := by
          intro m y4 g5 A3 nn4 cp4 y5 a w S h0
          delta smithylaw10_MemBack.j3 at h0
          refine hK3 a w ?_
          rcases ite_of h0 with ⟨c2, h1⟩ | ⟨c2, h1⟩ <;> clear h0
          · refine c_condT S rfl c2 ?_
            refine c_region ?_
            refine s_assign S rfl rfl ?_; clear S a; intro a S
            refine c_end ?_
            refine wp_ret ?_
            refine x_thenR ?_
            obtain rfl := Option.some.inj h1
            exact b_ret1 (d := (.v (.bool false))) S rfl rfl fun ok => S.retX (Hx := []) hb _ _ (() : Unit) .nil ok
          · refine c_condF S rfl c2 ?_
            refine wp_skip ?_
            refine x_thenN ?_
            refine wp_seq_k ?_
            intro K4 hK4
            have j4 : ∀ (m : Mem) (g13 : Nat) (A4 : Option Addr) (nn9 : Nat) (cp9 : Nat) (y12 : List (List Int)) (a : Act) (w : World), St 94 m b0 [(5, (.v (.pointer (some ⟨g13, 0, none⟩))))] [Res.cells g13 75 [.one (.slice A4 nn9 cp9)], Res.row (Ty.arr .u64 4) 27 A4 nn9 cp9 y12] a w → smithylaw10_MemBack.j4 y12 = some r → K4 a w := by
              intro m g13 A4 nn9 cp9 y12 a w S h0
              delta smithylaw10_MemBack.j4 at h0
              refine hK4 a w ?_
              refine c_region ?_
              obtain ⟨t7, et7, h1⟩ := bind_of h0; clear h0
              refine s_callX S (ds' := []) (ds := []) [] [Res.cells g13 75 [.one (.slice A4 nn9 cp9)], Res.row (Ty.arr .u64 4) 27 A4 nn9 cp9 y12] (fun (ch : Unit) => ((.v (.bool t7)) : D)) (fun (ch : Unit) => []) (fun (ch : Unit) => [Res.cells g13 75 [.one (.slice A4 nn9 cp9)], Res.row (Ty.arr .u64 4) 27 A4 nn9 cp9 y12]) (fun _ => rfl) N12 rfl rfl (fun ok => ok) (.cons .here (.cons .here .nil)) rfl (smithylaw10_fixed.ok t7 et7 _ _) ?_; clear S a w; intro ch6 m le1 a w S
              refine s_move S rfl rfl ?_; clear S a; intro a S
              rcases ite_of h1 with ⟨c3, h2⟩ | ⟨c3, h2⟩ <;> clear h1
              · refine s_gT S (b := t7) rfl rfl c3 ?_
                refine s_move S rfl rfl ?_; clear S a; intro a S
                refine s_gT S (b := t7) rfl rfl c3 ?_
                obtain ⟨t8, et8, h3⟩ := bind_of h2; clear h2
                refine s_callX S (ds' := [(.v (.pointer (some ⟨g13, 0, none⟩)))]) (ds := [(.v (.pointer (some ⟨g13, 0, none⟩)))]) [Res.cells g13 75 [.one (.slice A4 nn9 cp9)], Res.row (Ty.arr .u64 4) 27 A4 nn9 cp9 y12] [] (fun (ch : Unit) => ((.v (.int .i64 t8)) : D)) (fun (ch : Unit) => [Res.cells g13 75 [.one (.slice A4 nn9 cp9)], Res.row (Ty.arr .u64 4) 27 A4 nn9 cp9 y12]) (fun (ch : Unit) => [Res.cells g13 75 [.one (.slice A4 nn9 cp9)], Res.row (Ty.arr .u64 4) 27 A4 nn9 cp9 y12]) (fun _ => rfl) N26 rfl rfl (fun ok => ok) (.cons .here (.cons .here .nil)) rfl (mem_Stack_Len.ok (y12) g13 A4 nn9 cp9 t8 et8 _ _) ?_; clear S a w; intro ch7 m le1 a w S
                refine s_gT S (b := t7) rfl rfl c3 ?_
                refine s_bin S rfl rfl rfl rfl ?_; clear S a; intro a S
                refine s_pick S (b := true) (hc_of rfl c3) rfl rfl ?_; clear S a; intro a S
                refine s_assign S rfl rfl ?_; clear S a; intro a S
                refine c_end ?_
                refine wp_ret ?_
                obtain rfl := Option.some.inj h3
                exact b_ret1 (d := (.v (.bool (t8 == 0)))) S rfl rfl fun ok => S.retX (Hx := []) hb _ _ (() : Unit) .nil ok
              · refine s_gF S (b := t7) rfl rfl c3 rfl ?_; clear S a; intro a S
                refine s_gF S (b := t7) rfl rfl c3 rfl ?_; clear S a; intro a S
                refine s_gF S (b := t7) rfl rfl c3 rfl ?_; clear S a; intro a S
                refine s_pick S (b := false) (hc_of rfl c3) rfl rfl ?_; clear S a; intro a S
                refine s_assign S rfl rfl ?_; clear S a; intro a S
                refine c_end ?_
                refine wp_ret ?_
                obtain rfl := Option.some.inj h2
                exact b_ret1 (d := (.v (.bool false))) S rfl rfl fun ok => S.retX (Hx := []) hb _ _ (() : Unit) .nil ok
            refine c_region ?_
            refine s_move S rfl rfl ?_; clear S a; intro a S
            refine s_lenS S rfl Try.underlying42 rfl ?_; clear S a; intro a S
            refine s_bin S rfl rfl rfl rfl ?_; clear S a; intro a S
            refine s_assign S rfl rfl ?_; clear S a; intro a S
            refine c_end ?_
            refine wp_block ?_
            refine c_loop (fun q1 a w => ∃ (m : Mem) (y17 : Int) (g20 : Nat) (A5 : Option Addr) (nn13 : Nat) (cp13 : Nat) (y18 : List (List Int)), St 94 m b0 [(10, (.v (.int .i64 y17))), (5, (.v (.pointer (some ⟨g20, 0, none⟩)))), (0, (.sl ch_0_0 (x1).length ch_0_1 (RdS (Ty.arr .u64 4) ch_0_0 x1)))] [Res.cells g20 75 [.one (.slice A5 nn13 cp13)], Res.row (Ty.arr .u64 4) 27 A5 nn13 cp13 y18] a w ∧ smithylaw10_MemBack.l1 x1 q1 y17 y18 = some r) ?_ ?_ (k := k) ⟨_, (wr .i64 (((x1).length : Int) - 1)), g5, A3, nn4, cp4, y5, (S.sub ⟨rfl, rfl, rfl, trivial⟩ (.cons .here (.cons .here .nil))), h1⟩
            · rintro a w ⟨m, y17, g20, A5, nn13, cp13, y18, S, h0⟩
              exact (nomatch (show (none : Option Bool) = some r from h0))
            · clear S h1
              rintro q1 a w ⟨m, y17, g20, A5, nn13, cp13, y18, S, h0⟩
              replace h0 : smithylaw10_MemBack.b1 x1 (smithylaw10_MemBack.l1 x1 q1) y17 y18 = some r := h0
              delta smithylaw10_MemBack.b1 at h0
              refine wp_seq ?_
              refine c_region ?_
              refine s_move S rfl rfl ?_; clear S a; intro a S
              refine s_bin S rfl rfl rfl rfl ?_; clear S a; intro a S
              refine c_end ?_
              rcases ite_of h0 with ⟨c4, h1⟩ | ⟨c4, h1⟩ <;> clear h0
              · refine c_condT S rfl c4 ?_
                refine wp_skip ?_
                refine x_thenN ?_
                refine wp_seq ?_
                refine wp_block ?_
                refine c_region ?_
                refine s_move S rfl rfl ?_; clear S a; intro a S
                obtain ⟨t11, et11, h2⟩ := bind_of h1; clear h1
                refine s_callX S (ds' := [(.v (.pointer (some ⟨g20, 0, none⟩)))]) (ds := [(.v (.pointer (some ⟨g20, 0, none⟩)))]) [Res.cells g20 75 [.one (.slice A5 nn13 cp13)], Res.row (Ty.arr .u64 4) 27 A5 nn13 cp13 y18] [] (fun (ch : (Option Addr) × Nat × Nat) => ((.tup [(true, [.ints .u64 t11.1 4]), (false, [.one (.bool t11.2.1)])]) : D)) (fun (ch : (Option Addr) × Nat × Nat) => [Res.cells g20 75 [.one (.slice ch.1 ch.2.1 ch.2.2)], Res.row (Ty.arr .u64 4) 27 ch.1 ch.2.1 ch.2.2 t11.2.2]) (fun (ch : (Option Addr) × Nat × Nat) => [Res.cells g20 75 [.one (.slice ch.1 ch.2.1 ch.2.2)], Res.row (Ty.arr .u64 4) 27 ch.1 ch.2.1 ch.2.2 t11.2.2]) (fun _ => rfl) N24 rfl rfl (fun ok => ok) (.cons .here (.cons .here .nil)) rfl (mem_Stack_Pop.ok (y18) g20 A5 nn13 cp13 t11 et11 _ _) ?_; clear S a w; intro ch8 m le1 a w S
                refine s_move S rfl rfl ?_; clear S a; intro a S
                refine s_extract S rfl rfl rfl rfl ?_; clear S a; intro a S
                refine s_extract S rfl rfl rfl rfl ?_; clear S a; intro a S
                refine s_alloc S Z27 rfl ⟨rfl, trivial⟩ rfl ?_; clear S a w; intro g21 a w S
                refine s_store S rfl rfl rfl (s' := [.ints .u64 t11.1 4]) .here T27 rfl rfl ?_; clear S w; intro w S
                refine s_assign S rfl rfl ?_; clear S a; intro a S
                refine c_end ?_
                refine wp_seq_k ?_
                intro K5 hK5
                have j5 : ∀ (m : Mem) (y19 : Bool) (g22 : Nat) (A6 : Option Addr) (nn14 : Nat) (cp14 : Nat) (a : Act) (w : World), St 94 m b0 [(87, (.v (.bool y19))), (10, (.v (.int .i64 y17))), (5, (.v (.pointer (some ⟨g22, 0, none⟩)))), (0, (.sl ch_0_0 (x1).length ch_0_1 (RdS (Ty.arr .u64 4) ch_0_0 x1)))] [Res.cells g22 75 [.one (.slice A6 nn14 cp14)], Res.row (Ty.arr .u64 4) 27 A6 nn14 cp14 t11.2.2] a w → smithylaw10_MemBack.j5 y17 (smithylaw10_MemBack.l1 x1 q1) t11 y19 = some r → K5 a w := by
                  intro m y19 g22 A6 nn14 cp14 a w S h0
                  delta smithylaw10_MemBack.j5 at h0
                  refine hK5 a w ?_
                  rcases ite_of h0 with ⟨c5, h1⟩ | ⟨c5, h1⟩ <;> clear h0
                  · refine c_condT S rfl c5 ?_
                    refine c_region ?_
                    refine s_assign S rfl rfl ?_; clear S a; intro a S
                    refine c_end ?_
                    refine wp_ret ?_
                    refine x_blockR ?_
                    refine x_thenR ?_
                    refine x_thenR ?_
                    refine x_blockR ?_
                    refine x_thenR ?_
                    obtain rfl := Option.some.inj h1
                    exact b_ret1 (d := (.v (.bool false))) S rfl rfl fun ok => S.retX (Hx := []) hb _ _ (() : Unit) .nil ok
                  · refine c_condF S rfl c5 ?_
                    refine wp_skip ?_
                    refine x_blockN ?_
                    refine x_thenN ?_
                    refine c_region' ?_
                    refine s_move S rfl rfl ?_; clear S a; intro a S
                    refine s_bin S rfl rfl rfl rfl ?_; clear S a; intro a S
                    refine s_assign S rfl rfl ?_; clear S a; intro a S
                    refine c_end' ?_
                    refine x_thenN ?_
                    exact ⟨_, (wr .i64 (y17 - 1)), g22, A6, nn14, cp14, t11.2.2, (S.sub ⟨rfl, rfl, rfl, trivial⟩ (.cons .here (.cons .here .nil))), h1⟩
                refine c_heldS S (.take 0 (.take 1 (.take 2 (.take 3 (.take 4 (.take 5 (.take 6 (.take 7 (.take 8 (.take 9 .done)))))))))) 10 [Res.cells g21 27 [.ints .u64 t11.1 4], Res.cells g20 75 [.one (.slice ch8.1 ch8.2.1 ch8.2.2)], Res.row (Ty.arr .u64 4) 27 ch8.1 ch8.2.1 ch8.2.2 t11.2.2] (.cons .here (.cons .here (.cons .here .nil))) ⟨Res.stay_cells, Res.stay_cells, Res.stay_row flat_arr, trivial⟩ [(12, (.v (.bool t11.2.1))), (11, (.v (.pointer (some ⟨g21, 0, none⟩)))), (10, (.v (.int .i64 y17))), (0, (.sl ch_0_0 (x1).length ch_0_1 (RdS (Ty.arr .u64 4) ch_0_0 x1)))] ⟨rfl, rfl, rfl, rfl, trivial⟩ (by kernel_rfl) (by kernel_rfl) ?_; clear S; intro w S CL hw le
                refine h_move S CL hw le ⟨rfl, rfl, rfl, rfl, trivial⟩ rfl rfl rfl trivial ?_; clear S CL a; intro a S CL
                refine h_not S CL hw le ⟨rfl, rfl, rfl, rfl, rfl, trivial⟩ rfl rfl rfl trivial ?_; clear S CL a; intro a S CL
                refine h_move S CL hw le ⟨rfl, rfl, rfl, rfl, rfl, rfl, trivial⟩ rfl rfl rfl trivial ?_; clear S CL a; intro a S CL
                rcases ite_of h2 with ⟨c6, h3⟩ | ⟨c6, h3⟩ <;> clear h2
                · refine h_skip S CL rfl rfl rfl (ne_bool c6) rfl ?_; clear S CL a; intro a S CL
                  refine h_skip S CL rfl rfl rfl (ne_bool c6) rfl ?_; clear S CL a; intro a S CL
                  refine h_skip S CL rfl rfl rfl (ne_bool c6) rfl ?_; clear S CL a; intro a S CL
                  refine h_skip S CL rfl rfl rfl (ne_bool c6) rfl ?_; clear S CL a; intro a S CL
                  refine h_skip S CL rfl rfl rfl (ne_bool c6) rfl ?_; clear S CL a; intro a S CL
                  refine h_skip S CL rfl rfl rfl (ne_bool c6) rfl ?_; clear S CL a; intro a S CL
                  refine h_pick S CL hw le ⟨rfl, rfl, rfl, rfl, rfl, rfl, rfl, rfl, rfl, rfl, rfl, rfl, rfl, trivial⟩ (b := true) (hc_of rfl c6) rfl rfl rfl trivial ?_; clear S CL a; intro a S CL
                  refine h_done ?_; clear CL hw le
                  refine x_thenN ?_
                  exact j5 _ true g20 ch8.1 ch8.2.1 ch8.2.2 a w (S.sub ⟨rfl, rfl, rfl, rfl, trivial⟩ (.cons (.there .here) (.cons (.there .here) .nil))) h3
                · refine h_loada S CL hw le ⟨rfl, rfl, rfl, rfl, rfl, rfl, rfl, trivial⟩ rfl .here T27 (s' := [.ints .u64 t11.1 4]) rfl rfl rfl ⟨_, _, rfl, rfl, c6⟩ ?_; clear S CL a; intro a S CL
                  refine h_move S CL hw le ⟨rfl, rfl, rfl, rfl, rfl, rfl, rfl, rfl, trivial⟩ rfl rfl rfl ⟨_, _, rfl, rfl, c6⟩ ?_; clear S CL a; intro a S CL
                  refine h_move S CL hw le ⟨rfl, rfl, rfl, rfl, rfl, rfl, rfl, rfl, rfl, trivial⟩ rfl rfl rfl ⟨_, _, rfl, rfl, c6⟩ ?_; clear S CL a; intro a S CL
                  obtain ⟨c7, h4⟩ := chk_of h3; clear h3
                  refine h_iaddrS S CL hw le ⟨rfl, rfl, rfl, rfl, rfl, rfl, rfl, rfl, rfl, rfl, trivial⟩ rfl rfl rfl Try.underlying42 T27 c7.1 c7.2 rfl rfl ⟨_, _, rfl, rfl, c6⟩ ?_; clear S CL a; intro p1 a S CL
                  refine h_ldA S CL hw le ⟨rfl, rfl, rfl, rfl, rfl, rfl, rfl, rfl, rfl, rfl, rfl, trivial⟩ (fun (c : Unit) => [.ints .u64 (gt x1 y17) 4]) rfl T27 (fun _ => rfl) rfl rfl ⟨_, _, rfl, rfl, c6⟩ ?_; clear S CL a; intro ch9 a S CL
                  refine h_nea S CL hw le ⟨rfl, rfl, rfl, rfl, rfl, rfl, rfl, rfl, rfl, rfl, rfl, rfl, trivial⟩ rfl rfl Try.underlying27 Try.underlying22 T22 Q27 rfl rfl ⟨_, _, rfl, rfl, c6⟩ ?_; clear S CL a; intro a S CL
                  refine h_pick S CL hw le ⟨rfl, rfl, rfl, rfl, rfl, rfl, rfl, rfl, rfl, rfl, rfl, rfl, rfl, trivial⟩ (b := false) (hc_of rfl c6) rfl rfl rfl trivial ?_; clear S CL a; intro a S CL
                  refine h_done ?_; clear CL hw le
                  refine x_thenN ?_
                  exact j5 _ (!(decide (t11.1 = gt x1 y17))) g20 ch8.1 ch8.2.1 ch8.2.2 a w (S.sub ⟨rfl, rfl, rfl, rfl, trivial⟩ (.cons (.there .here) (.cons (.there .here) .nil))) h4
              · refine c_condF S rfl c4 ?_
                refine wp_exit ?_
                refine x_thenX ?_
                refine x_thenX ?_
                refine x_blockX ?_
                refine x_thenN ?_
                exact j4 _ g20 A5 nn13 cp13 y18 a w (S.sub ⟨rfl, trivial⟩ (.cons .here (.cons .here .nil))) h1
        refine c_region' ?_
        refine s_move S rfl rfl ?_; clear S a; intro a S
        refine s_move S rfl rfl ?_; clear S a; intro a S
        obtain ⟨t12, et12, h1⟩ := bind_of h0; clear h0
        refine s_callX S (ds' := [(.v (.pointer (some ⟨g4, 0, none⟩))), (.v (.int .i64 x2))]) (ds := [(.v (.pointer (some ⟨g4, 0, none⟩))), (.v (.int .i64 x2))]) [Res.cells g4 75 [.one (.slice A2 nn3 cp3)], Res.row (Ty.arr .u64 4) 27 A2 nn3 cp3 y3] [] (fun (ch : (Option Addr) × Nat × Nat) => ((.v (.bool t12.1)) : D)) (fun (ch : (Option Addr) × Nat × Nat) => [Res.cells g4 75 [.one (.slice ch.1 ch.2.1 ch.2.2)], Res.row (Ty.arr .u64 4) 27 ch.1 ch.2.1 ch.2.2 t12.2]) (fun (ch : (Option Addr) × Nat × Nat) => [Res.cells g4 75 [.one (.slice ch.1 ch.2.1 ch.2.2)], Res.row (Ty.arr .u64 4) 27 ch.1 ch.2.1 ch.2.2 t12.2]) (fun _ => rfl) N25 rfl rfl (fun ok => ok) (.cons .here (.cons .here .nil)) rfl (mem_Stack_Swap.ok (y3) x2 g4 A2 nn3 cp3 t12 et12 _ _) ?_; clear S a w; intro ch10 m le1 a w S
        refine s_move S rfl rfl ?_; clear S a; intro a S
        rcases ite_of h1 with ⟨c8, h2⟩ | ⟨c8, h2⟩ <;> clear h1
        · refine s_gT S (b := t12.1) rfl rfl c8 ?_
          refine s_move S rfl rfl ?_; clear S a; intro a S
          refine s_gT S (b := t12.1) rfl rfl c8 ?_
          refine s_move S rfl rfl ?_; clear S a; intro a S
          refine s_gT S (b := t12.1) rfl rfl c8 ?_
          obtain ⟨t13, et13, h3⟩ := bind_of h2; clear h2
          refine s_callX S (ds' := [(.v (.pointer (some ⟨g4, 0, none⟩))), (.v (.int .i64 x2))]) (ds := [(.v (.pointer (some ⟨g4, 0, none⟩))), (.v (.int .i64 x2))]) [Res.cells g4 75 [.one (.slice ch10.1 ch10.2.1 ch10.2.2)], Res.row (Ty.arr .u64 4) 27 ch10.1 ch10.2.1 ch10.2.2 t12.2] [] (fun (ch : (Option Addr) × Nat × Nat) => ((.v (.bool t13.1)) : D)) (fun (ch : (Option Addr) × Nat × Nat) => [Res.cells g4 75 [.one (.slice ch.1 ch.2.1 ch.2.2)], Res.row (Ty.arr .u64 4) 27 ch.1 ch.2.1 ch.2.2 t13.2]) (fun (ch : (Option Addr) × Nat × Nat) => [Res.cells g4 75 [.one (.slice ch.1 ch.2.1 ch.2.2)], Res.row (Ty.arr .u64 4) 27 ch.1 ch.2.1 ch.2.2 t13.2]) (fun _ => rfl) N25 rfl rfl (fun ok => ok) (.cons .here (.cons .here .nil)) rfl (mem_Stack_Swap.ok (t12.2) x2 g4 ch10.1 ch10.2.1 ch10.2.2 t13 et13 _ _) ?_; clear S a w; intro ch11 m le1 a w S
          refine s_gT S (b := t12.1) rfl rfl c8 ?_
          refine s_not S rfl rfl ?_; clear S a; intro a S
          refine s_pick S (b := true) (hc_of rfl c8) rfl rfl ?_; clear S a; intro a S
          refine c_end' ?_
          refine x_thenN ?_
          exact j3 _ (!t13.1) g4 ch11.1 ch11.2.1 ch11.2.2 t13.2 a w (S.sub ⟨rfl, rfl, rfl, trivial⟩ (.cons .here (.cons .here .nil))) h3
        · refine s_gF S (b := t12.1) rfl rfl c8 rfl ?_; clear S a; intro a S
          refine s_gF S (b := t12.1) rfl rfl c8 rfl ?_; clear S a; intro a S
          refine s_gF S (b := t12.1) rfl rfl c8 rfl ?_; clear S a; intro a S
          refine s_gF S (b := t12.1) rfl rfl c8 rfl ?_; clear S a; intro a S
          refine s_pick S (b := false) (hc_of rfl c8) rfl rfl ?_; clear S a; intro a S
          refine c_end' ?_
          refine x_thenN ?_
          exact j3 _ false g4 ch10.1 ch10.2.1 ch10.2.2 t12.2 a w (S.sub ⟨rfl, rfl, rfl, trivial⟩ (.cons .here (.cons .here .nil))) h2
      refine c_region ?_
      refine s_move S rfl rfl ?_; clear S a; intro a S
      refine s_move S rfl rfl ?_; clear S a; intro a S
      obtain ⟨t14, et14, h1⟩ := bind_of h0; clear h0
      refine s_callX S (ds' := [(.v (.pointer (some ⟨g1, 0, none⟩))), (.v (.int .i64 x2))]) (ds := [(.v (.pointer (some ⟨g1, 0, none⟩))), (.v (.int .i64 x2))]) [Res.cells g1 75 [.one (.slice A1 nn1 cp1)], Res.row (Ty.arr .u64 4) 27 A1 nn1 cp1 y1] [] (fun (ch : (Option Addr) × Nat × Nat) => ((.v (.bool t14.1)) : D)) (fun (ch : (Option Addr) × Nat × Nat) => [Res.cells g1 75 [.one (.slice ch.1 ch.2.1 ch.2.2)], Res.row (Ty.arr .u64 4) 27 ch.1 ch.2.1 ch.2.2 t14.2]) (fun (ch : (Option Addr) × Nat × Nat) => [Res.cells g1 75 [.one (.slice ch.1 ch.2.1 ch.2.2)], Res.row (Ty.arr .u64 4) 27 ch.1 ch.2.1 ch.2.2 t14.2]) (fun _ => rfl) N23 rfl rfl (fun ok => ok) (.cons .here (.cons .here .nil)) rfl (mem_Stack_Dup.ok (y1) x2 g1 A1 nn1 cp1 t14 et14 _ _) ?_; clear S a w; intro ch12 m le1 a w S
      refine c_end ?_
      rcases ite_of h1 with ⟨c9, h2⟩ | ⟨c9, h2⟩ <;> clear h1
      · refine c_condT S rfl c9 ?_
        refine c_region ?_
        refine s_move S rfl rfl ?_; clear S a; intro a S
        obtain ⟨t15, et15, h3⟩ := bind_of h2; clear h2
        refine s_callX S (ds' := [(.v (.pointer (some ⟨g1, 0, none⟩)))]) (ds := [(.v (.pointer (some ⟨g1, 0, none⟩)))]) [Res.cells g1 75 [.one (.slice ch12.1 ch12.2.1 ch12.2.2)], Res.row (Ty.arr .u64 4) 27 ch12.1 ch12.2.1 ch12.2.2 t14.2] [] (fun (ch : (Option Addr) × Nat × Nat) => ((.tup [(true, [.ints .u64 t15.1 4]), (false, [.one (.bool t15.2.1)])]) : D)) (fun (ch : (Option Addr) × Nat × Nat) => [Res.cells g1 75 [.one (.slice ch.1 ch.2.1 ch.2.2)], Res.row (Ty.arr .u64 4) 27 ch.1 ch.2.1 ch.2.2 t15.2.2]) (fun (ch : (Option Addr) × Nat × Nat) => [Res.cells g1 75 [.one (.slice ch.1 ch.2.1 ch.2.2)], Res.row (Ty.arr .u64 4) 27 ch.1 ch.2.1 ch.2.2 t15.2.2]) (fun _ => rfl) N24 rfl rfl (fun ok => ok) (.cons .here (.cons .here .nil)) rfl (mem_Stack_Pop.ok (t14.2) g1 ch12.1 ch12.2.1 ch12.2.2 t15 et15 _ _) ?_; clear S a w; intro ch13 m le1 a w S
        refine s_move S rfl rfl ?_; clear S a; intro a S
        refine s_extract S rfl rfl rfl rfl ?_; clear S a; intro a S
        refine s_extract S rfl rfl rfl rfl ?_; clear S a; intro a S
        refine s_alloc S Z27 rfl ⟨rfl, trivial⟩ rfl ?_; clear S a w; intro g23 a w S
        refine s_store S rfl rfl rfl (s' := [.ints .u64 t15.1 4]) .here T27 rfl rfl ?_; clear S w; intro w S
        refine s_assign S rfl rfl ?_; clear S a; intro a S
        refine c_end ?_
        refine wp_seq_k ?_
        intro K6 hK6
        have j6 : ∀ (m : Mem) (y20 : Bool) (g24 : Nat) (A7 : Option Addr) (nn15 : Nat) (cp15 : Nat) (a : Act) (w : World), St 94 m b0 [(56, (.v (.bool y20))), (5, (.v (.pointer (some ⟨g24, 0, none⟩)))), (0, (.sl ch_0_0 (x1).length ch_0_1 (RdS (Ty.arr .u64 4) ch_0_0 x1))), (1, (.v (.int .i64 x2)))] [Res.cells g24 75 [.one (.slice A7 nn15 cp15)], Res.row (Ty.arr .u64 4) 27 A7 nn15 cp15 t15.2.2] a w → smithylaw10_MemBack.j6 k x1 x2 t15 y20 = some r → K6 a w := by
          intro m y20 g24 A7 nn15 cp15 a w S h0
          delta smithylaw10_MemBack.j6 at h0
          refine hK6 a w ?_
          rcases ite_of h0 with ⟨c10, h1⟩ | ⟨c10, h1⟩ <;> clear h0
          · refine c_condT S rfl c10 ?_
            refine c_region ?_
            refine s_assign S rfl rfl ?_; clear S a; intro a S
            refine c_end ?_
            refine wp_ret ?_
            refine x_thenR ?_
            obtain rfl := Option.some.inj h1
            exact b_ret1 (d := (.v (.bool false))) S rfl rfl fun ok => S.retX (Hx := []) hb _ _ (() : Unit) .nil ok
          · refine c_condF S rfl c10 ?_
            refine wp_skip ?_
            refine x_thenN ?_
            exact j2 _ g24 A7 nn15 cp15 t15.2.2 a w (S.sub ⟨rfl, rfl, rfl, trivial⟩ (.cons .here (.cons .here .nil))) h1
        refine c_heldS S (.take 0 (.take 1 (.take 2 (.take 3 (.take 4 (.take 5 (.take 6 (.take 7 (.take 8 (.take 9 (.take 10 (.take 11 (.take 12 .done))))))))))))) 13 [Res.cells g23 27 [.ints .u64 t15.1 4], Res.cells g1 75 [.one (.slice ch13.1 ch13.2.1 ch13.2.2)], Res.row (Ty.arr .u64 4) 27 ch13.1 ch13.2.1 ch13.2.2 t15.2.2] (.cons .here (.cons .here (.cons .here .nil))) ⟨Res.stay_cells, Res.stay_cells, Res.stay_row flat_arr, trivial⟩ [(9, (.v (.bool t15.2.1))), (8, (.v (.pointer (some ⟨g23, 0, none⟩)))), (0, (.sl ch_0_0 (x1).length ch_0_1 (RdS (Ty.arr .u64 4) ch_0_0 x1))), (1, (.v (.int .i64 x2)))] ⟨rfl, rfl, rfl, rfl, trivial⟩ (by kernel_rfl) (by kernel_rfl) ?_; clear S; intro w S CL hw le
        refine h_move S CL hw le ⟨rfl, rfl, rfl, rfl, trivial⟩ rfl rfl rfl trivial ?_; clear S CL a; intro a S CL
        refine h_not S CL hw le ⟨rfl, rfl, rfl, rfl, rfl, trivial⟩ rfl rfl rfl trivial ?_; clear S CL a; intro a S CL
        refine h_move S CL hw le ⟨rfl, rfl, rfl, rfl, rfl, rfl, trivial⟩ rfl rfl rfl trivial ?_; clear S CL a; intro a S CL
        rcases ite_of h3 with ⟨c11, h4⟩ | ⟨c11, h4⟩ <;> clear h3
        · refine h_skip S CL rfl rfl rfl (ne_bool c11) rfl ?_; clear S CL a; intro a S CL
          refine h_skip S CL rfl rfl rfl (ne_bool c11) rfl ?_; clear S CL a; intro a S CL
          refine h_skip S CL rfl rfl rfl (ne_bool c11) rfl ?_; clear S CL a; intro a S CL
          refine h_skip S CL rfl rfl rfl (ne_bool c11) rfl ?_; clear S CL a; intro a S CL
          refine h_skip S CL rfl rfl rfl (ne_bool c11) rfl ?_; clear S CL a; intro a S CL
          refine h_skip S CL rfl rfl rfl (ne_bool c11) rfl ?_; clear S CL a; intro a S CL
          refine h_skip S CL rfl rfl rfl (ne_bool c11) rfl ?_; clear S CL a; intro a S CL
          refine h_skip S CL rfl rfl rfl (ne_bool c11) rfl ?_; clear S CL a; intro a S CL
          refine h_skip S CL rfl rfl rfl (ne_bool c11) rfl ?_; clear S CL a; intro a S CL
          refine h_pick S CL hw le ⟨rfl, rfl, rfl, rfl, rfl, rfl, rfl, rfl, rfl, rfl, rfl, rfl, rfl, rfl, rfl, rfl, trivial⟩ (b := true) (hc_of rfl c11) rfl rfl rfl trivial ?_; clear S CL a; intro a S CL
          refine h_done ?_; clear CL hw le
          refine x_thenN ?_
          exact j6 _ true g1 ch13.1 ch13.2.1 ch13.2.2 a w (S.sub ⟨rfl, rfl, rfl, rfl, trivial⟩ (.cons (.there .here) (.cons (.there .here) .nil))) h4
        · refine h_loada S CL hw le ⟨rfl, rfl, rfl, rfl, rfl, rfl, rfl, trivial⟩ rfl .here T27 (s' := [.ints .u64 t15.1 4]) rfl rfl rfl ⟨_, _, rfl, rfl, c11⟩ ?_; clear S CL a; intro a S CL
          refine h_move S CL hw le ⟨rfl, rfl, rfl, rfl, rfl, rfl, rfl, rfl, trivial⟩ rfl rfl rfl ⟨_, _, rfl, rfl, c11⟩ ?_; clear S CL a; intro a S CL
          refine h_move S CL hw le ⟨rfl, rfl, rfl, rfl, rfl, rfl, rfl, rfl, rfl, trivial⟩ rfl rfl rfl ⟨_, _, rfl, rfl, c11⟩ ?_; clear S CL a; intro a S CL
          refine h_lenS S CL hw le ⟨rfl, rfl, rfl, rfl, rfl, rfl, rfl, rfl, rfl, rfl, trivial⟩ rfl Try.underlying42 rfl rfl ⟨_, _, rfl, rfl, c11⟩ ?_; clear S CL a; intro a S CL
          refine h_move S CL hw le ⟨rfl, rfl, rfl, rfl, rfl, rfl, rfl, rfl, rfl, rfl, rfl, trivial⟩ rfl rfl rfl ⟨_, _, rfl, rfl, c11⟩ ?_; clear S CL a; intro a S CL
          refine h_bin S CL hw le ⟨rfl, rfl, rfl, rfl, rfl, rfl, rfl, rfl, rfl, rfl, rfl, rfl, trivial⟩ rfl rfl rfl rfl rfl ⟨_, _, rfl, rfl, c11⟩ ?_; clear S CL a; intro a S CL
          obtain ⟨c12, h5⟩ := chk_of h4; clear h4
          refine h_iaddrS S CL hw le ⟨rfl, rfl, rfl, rfl, rfl, rfl, rfl, rfl, rfl, rfl, rfl, rfl, rfl, trivial⟩ rfl rfl rfl Try.underlying42 T27 c12.1 c12.2 rfl rfl ⟨_, _, rfl, rfl, c11⟩ ?_; clear S CL a; intro p3 a S CL
          refine h_ldA S CL hw le ⟨rfl, rfl, rfl, rfl, rfl, rfl, rfl, rfl, rfl, rfl, rfl, rfl, rfl, rfl, trivial⟩ (fun (c : Unit) => [.ints .u64 (gt x1 (wr .i64 (((x1).length : Int) - x2))) 4]) rfl T27 (fun _ => rfl) rfl rfl ⟨_, _, rfl, rfl, c11⟩ ?_; clear S CL a; intro ch14 a S CL
          refine h_nea S CL hw le ⟨rfl, rfl, rfl, rfl, rfl, rfl, rfl, rfl, rfl, rfl, rfl, rfl, rfl, rfl, rfl, trivial⟩ rfl rfl Try.underlying27 Try.underlying22 T22 Q27 rfl rfl ⟨_, _, rfl, rfl, c11⟩ ?_; clear S CL a; intro a S CL
          refine h_pick S CL hw le ⟨rfl, rfl, rfl, rfl, rfl, rfl, rfl, rfl, rfl, rfl, rfl, rfl, rfl, rfl, rfl, rfl, trivial⟩ (b := false) (hc_of rfl c11) rfl rfl rfl trivial ?_; clear S CL a; intro a S CL
          refine h_done ?_; clear CL hw le
          refine x_thenN ?_
          exact j6 _ (!(decide (t15.1 = gt x1 (wr .i64 (((x1).length : Int) - x2))))) g1 ch13.1 ch13.2.1 ch13.2.2 a w (S.sub ⟨rfl, rfl, rfl, rfl, trivial⟩ (.cons (.there .here) (.cons (.there .here) .nil))) h5
      · refine c_condF S rfl c9 ?_
        refine wp_skip ?_
        refine x_thenN ?_
        exact j2 _ g1 ch12.1 ch12.2.1 ch12.2.2 t14.2 a w (S.sub ⟨rfl, rfl, rfl, trivial⟩ (.cons .here (.cons .here .nil))) h2
    refine c_region ?_
    refine s_move S rfl rfl ?_; clear S a; intro a S
    refine s_lenS S rfl Try.underlying42 rfl ?_; clear S a; intro a S
    refine s_move S rfl rfl ?_; clear S a; intro a S
    refine c_end ?_
    refine wp_block ?_
    refine c_loop (fun q2 a w => ∃ (m : Mem) (y22 : Int) (g29 : Nat) (A8 : Option Addr) (nn16 : Nat) (cp16 : Nat) (y23 : List (List Int)), St 94 m b0 [(28, (.v (.int .i64 y22))), (27, (.v (.int .i64 ((x1).length : Int)))), (26, (.sl ch_0_0 (x1).length ch_0_1 (RdS (Ty.arr .u64 4) ch_0_0 x1))), (5, (.v (.pointer (some ⟨g29, 0, none⟩)))), (0, (.sl ch_0_0 (x1).length ch_0_1 (RdS (Ty.arr .u64 4) ch_0_0 x1))), (1, (.v (.int .i64 x2)))] [Res.cells g29 75 [.one (.slice A8 nn16 cp16)], Res.row (Ty.arr .u64 4) 27 A8 nn16 cp16 y23] a w ∧ smithylaw10_MemBack.l2 k x1 x2 q2 y22 y23 = some r) ?_ ?_ (k := k) ⟨_, 0, ch1.1, ch1.2.1, ch1.2.2.1, ch1.2.2.2, t1, (S.sub ⟨rfl, rfl, rfl, rfl, rfl, rfl, trivial⟩ (.cons .here (.cons .here .nil))), h2⟩
    · rintro a w ⟨m, y22, g29, A8, nn16, cp16, y23, S, h0⟩
      exact (nomatch (show (none : Option Bool) = some r from h0))
    · clear S h2
      rintro q2 a w ⟨m, y22, g29, A8, nn16, cp16, y23, S, h0⟩
      replace h0 : smithylaw10_MemBack.b2 k x1 x2 (smithylaw10_MemBack.l2 k x1 x2 q2) y22 y23 = some r := h0
      delta smithylaw10_MemBack.b2 at h0
      refine c_region ?_
      refine s_bin S rfl rfl rfl rfl ?_; clear S a; intro a S
      refine c_end ?_
      refine wp_seq ?_
      rcases ite_of h0 with ⟨c13, h1⟩ | ⟨c13, h1⟩ <;> clear h0
      · refine c_condT S rfl c13 ?_
        refine wp_skip ?_
        refine x_thenN ?_
        refine wp_seq ?_
        refine wp_block ?_
        refine c_region ?_
        obtain ⟨c14, h2⟩ := chk_of h1; clear h1
        refine s_iaddrS S rfl rfl rfl Try.underlying42 T27 c14.1 c14.2 rfl ?_; clear S a; intro p6 a S
        refine s_ldA S (fun (c : Unit) => [.ints .u64 (gt x1 y22) 4]) rfl T27 (fun _ => rfl) rfl ?_; clear S a; intro ch19 a S
        refine s_alloc S Z27 rfl ⟨rfl, trivial⟩ rfl ?_; clear S a w; intro g30 a w S
        refine s_store S rfl rfl rfl (s' := [.ints .u64 (gt x1 y22) 4]) .here T27 rfl rfl ?_; clear S w; intro w S
        refine c_end ?_
        refine c_region' ?_
        refine s_move S rfl rfl ?_; clear S a; intro a S
        refine s_loada S rfl .here T27 (s' := [.ints .u64 (gt x1 y22) 4]) rfl rfl ?_; clear S a; intro a S
        obtain ⟨t18, et18, h3⟩ := bind_of h2; clear h2
        refine s_callX S (ds' := [(.v (.pointer (some ⟨g29, 0, none⟩))), (.agg [.ints .u64 (gt x1 y22) 4])]) (ds := [(.v (.pointer (some ⟨g29, 0, none⟩))), (.agg [.ints .u64 (gt x1 y22) 4])]) [Res.cells g29 75 [.one (.slice A8 nn16 cp16)], Res.row (Ty.arr .u64 4) 27 A8 nn16 cp16 y23] [Res.cells g30 27 [.ints .u64 (gt x1 y22) 4]] (fun (ch : (Option Addr) × Nat × Nat) => ((.v (.bool t18.1)) : D)) (fun (ch : (Option Addr) × Nat × Nat) => [Res.cells g29 75 [.one (.slice ch.1 ch.2.1 ch.2.2)], Res.row (Ty.arr .u64 4) 27 ch.1 ch.2.1 ch.2.2 t18.2]) (fun (ch : (Option Addr) × Nat × Nat) => [Res.cells g29 75 [.one (.slice ch.1 ch.2.1 ch.2.2)], Res.row (Ty.arr .u64 4) 27 ch.1 ch.2.1 ch.2.2 t18.2, Res.cells g30 27 [.ints .u64 (gt x1 y22) 4]]) (fun _ => rfl) N22 rfl rfl (fun ok => ok) (.cons (.there .here) (.cons (.there .here) (.cons .here .nil))) rfl (mem_Stack_Push.ok (y23) (gt x1 y22) g29 A8 nn16 cp16 t18 et18 _ _) ?_; clear S a w; intro ch20 m le1 a w S
        refine c_end' ?_
        refine x_blockN ?_
        refine x_thenN ?_
        refine c_region' ?_
        refine s_bin S rfl rfl rfl rfl ?_; clear S a; intro a S
        refine s_move S rfl rfl ?_; clear S a; intro a S
        refine c_end' ?_
        refine x_thenN ?_
        exact ⟨_, (wr .i64 (y22 + 1)), g29, ch20.1, ch20.2.1, ch20.2.2, t18.2, (S.sub ⟨rfl, rfl, rfl, rfl, rfl, rfl, trivial⟩ (.cons .here (.cons .here .nil))), h3⟩
      · refine c_condF S rfl c13 ?_
        refine wp_exit ?_
        refine x_thenX ?_
        refine x_thenX ?_
        refine x_blockX ?_
        refine x_thenN ?_
        exact j1 _ g29 A8 nn16 cp16 y23 a w (S.sub ⟨rfl, rfl, rfl, trivial⟩ (.cons .here (.cons .here .nil))) h1
/-! smithy/smithyref10.Grow -/
abbrev smithyref10_Grow.Ty : Type := (List Int) → Int → Option ((List Int))
def smithyref10_Grow.Ctr (s : smithyref10_Grow.Ty) : Prop := ∀ (x1 : List Int) (x2 : Int) (ch_0_0 : Option Addr) (ch_0_1 : Nat) (r : (List Int)) (h0 : s x1 x2 = some r) (mi : Mem) (w0 : World), okL mi [(.sl ch_0_0 (x1).length ch_0_1 (RdS (Ty.int .u8) ch_0_0 x1)), (.v (.int .i64 x2))] → Pre mi [] w0 → Calls Try.prog 27 (([(.sl ch_0_0 (x1).length ch_0_1 (RdS (Ty.int .u8) ch_0_0 x1)), (.v (.int .i64 x2))] : List D).map D.val).toArray w0 (RetX mi [] (fun (ch : (Option Addr) × Nat × Nat) => ((.v (.slice ch.1 ch.2.1 ch.2.2)) : D)) (fun (ch : (Option Addr) × Nat × Nat) => [Res.row (Ty.int .u8) 5 ch.1 ch.2.1 ch.2.2 r]) w0)
def smithyref10_Grow.f (x1 : List Int) (x2 : Int) : Option ((List Int)) := if 0 ≤ (imax x2 ((x1).length : Int)) ∧ 1 * Int.toNat (imax x2 ((x1).length : Int)) ≤ 281474976710656 then (some (cpy (List.replicate (Int.toNat (imax x2 ((x1).length : Int))) (0 : Int)) 0 x1 (min (x1).length (List.replicate (Int.toNat (imax x2 ((x1).length : Int))) (0 : Int)).length))) else none
theorem smithyref10_Grow.ok : smithyref10_Grow.Ctr (smithyref10_Grow.f) := by
  intro x1 x2 ch_0_0 ch_0_1 r h0 mi w0 ok hm
  delta smithyref10_Grow.f at h0
  refine c_enterX (n := 15) [(.sl ch_0_0 (x1).length ch_0_1 (RdS (Ty.int .u8) ch_0_0 x1)), (.v (.int .i64 x2))] (l := [(0, (.sl ch_0_0 (x1).length ch_0_1 (RdS (Ty.int .u8) ch_0_0 x1))), (1, (.v (.int .i64 x2)))]) Try.func27 rfl rfl rfl rfl ok hm ?_
  clear ok hm
  intro b0 hb a S
  refine c_region ?_
  refine s_assign S rfl rfl ?_; clear S a; intro a S
  refine c_end ?_
  refine c_region ?_
  refine s_move S rfl rfl ?_; clear S a; intro a S
  refine s_move S rfl rfl ?_; clear S a; intro a S
  refine s_lenS S rfl Try.underlying38 rfl ?_; clear S a; intro a S
  refine s_max2 S rfl rfl rfl ?_; clear S a; intro a S
  obtain ⟨c1, h1⟩ := chk_of h0; clear h0
  refine s_make S (ty' := (Ty.int .u8)) (z := 0) (c0 := ()) rfl rfl Try.underlying38 J5 Z5 rfl ⟨rfl, trivial⟩ c1.1 c1.2 rfl ?_; clear S a; intro g1 a w S
  refine s_assign S rfl rfl ?_; clear S a; intro a S
  refine c_end ?_
  refine c_region ?_
  refine s_move S rfl rfl ?_; clear S a; intro a S
  refine s_move S rfl rfl ?_; clear S a; intro a S
  refine s_copyR S (N := min (x1).length (List.replicate (Int.toNat (imax x2 ((x1).length : Int))) (0 : Int)).length) (lo := 0) (ys := x1) rfl .here (.inr ⟨rfl, rfl⟩) (by omega) rfl rfl (RdS.srcI (S.get 12 (.sl ch_0_0 (x1).length ch_0_1 (RdS (Ty.int .u8) ch_0_0 x1)) rfl).2.2.2.1 S.frz) (congrArg (min _) (S.holds _ (Pull.mem .here).1).1.symm) Try.underlying38 T5 rfl ?_; clear S a w; intro a w S
  refine c_end ?_
  refine c_region ?_
  refine s_move S rfl rfl ?_; clear S a; intro a S
  refine s_assign S rfl rfl ?_; clear S a; intro a S
  refine c_end ?_
  refine wp_ret ?_
  obtain rfl := Option.some.inj h1
  exact b_ret1 (d := (.v (.slice (some ⟨g1, 0, none⟩) (Int.toNat (imax x2 ((x1).length : Int))) (Int.toNat (imax x2 ((x1).length : Int)))))) S rfl rfl fun ok => S.retX (Hx := []) hb _ _ (((some ⟨g1, 0, none⟩), Int.toNat (imax x2 ((x1).length : Int)), Int.toNat (imax x2 ((x1).length : Int))) : (Option Addr) × Nat × Nat) (.cons .here .nil) ok
/-! (*smithy/mem.Memory).Write -/
abbrev mem_Memory_Write.Ty : Type := ((List Int)) → Int → (List Int) → Option (((List Int)))
def mem_Memory_Write.Ctr (s : mem_Memory_Write.Ty) : Prop := ∀ (x1 : (List Int)) (x2 : Int) (x3 : List Int) (ch_0_0 : Nat) (ch_0_1 : Option Addr) (ch_0_2 : Nat) (ch_0_3 : Nat) (ch_2_0 : Option Addr) (ch_2_1 : Nat) (r : ((List Int))) (h0 : s x1 x2 x3 = some r) (mi : Mem) (w0 : World), okL mi [(.v (.pointer (some ⟨ch_0_0, 0, none⟩))), (.v (.int .i64 x2)), (.sl ch_2_0 (x3).length ch_2_1 (RdS (Ty.int .u8) ch_2_0 x3))] → Pre mi [Res.cells ch_0_0 72 [.one (.slice ch_0_1 ch_0_2 ch_0_3)], Res.row (Ty.int .u8) 5 ch_0_1 ch_0_2 ch_0_3 x1] w0 → Calls Try.prog 28 (([(.v (.pointer (some ⟨ch_0_0, 0, none⟩))), (.v (.int .i64 x2)), (.sl ch_2_0 (x3).length ch_2_1 (RdS (Ty.int .u8) ch_2_0 x3))] : List D).map D.val).toArray w0 (RetX mi [Res.cells ch_0_0 72 [.one (.slice ch_0_1 ch_0_2 ch_0_3)], Res.row (Ty.int .u8) 5 ch_0_1 ch_0_2 ch_0_3 x1] (fun (ch : (Option Addr) × Nat × Nat) => ((.tup []) : D)) (fun (ch : (Option Addr) × Nat × Nat) => [Res.cells ch_0_0 72 [.one (.slice ch.1 ch.2.1 ch.2.2)], Res.row (Ty.int .u8) 5 ch.1 ch.2.1 ch.2.2 r]) w0)
def mem_Memory_Write.j1 (x1 : (List Int)) (x2 : Int) (x3 : List Int) (y1 : Bool) : Option (((List Int))) := if y1 = true then (if (0 : Int) ≤ x2 ∧ (x2 : Int) ≤ ((x1).length : Int) ∧ ((x1).length : Int) ≤ ((x1).length : Int) then (some (cpy x1 (Int.toNat x2) x3 (min (x3).length (Int.toNat ((x1).length : Int) - Int.toNat x2)))) else none) else (some (x1))
def mem_Memory_Write.f (x1 : (List Int)) (x2 : Int) (x3 : List Int) : Option (((List Int))) := if (decide (0 ≤ x2)) = true then (mem_Memory_Write.j1 x1 x2 x3 (decide (x2 < ((x1).length : Int)))) else (mem_Memory_Write.j1 x1 x2 x3 false)
theorem mem_Memory_Write.ok : mem_Memory_Write.Ctr (mem_Memory_Write.f) := by
  intro x1 x2 x3 ch_0_0 ch_0_1 ch_0_2 ch_0_3 ch_2_0 ch_2_1 r h0 mi w0 ok hm
  delta mem_Memory_Write.f at h0
  refine c_enterX (n := 29) [(.v (.pointer (some ⟨ch_0_0, 0, none⟩))), (.v (.int .i64 x2)), (.sl ch_2_0 (x3).length ch_2_1 (RdS (Ty.int .u8) ch_2_0 x3))] (l := [(0, (.v (.pointer (some ⟨ch_0_0, 0, none⟩)))), (1, (.v (.int .i64 x2))), (2, (.sl ch_2_0 (x3).length ch_2_1 (RdS (Ty.int .u8) ch_2_0 x3)))]) Try.func28 rfl rfl rfl rfl ok hm ?_
  clear ok hm
  intro b0 hb a S
  refine wp_seq_k ?_
  intro K1 hK1
  have j1 : ∀ (m : Mem) (y1 : Bool) (a : Act) (w : World), St 29 m b0 [(20, (.v (.bool y1))), (0, (.v (.pointer (some ⟨ch_0_0, 0, none⟩)))), (1, (.v (.int .i64 x2))), (2, (.sl ch_2_0 (x3).length ch_2_1 (RdS (Ty.int .u8) ch_2_0 x3)))] [Res.cells ch_0_0 72 [.one (.slice ch_0_1 ch_0_2 ch_0_3)], Res.row (Ty.int .u8) 5 ch_0_1 ch_0_2 ch_0_3 x1] a w → mem_Memory_Write.j1 x1 x2 x3 y1 = some r → K1 a w := by
    intro m y1 a w S h0
    delta mem_Memory_Write.j1 at h0
    refine hK1 a w ?_
    rcases ite_of h0 with ⟨c1, h1⟩ | ⟨c1, h1⟩ <;> clear h0
    · refine c_condT S rfl c1 ?_
      refine c_region' ?_
      refine s_move S rfl rfl ?_; clear S a; intro a S
      refine s_nilchk S rfl rfl ?_; clear S a; intro a S
      refine s_fieldAddr S rfl I72_0 T38 (by decide) rfl rfl ?_; clear S a; intro a S
      refine s_load1 S rfl .here T38 (v := (.slice ch_0_1 ch_0_2 ch_0_3)) rfl rfl ?_; clear S a; intro a S
      refine s_move S rfl rfl ?_; clear S a; intro a S
      obtain ⟨c2, h2⟩ := chk_of h1; clear h1
      refine s_cutR S (ty' := (Ty.int .u8)) (i := x2) (j := ((x1).length : Int)) rfl (.there .here) Try.underlying38 T5 (.inr ⟨_, _, rfl, rfl⟩) (.inl ⟨rfl, congrArg (Nat.cast : Nat → Int) (S.holds _ (Pull.mem (.there .here)).1).1⟩) (by have h0 := (S.holds _ (Pull.mem (.there .here)).1).1; have h1 := c2; omega) rfl ?_; clear S a; intro a S
      refine s_move S rfl rfl ?_; clear S a; intro a S
      refine s_copyR S (N := min (x3).length (Int.toNat ((x1).length : Int) - Int.toNat x2)) (lo := Int.toNat x2) (ys := x3) rfl (.there .here) (.inl rfl) (by have h0 := (S.holds _ (Pull.mem (.there .here)).1).1; have h1 := c2; omega) rfl rfl (RdS.srcI (S.get 27 (.sl ch_2_0 (x3).length ch_2_1 (RdS (Ty.int .u8) ch_2_0 x3)) rfl).2.2.2.1 S.frz) rfl Try.underlying38 T5 rfl ?_; clear S a w; intro a w S
      refine c_end' ?_
      refine b_end ?_
      obtain rfl := Option.some.inj h2
      exact b_ret0 S rfl (S.retX (Hx := []) hb _ _ ((ch_0_1, ch_0_2, ch_0_3) : (Option Addr) × Nat × Nat) (.cons .here (.cons .here .nil)) trivial)
    · refine c_condF S rfl c1 ?_
      refine wp_skip ?_
      refine b_end ?_
      obtain rfl := Option.some.inj h1
      exact b_ret0 S rfl (S.retX (Hx := []) hb _ _ ((ch_0_1, ch_0_2, ch_0_3) : (Option Addr) × Nat × Nat) (.cons .here (.cons .here .nil)) trivial)
  refine c_region' ?_
  refine s_move S rfl rfl ?_; clear S a; intro a S
  refine s_nep S (b := true) rfl rfl Try.underlying28 rfl rfl ?_; clear S a; intro a S
  refine s_move S rfl rfl ?_; clear S a; intro a S
  refine s_gT S (b := true) rfl rfl rfl ?_
  refine s_move S rfl rfl ?_; clear S a; intro a S
  refine s_gT S (b := true) rfl rfl rfl ?_
  refine s_bin S rfl rfl rfl rfl ?_; clear S a; intro a S
  refine s_pick S (b := true) (hc_of rfl rfl) rfl rfl ?_; clear S a; intro a S
  refine s_move S rfl rfl ?_; clear S a; intro a S
  rcases ite_of h0 with ⟨c3, h1⟩ | ⟨c3, h1⟩ <;> clear h0
  · refine s_gT S (b := (decide (0 ≤ x2))) rfl rfl c3 ?_
    refine s_move S rfl rfl ?_; clear S a; intro a S
    refine s_gT S (b := (decide (0 ≤ x2))) rfl rfl c3 ?_
    refine s_move S rfl rfl ?_; clear S a; intro a S
    refine s_gT S (b := (decide (0 ≤ x2))) rfl rfl c3 ?_
    refine s_nilchk S rfl rfl ?_; clear S a; intro a S
    refine s_gT S (b := (decide (0 ≤ x2))) rfl rfl c3 ?_
    refine s_fieldAddr S rfl I72_0 T38 (by decide) rfl rfl ?_; clear S a; intro a S
    refine s_gT S (b := (decide (0 ≤ x2))) rfl rfl c3 ?_
    refine s_load1 S rfl .here T38 (v := (.slice ch_0_1 ch_0_2 ch_0_3)) rfl rfl ?_; clear S a; intro a S
    refine s_gT S (b := (decide (0 ≤ x2))) rfl rfl c3 ?_
    refine s_lenO S rfl (.there .here) Try.underlying38 rfl ?_; clear S a; intro a S
    refine s_gT S (b := (decide (0 ≤ x2))) rfl rfl c3 ?_
    refine s_bin S rfl rfl rfl rfl ?_; clear S a; intro a S
    refine s_pick S (b := true) (hc_of rfl c3) rfl rfl ?_; clear S a; intro a S
    refine c_end' ?_
    refine x_thenN ?_
    exact j1 _ (decide (x2 < ((x1).length : Int))) a w0 (S.sub ⟨rfl, rfl, rfl, rfl, trivial⟩ (.cons .here (.cons .here .nil))) h1
  · refine s_gF S (b := (decide (0 ≤ x2))) rfl rfl c3 rfl ?_; clear S a; intro a S
    refine s_gF S (b := (decide (0 ≤ x2))) rfl rfl c3 rfl ?_; clear S a; intro a S
    refine s_gF S (b := (decide (0 ≤ x2))) rfl rfl c3 rfl ?_; clear S a; intro a S
    refine s_gF S (b := (decide (0 ≤ x2))) rfl rfl c3 rfl ?_; clear S a; intro a S
    refine s_gF S (b := (decide (0 ≤ x2))) rfl rfl c3 rfl ?_; clear S a; intro a S
    refine s_gF S (b := (decide (0 ≤ x2))) rfl rfl c3 rfl ?_; clear S a; intro a S
    refine s_gF S (b := (decide (0 ≤ x2))) rfl rfl c3 rfl ?_; clear S a; intro a S
    refine s_pick S (b := false) (hc_of rfl c3) rfl rfl ?_; clear S a; intro a S
    refine c_end' ?_
    refine x_thenN ?_
    exact j1 _ false a w0 (S.sub ⟨rfl, rfl, rfl, rfl, trivial⟩ (.cons .here (.cons .here .nil))) h1
/-! smithy/smithyref10.Write -/
abbrev smithyref10_Write.Ty : Type := (List Int) → Int → (List Int) → Option ((List Int))
def smithyref10_Write.Ctr (s : smithyref10_Write.Ty) : Prop := ∀ (x1 : List Int) (x2 : Int) (x3 : List Int) (ch_0_0 : Option Addr) (ch_0_1 : Nat) (ch_2_0 : Option Addr) (ch_2_1 : Nat) (r : (List Int)) (h0 : s x1 x2 x3 = some r) (mi : Mem) (w0 : World), okL mi [(.sl ch_0_0 (x1).length ch_0_1 (RdS (Ty.int .u8) ch_0_0 x1)), (.v (.int .i64 x2)), (.sl ch_2_0 (x3).length ch_2_1 (RdS (Ty.int .u8) ch_2_0 x3))] → Pre mi [] w0 → Calls Try.prog 29 (([(.sl ch_0_0 (x1).length ch_0_1 (RdS (Ty.int .u8) ch_0_0 x1)), (.v (.int .i64 x2)), (.sl ch_2_0 (x3).length ch_2_1 (RdS (Ty.int .u8) ch_2_0 x3))] : List D).map D.val).toArray w0 (RetX mi [] (fun (ch : (Option Addr) × Nat × Nat) => ((.v (.slice ch.1 ch.2.1 ch.2.2)) : D)) (fun (ch : (Option Addr) × Nat × Nat) => [Res.row (Ty.int .u8) 5 ch.1 ch.2.1 ch.2.2 r]) w0)
def smithyref10_Write.j1 (y1 : List Int) : Option ((List Int)) := some y1
def smithyref10_Write.j3 (y8 : Int) (rec1 : Int → (List Int) → Option ((List Int))) (y11 : List Int) : Option ((List Int)) := rec1 (wr .i64 (y8 + 1)) y11
def smithyref10_Write.j2 (x1 : List Int) (x2 : Int) (x3 : List Int) (y8 : Int) (y9 : List Int) (rec1 : Int → (List Int) → Option ((List Int))) (y10 : Bool) : Option ((List Int)) := if y10 = true then (if (decide (x2 < (wr .i64 (((x1).length : Int) - y8)))) = true then (if 0 ≤ y8 ∧ y8 < ((x3).length : Int) then (if 0 ≤ (wr .i64 (x2 + y8)) ∧ (wr .i64 (x2 + y8)) < ((y9).length : Int) then (smithyref10_Write.j3 y8 rec1 (y9.set (Int.toNat (wr .i64 (x2 + y8))) (rd x3 y8))) else none) else none) else (smithyref10_Write.j3 y8 rec1 y9)) else (smithyref10_Write.j1 y9)
def smithyref10_Write.b1 (x1 : List Int) (x2 : Int) (x3 : List Int) (rec1 : Int → (List Int) → Option ((List Int))) (y8 : Int) (y9 : List Int) : Option ((List Int)) := if (decide (y8 < ((x3).length : Int))) = true then (smithyref10_Write.j2 x1 x2 x3 y8 y9 rec1 (decide (0 ≤ x2))) else (smithyref10_Write.j2 x1 x2 x3 y8 y9 rec1 false)
def smithyref10_Write.l1 (x1 : List Int) (x2 : Int) (x3 : List Int) : Nat → Int → (List Int) → Option ((List Int))
  | 0, _, _ => none
  | q + 1, y8, y9 => smithyref10_Write.b1 x1 x2 x3 (smithyref10_Write.l1 x1 x2 x3 q) y8 y9
def smithyref10_Write.f (k : Nat) (x1 : List Int) (x2 : Int) (x3 : List Int) : Option ((List Int)) := if 0 ≤ ((x1).length : Int) ∧ 1 * Int.toNat ((x1).length : Int) ≤ 281474976710656 then (smithyref10_Write.l1 x1 x2 x3 k 0 (cpy (List.replicate (Int.toNat ((x1).length : Int)) (0 : Int)) 0 x1 (min (x1).length (List.replicate (Int.toNat ((x1).length : Int)) (0 : Int)).length))) else none
theorem smithyref10_Write.ok (k : Nat) : smithyref10_Write.Ctr (smithyref10_Write.f k) := by
  intro x1 x2 x3 ch_0_0 ch_0_1 ch_2_0 ch_2_1 r h0 mi w0 ok hm
  delta smithyref10_Write.f at h0
  refine c_enterX (n := 41) [(.sl ch_0_0 (x1).length ch_0_1 (RdS (Ty.int .u8) ch_0_0 x1)), (.v (.int .i64 x2)), (.sl ch_2_0 (x3).length ch_2_1 (RdS (Ty.int .u8) ch_2_0 x3))] (l := [(0, (.sl ch_0_0 (x1).length ch_0_1 (RdS (Ty.int .u8) ch_0_0 x1))), (1, (.v (.int .i64 x2))), (2, (.sl ch_2_0 (x3).length ch_2_1 (RdS (Ty.int .u8) ch_2_0 x3)))]) Try.func29 rfl rfl rfl rfl ok hm ?_
  clear ok hm
  intro b0 hb a S
  refine c_region ?_
  refine s_assign S rfl rfl ?_; clear S a; intro a S
  refine c_end ?_
  refine c_region ?_
  refine s_move S rfl rfl ?_; clear S a; intro a S
  refine s_lenS S rfl Try.underlying38 rfl ?_; clear S a; intro a S
  obtain ⟨c1, h1⟩ := chk_of h0; clear h0
  refine s_make S (ty' := (Ty.int .u8)) (z := 0) (c0 := ()) rfl rfl Try.underlying38 J5 Z5 rfl ⟨rfl, trivial⟩ c1.1 c1.2 rfl ?_; clear S a; intro g1 a w S
  refine s_assign S rfl rfl ?_; clear S a; intro a S
  refine c_end ?_
  refine c_region ?_
  refine s_move S rfl rfl ?_; clear S a; intro a S
  refine s_move S rfl rfl ?_; clear S a; intro a S
  refine s_copyR S (N := min (x1).length (List.replicate (Int.toNat ((x1).length : Int)) (0 : Int)).length) (lo := 0) (ys := x1) rfl .here (.inr ⟨rfl, rfl⟩) (by omega) rfl rfl (RdS.srcI (S.get 13 (.sl ch_0_0 (x1).length ch_0_1 (RdS (Ty.int .u8) ch_0_0 x1)) rfl).2.2.2.1 S.frz) (congrArg (min _) (S.holds _ (Pull.mem .here).1).1.symm) Try.underlying38 T5 rfl ?_; clear S a w; intro a w S
  refine c_end ?_
  refine wp_seq_k ?_
  intro K1 hK1
  have j1 : ∀ (m : Mem) (y1 : List Int) (a : Act) (w : World), St 41 m b0 [(7, (.v (.slice (some ⟨g1, 0, none⟩) (Int.toNat ((x1).length : Int)) (Int.toNat ((x1).length : Int)))))] [Res.row (Ty.int .u8) 5 (some ⟨g1, 0, none⟩) (Int.toNat ((x1).length : Int)) (Int.toNat ((x1).length : Int)) y1] a w → smithyref10_Write.j1 y1 = some r → K1 a w := by
    intro m y1 a w S h0
    delta smithyref10_Write.j1 at h0
    refine hK1 a w ?_
    refine c_region ?_
    refine s_move S rfl rfl ?_; clear S a; intro a S
    refine s_assign S rfl rfl ?_; clear S a; intro a S
    refine c_end ?_
    refine wp_ret ?_
    obtain rfl := Option.some.inj h0
    exact b_ret1 (d := (.v (.slice (some ⟨g1, 0, none⟩) (Int.toNat ((x1).length : Int)) (Int.toNat ((x1).length : Int))))) S rfl rfl fun ok => S.retX (Hx := []) hb _ _ (((some ⟨g1, 0, none⟩), Int.toNat ((x1).length : Int), Int.toNat ((x1).length : Int)) : (Option Addr) × Nat × Nat) (.cons .here .nil) ok
  refine c_region ?_
  refine s_assign S rfl rfl ?_; clear S a; intro a S
  refine c_end ?_
  refine wp_block ?_
  refine c_loop (fun q1 a w => ∃ (m : Mem) (y8 : Int) (y9 : List Int), St 41 m b0 [(8, (.v (.int .i64 y8))), (7, (.v (.slice (some ⟨g1, 0, none⟩) (Int.toNat ((x1).length : Int)) (Int.toNat ((x1).length : Int))))), (0, (.sl ch_0_0 (x1).length ch_0_1 (RdS (Ty.int .u8) ch_0_0 x1))), (1, (.v (.int .i64 x2))), (2, (.sl ch_2_0 (x3).length ch_2_1 (RdS (Ty.int .u8) ch_2_0 x3)))] [Res.row (Ty.int .u8) 5 (some ⟨g1, 0, none⟩) (Int.toNat ((x1).length : Int)) (Int.toNat ((x1).length : Int)) y9] a w ∧ smithyref10_Write.l1 x1 x2 x3 q1 y8 y9 = some r) ?_ ?_ (k := k) ⟨_, 0, (cpy (List.replicate (Int.toNat ((x1).length : Int)) (0 : Int)) 0 x1 (min (x1).length (List.replicate (Int.toNat ((x1).length : Int)) (0 : Int)).length)), (S.sub ⟨rfl, rfl, rfl, rfl, rfl, trivial⟩ (.cons .here .nil)), h1⟩
  · rintro a w ⟨m, y8, y9, S, h0⟩
    exact (nomatch (show (none : Option ((List Int))) = some r from h0))
  · clear S h1
    rintro q1 a w ⟨m, y8, y9, S, h0⟩
    replace h0 : smithyref10_Write.b1 x1 x2 x3 (smithyref10_Write.l1 x1 x2 x3 q1) y8 y9 = some r := h0
    delta smithyref10_Write.b1 at h0
    refine wp_seq ?_
    refine wp_seq_k ?_
    intro K2 hK2
    have j2 : ∀ (m : Mem) (y10 : Bool) (a : Act) (w : World), St 41 m b0 [(22, (.v (.bool y10))), (8, (.v (.int .i64 y8))), (7, (.v (.slice (some ⟨g1, 0, none⟩) (Int.toNat ((x1).length : Int)) (Int.toNat ((x1).length : Int))))), (0, (.sl ch_0_0 (x1).length ch_0_1 (RdS (Ty.int .u8) ch_0_0 x1))), (1, (.v (.int .i64 x2))), (2, (.sl ch_2_0 (x3).length ch_2_1 (RdS (Ty.int .u8) ch_2_0 x3)))] [Res.row (Ty.int .u8) 5 (some ⟨g1, 0, none⟩) (Int.toNat ((x1).length : Int)) (Int.toNat ((x1).length : Int)) y9] a w → smithyref10_Write.j2 x1 x2 x3 y8 y9 (smithyref10_Write.l1 x1 x2 x3 q1) y10 = some r → K2 a w := by
      intro m y10 a w S h0
      delta smithyref10_Write.j2 at h0
      refine hK2 a w ?_
      rcases ite_of h0 with ⟨c2, h1⟩ | ⟨c2, h1⟩ <;> clear h0
      · refine c_condT S rfl c2 ?_
        refine wp_skip ?_
        refine x_thenN ?_
        refine wp_seq_k ?_
        intro K3 hK3
        have j3 : ∀ (m : Mem) (y11 : List Int) (a : Act) (w : World), St 41 m b0 [(8, (.v (.int .i64 y8))), (7, (.v (.slice (some ⟨g1, 0, none⟩) (Int.toNat ((x1).length : Int)) (Int.toNat ((x1).length : Int))))), (0, (.sl ch_0_0 (x1).length ch_0_1 (RdS (Ty.int .u8) ch_0_0 x1))), (1, (.v (.int .i64 x2))), (2, (.sl ch_2_0 (x3).length ch_2_1 (RdS (Ty.int .u8) ch_2_0 x3)))] [Res.row (Ty.int .u8) 5 (some ⟨g1, 0, none⟩) (Int.toNat ((x1).length : Int)) (Int.toNat ((x1).length : Int)) y11] a w → smithyref10_Write.j3 y8 (smithyref10_Write.l1 x1 x2 x3 q1) y11 = some r → K3 a w := by
          intro m y11 a w S h0
          delta smithyref10_Write.j3 at h0
          refine hK3 a w ?_
          refine c_region' ?_
          refine s_move S rfl rfl ?_; clear S a; intro a S
          refine s_bin S rfl rfl rfl rfl ?_; clear S a; intro a S
          refine s_assign S rfl rfl ?_; clear S a; intro a S
          refine c_end' ?_
          refine x_thenN ?_
          exact ⟨_, (wr .i64 (y8 + 1)), y11, (S.sub ⟨rfl, rfl, rfl, rfl, rfl, trivial⟩ (.cons .here .nil)), h0⟩
        refine wp_block ?_
        refine c_region ?_
        refine s_move S rfl rfl ?_; clear S a; intro a S
        refine s_move S rfl rfl ?_; clear S a; intro a S
        refine s_lenS S rfl Try.underlying38 rfl ?_; clear S a; intro a S
        refine s_move S rfl rfl ?_; clear S a; intro a S
        refine s_bin S rfl rfl rfl rfl ?_; clear S a; intro a S
        refine s_bin S rfl rfl rfl rfl ?_; clear S a; intro a S
        refine c_end ?_
        rcases ite_of h1 with ⟨c3, h2⟩ | ⟨c3, h2⟩ <;> clear h1
        · refine c_condT S rfl c3 ?_
          refine c_region' ?_
          refine s_move S rfl rfl ?_; clear S a; intro a S
          refine s_move S rfl rfl ?_; clear S a; intro a S
          refine s_move S rfl rfl ?_; clear S a; intro a S
          refine s_bin S rfl rfl rfl rfl ?_; clear S a; intro a S
          refine s_move S rfl rfl ?_; clear S a; intro a S
          refine s_move S rfl rfl ?_; clear S a; intro a S
          obtain ⟨c4, h3⟩ := chk_of h2; clear h2
          refine s_iaddrS S rfl rfl rfl Try.underlying38 T5 c4.1 c4.2 rfl ?_; clear S a; intro p1 a S
          refine s_ld1 S (v := (.int .u8 (rd x3 y8))) rfl T5 (fun _ => rfl) rfl ?_; clear S a; intro a S
          obtain ⟨c5, h4⟩ := chk_of h3; clear h3
          refine s_iaddrO S (ty' := (Ty.int .u8)) rfl .here rfl Try.underlying38 T5 c5.1 c5.2 rfl ?_; clear S a; intro g3 a hA1 S
          refine s_stR S (ty' := (Ty.int .u8)) (i := (wr .i64 (x2 + y8))) (off := 0) (u := rd x3 y8) (fun (c : Unit) => ()) rfl rfl rfl hA1 .here T5 c5.1 c5.2 rfl (by decide) rfl (fun _ => rfl) ?_; clear S w; intro w S
          refine c_end' ?_
          refine x_blockN ?_
          refine x_thenN ?_
          exact j3 _ (y9.set (Int.toNat (wr .i64 (x2 + y8))) (rd x3 y8)) a w (S.sub ⟨rfl, rfl, rfl, rfl, rfl, trivial⟩ (.cons .here .nil)) h4
        · refine c_condF S rfl c3 ?_
          refine wp_skip ?_
          refine x_blockN ?_
          refine x_thenN ?_
          exact j3 _ y9 a w (S.sub ⟨rfl, rfl, rfl, rfl, rfl, trivial⟩ (.cons .here .nil)) h2
      · refine c_condF S rfl c2 ?_
        refine wp_exit ?_
        refine x_thenX ?_
        refine x_thenX ?_
        refine x_blockX ?_
        refine x_thenN ?_
        exact j1 _ y9 a w (S.sub ⟨rfl, trivial⟩ (.cons .here .nil)) h1
    refine c_region' ?_
    refine s_move S rfl rfl ?_; clear S a; intro a S
    refine s_move S rfl rfl ?_; clear S a; intro a S
    refine s_lenS S rfl Try.underlying38 rfl ?_; clear S a; intro a S
    refine s_bin S rfl rfl rfl rfl ?_; clear S a; intro a S
    refine s_move S rfl rfl ?_; clear S a; intro a S
    rcases ite_of h0 with ⟨c6, h1⟩ | ⟨c6, h1⟩ <;> clear h0
    · refine s_gT S (b := (decide (y8 < ((x3).length : Int)))) rfl rfl c6 ?_
      refine s_move S rfl rfl ?_; clear S a; intro a S
      refine s_gT S (b := (decide (y8 < ((x3).length : Int)))) rfl rfl c6 ?_
      refine s_bin S rfl rfl rfl rfl ?_; clear S a; intro a S
      refine s_pick S (b := true) (hc_of rfl c6) rfl rfl ?_; clear S a; intro a S
      refine c_end' ?_
      refine x_thenN ?_
      exact j2 _ (decide (0 ≤ x2)) a w (S.sub ⟨rfl, rfl, rfl, rfl, rfl, rfl, trivial⟩ (.cons .here .nil)) h1
    · refine s_gF S (b := (decide (y8 < ((x3).length : Int)))) rfl rfl c6 rfl ?_; clear S a; intro a S
      refine s_gF S (b := (decide (y8 < ((x3).length : Int)))) rfl rfl c6 rfl ?_; clear S a; intro a S
      refine s_pick S (b := false) (hc_of rfl c6) rfl rfl ?_; clear S a; intro a S
      refine c_end' ?_
      refine x_thenN ?_
      exact j2 _ false a w (S.sub ⟨rfl, rfl, rfl, rfl, rfl, rfl, trivial⟩ (.cons .here .nil)) h1
/-! (*smithy/mem.Memory).Read -/
abbrev mem_Memory_Read.Ty : Type := ((List Int)) → Int → Int → Option ((List Int))
def mem_Memory_Read.Ctr (s : mem_Memory_Read.Ty) : Prop := ∀ (x1 : (List Int)) (x2 : Int) (x3 : Int) (ch_0_0 : Nat) (ch_0_1 : Option Addr) (ch_0_2 : Nat) (ch_0_3 : Nat) (r : (List Int)) (h0 : s x1 x2 x3 = some r) (mi : Mem) (w0 : World), okL mi [(.v (.pointer (some ⟨ch_0_0, 0, none⟩))), (.v (.int .i64 x2)), (.v (.int .i64 x3))] → Pre mi [Res.cells ch_0_0 72 [.one (.slice ch_0_1 ch_0_2 ch_0_3)], Res.row (Ty.int .u8) 5 ch_0_1 ch_0_2 ch_0_3 x1] w0 → Calls Try.prog 34 (([(.v (.pointer (some ⟨ch_0_0, 0, none⟩))), (.v (.int .i64 x2)), (.v (.int .i64 x3))] : List D).map D.val).toArray w0 (RetX mi [Res.cells ch_0_0 72 [.one (.slice ch_0_1 ch_0_2 ch_0_3)], Res.row (Ty.int .u8) 5 ch_0_1 ch_0_2 ch_0_3 x1] (fun (ch : (Option Addr) × Nat × Nat) => ((.v (.slice ch.1 ch.2.1 ch.2.2)) : D)) (fun (ch : (Option Addr) × Nat × Nat) => [Res.row (Ty.int .u8) 5 ch.1 ch.2.1 ch.2.2 r, Res.cells ch_0_0 72 [.one (.slice ch_0_1 ch_0_2 ch_0_3)], Res.row (Ty.int .u8) 5 ch_0_1 ch_0_2 ch_0_3 x1]) w0)
def mem_Memory_Read.j2 (y2 : List Int) : Option ((List Int)) := some y2
def mem_Memory_Read.j1 (x1 : (List Int)) (x2 : Int) (x3 : Int) (y1 : Bool) : Option ((List Int)) := if y1 = true then (some ([] : List Int)) else (if 0 ≤ x3 ∧ 1 * Int.toNat x3 ≤ 281474976710656 then (if (decide (x2 < ((x1).length : Int))) = true then (if (0 : Int) ≤ x2 ∧ (x2 : Int) ≤ ((x1).length : Int) ∧ ((x1).length : Int) ≤ ((x1).length : Int) then (mem_Memory_Read.j2 (cpy (List.replicate (Int.toNat x3) (0 : Int)) 0 (((x1).drop (Int.toNat x2)).take (Int.toNat ((x1).length : Int) - Int.toNat x2)) (min (((x1).drop (Int.toNat x2)).take (Int.toNat ((x1).length : Int) - Int.toNat x2)).length (List.replicate (Int.toNat x3) (0 : Int)).length))) else none) else (mem_Memory_Read.j2 (List.replicate (Int.toNat x3) (0 : Int)))) else none)
def mem_Memory_Read.f (x1 : (List Int)) (x2 : Int) (x3 : Int) : Option ((List Int)) := if (decide (x2 < 0)) = true then (mem_Memory_Read.j1 x1 x2 x3 true) else (if (decide (x3 < 0)) = true then (mem_Memory_Read.j1 x1 x2 x3 true) else (mem_Memory_Read.j1 x1 x2 x3 (decide (4194304 < x3))))
theorem mem_Memory_Read.ok : mem_Memory_Read.Ctr (mem_Memory_Read.f) := by
  intro x1 x2 x3 ch_0_0 ch_0_1 ch_0_2 ch_0_3 r h0 mi w0 ok hm
  delta mem_Memory_Read.f at h0
  refine c_enterX (n := 40) [(.v (.pointer (some ⟨ch_0_0, 0, none⟩))), (.v (.int .i64 x2)), (.v (.int .i64 x3))] (l := [(0, (.v (.pointer (some ⟨ch_0_0, 0, none⟩)))), (1, (.v (.int .i64 x2))), (2, (.v (.int .i64 x3)))]) Try.func34 rfl rfl rfl rfl ok hm ?_
  clear ok hm
  intro b0 hb a S
  refine c_region ?_
  refine s_assign S rfl rfl ?_; clear S a; intro a S
  refine c_end ?_
  refine wp_seq ?_
  refine wp_seq_k ?_
  intro K1 hK1
  have j1 : ∀ (m : Mem) (y1 : Bool) (a : Act) (w : World), St 40 m b0 [(21, (.v (.bool y1))), (0, (.v (.pointer (some ⟨ch_0_0, 0, none⟩)))), (1, (.v (.int .i64 x2))), (2, (.v (.int .i64 x3)))] [Res.cells ch_0_0 72 [.one (.slice ch_0_1 ch_0_2 ch_0_3)], Res.row (Ty.int .u8) 5 ch_0_1 ch_0_2 ch_0_3 x1] a w → mem_Memory_Read.j1 x1 x2 x3 y1 = some r → K1 a w := by
    intro m y1 a w S h0
    delta mem_Memory_Read.j1 at h0
    refine hK1 a w ?_
    rcases ite_of h0 with ⟨c1, h1⟩ | ⟨c1, h1⟩ <;> clear h0
    · refine c_condT S rfl c1 ?_
      refine c_region ?_
      refine s_assign S rfl rfl ?_; clear S a; intro a S
      refine c_end ?_
      refine wp_ret ?_
      refine x_thenR ?_
      replace S := S.nilrow (Ty.int .u8) 5
      replace S := S.slot (u := 6) (d' := (.v (.slice none 0 0))) rfl rfl (S.get 6 (.v (.slice none 0 0)) rfl).2
      obtain rfl := Option.some.inj h1
      exact b_ret1 (d := (.v (.slice none 0 0))) S rfl rfl fun ok => S.retX (Hx := []) hb _ _ ((none, 0, 0) : (Option Addr) × Nat × Nat) (.cons .here (.cons .here (.cons .here .nil))) ok
    · refine c_condF S rfl c1 ?_
      refine wp_skip ?_
      refine x_thenN ?_
      refine c_region ?_
      refine s_move S rfl rfl ?_; clear S a; intro a S
      obtain ⟨c2, h2⟩ := chk_of h1; clear h1
      refine s_make S (ty' := (Ty.int .u8)) (z := 0) (c0 := ()) rfl rfl Try.underlying38 J5 Z5 rfl ⟨rfl, trivial⟩ c2.1 c2.2 rfl ?_; clear S a w; intro g1 a w S
      refine s_assign S rfl rfl ?_; clear S a; intro a S
      refine c_end ?_
      refine wp_seq_k ?_
      intro K2 hK2
      have j2 : ∀ (m : Mem) (y2 : List Int) (a : Act) (w : World), St 40 m b0 [(7, (.v (.slice (some ⟨g1, 0, none⟩) (Int.toNat x3) (Int.toNat x3))))] [Res.row (Ty.int .u8) 5 (some ⟨g1, 0, none⟩) (Int.toNat x3) (Int.toNat x3) y2, Res.cells ch_0_0 72 [.one (.slice ch_0_1 ch_0_2 ch_0_3)], Res.row (Ty.int .u8) 5 ch_0_1 ch_0_2 ch_0_3 x1] a w → mem_Memory_Read.j2 y2 = some r → K2 a w := by
        intro m y2 a w S h0
        delta mem_Memory_Read.j2 at h0
        refine hK2 a w ?_
        refine c_region ?_
        refine s_move S rfl rfl ?_; clear S a; intro a S
        refine s_assign S rfl rfl ?_; clear S a; intro a S
        refine c_end ?_
        refine wp_ret ?_
        obtain rfl := Option.some.inj h0
        exact b_ret1 (d := (.v (.slice (some ⟨g1, 0, none⟩) (Int.toNat x3) (Int.toNat x3)))) S rfl rfl fun ok => S.retX (Hx := []) hb _ _ (((some ⟨g1, 0, none⟩), Int.toNat x3, Int.toNat x3) : (Option Addr) × Nat × Nat) (.cons .here (.cons .here (.cons .here .nil))) ok
      refine c_region ?_
      refine s_move S rfl rfl ?_; clear S a; intro a S
      refine s_move S rfl rfl ?_; clear S a; intro a S
      refine s_nilchk S rfl rfl ?_; clear S a; intro a S
      refine s_fieldAddr S rfl I72_0 T38 (by decide) rfl rfl ?_; clear S a; intro a S
      refine s_load1 S rfl (.there .here) T38 (v := (.slice ch_0_1 ch_0_2 ch_0_3)) rfl rfl ?_; clear S a; intro a S
      refine s_lenO S rfl (.there (.there .here)) Try.underlying38 rfl ?_; clear S a; intro a S
      refine s_bin S rfl rfl rfl rfl ?_; clear S a; intro a S
      refine c_end ?_
      rcases ite_of h2 with ⟨c3, h3⟩ | ⟨c3, h3⟩ <;> clear h2
      · refine c_condT S rfl c3 ?_
        refine c_region' ?_
        refine s_move S rfl rfl ?_; clear S a; intro a S
        refine s_move S rfl rfl ?_; clear S a; intro a S
        refine s_nilchk S rfl rfl ?_; clear S a; intro a S
        refine s_fieldAddr S rfl I72_0 T38 (by decide) rfl rfl ?_; clear S a; intro a S
        refine s_load1 S rfl (.there .here) T38 (v := (.slice ch_0_1 ch_0_2 ch_0_3)) rfl rfl ?_; clear S a; intro a S
        refine s_move S rfl rfl ?_; clear S a; intro a S
        obtain ⟨c4, h4⟩ := chk_of h3; clear h3
        refine s_cutR S (ty' := (Ty.int .u8)) (i := x2) (j := ((x1).length : Int)) rfl (.there (.there .here)) Try.underlying38 T5 (.inr ⟨_, _, rfl, rfl⟩) (.inl ⟨rfl, congrArg (Nat.cast : Nat → Int) (S.holds _ (Pull.mem (.there (.there .here))).1).1⟩) (by have h0 := (S.holds _ (Pull.mem (.there (.there .here))).1).1; have h1 := c4; omega) rfl ?_; clear S a; intro a S
        refine s_copyR S (N := min (((x1).drop (Int.toNat x2)).take (Int.toNat ((x1).length : Int) - Int.toNat x2)).length (List.replicate (Int.toNat x3) (0 : Int)).length) (lo := 0) (ys := ((x1).drop (Int.toNat x2)).take (Int.toNat ((x1).length : Int) - Int.toNat x2)) rfl .here (.inr ⟨rfl, rfl⟩) (by omega) rfl (congrArg (fun z => Value.slice _ z _) (show (((x1).drop (Int.toNat x2)).take (Int.toNat ((x1).length : Int) - Int.toNat x2)).length = Int.toNat ((x1).length : Int) - Int.toNat x2 by have h0 := (S.holds _ (Pull.mem (.there (.there .here))).1).1; have h1 := c4; rw [List.length_take, List.length_drop]; omega).symm) (rowsrcI (S.holds _ (Pull.mem (.there (.there .here))).1) (by have h0 := (S.holds _ (Pull.mem (.there (.there .here))).1).1; have h1 := c4; omega)) (congrArg (min _) (S.holds _ (Pull.mem .here).1).1.symm) Try.underlying38 T5 rfl ?_; clear S a w; intro a w S
        refine c_end' ?_
        refine x_thenN ?_
        exact j2 _ (cpy (List.replicate (Int.toNat x3) (0 : Int)) 0 (((x1).drop (Int.toNat x2)).take (Int.toNat ((x1).length : Int) - Int.toNat x2)) (min (((x1).drop (Int.toNat x2)).take (Int.toNat ((x1).length : Int) - Int.toNat x2)).length (List.replicate (Int.toNat x3) (0 : Int)).length)) a w (S.sub ⟨rfl, trivial⟩ (.cons .here (.cons .here (.cons .here .nil)))) h4
      · refine c_condF S rfl c3 ?_
        refine wp_skip ?_
        refine x_thenN ?_
        exact j2 _ (List.replicate (Int.toNat x3) (0 : Int)) a w (S.sub ⟨rfl, trivial⟩ (.cons .here (.cons .here (.cons .here .nil)))) h3
  refine c_region' ?_
  refine s_move S rfl rfl ?_; clear S a; intro a S
  refine s_eqp S (b := false) rfl rfl Try.underlying28 rfl rfl ?_; clear S a; intro a S
  refine s_move S rfl rfl ?_; clear S a; intro a S
  refine s_gT S (b := false) rfl rfl rfl ?_
  refine s_move S rfl rfl ?_; clear S a; intro a S
  refine s_gT S (b := false) rfl rfl rfl ?_
  refine s_bin S rfl rfl rfl rfl ?_; clear S a; intro a S
  refine s_pick S (b := false) (hc_of rfl rfl) rfl rfl ?_; clear S a; intro a S
  refine s_move S rfl rfl ?_; clear S a; intro a S
  rcases ite_of h0 with ⟨c5, h1⟩ | ⟨c5, h1⟩ <;> clear h0
  · refine s_gF S (b := (decide (x2 < 0))) rfl rfl c5 rfl ?_; clear S a; intro a S
    refine s_gF S (b := (decide (x2 < 0))) rfl rfl c5 rfl ?_; clear S a; intro a S
    refine s_pick S (b := true) (hc_of rfl c5) rfl rfl ?_; clear S a; intro a S
    refine s_move S rfl rfl ?_; clear S a; intro a S
    refine s_gF S (b := true) rfl rfl rfl rfl ?_; clear S a; intro a S
    refine s_gF S (b := true) rfl rfl rfl rfl ?_; clear S a; intro a S
    refine s_pick S (b := true) (hc_of rfl rfl) rfl rfl ?_; clear S a; intro a S
    refine c_end' ?_
    refine x_thenN ?_
    exact j1 _ true a w0 (S.sub ⟨rfl, rfl, rfl, rfl, trivial⟩ (.cons .here (.cons .here .nil))) h1
  · refine s_gT S (b := (decide (x2 < 0))) rfl rfl c5 ?_
    refine s_move S rfl rfl ?_; clear S a; intro a S
    refine s_gT S (b := (decide (x2 < 0))) rfl rfl c5 ?_
    refine s_bin S rfl rfl rfl rfl ?_; clear S a; intro a S
    refine s_pick S (b := false) (hc_of rfl c5) rfl rfl ?_; clear S a; intro a S
    refine s_move S rfl rfl ?_; clear S a; intro a S
    rcases ite_of h1 with ⟨c6, h2⟩ | ⟨c6, h2⟩ <;> clear h1
    · refine s_gF S (b := (decide (x3 < 0))) rfl rfl c6 rfl ?_; clear S a; intro a S
      refine s_gF S (b := (decide (x3 < 0))) rfl rfl c6 rfl ?_; clear S a; intro a S
      refine s_pick S (b := true) (hc_of rfl c6) rfl rfl ?_; clear S a; intro a S
      refine c_end' ?_
      refine x_thenN ?_
      exact j1 _ true a w0 (S.sub ⟨rfl, rfl, rfl, rfl, trivial⟩ (.cons .here (.cons .here .nil))) h2
    · refine s_gT S (b := (decide (x3 < 0))) rfl rfl c6 ?_
      refine s_move S rfl rfl ?_; clear S a; intro a S
      refine s_gT S (b := (decide (x3 < 0))) rfl rfl c6 ?_
      refine s_bin S rfl rfl rfl rfl ?_; clear S a; intro a S
      refine s_pick S (b := false) (hc_of rfl c6) rfl rfl ?_; clear S a; intro a S
      refine c_end' ?_
      refine x_thenN ?_
      exact j1 _ (decide (4194304 < x3)) a w0 (S.sub ⟨rfl, rfl, rfl, rfl, trivial⟩ (.cons .here (.cons .here .nil))) h2
/-! (*smithy/mem.Memory).Copy -/
abbrev mem_Memory_Copy.Ty : Type := ((List Int)) → Int → Int → Int → Option (((List Int)))
def mem_Memory_Copy.Ctr (s : mem_Memory_Copy.Ty) : Prop := ∀ (x1 : (List Int)) (x2 : Int) (x3 : Int) (x4 : Int) (ch_0_0 : Nat) (ch_0_1 : Option Addr) (ch_0_2 : Nat) (ch_0_3 : Nat) (r : ((List Int))) (h0 : s x1 x2 x3 x4 = some r) (mi : Mem) (w0 : World), okL mi [(.v (.pointer (some ⟨ch_0_0, 0, none⟩))), (.v (.int .i64 x2)), (.v (.int .i64 x3)), (.v (.int .i64 x4))] → Pre mi [Res.cells ch_0_0 72 [.one (.slice ch_0_1 ch_0_2 ch_0_3)], Res.row (Ty.int .u8) 5 ch_0_1 ch_0_2 ch_0_3 x1] w0 → Calls Try.prog 30 (([(.v (.pointer (some ⟨ch_0_0, 0, none⟩))), (.v (.int .i64 x2)), (.v (.int .i64 x3)), (.v (.int .i64 x4))] : List D).map D.val).toArray w0 (RetX mi [Res.cells ch_0_0 72 [.one (.slice ch_0_1 ch_0_2 ch_0_3)], Res.row (Ty.int .u8) 5 ch_0_1 ch_0_2 ch_0_3 x1] (fun (ch : (Option Addr) × Nat × Nat) => ((.tup []) : D)) (fun (ch : (Option Addr) × Nat × Nat) => [Res.cells ch_0_0 72 [.one (.slice ch.1 ch.2.1 ch.2.2)], Res.row (Ty.int .u8) 5 ch.1 ch.2.1 ch.2.2 r]) w0)
def mem_Memory_Copy.f (x1 : (List Int)) (x2 : Int) (x3 : Int) (x4 : Int) : Option (((List Int))) := (mem_Memory_Read.f (x1) x3 x4).bind fun t1 => ((mem_Memory_Write.f (x1) x2 t1).bind fun t2 => (some (t2)))
theorem mem_Memory_Copy.ok : mem_Memory_Copy.Ctr (mem_Memory_Copy.f) := by
  intro x1 x2 x3 x4 ch_0_0 ch_0_1 ch_0_2 ch_0_3 r h0 mi w0 ok hm
  delta mem_Memory_Copy.f at h0
  refine c_enterX (n := 15) [(.v (.pointer (some ⟨ch_0_0, 0, none⟩))), (.v (.int .i64 x2)), (.v (.int .i64 x3)), (.v (.int .i64 x4))] (l := [(0, (.v (.pointer (some ⟨ch_0_0, 0, none⟩)))), (1, (.v (.int .i64 x2))), (2, (.v (.int .i64 x3))), (3, (.v (.int .i64 x4)))]) Try.func30 rfl rfl rfl rfl ok hm ?_
  clear ok hm
  intro b0 hb a S
  refine c_region' ?_
  refine s_move S rfl rfl ?_; clear S a; intro a S
  refine s_move S rfl rfl ?_; clear S a; intro a S
  refine s_move S rfl rfl ?_; clear S a; intro a S
  refine s_move S rfl rfl ?_; clear S a; intro a S
  refine s_move S rfl rfl ?_; clear S a; intro a S
  obtain ⟨t1, et1, h1⟩ := bind_of h0; clear h0
  refine s_callX S (ds' := [(.v (.pointer (some ⟨ch_0_0, 0, none⟩))), (.v (.int .i64 x3)), (.v (.int .i64 x4))]) (ds := [(.v (.pointer (some ⟨ch_0_0, 0, none⟩))), (.v (.int .i64 x3)), (.v (.int .i64 x4))]) [Res.cells ch_0_0 72 [.one (.slice ch_0_1 ch_0_2 ch_0_3)], Res.row (Ty.int .u8) 5 ch_0_1 ch_0_2 ch_0_3 x1] [] (fun (ch : (Option Addr) × Nat × Nat) => ((.v (.slice ch.1 ch.2.1 ch.2.2)) : D)) (fun (ch : (Option Addr) × Nat × Nat) => [Res.row (Ty.int .u8) 5 ch.1 ch.2.1 ch.2.2 t1, Res.cells ch_0_0 72 [.one (.slice ch_0_1 ch_0_2 ch_0_3)], Res.row (Ty.int .u8) 5 ch_0_1 ch_0_2 ch_0_3 x1]) (fun (ch : (Option Addr) × Nat × Nat) => [Res.row (Ty.int .u8) 5 ch.1 ch.2.1 ch.2.2 t1, Res.cells ch_0_0 72 [.one (.slice ch_0_1 ch_0_2 ch_0_3)], Res.row (Ty.int .u8) 5 ch_0_1 ch_0_2 ch_0_3 x1]) (fun _ => rfl) N34 rfl rfl (fun ok => ok) (.cons .here (.cons .here .nil)) rfl (mem_Memory_Read.ok (x1) x3 x4 ch_0_0 ch_0_1 ch_0_2 ch_0_3 t1 et1 _ _) ?_; clear S a; intro ch1 m le1 a w S
  replace S := S.rowfro .here
  obtain ⟨m, le1, S, hro⟩ := S
  replace S := S.slotro (u := 13) rfl hro
  obtain ⟨t2, et2, h2⟩ := bind_of h1; clear h1
  refine s_callX S (ds' := [(.v (.pointer (some ⟨ch_0_0, 0, none⟩))), (.v (.int .i64 x2)), (.sl ch1.1 (t1).length ch1.2.2 (RdS (Ty.int .u8) ch1.1 t1))]) (ds := [(.v (.pointer (some ⟨ch_0_0, 0, none⟩))), (.v (.int .i64 x2)), (.sl ch1.1 (t1).length ch1.2.2 (RdS (Ty.int .u8) ch1.1 t1))]) [Res.cells ch_0_0 72 [.one (.slice ch_0_1 ch_0_2 ch_0_3)], Res.row (Ty.int .u8) 5 ch_0_1 ch_0_2 ch_0_3 x1] [] (fun (ch : (Option Addr) × Nat × Nat) => ((.tup []) : D)) (fun (ch : (Option Addr) × Nat × Nat) => [Res.cells ch_0_0 72 [.one (.slice ch.1 ch.2.1 ch.2.2)], Res.row (Ty.int .u8) 5 ch.1 ch.2.1 ch.2.2 t2]) (fun (ch : (Option Addr) × Nat × Nat) => [Res.cells ch_0_0 72 [.one (.slice ch.1 ch.2.1 ch.2.2)], Res.row (Ty.int .u8) 5 ch.1 ch.2.1 ch.2.2 t2]) (fun _ => rfl) N28 rfl rfl (fun ok => ok) (.cons .here (.cons .here .nil)) rfl (mem_Memory_Write.ok (x1) x2 t1 ch_0_0 ch_0_1 ch_0_2 ch_0_3 ch1.1 ch1.2.2 t2 et2 _ _) ?_; clear S a w; intro ch2 m le1 a w S
  refine c_end' ?_
  refine b_end ?_
  obtain rfl := Option.some.inj h2
  exact b_ret0 S rfl (S.retX (Hx := []) hb _ _ ((ch2.1, ch2.2.1, ch2.2.2) : (Option Addr) × Nat × Nat) (.cons .here (.cons .here .nil)) trivial)
/-! smithy/smithyref10.Read -/
abbrev smithyref10_Read.Ty : Type := (List Int) → Int → Int → Option ((List Int))
def smithyref10_Read.Ctr (s : smithyref10_Read.Ty) : Prop := ∀ (x1 : List Int) (x2 : Int) (x3 : Int) (ch_0_0 : Option Addr) (ch_0_1 : Nat) (r : (List Int)) (h0 : s x1 x2 x3 = some r) (mi : Mem) (w0 : World), okL mi [(.sl ch_0_0 (x1).length ch_0_1 (RdS (Ty.int .u8) ch_0_0 x1)), (.v (.int .i64 x2)), (.v (.int .i64 x3))] → Pre mi [] w0 → Calls Try.prog 31 (([(.sl ch_0_0 (x1).length ch_0_1 (RdS (Ty.int .u8) ch_0_0 x1)), (.v (.int .i64 x2)), (.v (.int .i64 x3))] : List D).map D.val).toArray w0 (RetX mi [] (fun (ch : (Option Addr) × Nat × Nat) => ((.v (.slice ch.1 ch.2.1 ch.2.2)) : D)) (fun (ch : (Option Addr) × Nat × Nat) => [Res.row (Ty.int .u8) 5 ch.1 ch.2.1 ch.2.2 r]) w0)
def smithyref10_Read.j1 (y1 : List Int) : Option ((List Int)) := some y1
def smithyref10_Read.j3 (y8 : Int) (rec1 : Int → (List Int) → Option ((List Int))) (y11 : List Int) : Option ((List Int)) := rec1 (wr .i64 (y8 + 1)) y11
def smithyref10_Read.j2 (x1 : List Int) (x2 : Int) (y8 : Int) (y9 : List Int) (rec1 : Int → (List Int) → Option ((List Int))) (y10 : Bool) : Option ((List Int)) := if y10 = true then (if (decide (x2 < (wr .i64 (((x1).length : Int) - y8)))) = true then (if 0 ≤ (wr .i64 (x2 + y8)) ∧ (wr .i64 (x2 + y8)) < ((x1).length : Int) then (if ((y9).length + ([rd x1 (wr .i64 (x2 + y8))]).length) * 1 ≤ 140737488355328 then (smithyref10_Read.j3 y8 rec1 (y9 ++ [rd x1 (wr .i64 (x2 + y8))])) else none) else none) else (if ((y9).length + ([0]).length) * 1 ≤ 140737488355328 then (smithyref10_Read.j3 y8 rec1 (y9 ++ [0])) else none)) else (smithyref10_Read.j1 y9)
def smithyref10_Read.b1 (x1 : List Int) (x2 : Int) (x3 : Int) (rec1 : Int → (List Int) → Option ((List Int))) (y8 : Int) (y9 : List Int) : Option ((List Int)) := if (decide (y8 < x3)) = true then (smithyref10_Read.j2 x1 x2 y8 y9 rec1 (decide (x3 ≤ 4194304))) else (smithyref10_Read.j2 x1 x2 y8 y9 rec1 false)
def smithyref10_Read.l1 (x1 : List Int) (x2 : Int) (x3 : Int) : Nat → Int → (List Int) → Option ((List Int))
  | 0, _, _ => none
  | q + 1, y8, y9 => smithyref10_Read.b1 x1 x2 x3 (smithyref10_Read.l1 x1 x2 x3 q) y8 y9
def smithyref10_Read.f (k : Nat) (x1 : List Int) (x2 : Int) (x3 : Int) : Option ((List Int)) := if (decide (x2 < 0)) = true then (some ([] : List Int)) else (smithyref10_Read.l1 x1 x2 x3 k 0 ([] : List Int))
theorem smithyref10_Read.ok (k : Nat) : smithyref10_Read.Ctr (smithyref10_Read.f k) := by
  intro x1 x2 x3 ch_0_0 ch_0_1 r h0 mi w0 ok hm
  delta smithyref10_Read.f at h0
  refine c_enterX (n := 41) [(.sl ch_0_0 (x1).length ch_0_1 (RdS (Ty.int .u8) ch_0_0 x1)), (.v (.int .i64 x2)), (.v (.int .i64 x3))] (l := [(0, (.sl ch_0_0 (x1).length ch_0_1 (RdS (Ty.int .u8) ch_0_0 x1))), (1, (.v (.int .i64 x2))), (2, (.v (.int .i64 x3)))]) Try.func31 rfl rfl rfl rfl ok hm ?_
  clear ok hm
  intro b0 hb a S
  refine c_region ?_
  refine s_assign S rfl rfl ?_; clear S a; intro a S
  refine c_end ?_
  refine c_region ?_
  refine s_bldSl S (ty' := (Ty.int .u8)) (ds := []) (z := 0) (c0 := ()) (ys := ([] : List Int)) (cs := []) rfl Try.underlying38 J5 Z5 rfl ⟨rfl, trivial⟩ rfl rfl rfl rfl rfl rfl ?_; clear S a; intro g1 a w S
  refine s_assign S rfl rfl ?_; clear S a; intro a S
  refine c_end ?_
  refine wp_seq ?_
  refine c_region ?_
  refine s_move S rfl rfl ?_; clear S a; intro a S
  refine s_bin S rfl rfl rfl rfl ?_; clear S a; intro a S
  refine c_end ?_
  rcases ite_of h0 with ⟨c1, h1⟩ | ⟨c1, h1⟩ <;> clear h0
  · refine c_condT S rfl c1 ?_
    refine c_region ?_
    refine s_move S rfl rfl ?_; clear S a; intro a S
    refine s_assign S rfl rfl ?_; clear S a; intro a S
    refine c_end ?_
    refine wp_ret ?_
    refine x_thenR ?_
    obtain rfl := Option.some.inj h1
    exact b_ret1 (d := (.v (.slice (some ⟨g1, 0, none⟩) 0 0))) S rfl rfl fun ok => S.retX (Hx := []) hb _ _ (((some ⟨g1, 0, none⟩), 0, 0) : (Option Addr) × Nat × Nat) (.cons .here .nil) ok
  · refine c_condF S rfl c1 ?_
    refine wp_skip ?_
    refine x_thenN ?_
    refine wp_seq_k ?_
    intro K1 hK1
    have j1 : ∀ (m : Mem) (A1 : Option Addr) (nn1 : Nat) (cp1 : Nat) (y1 : List Int) (a : Act) (w : World), St 41 m b0 [(7, (.v (.slice A1 nn1 cp1)))] [Res.row (Ty.int .u8) 5 A1 nn1 cp1 y1] a w → smithyref10_Read.j1 y1 = some r → K1 a w := by
      intro m A1 nn1 cp1 y1 a w S h0
      delta smithyref10_Read.j1 at h0
      refine hK1 a w ?_
      refine c_region ?_
      refine s_move S rfl rfl ?_; clear S a; intro a S
      refine s_assign S rfl rfl ?_; clear S a; intro a S
      refine c_end ?_
      refine wp_ret ?_
      obtain rfl := Option.some.inj h0
      exact b_ret1 (d := (.v (.slice A1 nn1 cp1))) S rfl rfl fun ok => S.retX (Hx := []) hb _ _ ((A1, nn1, cp1) : (Option Addr) × Nat × Nat) (.cons .here .nil) ok
    refine c_region ?_
    refine s_assign S rfl rfl ?_; clear S a; intro a S
    refine c_end ?_
    refine wp_block ?_
    refine c_loop (fun q1 a w => ∃ (m : Mem) (y8 : Int) (A2 : Option Addr) (nn3 : Nat) (cp9 : Nat) (y9 : List Int), St 41 m b0 [(8, (.v (.int .i64 y8))), (7, (.v (.slice A2 nn3 cp9))), (0, (.sl ch_0_0 (x1).length ch_0_1 (RdS (Ty.int .u8) ch_0_0 x1))), (1, (.v (.int .i64 x2))), (2, (.v (.int .i64 x3)))] [Res.row (Ty.int .u8) 5 A2 nn3 cp9 y9] a w ∧ smithyref10_Read.l1 x1 x2 x3 q1 y8 y9 = some r) ?_ ?_ (k := k) ⟨_, 0, (some ⟨g1, 0, none⟩), 0, 0, ([] : List Int), (S.sub ⟨rfl, rfl, rfl, rfl, rfl, trivial⟩ (.cons .here .nil)), h1⟩
    · rintro a w ⟨m, y8, A2, nn3, cp9, y9, S, h0⟩
      exact (nomatch (show (none : Option ((List Int))) = some r from h0))
    · clear S h1
      rintro q1 a w ⟨m, y8, A2, nn3, cp9, y9, S, h0⟩
      replace h0 : smithyref10_Read.b1 x1 x2 x3 (smithyref10_Read.l1 x1 x2 x3 q1) y8 y9 = some r := h0
      delta smithyref10_Read.b1 at h0
      refine wp_seq ?_
      refine wp_seq_k ?_
      intro K2 hK2
      have j2 : ∀ (m : Mem) (y10 : Bool) (a : Act) (w : World), St 41 m b0 [(19, (.v (.bool y10))), (8, (.v (.int .i64 y8))), (7, (.v (.slice A2 nn3 cp9))), (0, (.sl ch_0_0 (x1).length ch_0_1 (RdS (Ty.int .u8) ch_0_0 x1))), (1, (.v (.int .i64 x2))), (2, (.v (.int .i64 x3)))] [Res.row (Ty.int .u8) 5 A2 nn3 cp9 y9] a w → smithyref10_Read.j2 x1 x2 y8 y9 (smithyref10_Read.l1 x1 x2 x3 q1) y10 = some r → K2 a w := by
        intro m y10 a w S h0
        delta smithyref10_Read.j2 at h0
        refine hK2 a w ?_
        rcases ite_of h0 with ⟨c2, h1⟩ | ⟨c2, h1⟩ <;> clear h0
        · refine c_condT S rfl c2 ?_
          refine wp_skip ?_
          refine x_thenN ?_
          refine wp_seq_k ?_
          intro K3 hK3
          have j3 : ∀ (m : Mem) (A3 : Option Addr) (cp12 : Nat) (y11 : List Int) (a : Act) (w : World), St 41 m b0 [(7, (.v (.slice A3 (nn3 + 1) cp12))), (8, (.v (.int .i64 y8))), (0, (.sl ch_0_0 (x1).length ch_0_1 (RdS (Ty.int .u8) ch_0_0 x1))), (1, (.v (.int .i64 x2))), (2, (.v (.int .i64 x3)))] [Res.row (Ty.int .u8) 5 A3 (nn3 + 1) cp12 y11] a w → smithyref10_Read.j3 y8 (smithyref10_Read.l1 x1 x2 x3 q1) y11 = some r → K3 a w := by
            intro m A3 cp12 y11 a w S h0
            delta smithyref10_Read.j3 at h0
            refine hK3 a w ?_
            refine c_region' ?_
            refine s_move S rfl rfl ?_; clear S a; intro a S
            refine s_bin S rfl rfl rfl rfl ?_; clear S a; intro a S
            refine s_assign S rfl rfl ?_; clear S a; intro a S
            refine c_end' ?_
            refine x_thenN ?_
            exact ⟨_, (wr .i64 (y8 + 1)), A3, (nn3 + 1), cp12, y11, (S.sub ⟨rfl, rfl, rfl, rfl, rfl, trivial⟩ (.cons .here .nil)), h0⟩
          refine wp_block ?_
          refine c_region ?_
          refine s_move S rfl rfl ?_; clear S a; intro a S
          refine s_move S rfl rfl ?_; clear S a; intro a S
          refine s_lenS S rfl Try.underlying38 rfl ?_; clear S a; intro a S
          refine s_move S rfl rfl ?_; clear S a; intro a S
          refine s_bin S rfl rfl rfl rfl ?_; clear S a; intro a S
          refine s_bin S rfl rfl rfl rfl ?_; clear S a; intro a S
          refine c_end ?_
          rcases ite_of h1 with ⟨c3, h2⟩ | ⟨c3, h2⟩ <;> clear h1
          · refine c_condT S rfl c3 ?_
            refine c_region' ?_
            refine s_move S rfl rfl ?_; clear S a; intro a S
            refine s_move S rfl rfl ?_; clear S a; intro a S
            refine s_move S rfl rfl ?_; clear S a; intro a S
            refine s_move S rfl rfl ?_; clear S a; intro a S
            refine s_bin S rfl rfl rfl rfl ?_; clear S a; intro a S
            obtain ⟨c4, h3⟩ := chk_of h2; clear h2
            refine s_iaddrS S rfl rfl rfl Try.underlying38 T5 c4.1 c4.2 rfl ?_; clear S a; intro p1 a S
            refine s_ld1 S (v := (.int .u8 (rd x1 (wr .i64 (x2 + y8))))) rfl T5 (fun _ => rfl) rfl ?_; clear S a; intro a S
            refine s_bldSl S (ty' := (Ty.int .u8)) (ds := [(0, (.v (.int .u8 (rd x1 (wr .i64 (x2 + y8))))))]) (z := 0) (c0 := ()) (ys := [rd x1 (wr .i64 (x2 + y8))]) (cs := [()]) rfl Try.underlying38 J5 Z5 rfl ⟨rfl, trivial⟩ rfl rfl rfl rfl rfl rfl ?_; clear S a w; intro g4 a w S
            obtain ⟨c5, h4⟩ := chk_of h3; clear h3
            refine s_app S (k2 := 1) (ys := [rd x1 (wr .i64 (x2 + y8))]) rfl (fun _ _ => (.there .here)) rfl rfl (S.holds _ (Pull.mem .here).1).1 (Res.row.src (S.holds _ (Pull.mem .here).1)) Try.underlying38 J5 c5 rfl ?_; clear S a w; intro A4 cp13 a w S
            refine s_assign S rfl rfl ?_; clear S a; intro a S
            refine c_end' ?_
            refine x_blockN ?_
            refine x_thenN ?_
            exact j3 _ A4 cp13 (y9 ++ [rd x1 (wr .i64 (x2 + y8))]) a w (S.sub ⟨rfl, rfl, rfl, rfl, rfl, trivial⟩ (.cons (.there .here) .nil)) h4
          · refine c_condF S rfl c3 ?_
            refine c_region' ?_
            refine s_move S rfl rfl ?_; clear S a; intro a S
            refine s_bldSl S (ty' := (Ty.int .u8)) (ds := [(0, (.v (.int .u8 0)))]) (z := 0) (c0 := ()) (ys := [0]) (cs := [()]) rfl Try.underlying38 J5 Z5 rfl ⟨rfl, trivial⟩ rfl rfl rfl rfl rfl rfl ?_; clear S a w; intro g5 a w S
            obtain ⟨c6, h3⟩ := chk_of h2; clear h2
            refine s_app S (k2 := 1) (ys := [0]) rfl (fun _ _ => (.there .here)) rfl rfl (S.holds _ (Pull.mem .here).1).1 (Res.row.src (S.holds _ (Pull.mem .here).1)) Try.underlying38 J5 c6 rfl ?_; clear S a w; intro A5 cp14 a w S
            refine s_assign S rfl rfl ?_; clear S a; intro a S
            refine c_end' ?_
            refine x_blockN ?_
            refine x_thenN ?_
            exact j3 _ A5 cp14 (y9 ++ [0]) a w (S.sub ⟨rfl, rfl, rfl, rfl, rfl, trivial⟩ (.cons (.there .here) .nil)) h3
        · refine c_condF S rfl c2 ?_
          refine wp_exit ?_
          refine x_thenX ?_
          refine x_thenX ?_
          refine x_blockX ?_
          refine x_thenN ?_
          exact j1 _ A2 nn3 cp9 y9 a w (S.sub ⟨rfl, trivial⟩ (.cons .here .nil)) h1
      refine c_region' ?_
      refine s_move S rfl rfl ?_; clear S a; intro a S
      refine s_move S rfl rfl ?_; clear S a; intro a S
      refine s_bin S rfl rfl rfl rfl ?_; clear S a; intro a S
      refine s_move S rfl rfl ?_; clear S a; intro a S
      rcases ite_of h0 with ⟨c7, h1⟩ | ⟨c7, h1⟩ <;> clear h0
      · refine s_gT S (b := (decide (y8 < x3))) rfl rfl c7 ?_
        refine s_move S rfl rfl ?_; clear S a; intro a S
        refine s_gT S (b := (decide (y8 < x3))) rfl rfl c7 ?_
        refine s_bin S rfl rfl rfl rfl ?_; clear S a; intro a S
        refine s_pick S (b := true) (hc_of rfl c7) rfl rfl ?_; clear S a; intro a S
        refine c_end' ?_
        refine x_thenN ?_
        exact j2 _ (decide (x3 ≤ 4194304)) a w (S.sub ⟨rfl, rfl, rfl, rfl, rfl, rfl, trivial⟩ (.cons .here .nil)) h1
      · refine s_gF S (b := (decide (y8 < x3))) rfl rfl c7 rfl ?_; clear S a; intro a S
        refine s_gF S (b := (decide (y8 < x3))) rfl rfl c7 rfl ?_; clear S a; intro a S
        refine s_pick S (b := false) (hc_of rfl c7) rfl rfl ?_; clear S a; intro a S
        refine c_end' ?_
        refine x_thenN ?_
        exact j2 _ false a w (S.sub ⟨rfl, rfl, rfl, rfl, rfl, rfl, trivial⟩ (.cons .here .nil)) h1
/-! smithy/word.Bytes -/
abbrev word_Bytes.Ty : Type := (List Int) → Option ((List Int))
def word_Bytes.Ctr (s : word_Bytes.Ty) : Prop := ∀ (x1 : List Int) (r : (List Int)) (h0 : s x1 = some r) (mi : Mem) (w0 : World), okL mi [(.agg [.ints .u64 x1 4])] → Pre mi [] w0 → Calls Try.prog 44 (([(.agg [.ints .u64 x1 4])] : List D).map D.val).toArray w0 (RetX mi [] (fun (ch : Unit) => ((.agg [.ints .u8 r 32]) : D)) (fun (ch : Unit) => []) w0)
def word_Bytes.j1 (y1 : List Int) : Option ((List Int)) := some y1
def word_Bytes.j2 (y14 : Int) (rec1 : Int → (List Int) → Option ((List Int))) (y20 : List Int) : Option ((List Int)) := rec1 (wr .i64 (y14 + 1)) y20
def word_Bytes.b2 (x1 : List Int) (y14 : Int) (rec1 : Int → (List Int) → Option ((List Int))) (rec2 : Int → (List Int) → Option ((List Int))) (y23 : Int) (y24 : List Int) : Option ((List Int)) := if (decide (y23 < 8)) = true then (if 0 ≤ (wr .i64 (8 * y23)) then (if 0 ≤ (wr .i64 ((wr .i64 (31 - (wr .i64 (8 * y14)))) - y23)) ∧ (wr .i64 ((wr .i64 (31 - (wr .i64 (8 * y14)))) - y23)) < 32 then (rec2 (wr .i64 (y23 + 1)) (y24.set (Int.toNat (wr .i64 ((wr .i64 (31 - (wr .i64 (8 * y14)))) - y23))) (wr .u8 (shr (rd x1 y14) (min (Int.toNat (wr .i64 (8 * y23))) 64))))) else none) else none) else (word_Bytes.j2 y14 rec1 y24)
def word_Bytes.l2 (x1 : List Int) (y14 : Int) (rec1 : Int → (List Int) → Option ((List Int))) : Nat → Int → (List Int) → Option ((List Int))
  | 0, _, _ => none
  | q + 1, y23, y24 => word_Bytes.b2 x1 y14 rec1 (word_Bytes.l2 x1 y14 rec1 q) y23 y24
def word_Bytes.b1 (k : Nat) (x1 : List Int) (rec1 : Int → (List Int) → Option ((List Int))) (y14 : Int) (y15 : List Int) : Option ((List Int)) := if (decide (y14 < 4)) = true then (if 0 ≤ y14 ∧ y14 < 4 then (word_Bytes.l2 x1 y14 rec1 k 0 y15) else none) else (word_Bytes.j1 y15)
def word_Bytes.l1 (k : Nat) (x1 : List Int) : Nat → Int → (List Int) → Option ((List Int))
  | 0, _, _ => none
  | q + 1, y14, y15 => word_Bytes.b1 k x1 (word_Bytes.l1 k x1 q) y14 y15
def word_Bytes.f (k : Nat) (x1 : List Int) : Option ((List Int)) := word_Bytes.l1 k x1 k 0 [0, 0, 0, 0, 0, 0, 0, 0, 0, 0, 0, 0, 0, 0, 0, 0, 0, 0, 0, 0, 0, 0, 0, 0, 0, 0, 0, 0, 0, 0, 0, 0]
theorem word_Bytes.ok (k : Nat) : word_Bytes.Ctr (word_Bytes.f k) := by
  intro x1 r h0 mi w0 ok hm
  delta word_Bytes.f at h0
  refine c_enterX (n := 29) [(.agg [.ints .u64 x1 4])] (l := [(0, (.agg [.ints .u64 x1 4]))]) Try.func44 rfl rfl rfl rfl ok hm ?_
  clear ok hm
  intro b0 hb a S
  refine c_region ?_
  refine s_box S rfl rfl rfl ?_; clear S a; intro g1 a w S
  refine s_alloc S Z76 rfl ⟨rfl, trivial⟩ rfl ?_; clear S a w; intro g2 a w S
  refine c_end ?_
  refine c_region ?_
  refine s_alloc S Z76 rfl ⟨rfl, trivial⟩ rfl ?_; clear S a w; intro g3 a w S
  refine c_end ?_
  refine wp_seq_k ?_
  intro K1 hK1
  have j1 : ∀ (m : Mem) (g26 : Nat) (g27 : Nat) (y1 : List Int) (a : Act) (w : World), St 29 m b0 [(3, (.v (.pointer (some ⟨g26, 0, none⟩)))), (2, (.v (.pointer (some ⟨g27, 0, none⟩))))] [Res.cells g26 76 [.ints .u8 y1 32], Res.cells g27 76 [.ints .u8 [0, 0, 0, 0, 0, 0, 0, 0, 0, 0, 0, 0, 0, 0, 0, 0, 0, 0, 0, 0, 0, 0, 0, 0, 0, 0, 0, 0, 0, 0, 0, 0] 32]] a w → word_Bytes.j1 y1 = some r → K1 a w := by
    intro m g26 g27 y1 a w S h0
    delta word_Bytes.j1 at h0
    refine hK1 a w ?_
    refine c_region ?_
    refine s_loada S rfl .here T76 (s' := [.ints .u8 y1 32]) rfl rfl ?_; clear S a; intro a S
    refine s_store S rfl rfl rfl (s' := [.ints .u8 y1 32]) (.there .here) T76 rfl rfl ?_; clear S w; intro w S
    refine c_end ?_
    refine wp_ret ?_
    obtain rfl := Option.some.inj h0
    exact b_ret1 (d := (.agg [.ints .u8 y1 32])) S rfl (resD_cell rfl (.there .here) T76 rfl rfl) fun ok => S.retX (Hx := []) hb _ _ (() : Unit) .nil ok
  refine c_region ?_
  refine s_loada S rfl (.there (.there .here)) T27 (s' := [.ints .u64 x1 4]) rfl rfl ?_; clear S a; intro a S
  refine s_move S rfl rfl ?_; clear S a; intro a S
  refine c_end ?_
  refine wp_block ?_
  refine c_loop (fun q1 a w => ∃ (m : Mem) (y14 : Int) (g48 : Nat) (g49 : Nat) (y15 : List Int), St 29 m b0 [(8, (.v (.int .i64 y14))), (7, (.agg [.ints .u64 x1 4])), (3, (.v (.pointer (some ⟨g48, 0, none⟩)))), (2, (.v (.pointer (some ⟨g49, 0, none⟩))))] [Res.cells g48 76 [.ints .u8 y15 32], Res.cells g49 76 [.ints .u8 [0, 0, 0, 0, 0, 0, 0, 0, 0, 0, 0, 0, 0, 0, 0, 0, 0, 0, 0, 0, 0, 0, 0, 0, 0, 0, 0, 0, 0, 0, 0, 0] 32]] a w ∧ word_Bytes.l1 k x1 q1 y14 y15 = some r) ?_ ?_ (k := k) ⟨_, 0, g3, g2, [0, 0, 0, 0, 0, 0, 0, 0, 0, 0, 0, 0, 0, 0, 0, 0, 0, 0, 0, 0, 0, 0, 0, 0, 0, 0, 0, 0, 0, 0, 0, 0], (S.sub ⟨rfl, rfl, rfl, rfl, trivial⟩ (.cons .here (.cons .here .nil))), h0⟩
  · rintro a w ⟨m, y14, g48, g49, y15, S, h0⟩
    exact (nomatch (show (none : Option ((List Int))) = some r from h0))
  · clear S h0
    rintro q1 a w ⟨m, y14, g48, g49, y15, S, h0⟩
    replace h0 : word_Bytes.b1 k x1 (word_Bytes.l1 k x1 q1) y14 y15 = some r := h0
    delta word_Bytes.b1 at h0
    refine c_region ?_
    refine s_bin S rfl rfl rfl rfl ?_; clear S a; intro a S
    refine c_end ?_
    refine wp_seq ?_
    rcases ite_of h0 with ⟨c1, h1⟩ | ⟨c1, h1⟩ <;> clear h0
    · refine c_condT S rfl c1 ?_
      refine wp_skip ?_
      refine x_thenN ?_
      refine wp_seq_k ?_
      intro K2 hK2
      have j2 : ∀ (m : Mem) (g56 : Nat) (g57 : Nat) (y20 : List Int) (a : Act) (w : World), St 29 m b0 [(8, (.v (.int .i64 y14))), (7, (.agg [.ints .u64 x1 4])), (3, (.v (.pointer (some ⟨g56, 0, none⟩)))), (2, (.v (.pointer (some ⟨g57, 0, none⟩))))] [Res.cells g56 76 [.ints .u8 y20 32], Res.cells g57 76 [.ints .u8 [0, 0, 0, 0, 0, 0, 0, 0, 0, 0, 0, 0, 0, 0, 0, 0, 0, 0, 0, 0, 0, 0, 0, 0, 0, 0, 0, 0, 0, 0, 0, 0] 32]] a w → word_Bytes.j2 y14 (word_Bytes.l1 k x1 q1) y20 = some r → K2 a w := by
        intro m g56 g57 y20 a w S h0
        delta word_Bytes.j2 at h0
        refine hK2 a w ?_
        refine c_region' ?_
        refine s_bin S rfl rfl rfl rfl ?_; clear S a; intro a S
        refine s_move S rfl rfl ?_; clear S a; intro a S
        refine c_end' ?_
        refine x_thenN ?_
        exact ⟨_, (wr .i64 (y14 + 1)), g56, g57, y20, (S.sub ⟨rfl, rfl, rfl, rfl, trivial⟩ (.cons .here (.cons .here .nil))), h0⟩
      refine wp_block ?_
      refine c_region ?_
      refine s_move S rfl rfl ?_; clear S a; intro a S
      obtain ⟨c2, h2⟩ := chk_of h1; clear h1
      refine s_index S rfl rfl Try.underlying27 T22 c2.1 c2.2 rfl ?_; clear S a; intro a S
      refine s_assign S rfl rfl ?_; clear S a; intro a S
      refine s_assign S rfl rfl ?_; clear S a; intro a S
      refine c_end ?_
      refine c_region ?_
      refine s_move S rfl rfl ?_; clear S a; intro a S
      refine c_end ?_
      refine wp_block ?_
      refine c_loop (fun q2 a w => ∃ (m : Mem) (y23 : Int) (g62 : Nat) (g63 : Nat) (y24 : List Int), St 29 m b0 [(12, (.v (.int .i64 y23))), (5, (.v (.int .u64 (rd x1 y14)))), (4, (.v (.int .i64 y14))), (8, (.v (.int .i64 y14))), (7, (.agg [.ints .u64 x1 4])), (3, (.v (.pointer (some ⟨g62, 0, none⟩)))), (2, (.v (.pointer (some ⟨g63, 0, none⟩))))] [Res.cells g62 76 [.ints .u8 y24 32], Res.cells g63 76 [.ints .u8 [0, 0, 0, 0, 0, 0, 0, 0, 0, 0, 0, 0, 0, 0, 0, 0, 0, 0, 0, 0, 0, 0, 0, 0, 0, 0, 0, 0, 0, 0, 0, 0] 32]] a w ∧ word_Bytes.l2 x1 y14 (word_Bytes.l1 k x1 q1) q2 y23 y24 = some r) ?_ ?_ (k := k) ⟨_, 0, g48, g49, y15, (S.sub ⟨rfl, rfl, rfl, rfl, rfl, rfl, rfl, trivial⟩ (.cons .here (.cons .here .nil))), h2⟩
      · rintro a w ⟨m, y23, g62, g63, y24, S, h0⟩
        exact (nomatch (show (none : Option ((List Int))) = some r from h0))
      · clear S h2
        rintro q2 a w ⟨m, y23, g62, g63, y24, S, h0⟩
        replace h0 : word_Bytes.b2 x1 y14 (word_Bytes.l1 k x1 q1) (word_Bytes.l2 x1 y14 (word_Bytes.l1 k x1 q1) q2) y23 y24 = some r := h0
        delta word_Bytes.b2 at h0
        refine c_region ?_
        refine s_bin S rfl rfl rfl rfl ?_; clear S a; intro a S
        refine c_end ?_
        refine wp_seq ?_
        rcases ite_of h0 with ⟨c3, h1⟩ | ⟨c3, h1⟩ <;> clear h0
        · refine c_condT S rfl c3 ?_
          refine wp_skip ?_
          refine x_thenN ?_
          refine wp_seq ?_
          refine wp_block ?_
          refine c_region ?_
          refine s_move S rfl rfl ?_; clear S a; intro a S
          refine s_assign S rfl rfl ?_; clear S a; intro a S
          refine c_end ?_
          refine c_region' ?_
          refine s_move S rfl rfl ?_; clear S a; intro a S
          refine s_bin S rfl rfl rfl rfl ?_; clear S a; intro a S
          refine s_bin S rfl rfl rfl rfl ?_; clear S a; intro a S
          refine s_move S rfl rfl ?_; clear S a; intro a S
          refine s_bin S rfl rfl rfl rfl ?_; clear S a; intro a S
          refine s_move S rfl rfl ?_; clear S a; intro a S
          refine s_move S rfl rfl ?_; clear S a; intro a S
          refine s_bin S rfl rfl rfl rfl ?_; clear S a; intro a S
          obtain ⟨c4, h2⟩ := chk_of h1; clear h1
          refine s_shr S (e := (min (Int.toNat (wr .i64 (8 * y23))) 64)) rfl rfl c4 rfl rfl ?_; clear S a; intro a S
          refine s_conv S rfl rfl Try.underlying5 rfl ?_; clear S a; intro a S
          obtain ⟨c5, h3⟩ := chk_of h2; clear h2
          refine s_iaddr S rfl rfl Try.underlying76 T5 c5.1 c5.2 (mul1 _ _) rfl ?_; clear S a; intro a S
          refine s_storei S (i := (wr .i64 ((wr .i64 (31 - (wr .i64 (8 * y14)))) - y23))) rfl rfl .here T5 .here rfl c5.1 c5.2 ?_; clear S w; intro w S
          refine c_end' ?_
          refine x_blockN ?_
          refine x_thenN ?_
          refine c_region' ?_
          refine s_bin S rfl rfl rfl rfl ?_; clear S a; intro a S
          refine s_move S rfl rfl ?_; clear S a; intro a S
          refine c_end' ?_
          refine x_thenN ?_
          exact ⟨_, (wr .i64 (y23 + 1)), g62, g63, (y24.set (Int.toNat (wr .i64 ((wr .i64 (31 - (wr .i64 (8 * y14)))) - y23))) (wr .u8 (shr (rd x1 y14) (min (Int.toNat (wr .i64 (8 * y23))) 64)))), (S.sub ⟨rfl, rfl, rfl, rfl, rfl, rfl, rfl, trivial⟩ (.cons .here (.cons .here .nil))), h3⟩
        · refine c_condF S rfl c3 ?_
          refine wp_exit ?_
          refine x_thenX ?_
          refine x_thenX ?_
          refine x_blockX ?_
          refine x_blockN ?_
          refine x_thenN ?_
          exact j2 _ g62 g63 y24 a w (S.sub ⟨rfl, rfl, rfl, rfl, trivial⟩ (.cons .here (.cons .here .nil))) h1
    · refine c_condF S rfl c1 ?_
      refine wp_exit ?_
      refine x_thenX ?_
      refine x_thenX ?_
      refine x_blockX ?_
      refine x_thenN ?_
      exact j1 _ g48 g49 y15 a w (S.sub ⟨rfl, rfl, trivial⟩ (.cons .here (.cons .here .nil))) h1
/-! (*smithy/mem.Memory).SetWord -/
abbrev mem_Memory_SetWord.Ty : Type := ((List Int)) → Int → (List Int) → Option (((List Int)))
def mem_Memory_SetWord.Ctr (s : mem_Memory_SetWord.Ty) : Prop := ∀ (x1 : (List Int)) (x2 : Int) (x3 : List Int) (ch_0_0 : Nat) (ch_0_1 : Option Addr) (ch_0_2 : Nat) (ch_0_3 : Nat) (r : ((List Int))) (h0 : s x1 x2 x3 = some r) (mi : Mem) (w0 : World), okL mi [(.v (.pointer (some ⟨ch_0_0, 0, none⟩))), (.v (.int .i64 x2)), (.agg [.ints .u64 x3 4])] → Pre mi [Res.cells ch_0_0 72 [.one (.slice ch_0_1 ch_0_2 ch_0_3)], Res.row (Ty.int .u8) 5 ch_0_1 ch_0_2 ch_0_3 x1] w0 → Calls Try.prog 32 (([(.v (.pointer (some ⟨ch_0_0, 0, none⟩))), (.v (.int .i64 x2)), (.agg [.ints .u64 x3 4])] : List D).map D.val).toArray w0 (RetX mi [Res.cells ch_0_0 72 [.one (.slice ch_0_1 ch_0_2 ch_0_3)], Res.row (Ty.int .u8) 5 ch_0_1 ch_0_2 ch_0_3 x1] (fun (ch : (Option Addr) × Nat × Nat) => ((.tup []) : D)) (fun (ch : (Option Addr) × Nat × Nat) => [Res.cells ch_0_0 72 [.one (.slice ch.1 ch.2.1 ch.2.2)], Res.row (Ty.int .u8) 5 ch.1 ch.2.1 ch.2.2 r]) w0)
def mem_Memory_SetWord.f (k : Nat) (x1 : (List Int)) (x2 : Int) (x3 : List Int) : Option (((List Int))) := (word_Bytes.f k x3).bind fun t1 => ((mem_Memory_Write.f (x1) x2 (((t1).drop 0).take 32)).bind fun t2 => (some (t2)))
theorem mem_Memory_SetWord.ok (k : Nat) : mem_Memory_SetWord.Ctr (mem_Memory_SetWord.f k) := by
  intro x1 x2 x3 ch_0_0 ch_0_1 ch_0_2 ch_0_3 r h0 mi w0 ok hm
  delta mem_Memory_SetWord.f at h0
  refine c_enterX (n := 13) [(.v (.pointer (some ⟨ch_0_0, 0, none⟩))), (.v (.int .i64 x2)), (.agg [.ints .u64 x3 4])] (l := [(0, (.v (.pointer (some ⟨ch_0_0, 0, none⟩)))), (1, (.v (.int .i64 x2))), (2, (.agg [.ints .u64 x3 4]))]) Try.func32 rfl rfl rfl rfl ok hm ?_
  clear ok hm
  intro b0 hb a S
  refine c_region ?_
  refine s_box S rfl rfl rfl ?_; clear S a; intro g1 a w S
  refine c_end ?_
  refine c_region ?_
  refine s_loada S rfl .here T27 (s' := [.ints .u64 x3 4]) rfl rfl ?_; clear S a; intro a S
  obtain ⟨t1, et1, h1⟩ := bind_of h0; clear h0
  refine s_callX S (ds' := [(.agg [.ints .u64 x3 4])]) (ds := [(.agg [.ints .u64 x3 4])]) [] [Res.cells g1 27 [.ints .u64 x3 4], Res.cells ch_0_0 72 [.one (.slice ch_0_1 ch_0_2 ch_0_3)], Res.row (Ty.int .u8) 5 ch_0_1 ch_0_2 ch_0_3 x1] (fun (ch : Unit) => ((.agg [.ints .u8 t1 32]) : D)) (fun (ch : Unit) => []) (fun (ch : Unit) => [Res.cells g1 27 [.ints .u64 x3 4], Res.cells ch_0_0 72 [.one (.slice ch_0_1 ch_0_2 ch_0_3)], Res.row (Ty.int .u8) 5 ch_0_1 ch_0_2 ch_0_3 x1]) (fun _ => rfl) N44 rfl rfl (fun ok => ok) (.cons .here (.cons .here (.cons .here .nil))) rfl (word_Bytes.ok k x3 t1 et1 _ _) ?_; clear S a w; intro ch1 m le1 a w S
  refine s_alloc S Z76 rfl ⟨rfl, trivial⟩ rfl ?_; clear S a w; intro g2 a w S
  refine s_store S rfl rfl rfl (s' := [.ints .u8 t1 32]) .here T76 rfl rfl ?_; clear S w; intro w S
  refine c_end ?_
  refine c_region' ?_
  refine s_move S rfl rfl ?_; clear S a; intro a S
  refine s_move S rfl rfl ?_; clear S a; intro a S
  refine s_sliceA S (i := 0) (j := 32) (o' := 0) (len := 32) (cap := 32) rfl Try.underlying76 T5 (.inl ⟨rfl, rfl⟩) (.inl ⟨rfl, rfl⟩) (by decide) rfl rfl rfl rfl ?_; clear S a; intro a S
  replace S := S.freeze .here
  obtain ⟨m, le1, S⟩ := S
  replace S := (S.slup' (u := 11) (lo := 0) (c := 32) (ys := ((t1).drop 0).take 32) rfl (Pull.mem .here).1 .here (.inl rfl) (by decide) (by decide) rfl).2
  obtain ⟨t2, et2, h2⟩ := bind_of h1; clear h1
  refine s_callX S (ds' := [(.v (.pointer (some ⟨ch_0_0, 0, none⟩))), (.v (.int .i64 x2)), (.sl (some ⟨g2, 0, none⟩) (((t1).drop 0).take 32).length 32 (RdS (Ty.int .u8) (some ⟨g2, 0, none⟩) (((t1).drop 0).take 32)))]) (ds := [(.v (.pointer (some ⟨ch_0_0, 0, none⟩))), (.v (.int .i64 x2)), (.sl (some ⟨g2, 0, none⟩) (((t1).drop 0).take 32).length 32 (RdS (Ty.int .u8) (some ⟨g2, 0, none⟩) (((t1).drop 0).take 32)))]) [Res.cells ch_0_0 72 [.one (.slice ch_0_1 ch_0_2 ch_0_3)], Res.row (Ty.int .u8) 5 ch_0_1 ch_0_2 ch_0_3 x1] [Res.fro g2 76 [.ints .u8 t1 32], Res.cells g1 27 [.ints .u64 x3 4]] (fun (ch : (Option Addr) × Nat × Nat) => ((.tup []) : D)) (fun (ch : (Option Addr) × Nat × Nat) => [Res.cells ch_0_0 72 [.one (.slice ch.1 ch.2.1 ch.2.2)], Res.row (Ty.int .u8) 5 ch.1 ch.2.1 ch.2.2 t2]) (fun (ch : (Option Addr) × Nat × Nat) => [Res.cells ch_0_0 72 [.one (.slice ch.1 ch.2.1 ch.2.2)], Res.row (Ty.int .u8) 5 ch.1 ch.2.1 ch.2.2 t2, Res.fro g2 76 [.ints .u8 t1 32], Res.cells g1 27 [.ints .u64 x3 4]]) (fun _ => rfl) N28 rfl rfl (fun ok => ok) (.cons (.there (.there .here)) (.cons (.there (.there .here)) (.cons .here (.cons .here .nil)))) rfl (mem_Memory_Write.ok (x1) x2 (((t1).drop 0).take 32) ch_0_0 ch_0_1 ch_0_2 ch_0_3 (some ⟨g2, 0, none⟩) 32 t2 et2 _ _) ?_; clear S a w; intro ch2 m le1 a w S
  refine c_end' ?_
  refine b_end ?_
  obtain rfl := Option.some.inj h2
  exact b_ret0 S rfl (S.retX (Hx := []) hb _ _ ((ch2.1, ch2.2.1, ch2.2.2) : (Option Addr) × Nat × Nat) (.cons .here (.cons .here .nil)) trivial)
end GW
