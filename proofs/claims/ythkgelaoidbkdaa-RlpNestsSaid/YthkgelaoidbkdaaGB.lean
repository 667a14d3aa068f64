/-
  Printed by a program of these sessions (wip/gw/gx.py): for each Go function a Lean function with the same answers, and the walk that shows it.
-/
import Derived.Test.YthkgelaoidbkdaaProg
import Derived.Test.YthkgelaoidbkdaaGA
set_option linter.unusedVariables false
set_option maxRecDepth 10000
namespace GW
open Go Go.RowKit Go.Proofs
/-! smithy/smithyref01.Of -/
abbrev smithyref01_Of.Ty : Type := (List Int) → Option ((List Int))
def smithyref01_Of.Ctr (s : smithyref01_Of.Ty) : Prop := ∀ (x1 : List Int) (r : (List Int)) (h0 : s x1 = some r) (mi : Mem) (w0 : World), okL mi [(.agg [.ints .u64 x1 4])] → Pre mi [] w0 → Calls Try.prog 18 (([(.agg [.ints .u64 x1 4])] : List D).map D.val).toArray w0 (RetX mi [] (fun (ch : Unit) => ((.agg [.ints .i64 r 32]) : D)) (fun (ch : Unit) => []) w0)
def smithyref01_Of.j1 (y1 : List Int) : Option ((List Int)) := some y1
def smithyref01_Of.b1 (x1 : List Int) (rec1 : Int → (List Int) → Option ((List Int))) (y4 : Int) (y5 : List Int) : Option ((List Int)) := if (decide (y4 < 32)) = true then (if (0 : Int) ≤ (wr .i64 (Int.tdiv y4 8)) ∧ (wr .i64 (Int.tdiv y4 8)) < 4 then (if (0 : Int) ≤ (wr .i64 (8 * (Int.tmod y4 8))) then (if (0 : Int) ≤ y4 ∧ y4 < 32 then (rec1 (wr .i64 (y4 + 1)) (y5.set (Int.toNat y4) (wr .i64 (Int.tmod (shr (rd x1 (wr .i64 (Int.tdiv y4 8))) (min (Int.toNat (wr .i64 (8 * (Int.tmod y4 8)))) 64)) 256)))) else none) else none) else none) else (smithyref01_Of.j1 y5)
def smithyref01_Of.l1 (x1 : List Int) : Nat → Int → (List Int) → Option ((List Int))
  | 0, _, _ => none
  | q + 1, y4, y5 => smithyref01_Of.b1 x1 (smithyref01_Of.l1 x1 q) y4 y5
def smithyref01_Of.f (k : Nat) (x1 : List Int) : Option ((List Int)) := smithyref01_Of.l1 x1 k 0 [0, 0, 0, 0, 0, 0, 0, 0, 0, 0, 0, 0, 0, 0, 0, 0, 0, 0, 0, 0, 0, 0, 0, 0, 0, 0, 0, 0, 0, 0, 0, 0]
theorem smithyref01_Of.ok (k : Nat) : smithyref01_Of.Ctr (smithyref01_Of.f k) := by
  intro x1 r h0 mi w0 ok hm
  delta smithyref01_Of.f at h0
  refine c_enterX (n := 23) [(.agg [.ints .u64 x1 4])] (l := [(0, (.agg [.ints .u64 x1 4]))]) Try.func18 rfl rfl rfl rfl ok hm ?_
  clear ok hm
  intro b0 hb a S
  refine c_region ?_
  refine s_box S rfl rfl rfl ?_; clear S a; intro g1 a w S
  refine s_alloc S Z49 rfl ⟨rfl, trivial⟩ rfl ?_; clear S a w; intro g2 a w S
  refine c_end ?_
  refine c_region ?_
  refine s_build S (ds := []) (dv := (.agg [.ints .i64 [0, 0, 0, 0, 0, 0, 0, 0, 0, 0, 0, 0, 0, 0, 0, 0, 0, 0, 0, 0, 0, 0, 0, 0, 0, 0, 0, 0, 0, 0, 0, 0] 32])) rfl (fun _ => by kernel_rfl) ⟨rfl, trivial⟩ rfl ?_; clear S a; intro a S
  refine s_alloc S Z49 rfl ⟨rfl, trivial⟩ rfl ?_; clear S a w; intro g3 a w S
  refine s_store S rfl rfl rfl (s' := [.ints .i64 [0, 0, 0, 0, 0, 0, 0, 0, 0, 0, 0, 0, 0, 0, 0, 0, 0, 0, 0, 0, 0, 0, 0, 0, 0, 0, 0, 0, 0, 0, 0, 0] 32]) .here T49 rfl rfl ?_; clear S w; intro w S
  refine c_end ?_
  refine wp_seq_k ?_
  intro K1 hK1
  have j1 : ∀ (m : Mem) (g13 : Nat) (g14 : Nat) (y1 : List Int) (a : Act) (w : World), St 23 m b0 [(3, (.v (.pointer (some ⟨g13, 0, none⟩)))), (2, (.v (.pointer (some ⟨g14, 0, none⟩))))] [Res.cells g13 49 [.ints .i64 y1 32], Res.cells g14 49 [.ints .i64 [0, 0, 0, 0, 0, 0, 0, 0, 0, 0, 0, 0, 0, 0, 0, 0, 0, 0, 0, 0, 0, 0, 0, 0, 0, 0, 0, 0, 0, 0, 0, 0] 32]] a w → smithyref01_Of.j1 y1 = some r → K1 a w := by
    intro m g13 g14 y1 a w S h0
    delta smithyref01_Of.j1 at h0
    refine hK1 a w ?_
    refine c_region ?_
    refine s_loada S rfl .here T49 (s' := [.ints .i64 y1 32]) rfl rfl ?_; clear S a; intro a S
    refine s_store S rfl rfl rfl (s' := [.ints .i64 y1 32]) (.there .here) T49 rfl rfl ?_; clear S w; intro w S
    refine c_end ?_
    refine wp_ret ?_
    obtain rfl := Option.some.inj h0
    exact b_ret1 (d := (.agg [.ints .i64 y1 32])) S rfl (resD_cell rfl (.there .here) T49 rfl rfl) fun ok => S.retX (Hx := []) hb _ _ (() : Unit) .nil ok
  refine c_region ?_
  refine s_assign S rfl rfl ?_; clear S a; intro a S
  refine c_end ?_
  refine wp_block ?_
  refine c_loop (fun q1 a w => ∃ (m : Mem) (y4 : Int) (g21 : Nat) (g22 : Nat) (g23 : Nat) (y5 : List Int), St 23 m b0 [(4, (.v (.int .i64 y4))), (3, (.v (.pointer (some ⟨g21, 0, none⟩)))), (2, (.v (.pointer (some ⟨g22, 0, none⟩)))), (1, (.v (.pointer (some ⟨g23, 0, none⟩))))] [Res.cells g21 49 [.ints .i64 y5 32], Res.cells g22 49 [.ints .i64 [0, 0, 0, 0, 0, 0, 0, 0, 0, 0, 0, 0, 0, 0, 0, 0, 0, 0, 0, 0, 0, 0, 0, 0, 0, 0, 0, 0, 0, 0, 0, 0] 32], Res.cells g23 24 [.ints .u64 x1 4]] a w ∧ smithyref01_Of.l1 x1 q1 y4 y5 = some r) ?_ ?_ (k := k) ⟨_, 0, g3, g2, g1, [0, 0, 0, 0, 0, 0, 0, 0, 0, 0, 0, 0, 0, 0, 0, 0, 0, 0, 0, 0, 0, 0, 0, 0, 0, 0, 0, 0, 0, 0, 0, 0], (S.sub ⟨rfl, rfl, rfl, rfl, trivial⟩ (.cons .here (.cons .here (.cons .here .nil)))), h0⟩
  · rintro a w ⟨m, y4, g21, g22, g23, y5, S, h0⟩
    exact (nomatch (show (none : Option ((List Int))) = some r from h0))
  · clear S h0
    rintro q1 a w ⟨m, y4, g21, g22, g23, y5, S, h0⟩
    replace h0 : smithyref01_Of.b1 x1 (smithyref01_Of.l1 x1 q1) y4 y5 = some r := h0
    delta smithyref01_Of.b1 at h0
    refine wp_seq ?_
    refine c_region ?_
    refine s_move S rfl rfl ?_; clear S a; intro a S
    refine s_bin S rfl rfl rfl rfl ?_; clear S a; intro a S
    refine c_end ?_
    rcases ite_of h0 with ⟨c1, h1⟩ | ⟨c1, h1⟩ <;> clear h0
    · refine c_condT S rfl c1 ?_
      refine wp_skip ?_
      refine x_thenN ?_
      refine wp_seq ?_
      refine wp_block ?_
      refine c_region' ?_
      refine s_move S rfl rfl ?_; clear S a; intro a S
      refine s_move S rfl rfl ?_; clear S a; intro a S
      refine s_quo S rfl rfl (by decide) rfl ?_; clear S a; intro a S
      obtain ⟨c2, h2⟩ := chk_of h1; clear h1
      refine s_iaddr S rfl rfl Try.underlying24 T22 c2.1 c2.2 (mul1 _ _) rfl ?_; clear S a; intro a S
      refine s_loadi S (i := (wr .i64 (Int.tdiv y4 8))) rfl (.there (.there .here)) T22 .here rfl c2.1 c2.2 rfl ?_; clear S a; intro a S
      refine s_move S rfl rfl ?_; clear S a; intro a S
      refine s_rem S rfl rfl (by decide) rfl ?_; clear S a; intro a S
      refine s_bin S rfl rfl rfl rfl ?_; clear S a; intro a S
      obtain ⟨c3, h3⟩ := chk_of h2; clear h2
      refine s_shr S (e := (min (Int.toNat (wr .i64 (8 * (Int.tmod y4 8)))) 64)) rfl rfl c3 rfl rfl ?_; clear S a; intro a S
      refine s_rem S rfl rfl (by decide) rfl ?_; clear S a; intro a S
      refine s_conv S rfl rfl Try.underlying3 rfl ?_; clear S a; intro a S
      obtain ⟨c4, h4⟩ := chk_of h3; clear h3
      refine s_iaddr S rfl rfl Try.underlying49 T3 c4.1 c4.2 (mul1 _ _) rfl ?_; clear S a; intro a S
      refine s_storei S (i := y4) rfl rfl .here T3 .here rfl c4.1 c4.2 ?_; clear S w; intro w S
      refine c_end' ?_
      refine x_blockN ?_
      refine x_thenN ?_
      refine c_region' ?_
      refine s_move S rfl rfl ?_; clear S a; intro a S
      refine s_bin S rfl rfl rfl rfl ?_; clear S a; intro a S
      refine s_assign S rfl rfl ?_; clear S a; intro a S
      refine c_end' ?_
      refine x_thenN ?_
      exact ⟨_, (wr .i64 (y4 + 1)), g21, g22, g23, (y5.set (Int.toNat y4) (wr .i64 (Int.tmod (shr (rd x1 (wr .i64 (Int.tdiv y4 8))) (min (Int.toNat (wr .i64 (8 * (Int.tmod y4 8)))) 64)) 256))), (S.sub ⟨rfl, rfl, rfl, rfl, trivial⟩ (.cons .here (.cons .here (.cons .here .nil)))), h4⟩
    · refine c_condF S rfl c1 ?_
      refine wp_exit ?_
      refine x_thenX ?_
      refine x_thenX ?_
      refine x_blockX ?_
      refine x_thenN ?_
      exact j1 _ g21 g22 y5 a w (S.sub ⟨rfl, rfl, trivial⟩ (.cons .here (.cons .here .nil))) h1
/-! (smithy/smithyref01.D).Bytes -/
abbrev smithyref01_D_Bytes.Ty : Type := (List Int) → Option ((List Int))
def smithyref01_D_Bytes.Ctr (s : smithyref01_D_Bytes.Ty) : Prop := ∀ (x1 : List Int) (r : (List Int)) (h0 : s x1 = some r) (mi : Mem) (w0 : World), okL mi [(.agg [.ints .i64 x1 32])] → Pre mi [] w0 → Calls Try.prog 19 (([(.agg [.ints .i64 x1 32])] : List D).map D.val).toArray w0 (RetX mi [] (fun (ch : Unit) => ((.agg [.ints .u8 r 32]) : D)) (fun (ch : Unit) => []) w0)
def smithyref01_D_Bytes.j1 (y1 : List Int) : Option ((List Int)) := some y1
def smithyref01_D_Bytes.b1 (x1 : List Int) (rec1 : Int → (List Int) → Option ((List Int))) (y4 : Int) (y5 : List Int) : Option ((List Int)) := if (decide (y4 < 32)) = true then (if (0 : Int) ≤ y4 ∧ y4 < 32 then (if (0 : Int) ≤ (wr .i64 (31 - y4)) ∧ (wr .i64 (31 - y4)) < 32 then (rec1 (wr .i64 (y4 + 1)) (y5.set (Int.toNat (wr .i64 (31 - y4))) (wr .u8 (rd x1 y4)))) else none) else none) else (smithyref01_D_Bytes.j1 y5)
def smithyref01_D_Bytes.l1 (x1 : List Int) : Nat → Int → (List Int) → Option ((List Int))
  | 0, _, _ => none
  | q + 1, y4, y5 => smithyref01_D_Bytes.b1 x1 (smithyref01_D_Bytes.l1 x1 q) y4 y5
def smithyref01_D_Bytes.f (k : Nat) (x1 : List Int) : Option ((List Int)) := smithyref01_D_Bytes.l1 x1 k 0 [0, 0, 0, 0, 0, 0, 0, 0, 0, 0, 0, 0, 0, 0, 0, 0, 0, 0, 0, 0, 0, 0, 0, 0, 0, 0, 0, 0, 0, 0, 0, 0]
theorem smithyref01_D_Bytes.ok (k : Nat) : smithyref01_D_Bytes.Ctr (smithyref01_D_Bytes.f k) := by
  intro x1 r h0 mi w0 ok hm
  delta smithyref01_D_Bytes.f at h0
  refine c_enterX (n := 18) [(.agg [.ints .i64 x1 32])] (l := [(0, (.agg [.ints .i64 x1 32]))]) Try.func19 rfl rfl rfl rfl ok hm ?_
  clear ok hm
  intro b0 hb a S
  refine c_region ?_
  refine s_box S rfl rfl rfl ?_; clear S a; intro g1 a w S
  refine s_alloc S Z45 rfl ⟨rfl, trivial⟩ rfl ?_; clear S a w; intro g2 a w S
  refine c_end ?_
  refine c_region ?_
  refine s_build S (ds := []) (dv := (.agg [.ints .u8 [0, 0, 0, 0, 0, 0, 0, 0, 0, 0, 0, 0, 0, 0, 0, 0, 0, 0, 0, 0, 0, 0, 0, 0, 0, 0, 0, 0, 0, 0, 0, 0] 32])) rfl (fun _ => by kernel_rfl) ⟨rfl, trivial⟩ rfl ?_; clear S a; intro a S
  refine s_alloc S Z45 rfl ⟨rfl, trivial⟩ rfl ?_; clear S a w; intro g3 a w S
  refine s_store S rfl rfl rfl (s' := [.ints .u8 [0, 0, 0, 0, 0, 0, 0, 0, 0, 0, 0, 0, 0, 0, 0, 0, 0, 0, 0, 0, 0, 0, 0, 0, 0, 0, 0, 0, 0, 0, 0, 0] 32]) .here T45 rfl rfl ?_; clear S w; intro w S
  refine c_end ?_
  refine wp_seq_k ?_
  intro K1 hK1
  have j1 : ∀ (m : Mem) (g13 : Nat) (g14 : Nat) (y1 : List Int) (a : Act) (w : World), St 18 m b0 [(3, (.v (.pointer (some ⟨g13, 0, none⟩)))), (2, (.v (.pointer (some ⟨g14, 0, none⟩))))] [Res.cells g13 45 [.ints .u8 y1 32], Res.cells g14 45 [.ints .u8 [0, 0, 0, 0, 0, 0, 0, 0, 0, 0, 0, 0, 0, 0, 0, 0, 0, 0, 0, 0, 0, 0, 0, 0, 0, 0, 0, 0, 0, 0, 0, 0] 32]] a w → smithyref01_D_Bytes.j1 y1 = some r → K1 a w := by
    intro m g13 g14 y1 a w S h0
    delta smithyref01_D_Bytes.j1 at h0
    refine hK1 a w ?_
    refine c_region ?_
    refine s_loada S rfl .here T45 (s' := [.ints .u8 y1 32]) rfl rfl ?_; clear S a; intro a S
    refine s_store S rfl rfl rfl (s' := [.ints .u8 y1 32]) (.there .here) T45 rfl rfl ?_; clear S w; intro w S
    refine c_end ?_
    refine wp_ret ?_
    obtain rfl := Option.some.inj h0
    exact b_ret1 (d := (.agg [.ints .u8 y1 32])) S rfl (resD_cell rfl (.there .here) T45 rfl rfl) fun ok => S.retX (Hx := []) hb _ _ (() : Unit) .nil ok
  refine c_region ?_
  refine s_assign S rfl rfl ?_; clear S a; intro a S
  refine c_end ?_
  refine wp_block ?_
  refine c_loop (fun q1 a w => ∃ (m : Mem) (y4 : Int) (g21 : Nat) (g22 : Nat) (g23 : Nat) (y5 : List Int), St 18 m b0 [(4, (.v (.int .i64 y4))), (3, (.v (.pointer (some ⟨g21, 0, none⟩)))), (2, (.v (.pointer (some ⟨g22, 0, none⟩)))), (1, (.v (.pointer (some ⟨g23, 0, none⟩))))] [Res.cells g21 45 [.ints .u8 y5 32], Res.cells g22 45 [.ints .u8 [0, 0, 0, 0, 0, 0, 0, 0, 0, 0, 0, 0, 0, 0, 0, 0, 0, 0, 0, 0, 0, 0, 0, 0, 0, 0, 0, 0, 0, 0, 0, 0] 32], Res.cells g23 49 [.ints .i64 x1 32]] a w ∧ smithyref01_D_Bytes.l1 x1 q1 y4 y5 = some r) ?_ ?_ (k := k) ⟨_, 0, g3, g2, g1, [0, 0, 0, 0, 0, 0, 0, 0, 0, 0, 0, 0, 0, 0, 0, 0, 0, 0, 0, 0, 0, 0, 0, 0, 0, 0, 0, 0, 0, 0, 0, 0], (S.sub ⟨rfl, rfl, rfl, rfl, trivial⟩ (.cons .here (.cons .here (.cons .here .nil)))), h0⟩
  · rintro a w ⟨m, y4, g21, g22, g23, y5, S, h0⟩
    exact (nomatch (show (none : Option ((List Int))) = some r from h0))
  · clear S h0
    rintro q1 a w ⟨m, y4, g21, g22, g23, y5, S, h0⟩
    replace h0 : smithyref01_D_Bytes.b1 x1 (smithyref01_D_Bytes.l1 x1 q1) y4 y5 = some r := h0
    delta smithyref01_D_Bytes.b1 at h0
    refine wp_seq ?_
    refine c_region ?_
    refine s_move S rfl rfl ?_; clear S a; intro a S
    refine s_bin S rfl rfl rfl rfl ?_; clear S a; intro a S
    refine c_end ?_
    rcases ite_of h0 with ⟨c1, h1⟩ | ⟨c1, h1⟩ <;> clear h0
    · refine c_condT S rfl c1 ?_
      refine wp_skip ?_
      refine x_thenN ?_
      refine wp_seq ?_
      refine wp_block ?_
      refine c_region' ?_
      refine s_move S rfl rfl ?_; clear S a; intro a S
      refine s_bin S rfl rfl rfl rfl ?_; clear S a; intro a S
      refine s_move S rfl rfl ?_; clear S a; intro a S
      obtain ⟨c2, h2⟩ := chk_of h1; clear h1
      refine s_iaddr S rfl rfl Try.underlying49 T3 c2.1 c2.2 (mul1 _ _) rfl ?_; clear S a; intro a S
      refine s_loadi S (i := y4) rfl (.there (.there .here)) T3 .here rfl c2.1 c2.2 rfl ?_; clear S a; intro a S
      refine s_conv S rfl rfl Try.underlying5 rfl ?_; clear S a; intro a S
      obtain ⟨c3, h3⟩ := chk_of h2; clear h2
      refine s_iaddr S rfl rfl Try.underlying45 T5 c3.1 c3.2 (mul1 _ _) rfl ?_; clear S a; intro a S
      refine s_storei S (i := (wr .i64 (31 - y4))) rfl rfl .here T5 .here rfl c3.1 c3.2 ?_; clear S w; intro w S
      refine c_end' ?_
      refine x_blockN ?_
      refine x_thenN ?_
      refine c_region' ?_
      refine s_move S rfl rfl ?_; clear S a; intro a S
      refine s_bin S rfl rfl rfl rfl ?_; clear S a; intro a S
      refine s_assign S rfl rfl ?_; clear S a; intro a S
      refine c_end' ?_
      refine x_thenN ?_
      exact ⟨_, (wr .i64 (y4 + 1)), g21, g22, g23, (y5.set (Int.toNat (wr .i64 (31 - y4))) (wr .u8 (rd x1 y4))), (S.sub ⟨rfl, rfl, rfl, rfl, trivial⟩ (.cons .here (.cons .here (.cons .here .nil)))), h3⟩
    · refine c_condF S rfl c1 ?_
      refine wp_exit ?_
      refine x_thenX ?_
      refine x_thenX ?_
      refine x_blockX ?_
      refine x_thenN ?_
      exact j1 _ g21 g22 y5 a w (S.sub ⟨rfl, rfl, trivial⟩ (.cons .here (.cons .here .nil))) h1
/-! smithy/smithyref07.Number -/
abbrev smithyref07_Number.Ty : Type := (List Int) → Option ((List Int))
def smithyref07_Number.Ctr (s : smithyref07_Number.Ty) : Prop := ∀ (x1 : List Int) (r : (List Int)) (h0 : s x1 = some r) (mi : Mem) (w0 : World), okL mi [(.agg [.ints .u64 x1 4])] → Pre mi [] w0 → Calls Try.prog 9 (([(.agg [.ints .u64 x1 4])] : List D).map D.val).toArray w0 (RetX mi [] (fun (ch : (Option Addr) × Nat × Nat) => ((.v (.slice ch.1 ch.2.1 ch.2.2)) : D)) (fun (ch : (Option Addr) × Nat × Nat) => [Res.row (Ty.int .u8) 5 ch.1 ch.2.1 ch.2.2 r]) w0)
def smithyref07_Number.j1 (t2 : (List Int)) (y1 : Int) : Option ((List Int)) := if (0 : Int) ≤ y1 ∧ (y1 : Int) ≤ 32 ∧ 32 ≤ ((32 : Nat) : Int) then (if ((([] : List Int)).length + (((t2).drop (Int.toNat y1)).take (Int.toNat 32 - Int.toNat y1)).length) * 1 ≤ 140737488355328 then (some (([] : List Int) ++ (((t2).drop (Int.toNat y1)).take (Int.toNat 32 - Int.toNat y1)))) else none) else none
def smithyref07_Number.j2 (t2 : (List Int)) (y4 : Int) (rec1 : Int → Option ((List Int))) (y5 : Bool) : Option ((List Int)) := if y5 = true then (rec1 (wr .i64 (y4 + 1))) else (smithyref07_Number.j1 t2 y4)
def smithyref07_Number.b1 (t2 : (List Int)) (rec1 : Int → Option ((List Int))) (y4 : Int) : Option ((List Int)) := if (decide (y4 < 32)) = true then (if (0 : Int) ≤ y4 ∧ y4 < 32 then (smithyref07_Number.j2 t2 y4 rec1 ((rd t2 y4) == 0)) else none) else (smithyref07_Number.j2 t2 y4 rec1 false)
def smithyref07_Number.l1 (t2 : (List Int)) : Nat → Int → Option ((List Int))
  | 0, _ => none
  | q + 1, y4 => smithyref07_Number.b1 t2 (smithyref07_Number.l1 t2 q) y4
def smithyref07_Number.f (k : Nat) (x1 : List Int) : Option ((List Int)) := (smithyref01_Of.f k x1).bind fun t1 => ((smithyref01_D_Bytes.f k t1).bind fun t2 => (smithyref07_Number.l1 t2 k 0))
theorem smithyref07_Number.ok (k : Nat) : smithyref07_Number.Ctr (smithyref07_Number.f k) := by
  intro x1 r h0 mi w0 ok hm
  delta smithyref07_Number.f at h0
  refine c_enterX (n := 25) [(.agg [.ints .u64 x1 4])] (l := [(0, (.agg [.ints .u64 x1 4]))]) Try.func9 rfl rfl rfl rfl ok hm ?_
  clear ok hm
  intro b0 hb a S
  refine c_region ?_
  refine s_box S rfl rfl rfl ?_; clear S a; intro g1 a w S
  refine s_assign S rfl rfl ?_; clear S a; intro a S
  refine c_end ?_
  refine c_region ?_
  refine s_loada S rfl .here T24 (s' := [.ints .u64 x1 4]) rfl rfl ?_; clear S a; intro a S
  obtain ⟨t1, et1, h1⟩ := bind_of h0; clear h0
  refine s_callX S (ds' := [(.agg [.ints .u64 x1 4])]) (ds := [(.agg [.ints .u64 x1 4])]) [] [Res.cells g1 24 [.ints .u64 x1 4]] (fun (ch : Unit) => ((.agg [.ints .i64 t1 32]) : D)) (fun (ch : Unit) => []) (fun (ch : Unit) => [Res.cells g1 24 [.ints .u64 x1 4]]) (fun _ => rfl) N18 rfl rfl (fun ok => ok) (.cons .here .nil) rfl (smithyref01_Of.ok k x1 t1 et1 _ _) ?_; clear S a w; intro ch1 m le1 a w S
  obtain ⟨t2, et2, h2⟩ := bind_of h1; clear h1
  refine s_callX S (ds' := [(.agg [.ints .i64 t1 32])]) (ds := [(.agg [.ints .i64 t1 32])]) [] [Res.cells g1 24 [.ints .u64 x1 4]] (fun (ch : Unit) => ((.agg [.ints .u8 t2 32]) : D)) (fun (ch : Unit) => []) (fun (ch : Unit) => [Res.cells g1 24 [.ints .u64 x1 4]]) (fun _ => rfl) N19 rfl rfl (fun ok => ok) (.cons .here .nil) rfl (smithyref01_D_Bytes.ok k t1 t2 et2 _ _) ?_; clear S a w; intro ch2 m le1 a w S
  refine s_alloc S Z45 rfl ⟨rfl, trivial⟩ rfl ?_; clear S a w; intro g2 a w S
  refine s_store S rfl rfl rfl (s' := [.ints .u8 t2 32]) .here T45 rfl rfl ?_; clear S w; intro w S
  refine c_end ?_
  refine c_region ?_
  refine s_assign S rfl rfl ?_; clear S a; intro a S
  refine c_end ?_
  refine wp_seq_k ?_
  intro K1 hK1
  have j1 : ∀ (m : Mem) (y1 : Int) (g8 : Nat) (a : Act) (w : World), St 25 m b0 [(4, (.v (.int .i64 y1))), (3, (.v (.pointer (some ⟨g8, 0, none⟩))))] [Res.cells g8 45 [.ints .u8 t2 32]] a w → smithyref07_Number.j1 t2 y1 = some r → K1 a w := by
    intro m y1 g8 a w S h0
    delta smithyref07_Number.j1 at h0
    refine hK1 a w ?_
    refine c_region ?_
    refine s_bldSl S (ty' := (Ty.int .u8)) (ds := []) (z := 0) (c0 := ()) (ys := ([] : List Int)) (cs := []) rfl Try.underlying25 J5 Z5 rfl ⟨rfl, trivial⟩ rfl rfl rfl rfl rfl rfl ?_; clear S a w; intro g9 a w S
    refine s_assign S rfl rfl ?_; clear S a; intro a S
    refine c_end ?_
    refine c_region ?_
    refine s_move S rfl rfl ?_; clear S a; intro a S
    refine s_move S rfl rfl ?_; clear S a; intro a S
    obtain ⟨c1, h1⟩ := chk_of h0; clear h0
    refine s_sliceA S (i := y1) (j := 32) (o' := if 32 = Int.toNat y1 then 0 else 0 + Int.toNat y1 * 1) (len := Int.toNat 32 - Int.toNat y1) (cap := 32 - Int.toNat y1) rfl Try.underlying45 T5 (.inr ⟨_, _, rfl, rfl⟩) (.inl ⟨rfl, rfl⟩) c1 rfl rfl rfl rfl ?_; clear S a; intro a S
    replace S := S.freeze (.there .here)
    obtain ⟨m, le1, S⟩ := S
    replace S := (S.slup' (u := 22) (lo := Int.toNat y1) (c := 32) (ys := ((t2).drop (Int.toNat y1)).take (Int.toNat 32 - Int.toNat y1)) rfl (Pull.mem (.there .here)).1 .here (ho_if c1) (hl_if c1) (hcap_if c1 rfl) rfl).2
    obtain ⟨c2, h2⟩ := chk_of h1; clear h1
    refine s_app S (k2 := ((((t2).drop (Int.toNat y1)).take (Int.toNat 32 - Int.toNat y1)).length)) (ys := (((t2).drop (Int.toNat y1)).take (Int.toNat 32 - Int.toNat y1))) rfl (fun _ _ => .here) rfl rfl rfl (RdS.src (S.get 22 (.sl (some ⟨g8, if 32 = Int.toNat y1 then 0 else 0 + Int.toNat y1 * 1, none⟩) (((t2).drop (Int.toNat y1)).take (Int.toNat 32 - Int.toNat y1)).length (32 - Int.toNat y1) (RdS (Ty.int .u8) (some ⟨g8, if 32 = Int.toNat y1 then 0 else 0 + Int.toNat y1 * 1, none⟩) (((t2).drop (Int.toNat y1)).take (Int.toNat 32 - Int.toNat y1)))) rfl).2.2.2.1 (by decide) S.frz) Try.underlying25 J5 c2 rfl ?_; clear S a w; intro A1 cp1 a w S
    refine s_assign S rfl rfl ?_; clear S a; intro a S
    refine c_end ?_
    refine c_region ?_
    refine s_move S rfl rfl ?_; clear S a; intro a S
    refine s_assign S rfl rfl ?_; clear S a; intro a S
    refine c_end ?_
    refine wp_ret ?_
    obtain rfl := Option.some.inj h2
    exact b_ret1 (d := (.v (.slice A1 (0 + ((((t2).drop (Int.toNat y1)).take (Int.toNat 32 - Int.toNat y1)).length)) cp1))) S rfl rfl fun ok => S.retX (Hx := []) hb _ _ ((A1, 0 + ((((t2).drop (Int.toNat y1)).take (Int.toNat 32 - Int.toNat y1)).length), cp1) : (Option Addr) × Nat × Nat) (.cons .here .nil) ok
  refine wp_block ?_
  refine c_loop (fun q1 a w => ∃ (m : Mem) (y4 : Int) (g13 : Nat), St 25 m b0 [(4, (.v (.int .i64 y4))), (3, (.v (.pointer (some ⟨g13, 0, none⟩))))] [Res.cells g13 45 [.ints .u8 t2 32]] a w ∧ smithyref07_Number.l1 t2 q1 y4 = some r) ?_ ?_ (k := k) ⟨_, 0, g2, (S.sub ⟨rfl, rfl, trivial⟩ (.cons .here .nil)), h2⟩
  · rintro a w ⟨m, y4, g13, S, h0⟩
    exact (nomatch (show (none : Option ((List Int))) = some r from h0))
  · clear S h2
    rintro q1 a w ⟨m, y4, g13, S, h0⟩
    replace h0 : smithyref07_Number.b1 t2 (smithyref07_Number.l1 t2 q1) y4 = some r := h0
    delta smithyref07_Number.b1 at h0
    refine wp_seq ?_
    refine wp_seq_k ?_
    intro K2 hK2
    have j2 : ∀ (m : Mem) (y5 : Bool) (g14 : Nat) (a : Act) (w : World), St 25 m b0 [(16, (.v (.bool y5))), (4, (.v (.int .i64 y4))), (3, (.v (.pointer (some ⟨g14, 0, none⟩))))] [Res.cells g14 45 [.ints .u8 t2 32]] a w → smithyref07_Number.j2 t2 y4 (smithyref07_Number.l1 t2 q1) y5 = some r → K2 a w := by
      intro m y5 g14 a w S h0
      delta smithyref07_Number.j2 at h0
      refine hK2 a w ?_
      rcases ite_of h0 with ⟨c3, h1⟩ | ⟨c3, h1⟩ <;> clear h0
      · refine c_condT S rfl c3 ?_
        refine wp_skip ?_
        refine x_thenN ?_
        refine wp_block ?_
        refine c_region' ?_
        refine s_move S rfl rfl ?_; clear S a; intro a S
        refine s_bin S rfl rfl rfl rfl ?_; clear S a; intro a S
        refine s_assign S rfl rfl ?_; clear S a; intro a S
        refine c_end' ?_
        refine x_blockN ?_
        refine x_thenN ?_
        exact ⟨_, (wr .i64 (y4 + 1)), g14, (S.sub ⟨rfl, rfl, trivial⟩ (.cons .here .nil)), h1⟩
      · refine c_condF S rfl c3 ?_
        refine wp_exit ?_
        refine x_thenX ?_
        refine x_thenX ?_
        refine x_blockX ?_
        refine x_thenN ?_
        exact j1 _ y4 g14 a w (S.sub ⟨rfl, rfl, trivial⟩ (.cons .here .nil)) h1
    refine c_region' ?_
    refine s_move S rfl rfl ?_; clear S a; intro a S
    refine s_bin S rfl rfl rfl rfl ?_; clear S a; intro a S
    refine s_move S rfl rfl ?_; clear S a; intro a S
    rcases ite_of h0 with ⟨c4, h1⟩ | ⟨c4, h1⟩ <;> clear h0
    · refine s_gT S (b := (decide (y4 < 32))) rfl rfl c4 ?_
      refine s_move S rfl rfl ?_; clear S a; intro a S
      refine s_gT S (b := (decide (y4 < 32))) rfl rfl c4 ?_
      obtain ⟨c5, h2⟩ := chk_of h1; clear h1
      refine s_iaddr S rfl rfl Try.underlying45 T5 c5.1 c5.2 (mul1 _ _) rfl ?_; clear S a; intro a S
      refine s_gT S (b := (decide (y4 < 32))) rfl rfl c4 ?_
      refine s_loadi S (i := y4) rfl .here T5 .here rfl c5.1 c5.2 rfl ?_; clear S a; intro a S
      refine s_gT S (b := (decide (y4 < 32))) rfl rfl c4 ?_
      refine s_bin S rfl rfl rfl rfl ?_; clear S a; intro a S
      refine s_pick S (b := true) (hc_of rfl c4) rfl rfl ?_; clear S a; intro a S
      refine c_end' ?_
      refine x_thenN ?_
      exact j2 _ ((rd t2 y4) == 0) g13 a w (S.sub ⟨rfl, rfl, rfl, trivial⟩ (.cons .here .nil)) h2
    · refine s_gF S (b := (decide (y4 < 32))) rfl rfl c4 rfl ?_; clear S a; intro a S
      refine s_gF S (b := (decide (y4 < 32))) rfl rfl c4 rfl ?_; clear S a; intro a S
      refine s_gF S (b := (decide (y4 < 32))) rfl rfl c4 rfl ?_; clear S a; intro a S
      refine s_gF S (b := (decide (y4 < 32))) rfl rfl c4 rfl ?_; clear S a; intro a S
      refine s_pick S (b := false) (hc_of rfl c4) rfl rfl ?_; clear S a; intro a S
      refine c_end' ?_
      refine x_thenN ?_
      exact j2 _ false g13 a w (S.sub ⟨rfl, rfl, rfl, trivial⟩ (.cons .here .nil)) h1
/-! smithy/smithylaw07.RlpNumbers -/
abbrev smithylaw07_RlpNumbers.Ty : Type := (List Int) → Option Bool
def smithylaw07_RlpNumbers.Ctr (s : smithylaw07_RlpNumbers.Ty) : Prop := ∀ (x1 : List Int) (r : Bool) (h0 : s x1 = some r) (mi : Mem) (w0 : World), okL mi [(.agg [.ints .u64 x1 4])] → Pre mi [] w0 → Calls Try.prog 3 (([(.agg [.ints .u64 x1 4])] : List D).map D.val).toArray w0 (RetX mi [] (fun (ch : Unit) => ((.v (.bool r)) : D)) (fun (ch : Unit) => []) w0)
def smithylaw07_RlpNumbers.j1 (y1 : Bool) : Option Bool := some y1
def smithylaw07_RlpNumbers.f (k : Nat) (x1 : List Int) : Option Bool := (rlp_Number.f k x1).bind fun t1 => ((smithylaw07_fixed.f k).bind fun t4 => (if t4 = true then ((smithyref07_Number.f k x1).bind fun t5 => (if ((bstr t1).toList == (bstr t5).toList) = true then (if (((t1).length : Int) == 0) = true then (smithylaw07_RlpNumbers.j1 true) else (if (0 : Int) ≤ 0 ∧ 0 < ((t1).length : Int) then (smithylaw07_RlpNumbers.j1 ((rd t1 0) != 0)) else none)) else (smithylaw07_RlpNumbers.j1 false))) else (smithylaw07_RlpNumbers.j1 false)))
theorem smithylaw07_RlpNumbers.ok (k : Nat) : smithylaw07_RlpNumbers.Ctr (smithylaw07_RlpNumbers.f k) := by
  intro x1 r h0 mi w0 ok hm
  delta smithylaw07_RlpNumbers.f at h0
  refine c_enterX (n := 26) [(.agg [.ints .u64 x1 4])] (l := [(0, (.agg [.ints .u64 x1 4]))]) Try.func3 rfl rfl rfl rfl ok hm ?_
  clear ok hm
  intro b0 hb a S
  refine c_region ?_
  refine s_box S rfl rfl rfl ?_; clear S a; intro g1 a w S
  refine s_assign S rfl rfl ?_; clear S a; intro a S
  refine c_end ?_
  refine c_region ?_
  refine s_loada S rfl .here T24 (s' := [.ints .u64 x1 4]) rfl rfl ?_; clear S a; intro a S
  obtain ⟨t1, et1, h1⟩ := bind_of h0; clear h0
  refine s_callX S (ds' := [(.agg [.ints .u64 x1 4])]) (ds := [(.agg [.ints .u64 x1 4])]) [] [Res.cells g1 24 [.ints .u64 x1 4]] (fun (ch : (Option Addr) × Nat × Nat) => ((.v (.slice ch.1 ch.2.1 ch.2.2)) : D)) (fun (ch : (Option Addr) × Nat × Nat) => [Res.row (Ty.int .u8) 5 ch.1 ch.2.1 ch.2.2 t1]) (fun (ch : (Option Addr) × Nat × Nat) => [Res.row (Ty.int .u8) 5 ch.1 ch.2.1 ch.2.2 t1, Res.cells g1 24 [.ints .u64 x1 4]]) (fun _ => rfl) N7 rfl rfl (fun ok => ok) (.cons .here .nil) rfl (rlp_Number.ok k x1 t1 et1 _ _) ?_; clear S a w; intro ch1 m le1 a w S
  refine s_assign S rfl rfl ?_; clear S a; intro a S
  refine c_end ?_
  refine wp_seq_k ?_
  intro K1 hK1
  have j1 : ∀ (m : Mem) (y1 : Bool) (a : Act) (w : World), St 26 m b0 [(2, (.v (.bool y1)))] [] a w → smithylaw07_RlpNumbers.j1 y1 = some r → K1 a w := by
    intro m y1 a w S h0
    delta smithylaw07_RlpNumbers.j1 at h0
    refine hK1 a w ?_
    refine wp_ret ?_
    obtain rfl := Option.some.inj h0
    exact b_ret1 (d := (.v (.bool y1))) S rfl rfl fun ok => S.retX (Hx := []) hb _ _ (() : Unit) .nil ok
  refine c_heldS S (.alts (.run 0 true (.take 1 (.take 2 (.take 4 (.alts (.run 3 true (.alts (.run 5 true (.alts (.run 6 true (.take 7 (.take 8 (.take 9 (.alts (.run 10 true (.alts (.run 11 true (.take 12 (.take 13 (.alts (.run 14 true (.alts (.run 15 true (.alts (.run 16 true (.take 17 (.take 18 (.take 19 (.take 20 .done)))) .nil)) .nil)) .nil)))) .nil)) .nil))))) .nil)) .nil)) (.run 5 true (.alts (.run 3 true (.alts (.run 6 true (.take 7 (.take 8 (.take 9 (.alts (.run 10 true (.alts (.run 11 true (.take 12 (.take 13 (.alts (.run 14 true (.alts (.run 15 true (.alts (.run 16 true (.take 17 (.take 18 (.take 19 (.take 20 .done)))) .nil)) .nil)) .nil)))) .nil)) .nil))))) .nil)) (.run 6 true (.alts (.run 3 true (.take 7 (.take 8 (.take 9 (.alts (.run 10 true (.alts (.run 11 true (.take 12 (.take 13 (.alts (.run 14 true (.alts (.run 15 true (.alts (.run 16 true (.take 17 (.take 18 (.take 19 (.take 20 .done)))) .nil)) .nil)) .nil)))) .nil)) .nil))))) .nil)) .nil))) .nil)))))) .nil)) 21 [Res.cells g1 24 [.ints .u64 x1 4]] (.cons (.there .here) .nil) ⟨Res.stay_cells, trivial⟩ [(3, (.v (.slice ch1.1 ch1.2.1 ch1.2.2))), (1, (.v (.pointer (some ⟨g1, 0, none⟩))))] ⟨rfl, rfl, trivial⟩ (by kernel_rfl) (by kernel_rfl) ?_; clear S; intro w S CL hw le
  refine h_run' S rfl trivial ?_
  obtain ⟨t4, et4, h2⟩ := bind_of h1; clear h1
  refine s_callX S (ds' := []) (ds := []) [] [Res.row (Ty.int .u8) 5 ch1.1 ch1.2.1 ch1.2.2 t1, Res.cells g1 24 [.ints .u64 x1 4]] (fun (ch : Unit) => ((.v (.bool t4)) : D)) (fun (ch : Unit) => []) (fun (ch : Unit) => [Res.row (Ty.int .u8) 5 ch1.1 ch1.2.1 ch1.2.2 t1, Res.cells g1 24 [.ints .u64 x1 4]]) (fun _ => rfl) N8 rfl rfl (fun ok => ok) (.cons .here (.cons .here .nil)) rfl (smithylaw07_fixed.ok k t4 et4 _ _) ?_; clear S a; intro ch4 m le1 a w S
  replace le := le.trans le1
  replace hw := CL.again hw S (.cons (.there .here) .nil) le
  refine h_back ⟨fun _ => hw, ?_⟩
  replace CL := CL.add (t := 6) (d := (.v (.bool t4))) S rfl rfl
  refine h_move S CL hw le ⟨rfl, rfl, rfl, trivial⟩ rfl rfl rfl trivial ?_; clear S CL a; intro a S CL
  rcases ite_of h2 with ⟨c1, h3⟩ | ⟨c1, h3⟩ <;> clear h2
  · refine h_move S CL hw le ⟨rfl, rfl, rfl, rfl, trivial⟩ rfl rfl rfl ⟨_, _, rfl, rfl, c1⟩ ?_; clear S CL a; intro a S CL
    refine h_loada S CL hw le ⟨rfl, rfl, rfl, rfl, rfl, trivial⟩ rfl .here T24 (s' := [.ints .u64 x1 4]) rfl rfl rfl ⟨_, _, rfl, rfl, c1⟩ ?_; clear S CL a; intro a S CL
    obtain ⟨t5, et5, h4⟩ := bind_of h3; clear h3
    refine h_alts ?_
    refine h_runO S rfl ⟨_, _, rfl, rfl, c1⟩ ?_ ?_
    · replace S := S.rowfro .here
      obtain ⟨m, le1, S, hro⟩ := S
      replace le := le.trans le1
      replace S := S.slotro (u := 8) rfl hro
      replace S := S.slotro (u := 3) rfl hro
      replace S := S.slotro (u := 5) rfl hro
      replace CL := CL.drop (lq' := [(10, (.agg [.ints .u64 x1 4])), (7, (.v (.bool t4))), (6, (.v (.bool t4))), (1, (.v (.pointer (some ⟨g1, 0, none⟩))))]) ⟨rfl, rfl, rfl, rfl, trivial⟩
      refine s_strS S rfl rfl Try.underlying25 Try.underlying5 Try.underlying9 rfl ?_; clear S a; intro a S
      replace hw := CL.again hw S (.cons .here .nil) le
      refine h_back ⟨fun _ => hw, ?_⟩
      replace CL := CL.add (t := 9) (d := (.v (.string (bstr t1)))) S rfl rfl
      refine h_run' S rfl ⟨_, _, rfl, rfl, c1⟩ ?_
      refine s_callX S (ds' := [(.agg [.ints .u64 x1 4])]) (ds := [(.agg [.ints .u64 x1 4])]) [] [Res.cells g1 24 [.ints .u64 x1 4]] (fun (ch : (Option Addr) × Nat × Nat) => ((.v (.slice ch.1 ch.2.1 ch.2.2)) : D)) (fun (ch : (Option Addr) × Nat × Nat) => [Res.row (Ty.int .u8) 5 ch.1 ch.2.1 ch.2.2 t5]) (fun (ch : (Option Addr) × Nat × Nat) => [Res.row (Ty.int .u8) 5 ch.1 ch.2.1 ch.2.2 t5, Res.cells g1 24 [.ints .u64 x1 4]]) (fun _ => rfl) N9 rfl rfl (fun ok => ok) (.cons .here .nil) rfl (smithyref07_Number.ok k x1 t5 et5 _ _) ?_; clear S a; intro ch5 m le1 a w S
      replace le := le.trans le1
      replace hw := CL.again hw S (.cons (.there .here) .nil) le
      refine h_back ⟨fun _ => hw, ?_⟩
      refine h_run' S rfl ⟨_, _, rfl, rfl, c1⟩ ?_
      replace S := S.rowfro .here
      obtain ⟨m, le1, S, hro⟩ := S
      replace le := le.trans le1
      replace S := S.slotro (u := 11) rfl hro
      refine s_strS S rfl rfl Try.underlying25 Try.underlying5 Try.underlying9 rfl ?_; clear S a; intro a S
      replace hw := CL.again hw S (.cons .here .nil) le
      refine h_back ⟨fun _ => hw, ?_⟩
      replace CL := CL.add (t := 12) (d := (.v (.string (bstr t5)))) S rfl rfl
      refine h_eqT S CL hw le ⟨rfl, rfl, rfl, rfl, rfl, rfl, trivial⟩ rfl rfl rfl rfl ⟨_, _, rfl, rfl, c1⟩ ?_; clear S CL a; intro a S CL
      refine h_pick S CL hw le ⟨rfl, rfl, rfl, rfl, rfl, rfl, rfl, trivial⟩ (b := true) (hc_of rfl c1) rfl rfl rfl trivial ?_; clear S CL a; intro a S CL
      refine h_move S CL hw le ⟨rfl, rfl, rfl, rfl, rfl, rfl, rfl, rfl, trivial⟩ rfl rfl rfl trivial ?_; clear S CL a; intro a S CL
      rcases ite_of h4 with ⟨c2, h5⟩ | ⟨c2, h5⟩ <;> clear h4
      · refine h_run' S rfl ⟨_, _, rfl, rfl, c2⟩ ?_
        refine s_move S rfl rfl ?_; clear S a; intro a S
        replace hw := CL.again hw S (.cons .here .nil) le
        refine h_back ⟨fun _ => hw, ?_⟩
        refine h_run' S rfl ⟨_, _, rfl, rfl, c2⟩ ?_
        refine s_lenS S rfl Try.underlying25 rfl ?_; clear S a; intro a S
        replace hw := CL.again hw S (.cons .here .nil) le
        refine h_back ⟨fun _ => hw, ?_⟩
        replace CL := CL.add (t := 17) (d := (.v (.int .i64 ((t1).length : Int)))) S rfl rfl
        refine h_bin S CL hw le ⟨rfl, rfl, rfl, rfl, rfl, rfl, rfl, rfl, rfl, rfl, trivial⟩ rfl rfl rfl rfl rfl ⟨_, _, rfl, rfl, c2⟩ ?_; clear S CL a; intro a S CL
        refine h_move S CL hw le ⟨rfl, rfl, rfl, rfl, rfl, rfl, rfl, rfl, rfl, rfl, rfl, trivial⟩ rfl rfl rfl ⟨_, _, rfl, rfl, c2⟩ ?_; clear S CL a; intro a S CL
        rcases ite_of h5 with ⟨c3, h6⟩ | ⟨c3, h6⟩ <;> clear h5
        · refine h_skipRt S rfl rfl rfl (ne_bool c3) rfl ?_; clear S a; intro a S
          replace hw := CL.again hw S (.cons .here .nil) le
          refine h_back ⟨fun _ => hw, ?_⟩
          refine h_skipRt S rfl rfl rfl (ne_bool c3) rfl ?_; clear S a; intro a S
          replace hw := CL.again hw S (.cons .here .nil) le
          refine h_back ⟨fun _ => hw, ?_⟩
          refine h_skipRt S rfl rfl rfl (ne_bool c3) rfl ?_; clear S a; intro a S
          replace hw := CL.again hw S (.cons .here .nil) le
          refine h_back ⟨fun _ => hw, ?_⟩
          replace CL := CL.add (t := 22) (d := .u) S rfl rfl
          refine h_skip S CL rfl rfl rfl (ne_bool c3) rfl ?_; clear S CL a; intro a S CL
          refine h_pick S CL hw le ⟨rfl, rfl, rfl, rfl, rfl, rfl, rfl, rfl, rfl, rfl, rfl, rfl, rfl, rfl, trivial⟩ (b := true) (hc_of rfl c3) rfl rfl rfl ⟨_, _, rfl, rfl, c2⟩ ?_; clear S CL a; intro a S CL
          refine h_pick S CL hw le ⟨rfl, rfl, rfl, rfl, rfl, rfl, rfl, rfl, rfl, rfl, rfl, rfl, rfl, rfl, rfl, trivial⟩ (b := true) (hc_of rfl c2) rfl rfl rfl trivial ?_; clear S CL a; intro a S CL
          refine h_assign S CL hw le ⟨rfl, rfl, rfl, rfl, rfl, rfl, rfl, rfl, rfl, rfl, rfl, rfl, rfl, rfl, rfl, rfl, trivial⟩ rfl rfl rfl trivial ?_; clear S CL a; intro a S CL
          refine h_done ?_; clear CL hw le
          refine x_thenN ?_
          exact j1 _ true a w (S.sub ⟨rfl, trivial⟩ .nil) h6
        · refine h_run' S rfl ⟨_, _, rfl, rfl, c3⟩ ?_
          refine s_move S rfl rfl ?_; clear S a; intro a S
          replace hw := CL.again hw S (.cons .here .nil) le
          refine h_back ⟨fun _ => hw, ?_⟩
          refine h_run' S rfl ⟨_, _, rfl, rfl, c3⟩ ?_
          obtain ⟨c4, h7⟩ := chk_of h6; clear h6
          refine s_iaddrS S rfl rfl rfl Try.underlying25 T5 c4.1 c4.2 rfl ?_; clear S a; intro p1 a S
          replace hw := CL.again hw S (.cons .here .nil) le
          refine h_back ⟨fun _ => hw, ?_⟩
          refine h_run' S rfl ⟨_, _, rfl, rfl, c3⟩ ?_
          refine s_ld1 S (v := (.int .u8 (rd t1 0))) rfl T5 (fun _ => rfl) rfl ?_; clear S a; intro a S
          replace hw := CL.again hw S (.cons .here .nil) le
          refine h_back ⟨fun _ => hw, ?_⟩
          replace CL := CL.add (t := 22) (d := (.v (.int .u8 (rd t1 0)))) S rfl rfl
          refine h_bin S CL hw le ⟨rfl, rfl, rfl, rfl, rfl, rfl, rfl, rfl, rfl, rfl, rfl, rfl, rfl, trivial⟩ rfl rfl rfl rfl rfl ⟨_, _, rfl, rfl, c3⟩ ?_; clear S CL a; intro a S CL
          refine h_pick S CL hw le ⟨rfl, rfl, rfl, rfl, rfl, rfl, rfl, rfl, rfl, rfl, rfl, rfl, rfl, rfl, trivial⟩ (b := false) (hc_of rfl c3) rfl rfl rfl ⟨_, _, rfl, rfl, c2⟩ ?_; clear S CL a; intro a S CL
          refine h_pick S CL hw le ⟨rfl, rfl, rfl, rfl, rfl, rfl, rfl, rfl, rfl, rfl, rfl, rfl, rfl, rfl, rfl, trivial⟩ (b := true) (hc_of rfl c2) rfl rfl rfl trivial ?_; clear S CL a; intro a S CL
          refine h_assign S CL hw le ⟨rfl, rfl, rfl, rfl, rfl, rfl, rfl, rfl, rfl, rfl, rfl, rfl, rfl, rfl, rfl, rfl, trivial⟩ rfl rfl rfl trivial ?_; clear S CL a; intro a S CL
          refine h_done ?_; clear CL hw le
          refine x_thenN ?_
          exact j1 _ ((rd t1 0) != 0) a w (S.sub ⟨rfl, trivial⟩ .nil) h7
      · refine h_skipRt S rfl rfl rfl (ne_bool c2) rfl ?_; clear S a; intro a S
        replace hw := CL.again hw S (.cons .here .nil) le
        refine h_back ⟨fun _ => hw, ?_⟩
        refine h_skipRt S rfl rfl rfl (ne_bool c2) rfl ?_; clear S a; intro a S
        replace hw := CL.again hw S (.cons .here .nil) le
        refine h_back ⟨fun _ => hw, ?_⟩
        replace CL := CL.add (t := 17) (d := .u) S rfl rfl
        refine h_skip S CL rfl rfl rfl (ne_bool c2) rfl ?_; clear S CL a; intro a S CL
        refine h_skip S CL rfl rfl rfl (ne_bool c2) rfl ?_; clear S CL a; intro a S CL
        refine h_skipRt S rfl rfl rfl ne_undef rfl ?_; clear S a; intro a S
        replace hw := CL.again hw S (.cons .here .nil) le
        refine h_back ⟨fun _ => hw, ?_⟩
        refine h_skipRt S rfl rfl rfl ne_undef rfl ?_; clear S a; intro a S
        replace hw := CL.again hw S (.cons .here .nil) le
        refine h_back ⟨fun _ => hw, ?_⟩
        refine h_skipRt S rfl rfl rfl ne_undef rfl ?_; clear S a; intro a S
        replace hw := CL.again hw S (.cons .here .nil) le
        refine h_back ⟨fun _ => hw, ?_⟩
        replace CL := CL.add (t := 22) (d := .u) S rfl rfl
        refine h_skip S CL rfl rfl rfl ne_undef rfl ?_; clear S CL a; intro a S CL
        refine h_skip S CL rfl rfl rfl (ne_bool c2) rfl ?_; clear S CL a; intro a S CL
        refine h_pick S CL hw le ⟨rfl, rfl, rfl, rfl, rfl, rfl, rfl, rfl, rfl, rfl, rfl, rfl, rfl, rfl, rfl, trivial⟩ (b := false) (hc_of rfl c2) rfl rfl rfl trivial ?_; clear S CL a; intro a S CL
        refine h_assign S CL hw le ⟨rfl, rfl, rfl, rfl, rfl, rfl, rfl, rfl, rfl, rfl, rfl, rfl, rfl, rfl, rfl, rfl, trivial⟩ rfl rfl rfl trivial ?_; clear S CL a; intro a S CL
        refine h_done ?_; clear CL hw le
        refine x_thenN ?_
        exact j1 _ false a w (S.sub ⟨rfl, trivial⟩ .nil) h5
    refine h_runO S rfl ⟨_, _, rfl, rfl, c1⟩ ?_ ?_
    · refine s_callX S (ds' := [(.agg [.ints .u64 x1 4])]) (ds := [(.agg [.ints .u64 x1 4])]) [] [Res.row (Ty.int .u8) 5 ch1.1 ch1.2.1 ch1.2.2 t1, Res.cells g1 24 [.ints .u64 x1 4]] (fun (ch : (Option Addr) × Nat × Nat) => ((.v (.slice ch.1 ch.2.1 ch.2.2)) : D)) (fun (ch : (Option Addr) × Nat × Nat) => [Res.row (Ty.int .u8) 5 ch.1 ch.2.1 ch.2.2 t5]) (fun (ch : (Option Addr) × Nat × Nat) => [Res.row (Ty.int .u8) 5 ch.1 ch.2.1 ch.2.2 t5, Res.row (Ty.int .u8) 5 ch1.1 ch1.2.1 ch1.2.2 t1, Res.cells g1 24 [.ints .u64 x1 4]]) (fun _ => rfl) N9 rfl rfl (fun ok => ok) (.cons .here (.cons .here .nil)) rfl (smithyref07_Number.ok k x1 t5 et5 _ _) ?_; clear S a; intro ch5 m le1 a w S
      replace le := le.trans le1
      replace hw := CL.again hw S (.cons (.there (.there .here)) .nil) le
      refine h_back ⟨fun _ => hw, ?_⟩
      refine h_alts ?_
      refine h_runO S rfl ⟨_, _, rfl, rfl, c1⟩ ?_ ?_
      · replace S := S.rowfro (.there .here)
        obtain ⟨m, le1, S, hro⟩ := S
        replace le := le.trans le1
        replace S := S.slotro (u := 8) rfl hro
        replace S := S.slotro (u := 3) rfl hro
        replace S := S.slotro (u := 5) rfl hro
        replace CL := CL.drop (lq' := [(10, (.agg [.ints .u64 x1 4])), (7, (.v (.bool t4))), (6, (.v (.bool t4))), (1, (.v (.pointer (some ⟨g1, 0, none⟩))))]) ⟨rfl, rfl, rfl, rfl, trivial⟩
        refine s_strS S rfl rfl Try.underlying25 Try.underlying5 Try.underlying9 rfl ?_; clear S a; intro a S
        replace hw := CL.again hw S (.cons (.there .here) .nil) le
        refine h_back ⟨fun _ => hw, ?_⟩
        replace CL := CL.add (t := 9) (d := (.v (.string (bstr t1)))) S rfl rfl
        refine h_run' S rfl ⟨_, _, rfl, rfl, c1⟩ ?_
        replace S := S.rowfro .here
        obtain ⟨m, le1, S, hro⟩ := S
        replace le := le.trans le1
        replace S := S.slotro (u := 11) rfl hro
        refine s_strS S rfl rfl Try.underlying25 Try.underlying5 Try.underlying9 rfl ?_; clear S a; intro a S
        replace hw := CL.again hw S (.cons .here .nil) le
        refine h_back ⟨fun _ => hw, ?_⟩
        replace CL := CL.add (t := 12) (d := (.v (.string (bstr t5)))) S rfl rfl
        refine h_eqT S CL hw le ⟨rfl, rfl, rfl, rfl, rfl, rfl, trivial⟩ rfl rfl rfl rfl ⟨_, _, rfl, rfl, c1⟩ ?_; clear S CL a; intro a S CL
        refine h_pick S CL hw le ⟨rfl, rfl, rfl, rfl, rfl, rfl, rfl, trivial⟩ (b := true) (hc_of rfl c1) rfl rfl rfl trivial ?_; clear S CL a; intro a S CL
        refine h_move S CL hw le ⟨rfl, rfl, rfl, rfl, rfl, rfl, rfl, rfl, trivial⟩ rfl rfl rfl trivial ?_; clear S CL a; intro a S CL
        rcases ite_of h4 with ⟨c2, h5⟩ | ⟨c2, h5⟩ <;> clear h4
        · refine h_run' S rfl ⟨_, _, rfl, rfl, c2⟩ ?_
          refine s_move S rfl rfl ?_; clear S a; intro a S
          replace hw := CL.again hw S (.cons .here .nil) le
          refine h_back ⟨fun _ => hw, ?_⟩
          refine h_run' S rfl ⟨_, _, rfl, rfl, c2⟩ ?_
          refine s_lenS S rfl Try.underlying25 rfl ?_; clear S a; intro a S
          replace hw := CL.again hw S (.cons .here .nil) le
          refine h_back ⟨fun _ => hw, ?_⟩
          replace CL := CL.add (t := 17) (d := (.v (.int .i64 ((t1).length : Int)))) S rfl rfl
          refine h_bin S CL hw le ⟨rfl, rfl, rfl, rfl, rfl, rfl, rfl, rfl, rfl, rfl, trivial⟩ rfl rfl rfl rfl rfl ⟨_, _, rfl, rfl, c2⟩ ?_; clear S CL a; intro a S CL
          refine h_move S CL hw le ⟨rfl, rfl, rfl, rfl, rfl, rfl, rfl, rfl, rfl, rfl, rfl, trivial⟩ rfl rfl rfl ⟨_, _, rfl, rfl, c2⟩ ?_; clear S CL a; intro a S CL
          rcases ite_of h5 with ⟨c3, h6⟩ | ⟨c3, h6⟩ <;> clear h5
          · refine h_skipRt S rfl rfl rfl (ne_bool c3) rfl ?_; clear S a; intro a S
            replace hw := CL.again hw S (.cons .here .nil) le
            refine h_back ⟨fun _ => hw, ?_⟩
            refine h_skipRt S rfl rfl rfl (ne_bool c3) rfl ?_; clear S a; intro a S
            replace hw := CL.again hw S (.cons .here .nil) le
            refine h_back ⟨fun _ => hw, ?_⟩
            refine h_skipRt S rfl rfl rfl (ne_bool c3) rfl ?_; clear S a; intro a S
            replace hw := CL.again hw S (.cons .here .nil) le
            refine h_back ⟨fun _ => hw, ?_⟩
            replace CL := CL.add (t := 22) (d := .u) S rfl rfl
            refine h_skip S CL rfl rfl rfl (ne_bool c3) rfl ?_; clear S CL a; intro a S CL
            refine h_pick S CL hw le ⟨rfl, rfl, rfl, rfl, rfl, rfl, rfl, rfl, rfl, rfl, rfl, rfl, rfl, rfl, trivial⟩ (b := true) (hc_of rfl c3) rfl rfl rfl ⟨_, _, rfl, rfl, c2⟩ ?_; clear S CL a; intro a S CL
            refine h_pick S CL hw le ⟨rfl, rfl, rfl, rfl, rfl, rfl, rfl, rfl, rfl, rfl, rfl, rfl, rfl, rfl, rfl, trivial⟩ (b := true) (hc_of rfl c2) rfl rfl rfl trivial ?_; clear S CL a; intro a S CL
            refine h_assign S CL hw le ⟨rfl, rfl, rfl, rfl, rfl, rfl, rfl, rfl, rfl, rfl, rfl, rfl, rfl, rfl, rfl, rfl, trivial⟩ rfl rfl rfl trivial ?_; clear S CL a; intro a S CL
            refine h_done ?_; clear CL hw le
            refine x_thenN ?_
            exact j1 _ true a w (S.sub ⟨rfl, trivial⟩ .nil) h6
          · refine h_run' S rfl ⟨_, _, rfl, rfl, c3⟩ ?_
            refine s_move S rfl rfl ?_; clear S a; intro a S
            replace hw := CL.again hw S (.cons .here .nil) le
            refine h_back ⟨fun _ => hw, ?_⟩
            refine h_run' S rfl ⟨_, _, rfl, rfl, c3⟩ ?_
            obtain ⟨c4, h7⟩ := chk_of h6; clear h6
            refine s_iaddrS S rfl rfl rfl Try.underlying25 T5 c4.1 c4.2 rfl ?_; clear S a; intro p1 a S
            replace hw := CL.again hw S (.cons .here .nil) le
            refine h_back ⟨fun _ => hw, ?_⟩
            refine h_run' S rfl ⟨_, _, rfl, rfl, c3⟩ ?_
            refine s_ld1 S (v := (.int .u8 (rd t1 0))) rfl T5 (fun _ => rfl) rfl ?_; clear S a; intro a S
            replace hw := CL.again hw S (.cons .here .nil) le
            refine h_back ⟨fun _ => hw, ?_⟩
            replace CL := CL.add (t := 22) (d := (.v (.int .u8 (rd t1 0)))) S rfl rfl
            refine h_bin S CL hw le ⟨rfl, rfl, rfl, rfl, rfl, rfl, rfl, rfl, rfl, rfl, rfl, rfl, rfl, trivial⟩ rfl rfl rfl rfl rfl ⟨_, _, rfl, rfl, c3⟩ ?_; clear S CL a; intro a S CL
            refine h_pick S CL hw le ⟨rfl, rfl, rfl, rfl, rfl, rfl, rfl, rfl, rfl, rfl, rfl, rfl, rfl, rfl, trivial⟩ (b := false) (hc_of rfl c3) rfl rfl rfl ⟨_, _, rfl, rfl, c2⟩ ?_; clear S CL a; intro a S CL
            refine h_pick S CL hw le ⟨rfl, rfl, rfl, rfl, rfl, rfl, rfl, rfl, rfl, rfl, rfl, rfl, rfl, rfl, rfl, trivial⟩ (b := true) (hc_of rfl c2) rfl rfl rfl trivial ?_; clear S CL a; intro a S CL
            refine h_assign S CL hw le ⟨rfl, rfl, rfl, rfl, rfl, rfl, rfl, rfl, rfl, rfl, rfl, rfl, rfl, rfl, rfl, rfl, trivial⟩ rfl rfl rfl trivial ?_; clear S CL a; intro a S CL
            refine h_done ?_; clear CL hw le
            refine x_thenN ?_
            exact j1 _ ((rd t1 0) != 0) a w (S.sub ⟨rfl, trivial⟩ .nil) h7
        · refine h_skipRt S rfl rfl rfl (ne_bool c2) rfl ?_; clear S a; intro a S
          replace hw := CL.again hw S (.cons .here .nil) le
          refine h_back ⟨fun _ => hw, ?_⟩
          refine h_skipRt S rfl rfl rfl (ne_bool c2) rfl ?_; clear S a; intro a S
          replace hw := CL.again hw S (.cons .here .nil) le
          refine h_back ⟨fun _ => hw, ?_⟩
          replace CL := CL.add (t := 17) (d := .u) S rfl rfl
          refine h_skip S CL rfl rfl rfl (ne_bool c2) rfl ?_; clear S CL a; intro a S CL
          refine h_skip S CL rfl rfl rfl (ne_bool c2) rfl ?_; clear S CL a; intro a S CL
          refine h_skipRt S rfl rfl rfl ne_undef rfl ?_; clear S a; intro a S
          replace hw := CL.again hw S (.cons .here .nil) le
          refine h_back ⟨fun _ => hw, ?_⟩
          refine h_skipRt S rfl rfl rfl ne_undef rfl ?_; clear S a; intro a S
          replace hw := CL.again hw S (.cons .here .nil) le
          refine h_back ⟨fun _ => hw, ?_⟩
          refine h_skipRt S rfl rfl rfl ne_undef rfl ?_; clear S a; intro a S
          replace hw := CL.again hw S (.cons .here .nil) le
          refine h_back ⟨fun _ => hw, ?_⟩
          replace CL := CL.add (t := 22) (d := .u) S rfl rfl
          refine h_skip S CL rfl rfl rfl ne_undef rfl ?_; clear S CL a; intro a S CL
          refine h_skip S CL rfl rfl rfl (ne_bool c2) rfl ?_; clear S CL a; intro a S CL
          refine h_pick S CL hw le ⟨rfl, rfl, rfl, rfl, rfl, rfl, rfl, rfl, rfl, rfl, rfl, rfl, rfl, rfl, rfl, trivial⟩ (b := false) (hc_of rfl c2) rfl rfl rfl trivial ?_; clear S CL a; intro a S CL
          refine h_assign S CL hw le ⟨rfl, rfl, rfl, rfl, rfl, rfl, rfl, rfl, rfl, rfl, rfl, rfl, rfl, rfl, rfl, rfl, trivial⟩ rfl rfl rfl trivial ?_; clear S CL a; intro a S CL
          refine h_done ?_; clear CL hw le
          refine x_thenN ?_
          exact j1 _ false a w (S.sub ⟨rfl, trivial⟩ .nil) h5
      refine h_runO S rfl ⟨_, _, rfl, rfl, c1⟩ ?_ ?_
      · replace S := S.rowfro .here
        obtain ⟨m, le1, S, hro⟩ := S
        replace le := le.trans le1
        replace S := S.slotro (u := 11) rfl hro
        refine s_strS S rfl rfl Try.underlying25 Try.underlying5 Try.underlying9 rfl ?_; clear S a; intro a S
        replace hw := CL.again hw S (.cons (.there .here) .nil) le
        refine h_back ⟨fun _ => hw, ?_⟩
        replace CL := CL.add (t := 12) (d := (.v (.string (bstr t5)))) S rfl rfl
        refine h_run' S rfl ⟨_, _, rfl, rfl, c1⟩ ?_
        replace S := S.rowfro .here
        obtain ⟨m, le1, S, hro⟩ := S
        replace le := le.trans le1
        replace S := S.slotro (u := 8) rfl hro
        replace S := S.slotro (u := 3) rfl hro
        replace S := S.slotro (u := 5) rfl hro
        replace CL := CL.drop (lq' := [(12, (.v (.string (bstr t5)))), (10, (.agg [.ints .u64 x1 4])), (7, (.v (.bool t4))), (6, (.v (.bool t4))), (1, (.v (.pointer (some ⟨g1, 0, none⟩))))]) ⟨rfl, rfl, rfl, rfl, rfl, trivial⟩
        refine s_strS S rfl rfl Try.underlying25 Try.underlying5 Try.underlying9 rfl ?_; clear S a; intro a S
        replace hw := CL.again hw S (.cons .here .nil) le
        refine h_back ⟨fun _ => hw, ?_⟩
        replace CL := CL.add (t := 9) (d := (.v (.string (bstr t1)))) S rfl rfl
        refine h_eqT S CL hw le ⟨rfl, rfl, rfl, rfl, rfl, rfl, trivial⟩ rfl rfl rfl rfl ⟨_, _, rfl, rfl, c1⟩ ?_; clear S CL a; intro a S CL
        refine h_pick S CL hw le ⟨rfl, rfl, rfl, rfl, rfl, rfl, rfl, trivial⟩ (b := true) (hc_of rfl c1) rfl rfl rfl trivial ?_; clear S CL a; intro a S CL
        refine h_move S CL hw le ⟨rfl, rfl, rfl, rfl, rfl, rfl, rfl, rfl, trivial⟩ rfl rfl rfl trivial ?_; clear S CL a; intro a S CL
        rcases ite_of h4 with ⟨c2, h5⟩ | ⟨c2, h5⟩ <;> clear h4
        · refine h_run' S rfl ⟨_, _, rfl, rfl, c2⟩ ?_
          refine s_move S rfl rfl ?_; clear S a; intro a S
          replace hw := CL.again hw S (.cons .here .nil) le
          refine h_back ⟨fun _ => hw, ?_⟩
          refine h_run' S rfl ⟨_, _, rfl, rfl, c2⟩ ?_
          refine s_lenS S rfl Try.underlying25 rfl ?_; clear S a; intro a S
          replace hw := CL.again hw S (.cons .here .nil) le
          refine h_back ⟨fun _ => hw, ?_⟩
          replace CL := CL.add (t := 17) (d := (.v (.int .i64 ((t1).length : Int)))) S rfl rfl
          refine h_bin S CL hw le ⟨rfl, rfl, rfl, rfl, rfl, rfl, rfl, rfl, rfl, rfl, trivial⟩ rfl rfl rfl rfl rfl ⟨_, _, rfl, rfl, c2⟩ ?_; clear S CL a; intro a S CL
          refine h_move S CL hw le ⟨rfl, rfl, rfl, rfl, rfl, rfl, rfl, rfl, rfl, rfl, rfl, trivial⟩ rfl rfl rfl ⟨_, _, rfl, rfl, c2⟩ ?_; clear S CL a; intro a S CL
          rcases ite_of h5 with ⟨c3, h6⟩ | ⟨c3, h6⟩ <;> clear h5
          · refine h_skipRt S rfl rfl rfl (ne_bool c3) rfl ?_; clear S a; intro a S
            replace hw := CL.again hw S (.cons .here .nil) le
            refine h_back ⟨fun _ => hw, ?_⟩
            refine h_skipRt S rfl rfl rfl (ne_bool c3) rfl ?_; clear S a; intro a S
            replace hw := CL.again hw S (.cons .here .nil) le
            refine h_back ⟨fun _ => hw, ?_⟩
            refine h_skipRt S rfl rfl rfl (ne_bool c3) rfl ?_; clear S a; intro a S
            replace hw := CL.again hw S (.cons .here .nil) le
            refine h_back ⟨fun _ => hw, ?_⟩
            replace CL := CL.add (t := 22) (d := .u) S rfl rfl
            refine h_skip S CL rfl rfl rfl (ne_bool c3) rfl ?_; clear S CL a; intro a S CL
            refine h_pick S CL hw le ⟨rfl, rfl, rfl, rfl, rfl, rfl, rfl, rfl, rfl, rfl, rfl, rfl, rfl, rfl, trivial⟩ (b := true) (hc_of rfl c3) rfl rfl rfl ⟨_, _, rfl, rfl, c2⟩ ?_; clear S CL a; intro a S CL
            refine h_pick S CL hw le ⟨rfl, rfl, rfl, rfl, rfl, rfl, rfl, rfl, rfl, rfl, rfl, rfl, rfl, rfl, rfl, trivial⟩ (b := true) (hc_of rfl c2) rfl rfl rfl trivial ?_; clear S CL a; intro a S CL
            refine h_assign S CL hw le ⟨rfl, rfl, rfl, rfl, rfl, rfl, rfl, rfl, rfl, rfl, rfl, rfl, rfl, rfl, rfl, rfl, trivial⟩ rfl rfl rfl trivial ?_; clear S CL a; intro a S CL
            refine h_done ?_; clear CL hw le
            refine x_thenN ?_
            exact j1 _ true a w (S.sub ⟨rfl, trivial⟩ .nil) h6
          · refine h_run' S rfl ⟨_, _, rfl, rfl, c3⟩ ?_
            refine s_move S rfl rfl ?_; clear S a; intro a S
            replace hw := CL.again hw S (.cons .here .nil) le
            refine h_back ⟨fun _ => hw, ?_⟩
            refine h_run' S rfl ⟨_, _, rfl, rfl, c3⟩ ?_
            obtain ⟨c4, h7⟩ := chk_of h6; clear h6
            refine s_iaddrS S rfl rfl rfl Try.underlying25 T5 c4.1 c4.2 rfl ?_; clear S a; intro p1 a S
            replace hw := CL.again hw S (.cons .here .nil) le
            refine h_back ⟨fun _ => hw, ?_⟩
            refine h_run' S rfl ⟨_, _, rfl, rfl, c3⟩ ?_
            refine s_ld1 S (v := (.int .u8 (rd t1 0))) rfl T5 (fun _ => rfl) rfl ?_; clear S a; intro a S
            replace hw := CL.again hw S (.cons .here .nil) le
            refine h_back ⟨fun _ => hw, ?_⟩
            replace CL := CL.add (t := 22) (d := (.v (.int .u8 (rd t1 0)))) S rfl rfl
            refine h_bin S CL hw le ⟨rfl, rfl, rfl, rfl, rfl, rfl, rfl, rfl, rfl, rfl, rfl, rfl, rfl, trivial⟩ rfl rfl rfl rfl rfl ⟨_, _, rfl, rfl, c3⟩ ?_; clear S CL a; intro a S CL
            refine h_pick S CL hw le ⟨rfl, rfl, rfl, rfl, rfl, rfl, rfl, rfl, rfl, rfl, rfl, rfl, rfl, rfl, trivial⟩ (b := false) (hc_of rfl c3) rfl rfl rfl ⟨_, _, rfl, rfl, c2⟩ ?_; clear S CL a; intro a S CL
            refine h_pick S CL hw le ⟨rfl, rfl, rfl, rfl, rfl, rfl, rfl, rfl, rfl, rfl, rfl, rfl, rfl, rfl, rfl, trivial⟩ (b := true) (hc_of rfl c2) rfl rfl rfl trivial ?_; clear S CL a; intro a S CL
            refine h_assign S CL hw le ⟨rfl, rfl, rfl, rfl, rfl, rfl, rfl, rfl, rfl, rfl, rfl, rfl, rfl, rfl, rfl, rfl, trivial⟩ rfl rfl rfl trivial ?_; clear S CL a; intro a S CL
            refine h_done ?_; clear CL hw le
            refine x_thenN ?_
            exact j1 _ ((rd t1 0) != 0) a w (S.sub ⟨rfl, trivial⟩ .nil) h7
        · refine h_skipRt S rfl rfl rfl (ne_bool c2) rfl ?_; clear S a; intro a S
          replace hw := CL.again hw S (.cons .here .nil) le
          refine h_back ⟨fun _ => hw, ?_⟩
          refine h_skipRt S rfl rfl rfl (ne_bool c2) rfl ?_; clear S a; intro a S
          replace hw := CL.again hw S (.cons .here .nil) le
          refine h_back ⟨fun _ => hw, ?_⟩
          replace CL := CL.add (t := 17) (d := .u) S rfl rfl
          refine h_skip S CL rfl rfl rfl (ne_bool c2) rfl ?_; clear S CL a; intro a S CL
          refine h_skip S CL rfl rfl rfl (ne_bool c2) rfl ?_; clear S CL a; intro a S CL
          refine h_skipRt S rfl rfl rfl ne_undef rfl ?_; clear S a; intro a S
          replace hw := CL.again hw S (.cons .here .nil) le
          refine h_back ⟨fun _ => hw, ?_⟩
          refine h_skipRt S rfl rfl rfl ne_undef rfl ?_; clear S a; intro a S
          replace hw := CL.again hw S (.cons .here .nil) le
          refine h_back ⟨fun _ => hw, ?_⟩
          refine h_skipRt S rfl rfl rfl ne_undef rfl ?_; clear S a; intro a S
          replace hw := CL.again hw S (.cons .here .nil) le
          refine h_back ⟨fun _ => hw, ?_⟩
          replace CL := CL.add (t := 22) (d := .u) S rfl rfl
          refine h_skip S CL rfl rfl rfl ne_undef rfl ?_; clear S CL a; intro a S CL
          refine h_skip S CL rfl rfl rfl (ne_bool c2) rfl ?_; clear S CL a; intro a S CL
          refine h_pick S CL hw le ⟨rfl, rfl, rfl, rfl, rfl, rfl, rfl, rfl, rfl, rfl, rfl, rfl, rfl, rfl, rfl, trivial⟩ (b := false) (hc_of rfl c2) rfl rfl rfl trivial ?_; clear S CL a; intro a S CL
          refine h_assign S CL hw le ⟨rfl, rfl, rfl, rfl, rfl, rfl, rfl, rfl, rfl, rfl, rfl, rfl, rfl, rfl, rfl, rfl, trivial⟩ rfl rfl rfl trivial ?_; clear S CL a; intro a S CL
          refine h_done ?_; clear CL hw le
          refine x_thenN ?_
          exact j1 _ false a w (S.sub ⟨rfl, trivial⟩ .nil) h5
      exact h_nil
    exact h_nil
  · refine h_skip S CL rfl rfl rfl (ne_bool c1) rfl ?_; clear S CL a; intro a S CL
    refine h_skip S CL rfl rfl rfl (ne_bool c1) rfl ?_; clear S CL a; intro a S CL
    refine h_alts ?_
    refine h_skipOt S rfl rfl rfl (ne_bool c1) rfl ?_ ?_
    · clear S a; intro a S
      replace hw := CL.again hw S (.cons (.there .here) .nil) le
      refine h_back ⟨fun _ => hw, ?_⟩
      replace CL := CL.add (t := 9) (d := .u) S rfl rfl
      refine h_skipRt S rfl rfl rfl (ne_bool c1) rfl ?_; clear S a; intro a S
      replace hw := CL.again hw S (.cons (.there .here) .nil) le
      refine h_back ⟨fun _ => hw, ?_⟩
      refine h_skipRt S rfl rfl rfl (ne_bool c1) rfl ?_; clear S a; intro a S
      replace hw := CL.again hw S (.cons (.there .here) .nil) le
      refine h_back ⟨fun _ => hw, ?_⟩
      replace CL := CL.add (t := 12) (d := .u) S rfl rfl
      refine h_skip S CL rfl rfl rfl (ne_bool c1) rfl ?_; clear S CL a; intro a S CL
      refine h_pick S CL hw le ⟨rfl, rfl, rfl, rfl, rfl, rfl, rfl, rfl, rfl, trivial⟩ (b := false) (hc_of rfl c1) rfl rfl rfl trivial ?_; clear S CL a; intro a S CL
      refine h_move S CL hw le ⟨rfl, rfl, rfl, rfl, rfl, rfl, rfl, rfl, rfl, rfl, trivial⟩ rfl rfl rfl trivial ?_; clear S CL a; intro a S CL
      refine h_skipRt S rfl rfl rfl (ne_bool rfl) rfl ?_; clear S a; intro a S
      replace hw := CL.again hw S (.cons (.there .here) .nil) le
      refine h_back ⟨fun _ => hw, ?_⟩
      refine h_skipRt S rfl rfl rfl (ne_bool rfl) rfl ?_; clear S a; intro a S
      replace hw := CL.again hw S (.cons (.there .here) .nil) le
      refine h_back ⟨fun _ => hw, ?_⟩
      replace CL := CL.add (t := 17) (d := .u) S rfl rfl
      refine h_skip S CL rfl rfl rfl (ne_bool rfl) rfl ?_; clear S CL a; intro a S CL
      refine h_skip S CL rfl rfl rfl (ne_bool rfl) rfl ?_; clear S CL a; intro a S CL
      refine h_skipRt S rfl rfl rfl ne_undef rfl ?_; clear S a; intro a S
      replace hw := CL.again hw S (.cons (.there .here) .nil) le
      refine h_back ⟨fun _ => hw, ?_⟩
      refine h_skipRt S rfl rfl rfl ne_undef rfl ?_; clear S a; intro a S
      replace hw := CL.again hw S (.cons (.there .here) .nil) le
      refine h_back ⟨fun _ => hw, ?_⟩
      refine h_skipRt S rfl rfl rfl ne_undef rfl ?_; clear S a; intro a S
      replace hw := CL.again hw S (.cons (.there .here) .nil) le
      refine h_back ⟨fun _ => hw, ?_⟩
      replace CL := CL.add (t := 22) (d := .u) S rfl rfl
      refine h_skip S CL rfl rfl rfl ne_undef rfl ?_; clear S CL a; intro a S CL
      refine h_skip S CL rfl rfl rfl (ne_bool rfl) rfl ?_; clear S CL a; intro a S CL
      refine h_pick S CL hw le ⟨rfl, rfl, rfl, rfl, rfl, rfl, rfl, rfl, rfl, rfl, rfl, rfl, rfl, rfl, rfl, rfl, rfl, trivial⟩ (b := false) (hc_of rfl rfl) rfl rfl rfl trivial ?_; clear S CL a; intro a S CL
      refine h_assign S CL hw le ⟨rfl, rfl, rfl, rfl, rfl, rfl, rfl, rfl, rfl, rfl, rfl, rfl, rfl, rfl, rfl, rfl, rfl, rfl, trivial⟩ rfl rfl rfl trivial ?_; clear S CL a; intro a S CL
      refine h_done ?_; clear CL hw le
      refine x_thenN ?_
      exact j1 _ false a w (S.sub ⟨rfl, trivial⟩ .nil) h3
    refine h_skipOt S rfl rfl rfl (ne_bool c1) rfl ?_ ?_
    · clear S a; intro a S
      replace hw := CL.again hw S (.cons (.there .here) .nil) le
      refine h_back ⟨fun _ => hw, ?_⟩
      refine h_alts ?_
      refine h_skipOt S rfl rfl rfl (ne_bool c1) rfl ?_ ?_
      · clear S a; intro a S
        replace hw := CL.again hw S (.cons (.there .here) .nil) le
        refine h_back ⟨fun _ => hw, ?_⟩
        replace CL := CL.add (t := 9) (d := .u) S rfl rfl
        refine h_skipRt S rfl rfl rfl (ne_bool c1) rfl ?_; clear S a; intro a S
        replace hw := CL.again hw S (.cons (.there .here) .nil) le
        refine h_back ⟨fun _ => hw, ?_⟩
        replace CL := CL.add (t := 12) (d := .u) S rfl rfl
        refine h_skip S CL rfl rfl rfl (ne_bool c1) rfl ?_; clear S CL a; intro a S CL
        refine h_pick S CL hw le ⟨rfl, rfl, rfl, rfl, rfl, rfl, rfl, rfl, rfl, trivial⟩ (b := false) (hc_of rfl c1) rfl rfl rfl trivial ?_; clear S CL a; intro a S CL
        refine h_move S CL hw le ⟨rfl, rfl, rfl, rfl, rfl, rfl, rfl, rfl, rfl, rfl, trivial⟩ rfl rfl rfl trivial ?_; clear S CL a; intro a S CL
        refine h_skipRt S rfl rfl rfl (ne_bool rfl) rfl ?_; clear S a; intro a S
        replace hw := CL.again hw S (.cons (.there .here) .nil) le
        refine h_back ⟨fun _ => hw, ?_⟩
        refine h_skipRt S rfl rfl rfl (ne_bool rfl) rfl ?_; clear S a; intro a S
        replace hw := CL.again hw S (.cons (.there .here) .nil) le
        refine h_back ⟨fun _ => hw, ?_⟩
        replace CL := CL.add (t := 17) (d := .u) S rfl rfl
        refine h_skip S CL rfl rfl rfl (ne_bool rfl) rfl ?_; clear S CL a; intro a S CL
        refine h_skip S CL rfl rfl rfl (ne_bool rfl) rfl ?_; clear S CL a; intro a S CL
        refine h_skipRt S rfl rfl rfl ne_undef rfl ?_; clear S a; intro a S
        replace hw := CL.again hw S (.cons (.there .here) .nil) le
        refine h_back ⟨fun _ => hw, ?_⟩
        refine h_skipRt S rfl rfl rfl ne_undef rfl ?_; clear S a; intro a S
        replace hw := CL.again hw S (.cons (.there .here) .nil) le
        refine h_back ⟨fun _ => hw, ?_⟩
        refine h_skipRt S rfl rfl rfl ne_undef rfl ?_; clear S a; intro a S
        replace hw := CL.again hw S (.cons (.there .here) .nil) le
        refine h_back ⟨fun _ => hw, ?_⟩
        replace CL := CL.add (t := 22) (d := .u) S rfl rfl
        refine h_skip S CL rfl rfl rfl ne_undef rfl ?_; clear S CL a; intro a S CL
        refine h_skip S CL rfl rfl rfl (ne_bool rfl) rfl ?_; clear S CL a; intro a S CL
        refine h_pick S CL hw le ⟨rfl, rfl, rfl, rfl, rfl, rfl, rfl, rfl, rfl, rfl, rfl, rfl, rfl, rfl, rfl, rfl, rfl, trivial⟩ (b := false) (hc_of rfl rfl) rfl rfl rfl trivial ?_; clear S CL a; intro a S CL
        refine h_assign S CL hw le ⟨rfl, rfl, rfl, rfl, rfl, rfl, rfl, rfl, rfl, rfl, rfl, rfl, rfl, rfl, rfl, rfl, rfl, rfl, trivial⟩ rfl rfl rfl trivial ?_; clear S CL a; intro a S CL
        refine h_done ?_; clear CL hw le
        refine x_thenN ?_
        exact j1 _ false a w (S.sub ⟨rfl, trivial⟩ .nil) h3
      refine h_skipOt S rfl rfl rfl (ne_bool c1) rfl ?_ ?_
      · clear S a; intro a S
        replace hw := CL.again hw S (.cons (.there .here) .nil) le
        refine h_back ⟨fun _ => hw, ?_⟩
        replace CL := CL.add (t := 12) (d := .u) S rfl rfl
        refine h_skipRt S rfl rfl rfl (ne_bool c1) rfl ?_; clear S a; intro a S
        replace hw := CL.again hw S (.cons (.there .here) .nil) le
        refine h_back ⟨fun _ => hw, ?_⟩
        replace CL := CL.add (t := 9) (d := .u) S rfl rfl
        refine h_skip S CL rfl rfl rfl (ne_bool c1) rfl ?_; clear S CL a; intro a S CL
        refine h_pick S CL hw le ⟨rfl, rfl, rfl, rfl, rfl, rfl, rfl, rfl, rfl, trivial⟩ (b := false) (hc_of rfl c1) rfl rfl rfl trivial ?_; clear S CL a; intro a S CL
        refine h_move S CL hw le ⟨rfl, rfl, rfl, rfl, rfl, rfl, rfl, rfl, rfl, rfl, trivial⟩ rfl rfl rfl trivial ?_; clear S CL a; intro a S CL
        refine h_skipRt S rfl rfl rfl (ne_bool rfl) rfl ?_; clear S a; intro a S
        replace hw := CL.again hw S (.cons (.there .here) .nil) le
        refine h_back ⟨fun _ => hw, ?_⟩
        refine h_skipRt S rfl rfl rfl (ne_bool rfl) rfl ?_; clear S a; intro a S
        replace hw := CL.again hw S (.cons (.there .here) .nil) le
        refine h_back ⟨fun _ => hw, ?_⟩
        replace CL := CL.add (t := 17) (d := .u) S rfl rfl
        refine h_skip S CL rfl rfl rfl (ne_bool rfl) rfl ?_; clear S CL a; intro a S CL
        refine h_skip S CL rfl rfl rfl (ne_bool rfl) rfl ?_; clear S CL a; intro a S CL
        refine h_skipRt S rfl rfl rfl ne_undef rfl ?_; clear S a; intro a S
        replace hw := CL.again hw S (.cons (.there .here) .nil) le
        refine h_back ⟨fun _ => hw, ?_⟩
        refine h_skipRt S rfl rfl rfl ne_undef rfl ?_; clear S a; intro a S
        replace hw := CL.again hw S (.cons (.there .here) .nil) le
        refine h_back ⟨fun _ => hw, ?_⟩
        refine h_skipRt S rfl rfl rfl ne_undef rfl ?_; clear S a; intro a S
        replace hw := CL.again hw S (.cons (.there .here) .nil) le
        refine h_back ⟨fun _ => hw, ?_⟩
        replace CL := CL.add (t := 22) (d := .u) S rfl rfl
        refine h_skip S CL rfl rfl rfl ne_undef rfl ?_; clear S CL a; intro a S CL
        refine h_skip S CL rfl rfl rfl (ne_bool rfl) rfl ?_; clear S CL a; intro a S CL
        refine h_pick S CL hw le ⟨rfl, rfl, rfl, rfl, rfl, rfl, rfl, rfl, rfl, rfl, rfl, rfl, rfl, rfl, rfl, rfl, rfl, trivial⟩ (b := false) (hc_of rfl rfl) rfl rfl rfl trivial ?_; clear S CL a; intro a S CL
        refine h_assign S CL hw le ⟨rfl, rfl, rfl, rfl, rfl, rfl, rfl, rfl, rfl, rfl, rfl, rfl, rfl, rfl, rfl, rfl, rfl, rfl, trivial⟩ rfl rfl rfl trivial ?_; clear S CL a; intro a S CL
        refine h_done ?_; clear CL hw le
        refine x_thenN ?_
        exact j1 _ false a w (S.sub ⟨rfl, trivial⟩ .nil) h3
      exact h_nil
    exact h_nil
/-! smithy/smithyref07.Great -/
abbrev smithyref07_Great.Ty : Type := (List (Bool × (List Int) × Int)) → Option Bool
def smithyref07_Great.Ctr (s : smithyref07_Great.Ty) : Prop := ∀ (x1 : List (Bool × (List Int) × Int)) (ch_0_0 : Option Addr) (ch_0_1 : Nat) (r : Bool) (h0 : s x1 = some r) (mi : Mem) (w0 : World), okL mi [(.sl ch_0_0 (x1).length ch_0_1 (RdS (Ty.prod Ty.bool (Ty.prod (Ty.slice (Ty.int .u8)) (Ty.int .i64))) ch_0_0 x1))] → Pre mi [] w0 → Calls Try.prog 10 (([(.sl ch_0_0 (x1).length ch_0_1 (RdS (Ty.prod Ty.bool (Ty.prod (Ty.slice (Ty.int .u8)) (Ty.int .i64))) ch_0_0 x1))] : List D).map D.val).toArray w0 (RetX mi [] (fun (ch : Unit) => ((.v (.bool r)) : D)) (fun (ch : Unit) => []) w0)
def smithyref07_Great.j1 : Option Bool := some false
def smithyref07_Great.b1 (x1 : List (Bool × (List Int) × Int)) (rec1 : Int → Int → Option Bool) (y1 : Int) (y2 : Int) : Option Bool := if (decide (y1 < ((x1).length : Int))) = true then (if (0 : Int) ≤ y1 ∧ y1 < ((x1).length : Int) then (if (decide (4000 < (wr .i64 (y2 + (wr .i64 (1 + (imin (((gt x1 y1).2.1).length : Int) 5000))))))) = true then (some true) else (rec1 (wr .i64 (y1 + 1)) (wr .i64 (y2 + (wr .i64 (1 + (imin (((gt x1 y1).2.1).length : Int) 5000))))))) else none) else smithyref07_Great.j1
def smithyref07_Great.l1 (x1 : List (Bool × (List Int) × Int)) : Nat → Int → Int → Option Bool
  | 0, _, _ => none
  | q + 1, y1, y2 => smithyref07_Great.b1 x1 (smithyref07_Great.l1 x1 q) y1 y2
def smithyref07_Great.f (k : Nat) (x1 : List (Bool × (List Int) × Int)) : Option Bool := smithyref07_Great.l1 x1 k 0 0
theorem smithyref07_Great.ok (k : Nat) : smithyref07_Great.Ctr (smithyref07_Great.f k) := by
  intro x1 ch_0_0 ch_0_1 r h0 mi w0 ok hm
  delta smithyref07_Great.f at h0
  refine c_enterX (n := 23) [(.sl ch_0_0 (x1).length ch_0_1 (RdS (Ty.prod Ty.bool (Ty.prod (Ty.slice (Ty.int .u8)) (Ty.int .i64))) ch_0_0 x1))] (l := [(0, (.sl ch_0_0 (x1).length ch_0_1 (RdS (Ty.prod Ty.bool (Ty.prod (Ty.slice (Ty.int .u8)) (Ty.int .i64))) ch_0_0 x1)))]) Try.func10 rfl rfl rfl rfl ok hm ?_
  clear ok hm
  intro b0 hb a S
  refine c_region ?_
  refine s_assign S rfl rfl ?_; clear S a; intro a S
  refine c_end ?_
  refine c_region ?_
  refine s_assign S rfl rfl ?_; clear S a; intro a S
  refine c_end ?_
  refine wp_seq_k ?_
  intro K1 hK1
  have j1 : ∀ (m : Mem) (a : Act) (w : World), St 23 m b0 [] [] a w → smithyref07_Great.j1 = some r → K1 a w := by
    intro m a w S h0
    delta smithyref07_Great.j1 at h0
    refine hK1 a w ?_
    refine c_region ?_
    refine s_assign S rfl rfl ?_; clear S a; intro a S
    refine c_end ?_
    refine wp_ret ?_
    obtain rfl := Option.some.inj h0
    exact b_ret1 (d := (.v (.bool false))) S rfl rfl fun ok => S.retX (Hx := []) hb _ _ (() : Unit) .nil ok
  refine c_region ?_
  refine s_move S rfl rfl ?_; clear S a; intro a S
  refine s_lenS S rfl Try.underlying29 rfl ?_; clear S a; intro a S
  refine s_move S rfl rfl ?_; clear S a; intro a S
  refine c_end ?_
  refine wp_block ?_
  refine c_loop (fun q1 a w => ∃ (m : Mem) (y1 : Int) (y2 : Int), St 23 m b0 [(7, (.v (.int .i64 y1))), (6, (.v (.int .i64 ((x1).length : Int)))), (3, (.v (.int .i64 y2))), (0, (.sl ch_0_0 (x1).length ch_0_1 (RdS (Ty.prod Ty.bool (Ty.prod (Ty.slice (Ty.int .u8)) (Ty.int .i64))) ch_0_0 x1)))] [] a w ∧ smithyref07_Great.l1 x1 q1 y1 y2 = some r) ?_ ?_ (k := k) ⟨_, 0, 0, (S.sub ⟨rfl, rfl, rfl, rfl, trivial⟩ .nil), h0⟩
  · rintro a w ⟨m, y1, y2, S, h0⟩
    exact (nomatch (show (none : Option Bool) = some r from h0))
  · clear S h0
    rintro q1 a w ⟨m, y1, y2, S, h0⟩
    replace h0 : smithyref07_Great.b1 x1 (smithyref07_Great.l1 x1 q1) y1 y2 = some r := h0
    delta smithyref07_Great.b1 at h0
    refine c_region ?_
    refine s_bin S rfl rfl rfl rfl ?_; clear S a; intro a S
    refine c_end ?_
    refine wp_seq ?_
    rcases ite_of h0 with ⟨c1, h1⟩ | ⟨c1, h1⟩ <;> clear h0
    · refine c_condT S rfl c1 ?_
      refine wp_skip ?_
      refine x_thenN ?_
      refine wp_seq ?_
      refine wp_block ?_
      refine c_region ?_
      refine s_move S rfl rfl ?_; clear S a; intro a S
      refine s_assign S rfl rfl ?_; clear S a; intro a S
      refine c_end ?_
      refine c_region ?_
      refine s_move S rfl rfl ?_; clear S a; intro a S
      refine s_move S rfl rfl ?_; clear S a; intro a S
      refine s_move S rfl rfl ?_; clear S a; intro a S
      obtain ⟨c2, h2⟩ := chk_of h1; clear h1
      refine s_iaddrS S rfl rfl rfl Try.underlying29 T43 c2.1 c2.2 rfl ?_; clear S a; intro p1 a S
      refine s_faddrP S (tF := (Ty.slice (Ty.int .u8))) (y := (gt x1 y1).2.1) rfl I43_1 T25 (by decide) (fun m h => (at_fst (at_snd (at_0 h)))) rfl ?_; clear S a; intro a S
      refine s_ldS S (fun c => c) rfl T25 (fun _ => rfl) rfl ?_; clear S a; intro A1 cp1 a S
      refine s_lenS S rfl Try.underlying25 rfl ?_; clear S a; intro a S
      refine s_min2 S rfl rfl rfl ?_; clear S a; intro a S
      refine s_bin S rfl rfl rfl rfl ?_; clear S a; intro a S
      refine s_bin S rfl rfl rfl rfl ?_; clear S a; intro a S
      refine s_assign S rfl rfl ?_; clear S a; intro a S
      refine c_end ?_
      refine c_region ?_
      refine s_move S rfl rfl ?_; clear S a; intro a S
      refine s_bin S rfl rfl rfl rfl ?_; clear S a; intro a S
      refine c_end ?_
      rcases ite_of h2 with ⟨c3, h3⟩ | ⟨c3, h3⟩ <;> clear h2
      · refine c_condT S rfl c3 ?_
        refine c_region ?_
        refine s_assign S rfl rfl ?_; clear S a; intro a S
        refine c_end ?_
        refine wp_ret ?_
        refine x_blockR ?_
        refine x_thenR ?_
        refine x_thenR ?_
        refine x_blockR ?_
        refine x_thenR ?_
        obtain rfl := Option.some.inj h3
        exact b_ret1 (d := (.v (.bool true))) S rfl rfl fun ok => S.retX (Hx := []) hb _ _ (() : Unit) .nil ok
      · refine c_condF S rfl c3 ?_
        refine wp_skip ?_
        refine x_blockN ?_
        refine x_thenN ?_
        refine c_region' ?_
        refine s_bin S rfl rfl rfl rfl ?_; clear S a; intro a S
        refine s_move S rfl rfl ?_; clear S a; intro a S
        refine c_end' ?_
        refine x_thenN ?_
        exact ⟨_, (wr .i64 (y1 + 1)), (wr .i64 (y2 + (wr .i64 (1 + (imin (((gt x1 y1).2.1).length : Int) 5000))))), (S.sub ⟨rfl, rfl, rfl, rfl, trivial⟩ .nil), h3⟩
    · refine c_condF S rfl c1 ?_
      refine wp_exit ?_
      refine x_thenX ?_
      refine x_thenX ?_
      refine x_blockX ?_
      refine x_thenN ?_
      exact j1 _ a w (S.sub trivial .nil) h1
/-! smithy/smithyref07.end -/
abbrev smithyref07_end.Ty : Type := (List (Bool × (List Int) × Int)) → Int → Option Int
def smithyref07_end.Ctr (s : smithyref07_end.Ty) : Prop := ∀ (x1 : List (Bool × (List Int) × Int)) (x2 : Int) (ch_0_0 : Option Addr) (ch_0_1 : Nat) (r : Int) (h0 : s x1 x2 = some r) (mi : Mem) (w0 : World), okL mi [(.sl ch_0_0 (x1).length ch_0_1 (RdS (Ty.prod Ty.bool (Ty.prod (Ty.slice (Ty.int .u8)) (Ty.int .i64))) ch_0_0 x1)), (.v (.int .i64 x2))] → Pre mi [] w0 → Calls Try.prog 22 (([(.sl ch_0_0 (x1).length ch_0_1 (RdS (Ty.prod Ty.bool (Ty.prod (Ty.slice (Ty.int .u8)) (Ty.int .i64))) ch_0_0 x1)), (.v (.int .i64 x2))] : List D).map D.val).toArray w0 (RetX mi [] (fun (ch : Unit) => ((.v (.int .i64 r)) : D)) (fun (ch : Unit) => []) w0)
def smithyref07_end.j2 (x1 : List (Bool × (List Int) × Int)) (x2 : Int) (y7 : Int) : Option Int := if (y7 != (wr .i64 ((wr .i64 (x2 + 1)) + ((gt x1 x2).2.2)))) = true then (some (-1)) else (some y7)
def smithyref07_end.j3 (self0 : smithyref07_end.Ty) (x1 : List (Bool × (List Int) × Int)) (x2 : Int) (y11 : Int) (rec1 : Int → Option Int) (y12 : Bool) : Option Int := if y12 = true then ((self0 x1 y11).bind fun t1 => (rec1 t1)) else (smithyref07_end.j2 x1 x2 y11)
def smithyref07_end.b1 (self0 : smithyref07_end.Ty) (x1 : List (Bool × (List Int) × Int)) (x2 : Int) (rec1 : Int → Option Int) (y11 : Int) : Option Int := if (decide (0 ≤ y11)) = true then (smithyref07_end.j3 self0 x1 x2 y11 rec1 (decide (y11 < (wr .i64 ((wr .i64 (x2 + 1)) + ((gt x1 x2).2.2)))))) else (smithyref07_end.j3 self0 x1 x2 y11 rec1 false)
def smithyref07_end.l1 (self0 : smithyref07_end.Ty) (x1 : List (Bool × (List Int) × Int)) (x2 : Int) : Nat → Int → Option Int
  | 0, _ => none
  | q + 1, y11 => smithyref07_end.b1 self0 x1 x2 (smithyref07_end.l1 self0 x1 x2 q) y11
def smithyref07_end.j1 (k : Nat) (self0 : smithyref07_end.Ty) (x1 : List (Bool × (List Int) × Int)) (x2 : Int) (y1 : Bool) : Option Int := if y1 = true then (some (-1)) else (smithyref07_end.l1 self0 x1 x2 k (wr .i64 (x2 + 1)))
def smithyref07_end.body (self0 : smithyref07_end.Ty) (k : Nat) (x1 : List (Bool × (List Int) × Int)) (x2 : Int) : Option Int := if (decide (((x1).length : Int) ≤ x2)) = true then (some (-1)) else (if (0 : Int) ≤ x2 ∧ x2 < ((x1).length : Int) then (if (!((gt x1 x2).1)) = true then (if (((gt x1 x2).2.2) != 0) = true then (some (-1)) else (some (wr .i64 (x2 + 1)))) else (if (decide (0 < (((gt x1 x2).2.1).length : Int))) = true then (smithyref07_end.j1 k self0 x1 x2 true) else (if (decide (((gt x1 x2).2.2) < 0)) = true then (smithyref07_end.j1 k self0 x1 x2 true) else (smithyref07_end.j1 k self0 x1 x2 (decide ((wr .i64 ((wr .i64 (((x1).length : Int) - 1)) - x2)) < ((gt x1 x2).2.2))))))) else none)
theorem smithyref07_end.okb (self0 : smithyref07_end.Ty) (c_0 : smithyref07_end.Ctr self0) (k : Nat) : smithyref07_end.Ctr (smithyref07_end.body self0 k) := by
  intro x1 x2 ch_0_0 ch_0_1 r h0 mi w0 ok hm
  delta smithyref07_end.body at h0
  refine c_enterX (n := 66) [(.sl ch_0_0 (x1).length ch_0_1 (RdS (Ty.prod Ty.bool (Ty.prod (Ty.slice (Ty.int .u8)) (Ty.int .i64))) ch_0_0 x1)), (.v (.int .i64 x2))] (l := [(0, (.sl ch_0_0 (x1).length ch_0_1 (RdS (Ty.prod Ty.bool (Ty.prod (Ty.slice (Ty.int .u8)) (Ty.int .i64))) ch_0_0 x1))), (1, (.v (.int .i64 x2)))]) Try.func22 rfl rfl rfl rfl ok hm ?_
  clear ok hm
  intro b0 hb a S
  refine c_region ?_
  refine s_assign S rfl rfl ?_; clear S a; intro a S
  refine c_end ?_
  refine wp_seq ?_
  refine c_region ?_
  refine s_move S rfl rfl ?_; clear S a; intro a S
  refine s_move S rfl rfl ?_; clear S a; intro a S
  refine s_lenS S rfl Try.underlying29 rfl ?_; clear S a; intro a S
  refine s_bin S rfl rfl rfl rfl ?_; clear S a; intro a S
  refine c_end ?_
  rcases ite_of h0 with ⟨c1, h1⟩ | ⟨c1, h1⟩ <;> clear h0
  · refine c_condT S rfl c1 ?_
    refine c_region ?_
    refine s_assign S rfl rfl ?_; clear S a; intro a S
    refine c_end ?_
    refine wp_ret ?_
    refine x_thenR ?_
    obtain rfl := Option.some.inj h1
    exact b_ret1 (d := (.v (.int .i64 (-1)))) S rfl rfl fun ok => S.retX (Hx := []) hb _ _ (() : Unit) .nil ok
  · refine c_condF S rfl c1 ?_
    refine wp_skip ?_
    refine x_thenN ?_
    refine c_region ?_
    refine s_move S rfl rfl ?_; clear S a; intro a S
    refine s_move S rfl rfl ?_; clear S a; intro a S
    obtain ⟨c2, h2⟩ := chk_of h1; clear h1
    refine s_iaddrS S rfl rfl rfl Try.underlying29 T43 c2.1 c2.2 rfl ?_; clear S a; intro p1 a S
    refine s_ldA S (fun (c : Unit × (Option Addr × Nat) × Unit) => [.one (.bool ((gt x1 x2).1)), .sl c.2.1.1 ((gt x1 x2).2.1).length c.2.1.2 (RdS (Ty.int .u8) c.2.1.1 ((gt x1 x2).2.1)), .one (.int .i64 ((gt x1 x2).2.2))]) rfl T43 (fun _ => rfl) rfl ?_; clear S a; intro ch1 a S
    refine s_alloc S Z43 rfl ⟨rfl, rfl, rfl, trivial⟩ rfl ?_; clear S a; intro g1 a w S
    refine s_store S rfl rfl rfl (s' := [.one (.bool ((gt x1 x2).1)), .sl ch1.2.1.1 ((gt x1 x2).2.1).length ch1.2.1.2 (RdS (Ty.int .u8) ch1.2.1.1 ((gt x1 x2).2.1)), .one (.int .i64 ((gt x1 x2).2.2))]) .here T43 rfl rfl ?_; clear S w; intro w S
    refine c_end ?_
    refine wp_seq ?_
    refine c_region ?_
    refine s_fieldAddr S rfl I43_0 T4 (by decide) rfl rfl ?_; clear S a; intro a S
    refine s_load1 S rfl .here T4 (v := (.bool ((gt x1 x2).1))) rfl rfl ?_; clear S a; intro a S
    refine s_not S rfl rfl ?_; clear S a; intro a S
    refine c_end ?_
    rcases ite_of h2 with ⟨c3, h3⟩ | ⟨c3, h3⟩ <;> clear h2
    · refine c_condT S rfl c3 ?_
      refine wp_seq ?_
      refine c_region ?_
      refine s_fieldAddr S rfl I43_2 T3 (by decide) rfl rfl ?_; clear S a; intro a S
      refine s_load1 S rfl .here T3 (v := (.int .i64 ((gt x1 x2).2.2))) rfl rfl ?_; clear S a; intro a S
      refine s_bin S rfl rfl rfl rfl ?_; clear S a; intro a S
      refine c_end ?_
      rcases ite_of h3 with ⟨c4, h4⟩ | ⟨c4, h4⟩ <;> clear h3
      · refine c_condT S rfl c4 ?_
        refine c_region ?_
        refine s_assign S rfl rfl ?_; clear S a; intro a S
        refine c_end ?_
        refine wp_ret ?_
        refine x_thenR ?_
        refine x_thenR ?_
        obtain rfl := Option.some.inj h4
        exact b_ret1 (d := (.v (.int .i64 (-1)))) S rfl rfl fun ok => S.retX (Hx := []) hb _ _ (() : Unit) .nil ok
      · refine c_condF S rfl c4 ?_
        refine wp_skip ?_
        refine x_thenN ?_
        refine c_region ?_
        refine s_move S rfl rfl ?_; clear S a; intro a S
        refine s_bin S rfl rfl rfl rfl ?_; clear S a; intro a S
        refine s_assign S rfl rfl ?_; clear S a; intro a S
        refine c_end ?_
        refine wp_ret ?_
        refine x_thenR ?_
        obtain rfl := Option.some.inj h4
        exact b_ret1 (d := (.v (.int .i64 (wr .i64 (x2 + 1))))) S rfl rfl fun ok => S.retX (Hx := []) hb _ _ (() : Unit) .nil ok
    · refine c_condF S rfl c3 ?_
      refine wp_skip ?_
      refine x_thenN ?_
      refine wp_seq ?_
      refine wp_seq_k ?_
      intro K1 hK1
      have j1 : ∀ (m : Mem) (y1 : Bool) (g2 : Nat) (A1 : Option Addr) (cp1 : Nat) (a : Act) (w : World), St 66 m b0 [(41, (.v (.bool y1))), (5, (.v (.pointer (some ⟨g2, 0, none⟩)))), (0, (.sl ch_0_0 (x1).length ch_0_1 (RdS (Ty.prod Ty.bool (Ty.prod (Ty.slice (Ty.int .u8)) (Ty.int .i64))) ch_0_0 x1))), (1, (.v (.int .i64 x2)))] [Res.cells g2 43 [.one (.bool ((gt x1 x2).1)), .sl A1 ((gt x1 x2).2.1).length cp1 (RdS (Ty.int .u8) A1 ((gt x1 x2).2.1)), .one (.int .i64 ((gt x1 x2).2.2))]] a w → smithyref07_end.j1 k self0 x1 x2 y1 = some r → K1 a w := by
        intro m y1 g2 A1 cp1 a w S h0
        delta smithyref07_end.j1 at h0
        refine hK1 a w ?_
        rcases ite_of h0 with ⟨c5, h1⟩ | ⟨c5, h1⟩ <;> clear h0
        · refine c_condT S rfl c5 ?_
          refine c_region ?_
          refine s_assign S rfl rfl ?_; clear S a; intro a S
          refine c_end ?_
          refine wp_ret ?_
          refine x_thenR ?_
          obtain rfl := Option.some.inj h1
          exact b_ret1 (d := (.v (.int .i64 (-1)))) S rfl rfl fun ok => S.retX (Hx := []) hb _ _ (() : Unit) .nil ok
        · refine c_condF S rfl c5 ?_
          refine wp_skip ?_
          refine x_thenN ?_
          refine c_region ?_
          refine s_move S rfl rfl ?_; clear S a; intro a S
          refine s_bin S rfl rfl rfl rfl ?_; clear S a; intro a S
          refine s_assign S rfl rfl ?_; clear S a; intro a S
          refine c_end ?_
          refine wp_seq_k ?_
          intro K2 hK2
          have j2 : ∀ (m : Mem) (y7 : Int) (g9 : Nat) (a : Act) (w : World), St 66 m b0 [(6, (.v (.int .i64 y7))), (5, (.v (.pointer (some ⟨g9, 0, none⟩)))), (1, (.v (.int .i64 x2)))] [Res.cells g9 43 [.one (.bool ((gt x1 x2).1)), .sl A1 ((gt x1 x2).2.1).length cp1 (RdS (Ty.int .u8) A1 ((gt x1 x2).2.1)), .one (.int .i64 ((gt x1 x2).2.2))]] a w → smithyref07_end.j2 x1 x2 y7 = some r → K2 a w := by
            intro m y7 g9 a w S h0
            delta smithyref07_end.j2 at h0
            refine hK2 a w ?_
            refine wp_seq ?_
            refine c_region ?_
            refine s_move S rfl rfl ?_; clear S a; intro a S
            refine s_move S rfl rfl ?_; clear S a; intro a S
            refine s_bin S rfl rfl rfl rfl ?_; clear S a; intro a S
            refine s_fieldAddr S rfl I43_2 T3 (by decide) rfl rfl ?_; clear S a; intro a S
            refine s_load1 S rfl .here T3 (v := (.int .i64 ((gt x1 x2).2.2))) rfl rfl ?_; clear S a; intro a S
            refine s_bin S rfl rfl rfl rfl ?_; clear S a; intro a S
            refine s_bin S rfl rfl rfl rfl ?_; clear S a; intro a S
            refine c_end ?_
            rcases ite_of h0 with ⟨c6, h1⟩ | ⟨c6, h1⟩ <;> clear h0
            · refine c_condT S rfl c6 ?_
              refine c_region ?_
              refine s_assign S rfl rfl ?_; clear S a; intro a S
              refine c_end ?_
              refine wp_ret ?_
              refine x_thenR ?_
              obtain rfl := Option.some.inj h1
              exact b_ret1 (d := (.v (.int .i64 (-1)))) S rfl rfl fun ok => S.retX (Hx := []) hb _ _ (() : Unit) .nil ok
            · refine c_condF S rfl c6 ?_
              refine wp_skip ?_
              refine x_thenN ?_
              refine c_region ?_
              refine s_move S rfl rfl ?_; clear S a; intro a S
              refine s_assign S rfl rfl ?_; clear S a; intro a S
              refine c_end ?_
              refine wp_ret ?_
              obtain rfl := Option.some.inj h1
              exact b_ret1 (d := (.v (.int .i64 y7))) S rfl rfl fun ok => S.retX (Hx := []) hb _ _ (() : Unit) .nil ok
          refine wp_block ?_
          refine c_loop (fun q1 a w => ∃ (m : Mem) (y11 : Int) (g14 : Nat), St 66 m b0 [(6, (.v (.int .i64 y11))), (5, (.v (.pointer (some ⟨g14, 0, none⟩)))), (0, (.sl ch_0_0 (x1).length ch_0_1 (RdS (Ty.prod Ty.bool (Ty.prod (Ty.slice (Ty.int .u8)) (Ty.int .i64))) ch_0_0 x1))), (1, (.v (.int .i64 x2)))] [Res.cells g14 43 [.one (.bool ((gt x1 x2).1)), .sl A1 ((gt x1 x2).2.1).length cp1 (RdS (Ty.int .u8) A1 ((gt x1 x2).2.1)), .one (.int .i64 ((gt x1 x2).2.2))]] a w ∧ smithyref07_end.l1 self0 x1 x2 q1 y11 = some r) ?_ ?_ (k := k) ⟨_, (wr .i64 (x2 + 1)), g2, (S.sub ⟨rfl, rfl, rfl, rfl, trivial⟩ (.cons .here .nil)), h1⟩
          · rintro a w ⟨m, y11, g14, S, h0⟩
            exact (nomatch (show (none : Option Int) = some r from h0))
          · clear S h1
            rintro q1 a w ⟨m, y11, g14, S, h0⟩
            replace h0 : smithyref07_end.b1 self0 x1 x2 (smithyref07_end.l1 self0 x1 x2 q1) y11 = some r := h0
            delta smithyref07_end.b1 at h0
            refine wp_seq ?_
            refine wp_seq_k ?_
            intro K3 hK3
            have j3 : ∀ (m : Mem) (y12 : Bool) (g15 : Nat) (a : Act) (w : World), St 66 m b0 [(54, (.v (.bool y12))), (6, (.v (.int .i64 y11))), (5, (.v (.pointer (some ⟨g15, 0, none⟩)))), (0, (.sl ch_0_0 (x1).length ch_0_1 (RdS (Ty.prod Ty.bool (Ty.prod (Ty.slice (Ty.int .u8)) (Ty.int .i64))) ch_0_0 x1))), (1, (.v (.int .i64 x2)))] [Res.cells g15 43 [.one (.bool ((gt x1 x2).1)), .sl A1 ((gt x1 x2).2.1).length cp1 (RdS (Ty.int .u8) A1 ((gt x1 x2).2.1)), .one (.int .i64 ((gt x1 x2).2.2))]] a w → smithyref07_end.j3 self0 x1 x2 y11 (smithyref07_end.l1 self0 x1 x2 q1) y12 = some r → K3 a w := by
              intro m y12 g15 a w S h0
              delta smithyref07_end.j3 at h0
              refine hK3 a w ?_
              rcases ite_of h0 with ⟨c7, h1⟩ | ⟨c7, h1⟩ <;> clear h0
              · refine c_condT S rfl c7 ?_
                refine wp_skip ?_
                refine x_thenN ?_
                refine wp_block ?_
                refine c_region' ?_
                refine s_move S rfl rfl ?_; clear S a; intro a S
                refine s_move S rfl rfl ?_; clear S a; intro a S
                obtain ⟨t1, et1, h2⟩ := bind_of h1; clear h1
                refine s_callX S (ds' := [(.sl ch_0_0 (x1).length ch_0_1 (RdS (Ty.prod Ty.bool (Ty.prod (Ty.slice (Ty.int .u8)) (Ty.int .i64))) ch_0_0 x1)), (.v (.int .i64 y11))]) (ds := [(.sl ch_0_0 (x1).length ch_0_1 (RdS (Ty.prod Ty.bool (Ty.prod (Ty.slice (Ty.int .u8)) (Ty.int .i64))) ch_0_0 x1)), (.v (.int .i64 y11))]) [] [Res.cells g15 43 [.one (.bool ((gt x1 x2).1)), .sl A1 ((gt x1 x2).2.1).length cp1 (RdS (Ty.int .u8) A1 ((gt x1 x2).2.1)), .one (.int .i64 ((gt x1 x2).2.2))]] (fun (ch : Unit) => ((.v (.int .i64 t1)) : D)) (fun (ch : Unit) => []) (fun (ch : Unit) => [Res.cells g15 43 [.one (.bool ((gt x1 x2).1)), .sl A1 ((gt x1 x2).2.1).length cp1 (RdS (Ty.int .u8) A1 ((gt x1 x2).2.1)), .one (.int .i64 ((gt x1 x2).2.2))]]) (fun _ => rfl) N22 rfl rfl (fun ok => ok) (.cons .here .nil) rfl (c_0 x1 y11 ch_0_0 ch_0_1 t1 et1 _ _) ?_; clear S a w; intro ch2 m le1 a w S
                refine s_assign S rfl rfl ?_; clear S a; intro a S
                refine c_end' ?_
                refine x_blockN ?_
                refine x_thenN ?_
                exact ⟨_, t1, g15, (S.sub ⟨rfl, rfl, rfl, rfl, trivial⟩ (.cons .here .nil)), h2⟩
              · refine c_condF S rfl c7 ?_
                refine wp_exit ?_
                refine x_thenX ?_
                refine x_thenX ?_
                refine x_blockX ?_
                refine x_thenN ?_
                exact j2 _ y11 g15 a w (S.sub ⟨rfl, rfl, rfl, trivial⟩ (.cons .here .nil)) h1
            refine c_region' ?_
            refine s_move S rfl rfl ?_; clear S a; intro a S
            refine s_bin S rfl rfl rfl rfl ?_; clear S a; intro a S
            refine s_move S rfl rfl ?_; clear S a; intro a S
            rcases ite_of h0 with ⟨c8, h1⟩ | ⟨c8, h1⟩ <;> clear h0
            · refine s_gT S (b := (decide (0 ≤ y11))) rfl rfl c8 ?_
              refine s_move S rfl rfl ?_; clear S a; intro a S
              refine s_gT S (b := (decide (0 ≤ y11))) rfl rfl c8 ?_
              refine s_move S rfl rfl ?_; clear S a; intro a S
              refine s_gT S (b := (decide (0 ≤ y11))) rfl rfl c8 ?_
              refine s_bin S rfl rfl rfl rfl ?_; clear S a; intro a S
              refine s_gT S (b := (decide (0 ≤ y11))) rfl rfl c8 ?_
              refine s_fieldAddr S rfl I43_2 T3 (by decide) rfl rfl ?_; clear S a; intro a S
              refine s_gT S (b := (decide (0 ≤ y11))) rfl rfl c8 ?_
              refine s_load1 S rfl .here T3 (v := (.int .i64 ((gt x1 x2).2.2))) rfl rfl ?_; clear S a; intro a S
              refine s_gT S (b := (decide (0 ≤ y11))) rfl rfl c8 ?_
              refine s_bin S rfl rfl rfl rfl ?_; clear S a; intro a S
              refine s_gT S (b := (decide (0 ≤ y11))) rfl rfl c8 ?_
              refine s_bin S rfl rfl rfl rfl ?_; clear S a; intro a S
              refine s_pick S (b := true) (hc_of rfl c8) rfl rfl ?_; clear S a; intro a S
              refine c_end' ?_
              refine x_thenN ?_
              exact j3 _ (decide (y11 < (wr .i64 ((wr .i64 (x2 + 1)) + ((gt x1 x2).2.2))))) g14 a w (S.sub ⟨rfl, rfl, rfl, rfl, rfl, trivial⟩ (.cons .here .nil)) h1
            · refine s_gF S (b := (decide (0 ≤ y11))) rfl rfl c8 rfl ?_; clear S a; intro a S
              refine s_gF S (b := (decide (0 ≤ y11))) rfl rfl c8 rfl ?_; clear S a; intro a S
              refine s_gF S (b := (decide (0 ≤ y11))) rfl rfl c8 rfl ?_; clear S a; intro a S
              refine s_gF S (b := (decide (0 ≤ y11))) rfl rfl c8 rfl ?_; clear S a; intro a S
              refine s_gF S (b := (decide (0 ≤ y11))) rfl rfl c8 rfl ?_; clear S a; intro a S
              refine s_gF S (b := (decide (0 ≤ y11))) rfl rfl c8 rfl ?_; clear S a; intro a S
              refine s_gF S (b := (decide (0 ≤ y11))) rfl rfl c8 rfl ?_; clear S a; intro a S
              refine s_pick S (b := false) (hc_of rfl c8) rfl rfl ?_; clear S a; intro a S
              refine c_end' ?_
              refine x_thenN ?_
              exact j3 _ false g14 a w (S.sub ⟨rfl, rfl, rfl, rfl, rfl, trivial⟩ (.cons .here .nil)) h1
      refine c_region' ?_
      refine s_fieldAddr S rfl I43_1 T25 (by decide) rfl rfl ?_; clear S a; intro a S
      refine s_loadSl S rfl .here T25 (A := ch1.2.1.1) (len := ((gt x1 x2).2.1).length) (cap := ch1.2.1.2) rfl rfl ?_; clear S a; intro a S
      refine s_lenS S rfl Try.underlying25 rfl ?_; clear S a; intro a S
      refine s_bin S rfl rfl rfl rfl ?_; clear S a; intro a S
      refine s_move S rfl rfl ?_; clear S a; intro a S
      rcases ite_of h3 with ⟨c9, h4⟩ | ⟨c9, h4⟩ <;> clear h3
      · refine s_gF S (b := (decide (0 < (((gt x1 x2).2.1).length : Int)))) rfl rfl c9 rfl ?_; clear S a; intro a S
        refine s_gF S (b := (decide (0 < (((gt x1 x2).2.1).length : Int)))) rfl rfl c9 rfl ?_; clear S a; intro a S
        refine s_gF S (b := (decide (0 < (((gt x1 x2).2.1).length : Int)))) rfl rfl c9 rfl ?_; clear S a; intro a S
        refine s_pick S (b := true) (hc_of rfl c9) rfl rfl ?_; clear S a; intro a S
        refine s_move S rfl rfl ?_; clear S a; intro a S
        refine s_gF S (b := true) rfl rfl rfl rfl ?_; clear S a; intro a S
        refine s_gF S (b := true) rfl rfl rfl rfl ?_; clear S a; intro a S
        refine s_gF S (b := true) rfl rfl rfl rfl ?_; clear S a; intro a S
        refine s_gF S (b := true) rfl rfl rfl rfl ?_; clear S a; intro a S
        refine s_gF S (b := true) rfl rfl rfl rfl ?_; clear S a; intro a S
        refine s_gF S (b := true) rfl rfl rfl rfl ?_; clear S a; intro a S
        refine s_gF S (b := true) rfl rfl rfl rfl ?_; clear S a; intro a S
        refine s_gF S (b := true) rfl rfl rfl rfl ?_; clear S a; intro a S
        refine s_pick S (b := true) (hc_of rfl rfl) rfl rfl ?_; clear S a; intro a S
        refine c_end' ?_
        refine x_thenN ?_
        exact j1 _ true g1 ch1.2.1.1 ch1.2.1.2 a w (S.sub ⟨rfl, rfl, rfl, rfl, trivial⟩ (.cons .here .nil)) h4
      · refine s_gT S (b := (decide (0 < (((gt x1 x2).2.1).length : Int)))) rfl rfl c9 ?_
        refine s_fieldAddr S rfl I43_2 T3 (by decide) rfl rfl ?_; clear S a; intro a S
        refine s_gT S (b := (decide (0 < (((gt x1 x2).2.1).length : Int)))) rfl rfl c9 ?_
        refine s_load1 S rfl .here T3 (v := (.int .i64 ((gt x1 x2).2.2))) rfl rfl ?_; clear S a; intro a S
        refine s_gT S (b := (decide (0 < (((gt x1 x2).2.1).length : Int)))) rfl rfl c9 ?_
        refine s_bin S rfl rfl rfl rfl ?_; clear S a; intro a S
        refine s_pick S (b := false) (hc_of rfl c9) rfl rfl ?_; clear S a; intro a S
        refine s_move S rfl rfl ?_; clear S a; intro a S
        rcases ite_of h4 with ⟨c10, h5⟩ | ⟨c10, h5⟩ <;> clear h4
        · refine s_gF S (b := (decide (((gt x1 x2).2.2) < 0))) rfl rfl c10 rfl ?_; clear S a; intro a S
          refine s_gF S (b := (decide (((gt x1 x2).2.2) < 0))) rfl rfl c10 rfl ?_; clear S a; intro a S
          refine s_gF S (b := (decide (((gt x1 x2).2.2) < 0))) rfl rfl c10 rfl ?_; clear S a; intro a S
          refine s_gF S (b := (decide (((gt x1 x2).2.2) < 0))) rfl rfl c10 rfl ?_; clear S a; intro a S
          refine s_gF S (b := (decide (((gt x1 x2).2.2) < 0))) rfl rfl c10 rfl ?_; clear S a; intro a S
          refine s_gF S (b := (decide (((gt x1 x2).2.2) < 0))) rfl rfl c10 rfl ?_; clear S a; intro a S
          refine s_gF S (b := (decide (((gt x1 x2).2.2) < 0))) rfl rfl c10 rfl ?_; clear S a; intro a S
          refine s_gF S (b := (decide (((gt x1 x2).2.2) < 0))) rfl rfl c10 rfl ?_; clear S a; intro a S
          refine s_pick S (b := true) (hc_of rfl c10) rfl rfl ?_; clear S a; intro a S
          refine c_end' ?_
          refine x_thenN ?_
          exact j1 _ true g1 ch1.2.1.1 ch1.2.1.2 a w (S.sub ⟨rfl, rfl, rfl, rfl, trivial⟩ (.cons .here .nil)) h5
        · refine s_gT S (b := (decide (((gt x1 x2).2.2) < 0))) rfl rfl c10 ?_
          refine s_fieldAddr S rfl I43_2 T3 (by decide) rfl rfl ?_; clear S a; intro a S
          refine s_gT S (b := (decide (((gt x1 x2).2.2) < 0))) rfl rfl c10 ?_
          refine s_load1 S rfl .here T3 (v := (.int .i64 ((gt x1 x2).2.2))) rfl rfl ?_; clear S a; intro a S
          refine s_gT S (b := (decide (((gt x1 x2).2.2) < 0))) rfl rfl c10 ?_
          refine s_move S rfl rfl ?_; clear S a; intro a S
          refine s_gT S (b := (decide (((gt x1 x2).2.2) < 0))) rfl rfl c10 ?_
          refine s_lenS S rfl Try.underlying29 rfl ?_; clear S a; intro a S
          refine s_gT S (b := (decide (((gt x1 x2).2.2) < 0))) rfl rfl c10 ?_
          refine s_bin S rfl rfl rfl rfl ?_; clear S a; intro a S
          refine s_gT S (b := (decide (((gt x1 x2).2.2) < 0))) rfl rfl c10 ?_
          refine s_move S rfl rfl ?_; clear S a; intro a S
          refine s_gT S (b := (decide (((gt x1 x2).2.2) < 0))) rfl rfl c10 ?_
          refine s_bin S rfl rfl rfl rfl ?_; clear S a; intro a S
          refine s_gT S (b := (decide (((gt x1 x2).2.2) < 0))) rfl rfl c10 ?_
          refine s_bin S rfl rfl rfl rfl ?_; clear S a; intro a S
          refine s_pick S (b := false) (hc_of rfl c10) rfl rfl ?_; clear S a; intro a S
          refine c_end' ?_
          refine x_thenN ?_
          exact j1 _ (decide ((wr .i64 ((wr .i64 (((x1).length : Int) - 1)) - x2)) < ((gt x1 x2).2.2))) g1 ch1.2.1.1 ch1.2.1.2 a w (S.sub ⟨rfl, rfl, rfl, rfl, trivial⟩ (.cons .here .nil)) h5
def smithyref07_end.f : Nat → smithyref07_end.Ty
  | 0 => fun _ _ => none
  | k + 1 => smithyref07_end.body (smithyref07_end.f k) k
theorem smithyref07_end.f_succ (k : Nat) : smithyref07_end.f (k + 1) = smithyref07_end.body (smithyref07_end.f k) k := rfl
theorem smithyref07_end.oks : ∀ k : Nat, smithyref07_end.Ctr (smithyref07_end.f k)
  | 0 => fun _ _ _ _ r h0 => (nomatch (show (none : Option Int) = some r from h0))
  | k + 1 => by
    have ih := smithyref07_end.oks k
    exact smithyref07_end.okb (smithyref07_end.f k) ih k
theorem smithyref07_end.ok (k : Nat) : smithyref07_end.Ctr (smithyref07_end.f k) := (smithyref07_end.oks k)
/-! smithy/smithyref07.deep -/
abbrev smithyref07_deep.Ty : Type := (List (Bool × (List Int) × Int)) → Option Int
def smithyref07_deep.Ctr (s : smithyref07_deep.Ty) : Prop := ∀ (x1 : List (Bool × (List Int) × Int)) (ch_0_0 : Option Addr) (ch_0_1 : Nat) (r : Int) (h0 : s x1 = some r) (mi : Mem) (w0 : World), okL mi [(.sl ch_0_0 (x1).length ch_0_1 (RdS (Ty.prod Ty.bool (Ty.prod (Ty.slice (Ty.int .u8)) (Ty.int .i64))) ch_0_0 x1))] → Pre mi [] w0 → Calls Try.prog 23 (([(.sl ch_0_0 (x1).length ch_0_1 (RdS (Ty.prod Ty.bool (Ty.prod (Ty.slice (Ty.int .u8)) (Ty.int .i64))) ch_0_0 x1))] : List D).map D.val).toArray w0 (RetX mi [] (fun (ch : Unit) => ((.v (.int .i64 r)) : D)) (fun (ch : Unit) => []) w0)
def smithyref07_deep.j1 (y1 : Int) : Option Int := some y1
def smithyref07_deep.j2 (y24 : Int) (rec1 : Int → Int → Option Int) (y35 : Int) : Option Int := rec1 (wr .i64 (y24 + 1)) y35
def smithyref07_deep.j3 (y24 : Int) (y25 : Int) (rec1 : Int → Int → Option Int) (y44 : Int) : Option Int := smithyref07_deep.j2 y24 rec1 (imax y25 y44)
def smithyref07_deep.j4 (y51 : Int) (rec2 : Int → Int → Option Int) (y54 : Int) : Option Int := rec2 (wr .i64 (y51 + 1)) y54
def smithyref07_deep.j5 (y51 : Int) (y52 : Int) (rec2 : Int → Int → Option Int) (y55 : Bool) : Option Int := if y55 = true then (smithyref07_deep.j4 y51 rec2 (wr .i64 (y52 + 1))) else (smithyref07_deep.j4 y51 rec2 y52)
def smithyref07_deep.b2 (x1 : List (Bool × (List Int) × Int)) (y24 : Int) (y25 : Int) (rec1 : Int → Int → Option Int) (rec2 : Int → Int → Option Int) (y51 : Int) (y52 : Int) : Option Int := if (decide (y51 ≤ y24)) = true then (if (0 : Int) ≤ y51 ∧ y51 < ((x1).length : Int) then (if ((gt x1 y51).1) = true then (smithyref07_deep.j5 y51 y52 rec2 (decide (y24 ≤ (wr .i64 (y51 + ((gt x1 y51).2.2)))))) else (smithyref07_deep.j5 y51 y52 rec2 false)) else none) else (smithyref07_deep.j3 y24 y25 rec1 y52)
def smithyref07_deep.l2 (x1 : List (Bool × (List Int) × Int)) (y24 : Int) (y25 : Int) (rec1 : Int → Int → Option Int) : Nat → Int → Int → Option Int
  | 0, _, _ => none
  | q + 1, y51, y52 => smithyref07_deep.b2 x1 y24 y25 rec1 (smithyref07_deep.l2 x1 y24 y25 rec1 q) y51 y52
def smithyref07_deep.b1 (k : Nat) (x1 : List (Bool × (List Int) × Int)) (rec1 : Int → Int → Option Int) (y24 : Int) (y25 : Int) : Option Int := if (decide (y24 < ((x1).length : Int))) = true then (smithyref07_deep.l2 x1 y24 y25 rec1 k 0 0) else (smithyref07_deep.j1 y25)
def smithyref07_deep.l1 (k : Nat) (x1 : List (Bool × (List Int) × Int)) : Nat → Int → Int → Option Int
  | 0, _, _ => none
  | q + 1, y24, y25 => smithyref07_deep.b1 k x1 (smithyref07_deep.l1 k x1 q) y24 y25
def smithyref07_deep.f (k : Nat) (x1 : List (Bool × (List Int) × Int)) : Option Int := smithyref07_deep.l1 k x1 k 0 0
theorem smithyref07_deep.ok (k : Nat) : smithyref07_deep.Ctr (smithyref07_deep.f k) := by
  intro x1 ch_0_0 ch_0_1 r h0 mi w0 ok hm
  delta smithyref07_deep.f at h0
  refine c_enterX (n := 40) [(.sl ch_0_0 (x1).length ch_0_1 (RdS (Ty.prod Ty.bool (Ty.prod (Ty.slice (Ty.int .u8)) (Ty.int .i64))) ch_0_0 x1))] (l := [(0, (.sl ch_0_0 (x1).length ch_0_1 (RdS (Ty.prod Ty.bool (Ty.prod (Ty.slice (Ty.int .u8)) (Ty.int .i64))) ch_0_0 x1)))]) Try.func23 rfl rfl rfl rfl ok hm ?_
  clear ok hm
  intro b0 hb a S
  refine c_region ?_
  refine s_assign S rfl rfl ?_; clear S a; intro a S
  refine c_end ?_
  refine c_region ?_
  refine s_assign S rfl rfl ?_; clear S a; intro a S
  refine c_end ?_
  refine wp_seq_k ?_
  intro K1 hK1
  have j1 : ∀ (m : Mem) (y1 : Int) (a : Act) (w : World), St 40 m b0 [(3, (.v (.int .i64 y1)))] [] a w → smithyref07_deep.j1 y1 = some r → K1 a w := by
    intro m y1 a w S h0
    delta smithyref07_deep.j1 at h0
    refine hK1 a w ?_
    refine c_region ?_
    refine s_move S rfl rfl ?_; clear S a; intro a S
    refine s_assign S rfl rfl ?_; clear S a; intro a S
    refine c_end ?_
    refine wp_ret ?_
    obtain rfl := Option.some.inj h0
    exact b_ret1 (d := (.v (.int .i64 y1))) S rfl rfl fun ok => S.retX (Hx := []) hb _ _ (() : Unit) .nil ok
  refine c_region ?_
  refine s_move S rfl rfl ?_; clear S a; intro a S
  refine s_lenS S rfl Try.underlying29 rfl ?_; clear S a; intro a S
  refine s_move S rfl rfl ?_; clear S a; intro a S
  refine c_end ?_
  refine wp_block ?_
  refine c_loop (fun q1 a w => ∃ (m : Mem) (y24 : Int) (y25 : Int), St 40 m b0 [(9, (.v (.int .i64 y24))), (8, (.v (.int .i64 ((x1).length : Int)))), (3, (.v (.int .i64 y25))), (0, (.sl ch_0_0 (x1).length ch_0_1 (RdS (Ty.prod Ty.bool (Ty.prod (Ty.slice (Ty.int .u8)) (Ty.int .i64))) ch_0_0 x1)))] [] a w ∧ smithyref07_deep.l1 k x1 q1 y24 y25 = some r) ?_ ?_ (k := k) ⟨_, 0, 0, (S.sub ⟨rfl, rfl, rfl, rfl, trivial⟩ .nil), h0⟩
  · rintro a w ⟨m, y24, y25, S, h0⟩
    exact (nomatch (show (none : Option Int) = some r from h0))
  · clear S h0
    rintro q1 a w ⟨m, y24, y25, S, h0⟩
    replace h0 : smithyref07_deep.b1 k x1 (smithyref07_deep.l1 k x1 q1) y24 y25 = some r := h0
    delta smithyref07_deep.b1 at h0
    refine c_region ?_
    refine s_bin S rfl rfl rfl rfl ?_; clear S a; intro a S
    refine c_end ?_
    refine wp_seq ?_
    rcases ite_of h0 with ⟨c1, h1⟩ | ⟨c1, h1⟩ <;> clear h0
    · refine c_condT S rfl c1 ?_
      refine wp_skip ?_
      refine x_thenN ?_
      refine wp_seq_k ?_
      intro K2 hK2
      have j2 : ∀ (m : Mem) (y35 : Int) (a : Act) (w : World), St 40 m b0 [(3, (.v (.int .i64 y35))), (9, (.v (.int .i64 y24))), (8, (.v (.int .i64 ((x1).length : Int)))), (0, (.sl ch_0_0 (x1).length ch_0_1 (RdS (Ty.prod Ty.bool (Ty.prod (Ty.slice (Ty.int .u8)) (Ty.int .i64))) ch_0_0 x1)))] [] a w → smithyref07_deep.j2 y24 (smithyref07_deep.l1 k x1 q1) y35 = some r → K2 a w := by
        intro m y35 a w S h0
        delta smithyref07_deep.j2 at h0
        refine hK2 a w ?_
        refine c_region' ?_
        refine s_bin S rfl rfl rfl rfl ?_; clear S a; intro a S
        refine s_move S rfl rfl ?_; clear S a; intro a S
        refine c_end' ?_
        refine x_thenN ?_
        exact ⟨_, (wr .i64 (y24 + 1)), y35, (S.sub ⟨rfl, rfl, rfl, rfl, trivial⟩ .nil), h0⟩
      refine wp_block ?_
      refine c_region ?_
      refine s_move S rfl rfl ?_; clear S a; intro a S
      refine s_assign S rfl rfl ?_; clear S a; intro a S
      refine c_end ?_
      refine c_region ?_
      refine s_assign S rfl rfl ?_; clear S a; intro a S
      refine c_end ?_
      refine wp_seq_k ?_
      intro K3 hK3
      have j3 : ∀ (m : Mem) (y44 : Int) (a : Act) (w : World), St 40 m b0 [(5, (.v (.int .i64 y44))), (9, (.v (.int .i64 y24))), (8, (.v (.int .i64 ((x1).length : Int)))), (3, (.v (.int .i64 y25))), (0, (.sl ch_0_0 (x1).length ch_0_1 (RdS (Ty.prod Ty.bool (Ty.prod (Ty.slice (Ty.int .u8)) (Ty.int .i64))) ch_0_0 x1)))] [] a w → smithyref07_deep.j3 y24 y25 (smithyref07_deep.l1 k x1 q1) y44 = some r → K3 a w := by
        intro m y44 a w S h0
        delta smithyref07_deep.j3 at h0
        refine hK3 a w ?_
        refine c_region' ?_
        refine s_move S rfl rfl ?_; clear S a; intro a S
        refine s_move S rfl rfl ?_; clear S a; intro a S
        refine s_max2 S rfl rfl rfl ?_; clear S a; intro a S
        refine s_assign S rfl rfl ?_; clear S a; intro a S
        refine c_end' ?_
        refine x_blockN ?_
        refine x_thenN ?_
        exact j2 _ (imax y25 y44) a w (S.sub ⟨rfl, rfl, rfl, rfl, trivial⟩ .nil) h0
      refine c_region ?_
      refine s_assign S rfl rfl ?_; clear S a; intro a S
      refine c_end ?_
      refine wp_block ?_
      refine c_loop (fun q2 a w => ∃ (m : Mem) (y51 : Int) (y52 : Int), St 40 m b0 [(6, (.v (.int .i64 y51))), (5, (.v (.int .i64 y52))), (4, (.v (.int .i64 y24))), (9, (.v (.int .i64 y24))), (8, (.v (.int .i64 ((x1).length : Int)))), (3, (.v (.int .i64 y25))), (0, (.sl ch_0_0 (x1).length ch_0_1 (RdS (Ty.prod Ty.bool (Ty.prod (Ty.slice (Ty.int .u8)) (Ty.int .i64))) ch_0_0 x1)))] [] a w ∧ smithyref07_deep.l2 x1 y24 y25 (smithyref07_deep.l1 k x1 q1) q2 y51 y52 = some r) ?_ ?_ (k := k) ⟨_, 0, 0, (S.sub ⟨rfl, rfl, rfl, rfl, rfl, rfl, rfl, trivial⟩ .nil), h1⟩
      · rintro a w ⟨m, y51, y52, S, h0⟩
        exact (nomatch (show (none : Option Int) = some r from h0))
      · clear S h1
        rintro q2 a w ⟨m, y51, y52, S, h0⟩
        replace h0 : smithyref07_deep.b2 x1 y24 y25 (smithyref07_deep.l1 k x1 q1) (smithyref07_deep.l2 x1 y24 y25 (smithyref07_deep.l1 k x1 q1) q2) y51 y52 = some r := h0
        delta smithyref07_deep.b2 at h0
        refine wp_seq ?_
        refine c_region ?_
        refine s_move S rfl rfl ?_; clear S a; intro a S
        refine s_move S rfl rfl ?_; clear S a; intro a S
        refine s_bin S rfl rfl rfl rfl ?_; clear S a; intro a S
        refine c_end ?_
        rcases ite_of h0 with ⟨c2, h1⟩ | ⟨c2, h1⟩ <;> clear h0
        · refine c_condT S rfl c2 ?_
          refine wp_skip ?_
          refine x_thenN ?_
          refine wp_seq_k ?_
          intro K4 hK4
          have j4 : ∀ (m : Mem) (y54 : Int) (a : Act) (w : World), St 40 m b0 [(5, (.v (.int .i64 y54))), (6, (.v (.int .i64 y51))), (4, (.v (.int .i64 y24))), (9, (.v (.int .i64 y24))), (8, (.v (.int .i64 ((x1).length : Int)))), (3, (.v (.int .i64 y25))), (0, (.sl ch_0_0 (x1).length ch_0_1 (RdS (Ty.prod Ty.bool (Ty.prod (Ty.slice (Ty.int .u8)) (Ty.int .i64))) ch_0_0 x1)))] [] a w → smithyref07_deep.j4 y51 (smithyref07_deep.l2 x1 y24 y25 (smithyref07_deep.l1 k x1 q1) q2) y54 = some r → K4 a w := by
            intro m y54 a w S h0
            delta smithyref07_deep.j4 at h0
            refine hK4 a w ?_
            refine c_region' ?_
            refine s_move S rfl rfl ?_; clear S a; intro a S
            refine s_bin S rfl rfl rfl rfl ?_; clear S a; intro a S
            refine s_assign S rfl rfl ?_; clear S a; intro a S
            refine c_end' ?_
            refine x_thenN ?_
            exact ⟨_, (wr .i64 (y51 + 1)), y54, (S.sub ⟨rfl, rfl, rfl, rfl, rfl, rfl, rfl, trivial⟩ .nil), h0⟩
          refine wp_block ?_
          refine wp_seq_k ?_
          intro K5 hK5
          have j5 : ∀ (m : Mem) (y55 : Bool) (a : Act) (w : World), St 40 m b0 [(32, (.v (.bool y55))), (6, (.v (.int .i64 y51))), (5, (.v (.int .i64 y52))), (4, (.v (.int .i64 y24))), (9, (.v (.int .i64 y24))), (8, (.v (.int .i64 ((x1).length : Int)))), (3, (.v (.int .i64 y25))), (0, (.sl ch_0_0 (x1).length ch_0_1 (RdS (Ty.prod Ty.bool (Ty.prod (Ty.slice (Ty.int .u8)) (Ty.int .i64))) ch_0_0 x1)))] [] a w → smithyref07_deep.j5 y51 y52 (smithyref07_deep.l2 x1 y24 y25 (smithyref07_deep.l1 k x1 q1) q2) y55 = some r → K5 a w := by
            intro m y55 a w S h0
            delta smithyref07_deep.j5 at h0
            refine hK5 a w ?_
            rcases ite_of h0 with ⟨c3, h1⟩ | ⟨c3, h1⟩ <;> clear h0
            · refine c_condT S rfl c3 ?_
              refine c_region' ?_
              refine s_move S rfl rfl ?_; clear S a; intro a S
              refine s_bin S rfl rfl rfl rfl ?_; clear S a; intro a S
              refine s_assign S rfl rfl ?_; clear S a; intro a S
              refine c_end' ?_
              refine x_blockN ?_
              refine x_thenN ?_
              exact j4 _ (wr .i64 (y52 + 1)) a w (S.sub ⟨rfl, rfl, rfl, rfl, rfl, rfl, rfl, trivial⟩ .nil) h1
            · refine c_condF S rfl c3 ?_
              refine wp_skip ?_
              refine x_blockN ?_
              refine x_thenN ?_
              exact j4 _ y52 a w (S.sub ⟨rfl, rfl, rfl, rfl, rfl, rfl, rfl, trivial⟩ .nil) h1
          refine c_region' ?_
          refine s_move S rfl rfl ?_; clear S a; intro a S
          refine s_move S rfl rfl ?_; clear S a; intro a S
          obtain ⟨c4, h2⟩ := chk_of h1; clear h1
          refine s_iaddrS S rfl rfl rfl Try.underlying29 T43 c4.1 c4.2 rfl ?_; clear S a; intro p1 a S
          refine s_faddrP S (tF := Ty.bool) (y := (gt x1 y51).1) rfl I43_0 T4 (by decide) (fun m h => (at_fst (at_0 h))) rfl ?_; clear S a; intro a S
          refine s_ld1 S (v := (.bool ((gt x1 y51).1))) rfl T4 (fun _ => rfl) rfl ?_; clear S a; intro a S
          refine s_move S rfl rfl ?_; clear S a; intro a S
          rcases ite_of h2 with ⟨c5, h3⟩ | ⟨c5, h3⟩ <;> clear h2
          · refine s_gT S (b := ((gt x1 y51).1)) rfl rfl c5 ?_
            refine s_move S rfl rfl ?_; clear S a; intro a S
            refine s_gT S (b := ((gt x1 y51).1)) rfl rfl c5 ?_
            refine s_move S rfl rfl ?_; clear S a; intro a S
            refine s_gT S (b := ((gt x1 y51).1)) rfl rfl c5 ?_
            refine s_move S rfl rfl ?_; clear S a; intro a S
            refine s_gT S (b := ((gt x1 y51).1)) rfl rfl c5 ?_
            refine s_move S rfl rfl ?_; clear S a; intro a S
            refine s_gT S (b := ((gt x1 y51).1)) rfl rfl c5 ?_
            refine s_iaddrS S rfl rfl rfl Try.underlying29 T43 c4.1 c4.2 rfl ?_; clear S a; intro p2 a S
            refine s_gT S (b := ((gt x1 y51).1)) rfl rfl c5 ?_
            refine s_faddrP S (tF := (Ty.int .i64)) (y := (gt x1 y51).2.2) rfl I43_2 T3 (by decide) (fun m h => (at_snd (at_snd (at_0 h)))) rfl ?_; clear S a; intro a S
            refine s_gT S (b := ((gt x1 y51).1)) rfl rfl c5 ?_
            refine s_ld1 S (v := (.int .i64 ((gt x1 y51).2.2))) rfl T3 (fun _ => rfl) rfl ?_; clear S a; intro a S
            refine s_gT S (b := ((gt x1 y51).1)) rfl rfl c5 ?_
            refine s_bin S rfl rfl rfl rfl ?_; clear S a; intro a S
            refine s_gT S (b := ((gt x1 y51).1)) rfl rfl c5 ?_
            refine s_bin S rfl rfl rfl rfl ?_; clear S a; intro a S
            refine s_pick S (b := true) (hc_of rfl c5) rfl rfl ?_; clear S a; intro a S
            refine c_end' ?_
            refine x_thenN ?_
            exact j5 _ (decide (y24 ≤ (wr .i64 (y51 + ((gt x1 y51).2.2))))) a w (S.sub ⟨rfl, rfl, rfl, rfl, rfl, rfl, rfl, rfl, trivial⟩ .nil) h3
          · refine s_gF S (b := ((gt x1 y51).1)) rfl rfl c5 rfl ?_; clear S a; intro a S
            refine s_gF S (b := ((gt x1 y51).1)) rfl rfl c5 rfl ?_; clear S a; intro a S
            refine s_gF S (b := ((gt x1 y51).1)) rfl rfl c5 rfl ?_; clear S a; intro a S
            refine s_gF S (b := ((gt x1 y51).1)) rfl rfl c5 rfl ?_; clear S a; intro a S
            refine s_gF S (b := ((gt x1 y51).1)) rfl rfl c5 rfl ?_; clear S a; intro a S
            refine s_gF S (b := ((gt x1 y51).1)) rfl rfl c5 rfl ?_; clear S a; intro a S
            refine s_gF S (b := ((gt x1 y51).1)) rfl rfl c5 rfl ?_; clear S a; intro a S
            refine s_gF S (b := ((gt x1 y51).1)) rfl rfl c5 rfl ?_; clear S a; intro a S
            refine s_gF S (b := ((gt x1 y51).1)) rfl rfl c5 rfl ?_; clear S a; intro a S
            refine s_pick S (b := false) (hc_of rfl c5) rfl rfl ?_; clear S a; intro a S
            refine c_end' ?_
            refine x_thenN ?_
            exact j5 _ false a w (S.sub ⟨rfl, rfl, rfl, rfl, rfl, rfl, rfl, rfl, trivial⟩ .nil) h3
        · refine c_condF S rfl c2 ?_
          refine wp_exit ?_
          refine x_thenX ?_
          refine x_thenX ?_
          refine x_blockX ?_
          refine x_thenN ?_
          exact j3 _ y52 a w (S.sub ⟨rfl, rfl, rfl, rfl, rfl, trivial⟩ .nil) h1
    · refine c_condF S rfl c1 ?_
      refine wp_exit ?_
      refine x_thenX ?_
      refine x_thenX ?_
      refine x_blockX ?_
      refine x_thenN ?_
      exact j1 _ y25 a w (S.sub ⟨rfl, trivial⟩ .nil) h1
/-! smithy/smithyref07.Head -/
abbrev smithyref07_Head.Ty : Type := Int → Int → Option ((List Int))
def smithyref07_Head.Ctr (s : smithyref07_Head.Ty) : Prop := ∀ (x1 : Int) (x2 : Int) (r : (List Int)) (h0 : s x1 x2 = some r) (mi : Mem) (w0 : World), okL mi [(.v (.int .i64 x1)), (.v (.int .i64 x2))] → Pre mi [] w0 → Calls Try.prog 30 (([(.v (.int .i64 x1)), (.v (.int .i64 x2))] : List D).map D.val).toArray w0 (RetX mi [] (fun (ch : (Option Addr) × Nat × Nat) => ((.v (.slice ch.1 ch.2.1 ch.2.2)) : D)) (fun (ch : (Option Addr) × Nat × Nat) => [Res.row (Ty.int .u8) 5 ch.1 ch.2.1 ch.2.2 r]) w0)
def smithyref07_Head.f (k : Nat) (x1 : Int) (x2 : Int) : Option ((List Int)) := if (decide (x1 ≤ 55)) = true then (some [wr .u8 (wr .i64 ((wr .i64 (128 + x2)) + x1))]) else ((smithyref07_Number.f k [wr .u64 x1, 0, 0, 0]).bind fun t1 => (if (([wr .u8 (wr .i64 ((wr .i64 (183 + x2)) + ((t1).length : Int)))]).length + (t1).length) * 1 ≤ 140737488355328 then (some ([wr .u8 (wr .i64 ((wr .i64 (183 + x2)) + ((t1).length : Int)))] ++ t1)) else none))
theorem smithyref07_Head.ok (k : Nat) : smithyref07_Head.Ctr (smithyref07_Head.f k) := by
  intro x1 x2 r h0 mi w0 ok hm
  delta smithyref07_Head.f at h0
  refine c_enterX (n := 30) [(.v (.int .i64 x1)), (.v (.int .i64 x2))] (l := [(0, (.v (.int .i64 x1))), (1, (.v (.int .i64 x2)))]) Try.func30 rfl rfl rfl rfl ok hm ?_
  clear ok hm
  intro b0 hb a S
  refine c_region ?_
  refine s_assign S rfl rfl ?_; clear S a; intro a S
  refine c_end ?_
  refine wp_seq ?_
  refine c_region ?_
  refine s_move S rfl rfl ?_; clear S a; intro a S
  refine s_bin S rfl rfl rfl rfl ?_; clear S a; intro a S
  refine c_end ?_
  rcases ite_of h0 with ⟨c1, h1⟩ | ⟨c1, h1⟩ <;> clear h0
  · refine c_condT S rfl c1 ?_
    refine c_region ?_
    refine s_move S rfl rfl ?_; clear S a; intro a S
    refine s_bin S rfl rfl rfl rfl ?_; clear S a; intro a S
    refine s_move S rfl rfl ?_; clear S a; intro a S
    refine s_bin S rfl rfl rfl rfl ?_; clear S a; intro a S
    refine s_conv S rfl rfl Try.underlying5 rfl ?_; clear S a; intro a S
    refine s_bldSl S (ty' := (Ty.int .u8)) (ds := [(0, (.v (.int .u8 (wr .u8 (wr .i64 ((wr .i64 (128 + x2)) + x1))))))]) (z := 0) (c0 := ()) (ys := [wr .u8 (wr .i64 ((wr .i64 (128 + x2)) + x1))]) (cs := [()]) rfl Try.underlying25 J5 Z5 rfl ⟨rfl, trivial⟩ rfl rfl rfl rfl rfl rfl ?_; clear S a; intro g1 a w S
    refine s_assign S rfl rfl ?_; clear S a; intro a S
    refine c_end ?_
    refine wp_ret ?_
    refine x_thenR ?_
    obtain rfl := Option.some.inj h1
    exact b_ret1 (d := (.v (.slice (some ⟨g1, 0, none⟩) 1 1))) S rfl rfl fun ok => S.retX (Hx := []) hb _ _ (((some ⟨g1, 0, none⟩), 1, 1) : (Option Addr) × Nat × Nat) (.cons .here .nil) ok
  · refine c_condF S rfl c1 ?_
    refine wp_skip ?_
    refine x_thenN ?_
    refine c_region ?_
    refine s_move S rfl rfl ?_; clear S a; intro a S
    refine s_conv S rfl rfl Try.underlying22 rfl ?_; clear S a; intro a S
    refine s_build S (ds := [(0, (.v (.int .u64 (wr .u64 x1))))]) (dv := (.agg [.ints .u64 [wr .u64 x1, 0, 0, 0] 4])) rfl (fun _ => by kernel_rfl) ⟨rfl, trivial⟩ rfl ?_; clear S a; intro a S
    obtain ⟨t1, et1, h2⟩ := bind_of h1; clear h1
    refine s_callX S (ds' := [(.agg [.ints .u64 [wr .u64 x1, 0, 0, 0] 4])]) (ds := [(.agg [.ints .u64 [wr .u64 x1, 0, 0, 0] 4])]) [] [] (fun (ch : (Option Addr) × Nat × Nat) => ((.v (.slice ch.1 ch.2.1 ch.2.2)) : D)) (fun (ch : (Option Addr) × Nat × Nat) => [Res.row (Ty.int .u8) 5 ch.1 ch.2.1 ch.2.2 t1]) (fun (ch : (Option Addr) × Nat × Nat) => [Res.row (Ty.int .u8) 5 ch.1 ch.2.1 ch.2.2 t1]) (fun _ => rfl) N9 rfl rfl (fun ok => ok) .nil rfl (smithyref07_Number.ok k [wr .u64 x1, 0, 0, 0] t1 et1 _ _) ?_; clear S a; intro ch1 m le1 a w S
    refine s_assign S rfl rfl ?_; clear S a; intro a S
    refine c_end ?_
    refine c_region ?_
    refine s_move S rfl rfl ?_; clear S a; intro a S
    refine s_bin S rfl rfl rfl rfl ?_; clear S a; intro a S
    refine s_move S rfl rfl ?_; clear S a; intro a S
    refine s_lenO S rfl .here Try.underlying25 rfl ?_; clear S a; intro a S
    refine s_bin S rfl rfl rfl rfl ?_; clear S a; intro a S
    refine s_conv S rfl rfl Try.underlying5 rfl ?_; clear S a; intro a S
    refine s_bldSl S (ty' := (Ty.int .u8)) (ds := [(0, (.v (.int .u8 (wr .u8 (wr .i64 ((wr .i64 (183 + x2)) + ((t1).length : Int)))))))]) (z := 0) (c0 := ()) (ys := [wr .u8 (wr .i64 ((wr .i64 (183 + x2)) + ((t1).length : Int)))]) (cs := [()]) rfl Try.underlying25 J5 Z5 rfl ⟨rfl, trivial⟩ rfl rfl rfl rfl rfl rfl ?_; clear S a w; intro g2 a w S
    refine s_assign S rfl rfl ?_; clear S a; intro a S
    refine c_end ?_
    refine c_region ?_
    refine s_move S rfl rfl ?_; clear S a; intro a S
    refine s_move S rfl rfl ?_; clear S a; intro a S
    obtain ⟨c2, h3⟩ := chk_of h2; clear h2
    refine s_app S (k2 := ch1.2.1) (ys := t1) rfl (fun _ _ => .here) rfl rfl (S.holds _ (Pull.mem (.there .here)).1).1 (Res.row.src (S.holds _ (Pull.mem (.there .here)).1)) Try.underlying25 J5 c2 rfl ?_; clear S a w; intro A1 cp1 a w S
    refine s_assign S rfl rfl ?_; clear S a; intro a S
    refine c_end ?_
    refine c_region ?_
    refine s_move S rfl rfl ?_; clear S a; intro a S
    refine s_assign S rfl rfl ?_; clear S a; intro a S
    refine c_end ?_
    refine wp_ret ?_
    obtain rfl := Option.some.inj h3
    exact b_ret1 (d := (.v (.slice A1 (1 + ch1.2.1) cp1))) S rfl rfl fun ok => S.retX (Hx := []) hb _ _ ((A1, 1 + ch1.2.1, cp1) : (Option Addr) × Nat × Nat) (.cons .here .nil) ok
/-! smithy/smithyref07.write -/
abbrev smithyref07_write.Ty : Type := (List (Bool × (List Int) × Int)) → Int → Option ((List Int))
def smithyref07_write.Ctr (s : smithyref07_write.Ty) : Prop := ∀ (x1 : List (Bool × (List Int) × Int)) (x2 : Int) (ch_0_0 : Option Addr) (ch_0_1 : Nat) (r : (List Int)) (h0 : s x1 x2 = some r) (mi : Mem) (w0 : World), okL mi [(.sl ch_0_0 (x1).length ch_0_1 (RdS (Ty.prod Ty.bool (Ty.prod (Ty.slice (Ty.int .u8)) (Ty.int .i64))) ch_0_0 x1)), (.v (.int .i64 x2))] → Pre mi [] w0 → Calls Try.prog 24 (([(.sl ch_0_0 (x1).length ch_0_1 (RdS (Ty.prod Ty.bool (Ty.prod (Ty.slice (Ty.int .u8)) (Ty.int .i64))) ch_0_0 x1)), (.v (.int .i64 x2))] : List D).map D.val).toArray w0 (RetX mi [] (fun (ch : (Option Addr) × Nat × Nat) => ((.v (.slice ch.1 ch.2.1 ch.2.2)) : D)) (fun (ch : (Option Addr) × Nat × Nat) => [Res.row (Ty.int .u8) 5 ch.1 ch.2.1 ch.2.2 r]) w0)
def smithyref07_write.j1 (k : Nat) (x1 : List (Bool × (List Int) × Int)) (x2 : Int) (y1 : Bool) : Option ((List Int)) := if y1 = true then (if (0 : Int) ≤ 0 ∧ 0 < (((gt x1 x2).2.1).length : Int) then (some [rd ((gt x1 x2).2.1) 0]) else none) else ((smithyref07_Head.f k (((gt x1 x2).2.1).length : Int) 0).bind fun t1 => (if ((t1).length + ((gt x1 x2).2.1).length) * 1 ≤ 140737488355328 then (some (t1 ++ ((gt x1 x2).2.1))) else none))
def smithyref07_write.j2 (k : Nat) (y6 : List Int) : Option ((List Int)) := (smithyref07_Head.f k ((y6).length : Int) 64).bind fun t2 => (if ((t2).length + (y6).length) * 1 ≤ 140737488355328 then (some (t2 ++ y6)) else none)
def smithyref07_write.b1 (k : Nat) (self0 : smithyref07_write.Ty) (x1 : List (Bool × (List Int) × Int)) (x2 : Int) (rec1 : Int → (List Int) → Option ((List Int))) (y9 : Int) (y10 : List Int) : Option ((List Int)) := if (decide (y9 < (wr .i64 ((wr .i64 (x2 + 1)) + ((gt x1 x2).2.2))))) = true then ((self0 x1 y9).bind fun t7 => (if ((y10).length + (t7).length) * 1 ≤ 140737488355328 then ((smithyref07_end.f k x1 y9).bind fun t8 => (rec1 t8 (y10 ++ t7))) else none)) else (smithyref07_write.j2 k y10)
def smithyref07_write.l1 (k : Nat) (self0 : smithyref07_write.Ty) (x1 : List (Bool × (List Int) × Int)) (x2 : Int) : Nat → Int → (List Int) → Option ((List Int))
  | 0, _, _ => none
  | q + 1, y9, y10 => smithyref07_write.b1 k self0 x1 x2 (smithyref07_write.l1 k self0 x1 x2 q) y9 y10
def smithyref07_write.body (self0 : smithyref07_write.Ty) (k : Nat) (x1 : List (Bool × (List Int) × Int)) (x2 : Int) : Option ((List Int)) := if (0 : Int) ≤ x2 ∧ x2 < ((x1).length : Int) then (if (!((gt x1 x2).1)) = true then (if ((((gt x1 x2).2.1).length : Int) == 1) = true then (if (0 : Int) ≤ 0 ∧ 0 < (((gt x1 x2).2.1).length : Int) then (smithyref07_write.j1 k x1 x2 (decide ((rd ((gt x1 x2).2.1) 0) < 128))) else none) else (smithyref07_write.j1 k x1 x2 false)) else (smithyref07_write.l1 k self0 x1 x2 k (wr .i64 (x2 + 1)) ([] : List Int))) else none
theorem smithyref07_write.okb (self0 : smithyref07_write.Ty) (c_0 : smithyref07_write.Ctr self0) (k : Nat) : smithyref07_write.Ctr (smithyref07_write.body self0 k) := by
  intro x1 x2 ch_0_0 ch_0_1 r h0 mi w0 ok hm
  delta smithyref07_write.body at h0
  refine c_enterX (n := 67) [(.sl ch_0_0 (x1).length ch_0_1 (RdS (Ty.prod Ty.bool (Ty.prod (Ty.slice (Ty.int .u8)) (Ty.int .i64))) ch_0_0 x1)), (.v (.int .i64 x2))] (l := [(0, (.sl ch_0_0 (x1).length ch_0_1 (RdS (Ty.prod Ty.bool (Ty.prod (Ty.slice (Ty.int .u8)) (Ty.int .i64))) ch_0_0 x1))), (1, (.v (.int .i64 x2)))]) Try.func24 rfl rfl rfl rfl ok hm ?_
  clear ok hm
  intro b0 hb a S
  refine c_region ?_
  refine s_assign S rfl rfl ?_; clear S a; intro a S
  refine c_end ?_
  refine c_region ?_
  refine s_move S rfl rfl ?_; clear S a; intro a S
  refine s_move S rfl rfl ?_; clear S a; intro a S
  obtain ⟨c1, h1⟩ := chk_of h0; clear h0
  refine s_iaddrS S rfl rfl rfl Try.underlying29 T43 c1.1 c1.2 rfl ?_; clear S a; intro p1 a S
  refine s_ldA S (fun (c : Unit × (Option Addr × Nat) × Unit) => [.one (.bool ((gt x1 x2).1)), .sl c.2.1.1 ((gt x1 x2).2.1).length c.2.1.2 (RdS (Ty.int .u8) c.2.1.1 ((gt x1 x2).2.1)), .one (.int .i64 ((gt x1 x2).2.2))]) rfl T43 (fun _ => rfl) rfl ?_; clear S a; intro ch1 a S
  refine s_alloc S Z43 rfl ⟨rfl, rfl, rfl, trivial⟩ rfl ?_; clear S a; intro g1 a w S
  refine s_store S rfl rfl rfl (s' := [.one (.bool ((gt x1 x2).1)), .sl ch1.2.1.1 ((gt x1 x2).2.1).length ch1.2.1.2 (RdS (Ty.int .u8) ch1.2.1.1 ((gt x1 x2).2.1)), .one (.int .i64 ((gt x1 x2).2.2))]) .here T43 rfl rfl ?_; clear S w; intro w S
  refine c_end ?_
  refine wp_seq ?_
  refine c_region ?_
  refine s_fieldAddr S rfl I43_0 T4 (by decide) rfl rfl ?_; clear S a; intro a S
  refine s_load1 S rfl .here T4 (v := (.bool ((gt x1 x2).1))) rfl rfl ?_; clear S a; intro a S
  refine s_not S rfl rfl ?_; clear S a; intro a S
  refine c_end ?_
  rcases ite_of h1 with ⟨c2, h2⟩ | ⟨c2, h2⟩ <;> clear h1
  · refine c_condT S rfl c2 ?_
    refine wp_seq ?_
    refine wp_seq_k ?_
    intro K1 hK1
    have j1 : ∀ (m : Mem) (y1 : Bool) (g2 : Nat) (A1 : Option Addr) (cp1 : Nat) (a : Act) (w : World), St 67 m b0 [(27, (.v (.bool y1))), (5, (.v (.pointer (some ⟨g2, 0, none⟩))))] [Res.cells g2 43 [.one (.bool ((gt x1 x2).1)), .sl A1 ((gt x1 x2).2.1).length cp1 (RdS (Ty.int .u8) A1 ((gt x1 x2).2.1)), .one (.int .i64 ((gt x1 x2).2.2))]] a w → smithyref07_write.j1 k x1 x2 y1 = some r → K1 a w := by
      intro m y1 g2 A1 cp1 a w S h0
      delta smithyref07_write.j1 at h0
      refine hK1 a w ?_
      rcases ite_of h0 with ⟨c3, h1⟩ | ⟨c3, h1⟩ <;> clear h0
      · refine c_condT S rfl c3 ?_
        refine c_region ?_
        refine s_fieldAddr S rfl I43_1 T25 (by decide) rfl rfl ?_; clear S a; intro a S
        refine s_loadSl S rfl .here T25 (A := A1) (len := ((gt x1 x2).2.1).length) (cap := cp1) rfl rfl ?_; clear S a; intro a S
        obtain ⟨c4, h2⟩ := chk_of h1; clear h1
        refine s_iaddrS S rfl rfl rfl Try.underlying25 T5 c4.1 c4.2 rfl ?_; clear S a; intro p3 a S
        refine s_ld1 S (v := (.int .u8 (rd ((gt x1 x2).2.1) 0))) rfl T5 (fun _ => rfl) rfl ?_; clear S a; intro a S
        refine s_bldSl S (ty' := (Ty.int .u8)) (ds := [(0, (.v (.int .u8 (rd ((gt x1 x2).2.1) 0))))]) (z := 0) (c0 := ()) (ys := [rd ((gt x1 x2).2.1) 0]) (cs := [()]) rfl Try.underlying25 J5 Z5 rfl ⟨rfl, trivial⟩ rfl rfl rfl rfl rfl rfl ?_; clear S a w; intro g3 a w S
        refine s_assign S rfl rfl ?_; clear S a; intro a S
        refine c_end ?_
        refine wp_ret ?_
        refine x_thenR ?_
        refine x_thenR ?_
        obtain rfl := Option.some.inj h2
        exact b_ret1 (d := (.v (.slice (some ⟨g3, 0, none⟩) 1 1))) S rfl rfl fun ok => S.retX (Hx := []) hb _ _ (((some ⟨g3, 0, none⟩), 1, 1) : (Option Addr) × Nat × Nat) (.cons .here .nil) ok
      · refine c_condF S rfl c3 ?_
        refine wp_skip ?_
        refine x_thenN ?_
        refine c_region ?_
        refine s_fieldAddr S rfl I43_1 T25 (by decide) rfl rfl ?_; clear S a; intro a S
        refine s_loadSl S rfl .here T25 (A := A1) (len := ((gt x1 x2).2.1).length) (cap := cp1) rfl rfl ?_; clear S a; intro a S
        refine s_lenS S rfl Try.underlying25 rfl ?_; clear S a; intro a S
        obtain ⟨t1, et1, h2⟩ := bind_of h1; clear h1
        refine s_callX S (ds' := [(.v (.int .i64 (((gt x1 x2).2.1).length : Int))), (.v (.int .i64 0))]) (ds := [(.v (.int .i64 (((gt x1 x2).2.1).length : Int))), (.v (.int .i64 0))]) [] [Res.cells g2 43 [.one (.bool ((gt x1 x2).1)), .sl A1 ((gt x1 x2).2.1).length cp1 (RdS (Ty.int .u8) A1 ((gt x1 x2).2.1)), .one (.int .i64 ((gt x1 x2).2.2))]] (fun (ch : (Option Addr) × Nat × Nat) => ((.v (.slice ch.1 ch.2.1 ch.2.2)) : D)) (fun (ch : (Option Addr) × Nat × Nat) => [Res.row (Ty.int .u8) 5 ch.1 ch.2.1 ch.2.2 t1]) (fun (ch : (Option Addr) × Nat × Nat) => [Res.row (Ty.int .u8) 5 ch.1 ch.2.1 ch.2.2 t1, Res.cells g2 43 [.one (.bool ((gt x1 x2).1)), .sl A1 ((gt x1 x2).2.1).length cp1 (RdS (Ty.int .u8) A1 ((gt x1 x2).2.1)), .one (.int .i64 ((gt x1 x2).2.2))]]) (fun _ => rfl) N30 rfl rfl (fun ok => ok) (.cons .here .nil) rfl (smithyref07_Head.ok k (((gt x1 x2).2.1).length : Int) 0 t1 et1 _ _) ?_; clear S a w; intro ch2 m le1 a w S
        refine s_assign S rfl rfl ?_; clear S a; intro a S
        refine c_end ?_
        refine c_region ?_
        refine s_move S rfl rfl ?_; clear S a; intro a S
        refine s_fieldAddr S rfl I43_1 T25 (by decide) rfl rfl ?_; clear S a; intro a S
        refine s_loadSl S rfl (.there .here) T25 (A := A1) (len := ((gt x1 x2).2.1).length) (cap := cp1) rfl rfl ?_; clear S a; intro a S
        obtain ⟨c5, h3⟩ := chk_of h2; clear h2
        refine s_app S (k2 := (((gt x1 x2).2.1).length)) (ys := ((gt x1 x2).2.1)) rfl (fun _ _ => .here) rfl rfl rfl (RdS.src (S.get 39 (.sl A1 ((gt x1 x2).2.1).length cp1 (RdS (Ty.int .u8) A1 ((gt x1 x2).2.1))) rfl).2.2.2.1 (by decide) S.frz) Try.underlying25 J5 c5 rfl ?_; clear S a w; intro A2 cp2 a w S
        refine s_assign S rfl rfl ?_; clear S a; intro a S
        refine c_end ?_
        refine c_region ?_
        refine s_move S rfl rfl ?_; clear S a; intro a S
        refine s_assign S rfl rfl ?_; clear S a; intro a S
        refine c_end ?_
        refine wp_ret ?_
        refine x_thenR ?_
        obtain rfl := Option.some.inj h3
        exact b_ret1 (d := (.v (.slice A2 (ch2.2.1 + (((gt x1 x2).2.1).length)) cp2))) S rfl rfl fun ok => S.retX (Hx := []) hb _ _ ((A2, ch2.2.1 + (((gt x1 x2).2.1).length), cp2) : (Option Addr) × Nat × Nat) (.cons .here .nil) ok
    refine c_region' ?_
    refine s_fieldAddr S rfl I43_1 T25 (by decide) rfl rfl ?_; clear S a; intro a S
    refine s_loadSl S rfl .here T25 (A := ch1.2.1.1) (len := ((gt x1 x2).2.1).length) (cap := ch1.2.1.2) rfl rfl ?_; clear S a; intro a S
    refine s_lenS S rfl Try.underlying25 rfl ?_; clear S a; intro a S
    refine s_bin S rfl rfl rfl rfl ?_; clear S a; intro a S
    refine s_move S rfl rfl ?_; clear S a; intro a S
    rcases ite_of h2 with ⟨c6, h3⟩ | ⟨c6, h3⟩ <;> clear h2
    · refine s_gT S (b := ((((gt x1 x2).2.1).length : Int) == 1)) rfl rfl c6 ?_
      refine s_fieldAddr S rfl I43_1 T25 (by decide) rfl rfl ?_; clear S a; intro a S
      refine s_gT S (b := ((((gt x1 x2).2.1).length : Int) == 1)) rfl rfl c6 ?_
      refine s_loadSl S rfl .here T25 (A := ch1.2.1.1) (len := ((gt x1 x2).2.1).length) (cap := ch1.2.1.2) rfl rfl ?_; clear S a; intro a S
      refine s_gT S (b := ((((gt x1 x2).2.1).length : Int) == 1)) rfl rfl c6 ?_
      obtain ⟨c7, h4⟩ := chk_of h3; clear h3
      refine s_iaddrS S rfl rfl rfl Try.underlying25 T5 c7.1 c7.2 rfl ?_; clear S a; intro p4 a S
      refine s_gT S (b := ((((gt x1 x2).2.1).length : Int) == 1)) rfl rfl c6 ?_
      refine s_ld1 S (v := (.int .u8 (rd ((gt x1 x2).2.1) 0))) rfl T5 (fun _ => rfl) rfl ?_; clear S a; intro a S
      refine s_gT S (b := ((((gt x1 x2).2.1).length : Int) == 1)) rfl rfl c6 ?_
      refine s_bin S rfl rfl rfl rfl ?_; clear S a; intro a S
      refine s_pick S (b := true) (hc_of rfl c6) rfl rfl ?_; clear S a; intro a S
      refine c_end' ?_
      refine x_thenN ?_
      exact j1 _ (decide ((rd ((gt x1 x2).2.1) 0) < 128)) g1 ch1.2.1.1 ch1.2.1.2 a w (S.sub ⟨rfl, rfl, trivial⟩ (.cons .here .nil)) h4
    · refine s_gF S (b := ((((gt x1 x2).2.1).length : Int) == 1)) rfl rfl c6 rfl ?_; clear S a; intro a S
      refine s_gF S (b := ((((gt x1 x2).2.1).length : Int) == 1)) rfl rfl c6 rfl ?_; clear S a; intro a S
      refine s_gF S (b := ((((gt x1 x2).2.1).length : Int) == 1)) rfl rfl c6 rfl ?_; clear S a; intro a S
      refine s_gF S (b := ((((gt x1 x2).2.1).length : Int) == 1)) rfl rfl c6 rfl ?_; clear S a; intro a S
      refine s_gF S (b := ((((gt x1 x2).2.1).length : Int) == 1)) rfl rfl c6 rfl ?_; clear S a; intro a S
      refine s_pick S (b := false) (hc_of rfl c6) rfl rfl ?_; clear S a; intro a S
      refine c_end' ?_
      refine x_thenN ?_
      exact j1 _ false g1 ch1.2.1.1 ch1.2.1.2 a w (S.sub ⟨rfl, rfl, trivial⟩ (.cons .here .nil)) h3
  · refine c_condF S rfl c2 ?_
    refine wp_skip ?_
    refine x_thenN ?_
    refine c_region ?_
    refine s_bldSl S (ty' := (Ty.int .u8)) (ds := []) (z := 0) (c0 := ()) (ys := ([] : List Int)) (cs := []) rfl Try.underlying25 J5 Z5 rfl ⟨rfl, trivial⟩ rfl rfl rfl rfl rfl rfl ?_; clear S a w; intro g4 a w S
    refine s_assign S rfl rfl ?_; clear S a; intro a S
    refine c_end ?_
    refine wp_seq_k ?_
    intro K2 hK2
    have j2 : ∀ (m : Mem) (A3 : Option Addr) (nn1 : Nat) (cp10 : Nat) (y6 : List Int) (a : Act) (w : World), St 67 m b0 [(7, (.v (.slice A3 nn1 cp10)))] [Res.row (Ty.int .u8) 5 A3 nn1 cp10 y6] a w → smithyref07_write.j2 k y6 = some r → K2 a w := by
      intro m A3 nn1 cp10 y6 a w S h0
      delta smithyref07_write.j2 at h0
      refine hK2 a w ?_
      refine c_region ?_
      refine s_move S rfl rfl ?_; clear S a; intro a S
      refine s_lenO S rfl .here Try.underlying25 rfl ?_; clear S a; intro a S
      obtain ⟨t2, et2, h1⟩ := bind_of h0; clear h0
      refine s_callX S (ds' := [(.v (.int .i64 ((y6).length : Int))), (.v (.int .i64 64))]) (ds := [(.v (.int .i64 ((y6).length : Int))), (.v (.int .i64 64))]) [] [Res.row (Ty.int .u8) 5 A3 nn1 cp10 y6] (fun (ch : (Option Addr) × Nat × Nat) => ((.v (.slice ch.1 ch.2.1 ch.2.2)) : D)) (fun (ch : (Option Addr) × Nat × Nat) => [Res.row (Ty.int .u8) 5 ch.1 ch.2.1 ch.2.2 t2]) (fun (ch : (Option Addr) × Nat × Nat) => [Res.row (Ty.int .u8) 5 ch.1 ch.2.1 ch.2.2 t2, Res.row (Ty.int .u8) 5 A3 nn1 cp10 y6]) (fun _ => rfl) N30 rfl rfl (fun ok => ok) (.cons .here .nil) rfl (smithyref07_Head.ok k ((y6).length : Int) 64 t2 et2 _ _) ?_; clear S a w; intro ch3 m le1 a w S
      refine s_assign S rfl rfl ?_; clear S a; intro a S
      refine c_end ?_
      refine c_region ?_
      refine s_move S rfl rfl ?_; clear S a; intro a S
      refine s_move S rfl rfl ?_; clear S a; intro a S
      obtain ⟨c8, h2⟩ := chk_of h1; clear h1
      refine s_app S (k2 := nn1) (ys := y6) rfl (fun _ _ => .here) rfl rfl (S.holds _ (Pull.mem (.there .here)).1).1 (Res.row.src (S.holds _ (Pull.mem (.there .here)).1)) Try.underlying25 J5 c8 rfl ?_; clear S a w; intro A4 cp11 a w S
      refine s_assign S rfl rfl ?_; clear S a; intro a S
      refine c_end ?_
      refine c_region ?_
      refine s_move S rfl rfl ?_; clear S a; intro a S
      refine s_assign S rfl rfl ?_; clear S a; intro a S
      refine c_end ?_
      refine wp_ret ?_
      obtain rfl := Option.some.inj h2
      exact b_ret1 (d := (.v (.slice A4 (ch3.2.1 + nn1) cp11))) S rfl rfl fun ok => S.retX (Hx := []) hb _ _ ((A4, ch3.2.1 + nn1, cp11) : (Option Addr) × Nat × Nat) (.cons .here .nil) ok
    refine c_region ?_
    refine s_move S rfl rfl ?_; clear S a; intro a S
    refine s_bin S rfl rfl rfl rfl ?_; clear S a; intro a S
    refine s_assign S rfl rfl ?_; clear S a; intro a S
    refine c_end ?_
    refine wp_block ?_
    refine c_loop (fun q1 a w => ∃ (m : Mem) (y9 : Int) (A5 : Option Addr) (nn3 : Nat) (cp17 : Nat) (y10 : List Int) (g10 : Nat) (A6 : Option Addr) (cp18 : Nat), St 67 m b0 [(8, (.v (.int .i64 y9))), (7, (.v (.slice A5 nn3 cp17))), (5, (.v (.pointer (some ⟨g10, 0, none⟩)))), (0, (.sl ch_0_0 (x1).length ch_0_1 (RdS (Ty.prod Ty.bool (Ty.prod (Ty.slice (Ty.int .u8)) (Ty.int .i64))) ch_0_0 x1))), (1, (.v (.int .i64 x2)))] [Res.row (Ty.int .u8) 5 A5 nn3 cp17 y10, Res.cells g10 43 [.one (.bool ((gt x1 x2).1)), .sl A6 ((gt x1 x2).2.1).length cp18 (RdS (Ty.int .u8) A6 ((gt x1 x2).2.1)), .one (.int .i64 ((gt x1 x2).2.2))]] a w ∧ smithyref07_write.l1 k self0 x1 x2 q1 y9 y10 = some r) ?_ ?_ (k := k) ⟨_, (wr .i64 (x2 + 1)), (some ⟨g4, 0, none⟩), 0, 0, ([] : List Int), g1, ch1.2.1.1, ch1.2.1.2, (S.sub ⟨rfl, rfl, rfl, rfl, rfl, trivial⟩ (.cons .here (.cons .here .nil))), h2⟩
    · rintro a w ⟨m, y9, A5, nn3, cp17, y10, g10, A6, cp18, S, h0⟩
      exact (nomatch (show (none : Option ((List Int))) = some r from h0))
    · clear S h2
      rintro q1 a w ⟨m, y9, A5, nn3, cp17, y10, g10, A6, cp18, S, h0⟩
      replace h0 : smithyref07_write.b1 k self0 x1 x2 (smithyref07_write.l1 k self0 x1 x2 q1) y9 y10 = some r := h0
      delta smithyref07_write.b1 at h0
      refine wp_seq ?_
      refine c_region ?_
      refine s_move S rfl rfl ?_; clear S a; intro a S
      refine s_move S rfl rfl ?_; clear S a; intro a S
      refine s_bin S rfl rfl rfl rfl ?_; clear S a; intro a S
      refine s_fieldAddr S rfl I43_2 T3 (by decide) rfl rfl ?_; clear S a; intro a S
      refine s_load1 S rfl (.there .here) T3 (v := (.int .i64 ((gt x1 x2).2.2))) rfl rfl ?_; clear S a; intro a S
      refine s_bin S rfl rfl rfl rfl ?_; clear S a; intro a S
      refine s_bin S rfl rfl rfl rfl ?_; clear S a; intro a S
      refine c_end ?_
      rcases ite_of h0 with ⟨c9, h1⟩ | ⟨c9, h1⟩ <;> clear h0
      · refine c_condT S rfl c9 ?_
        refine wp_skip ?_
        refine x_thenN ?_
        refine wp_seq ?_
        refine wp_block ?_
        refine c_region' ?_
        refine s_move S rfl rfl ?_; clear S a; intro a S
        refine s_move S rfl rfl ?_; clear S a; intro a S
        refine s_move S rfl rfl ?_; clear S a; intro a S
        obtain ⟨t7, et7, h2⟩ := bind_of h1; clear h1
        refine s_callX S (ds' := [(.sl ch_0_0 (x1).length ch_0_1 (RdS (Ty.prod Ty.bool (Ty.prod (Ty.slice (Ty.int .u8)) (Ty.int .i64))) ch_0_0 x1)), (.v (.int .i64 y9))]) (ds := [(.sl ch_0_0 (x1).length ch_0_1 (RdS (Ty.prod Ty.bool (Ty.prod (Ty.slice (Ty.int .u8)) (Ty.int .i64))) ch_0_0 x1)), (.v (.int .i64 y9))]) [] [Res.row (Ty.int .u8) 5 A5 nn3 cp17 y10, Res.cells g10 43 [.one (.bool ((gt x1 x2).1)), .sl A6 ((gt x1 x2).2.1).length cp18 (RdS (Ty.int .u8) A6 ((gt x1 x2).2.1)), .one (.int .i64 ((gt x1 x2).2.2))]] (fun (ch : (Option Addr) × Nat × Nat) => ((.v (.slice ch.1 ch.2.1 ch.2.2)) : D)) (fun (ch : (Option Addr) × Nat × Nat) => [Res.row (Ty.int .u8) 5 ch.1 ch.2.1 ch.2.2 t7]) (fun (ch : (Option Addr) × Nat × Nat) => [Res.row (Ty.int .u8) 5 ch.1 ch.2.1 ch.2.2 t7, Res.row (Ty.int .u8) 5 A5 nn3 cp17 y10, Res.cells g10 43 [.one (.bool ((gt x1 x2).1)), .sl A6 ((gt x1 x2).2.1).length cp18 (RdS (Ty.int .u8) A6 ((gt x1 x2).2.1)), .one (.int .i64 ((gt x1 x2).2.2))]]) (fun _ => rfl) N24 rfl rfl (fun ok => ok) (.cons .here (.cons .here .nil)) rfl (c_0 x1 y9 ch_0_0 ch_0_1 t7 et7 _ _) ?_; clear S a w; intro ch6 m le1 a w S
        obtain ⟨c10, h3⟩ := chk_of h2; clear h2
        refine s_app S (k2 := ch6.2.1) (ys := t7) rfl (fun _ _ => (.there .here)) rfl rfl (S.holds _ (Pull.mem .here).1).1 (Res.row.src (S.holds _ (Pull.mem .here).1)) Try.underlying25 J5 c10 rfl ?_; clear S a w; intro A7 cp19 a w S
        refine s_assign S rfl rfl ?_; clear S a; intro a S
        refine c_end' ?_
        refine x_blockN ?_
        refine x_thenN ?_
        refine c_region' ?_
        refine s_move S rfl rfl ?_; clear S a; intro a S
        refine s_move S rfl rfl ?_; clear S a; intro a S
        obtain ⟨t8, et8, h4⟩ := bind_of h3; clear h3
        refine s_callX S (ds' := [(.sl ch_0_0 (x1).length ch_0_1 (RdS (Ty.prod Ty.bool (Ty.prod (Ty.slice (Ty.int .u8)) (Ty.int .i64))) ch_0_0 x1)), (.v (.int .i64 y9))]) (ds := [(.sl ch_0_0 (x1).length ch_0_1 (RdS (Ty.prod Ty.bool (Ty.prod (Ty.slice (Ty.int .u8)) (Ty.int .i64))) ch_0_0 x1)), (.v (.int .i64 y9))]) [] [Res.row (Ty.int .u8) 5 ch6.1 ch6.2.1 ch6.2.2 t7, Res.row (Ty.int .u8) 5 A7 (nn3 + ch6.2.1) cp19 (y10 ++ t7), Res.cells g10 43 [.one (.bool ((gt x1 x2).1)), .sl A6 ((gt x1 x2).2.1).length cp18 (RdS (Ty.int .u8) A6 ((gt x1 x2).2.1)), .one (.int .i64 ((gt x1 x2).2.2))]] (fun (ch : Unit) => ((.v (.int .i64 t8)) : D)) (fun (ch : Unit) => []) (fun (ch : Unit) => [Res.row (Ty.int .u8) 5 ch6.1 ch6.2.1 ch6.2.2 t7, Res.row (Ty.int .u8) 5 A7 (nn3 + ch6.2.1) cp19 (y10 ++ t7), Res.cells g10 43 [.one (.bool ((gt x1 x2).1)), .sl A6 ((gt x1 x2).2.1).length cp18 (RdS (Ty.int .u8) A6 ((gt x1 x2).2.1)), .one (.int .i64 ((gt x1 x2).2.2))]]) (fun _ => rfl) N22 rfl rfl (fun ok => ok) (.cons .here (.cons .here (.cons .here .nil))) rfl (smithyref07_end.ok k x1 y9 ch_0_0 ch_0_1 t8 et8 _ _) ?_; clear S a w; intro ch7 m le1 a w S
        refine s_assign S rfl rfl ?_; clear S a; intro a S
        refine c_end' ?_
        refine x_thenN ?_
        exact ⟨_, t8, A7, (nn3 + ch6.2.1), cp19, (y10 ++ t7), g10, A6, cp18, (S.sub ⟨rfl, rfl, rfl, rfl, rfl, trivial⟩ (.cons (.there .here) (.cons (.there .here) .nil))), h4⟩
      · refine c_condF S rfl c9 ?_
        refine wp_exit ?_
        refine x_thenX ?_
        refine x_thenX ?_
        refine x_blockX ?_
        refine x_thenN ?_
        exact j2 _ A5 nn3 cp17 y10 a w (S.sub ⟨rfl, trivial⟩ (.cons .here .nil)) h1
def smithyref07_write.f : Nat → smithyref07_write.Ty
  | 0 => fun _ _ => none
  | k + 1 => smithyref07_write.body (smithyref07_write.f k) k
theorem smithyref07_write.f_succ (k : Nat) : smithyref07_write.f (k + 1) = smithyref07_write.body (smithyref07_write.f k) k := rfl
theorem smithyref07_write.oks : ∀ k : Nat, smithyref07_write.Ctr (smithyref07_write.f k)
  | 0 => fun _ _ _ _ r h0 => (nomatch (show (none : Option ((List Int))) = some r from h0))
  | k + 1 => by
    have ih := smithyref07_write.oks k
    exact smithyref07_write.okb (smithyref07_write.f k) ih k
theorem smithyref07_write.ok (k : Nat) : smithyref07_write.Ctr (smithyref07_write.f k) := (smithyref07_write.oks k)
/-! smithy/smithyref07.Encode -/
abbrev smithyref07_Encode.Ty : Type := (List (Bool × (List Int) × Int)) → Option ((List Int) × Int)
def smithyref07_Encode.Ctr (s : smithyref07_Encode.Ty) : Prop := ∀ (x1 : List (Bool × (List Int) × Int)) (ch_0_0 : Option Addr) (ch_0_1 : Nat) (r : (List Int) × Int) (h0 : s x1 = some r) (mi : Mem) (w0 : World), okL mi [(.sl ch_0_0 (x1).length ch_0_1 (RdS (Ty.prod Ty.bool (Ty.prod (Ty.slice (Ty.int .u8)) (Ty.int .i64))) ch_0_0 x1))] → Pre mi [] w0 → Calls Try.prog 12 (([(.sl ch_0_0 (x1).length ch_0_1 (RdS (Ty.prod Ty.bool (Ty.prod (Ty.slice (Ty.int .u8)) (Ty.int .i64))) ch_0_0 x1))] : List D).map D.val).toArray w0 (RetX mi [] (fun (ch : (Option Addr) × Nat × Nat) => ((.tup [(false, [.one (.slice ch.1 ch.2.1 ch.2.2)]), (false, [.one (.int .i64 r.2)])]) : D)) (fun (ch : (Option Addr) × Nat × Nat) => [Res.row (Ty.int .u8) 5 ch.1 ch.2.1 ch.2.2 r.1]) w0)
def smithyref07_Encode.j1 (k : Nat) (x1 : List (Bool × (List Int) × Int)) (y1 : Bool) : Option ((List Int) × Int) := if y1 = true then (some (([] : List Int), 2)) else ((smithyref07_deep.f k x1).bind fun t1 => (if (decide (64 < t1)) = true then (some (([] : List Int), 4)) else ((smithyref07_write.f k x1 0).bind fun t2 => (if (decide (1048576 < ((t2).length : Int))) = true then (some (([] : List Int), 4)) else (some (t2, 0))))))
def smithyref07_Encode.f (k : Nat) (x1 : List (Bool × (List Int) × Int)) : Option ((List Int) × Int) := (smithyref07_end.f k x1 0).bind fun t3 => (if (t3 != ((x1).length : Int)) = true then (smithyref07_Encode.j1 k x1 true) else (smithyref07_Encode.j1 k x1 (((x1).length : Int) == 0)))
theorem smithyref07_Encode.ok (k : Nat) : smithyref07_Encode.Ctr (smithyref07_Encode.f k) := by
  intro x1 ch_0_0 ch_0_1 r h0 mi w0 ok hm
  delta smithyref07_Encode.f at h0
  refine c_enterX (n := 29) [(.sl ch_0_0 (x1).length ch_0_1 (RdS (Ty.prod Ty.bool (Ty.prod (Ty.slice (Ty.int .u8)) (Ty.int .i64))) ch_0_0 x1))] (l := [(0, (.sl ch_0_0 (x1).length ch_0_1 (RdS (Ty.prod Ty.bool (Ty.prod (Ty.slice (Ty.int .u8)) (Ty.int .i64))) ch_0_0 x1)))]) Try.func12 rfl rfl rfl rfl ok hm ?_
  clear ok hm
  intro b0 hb a S
  refine c_region ?_
  refine s_assign S rfl rfl ?_; clear S a; intro a S
  refine s_assign S rfl rfl ?_; clear S a; intro a S
  refine c_end ?_
  refine c_region ?_
  refine s_bldSl S (ty' := (Ty.int .u8)) (ds := []) (z := 0) (c0 := ()) (ys := ([] : List Int)) (cs := []) rfl Try.underlying25 J5 Z5 rfl ⟨rfl, trivial⟩ rfl rfl rfl rfl rfl rfl ?_; clear S a; intro g1 a w S
  refine s_assign S rfl rfl ?_; clear S a; intro a S
  refine c_end ?_
  refine wp_seq ?_
  refine wp_seq_k ?_
  intro K1 hK1
  have j1 : ∀ (m : Mem) (y1 : Bool) (a : Act) (w : World), St 29 m b0 [(16, (.v (.bool y1))), (4, (.v (.slice (some ⟨g1, 0, none⟩) 0 0))), (0, (.sl ch_0_0 (x1).length ch_0_1 (RdS (Ty.prod Ty.bool (Ty.prod (Ty.slice (Ty.int .u8)) (Ty.int .i64))) ch_0_0 x1)))] [Res.row (Ty.int .u8) 5 (some ⟨g1, 0, none⟩) 0 0 ([] : List Int)] a w → smithyref07_Encode.j1 k x1 y1 = some r → K1 a w := by
    intro m y1 a w S h0
    delta smithyref07_Encode.j1 at h0
    refine hK1 a w ?_
    rcases ite_of h0 with ⟨c1, h1⟩ | ⟨c1, h1⟩ <;> clear h0
    · refine c_condT S rfl c1 ?_
      refine c_region ?_
      refine s_move S rfl rfl ?_; clear S a; intro a S
      refine s_assign S rfl rfl ?_; clear S a; intro a S
      refine s_assign S rfl rfl ?_; clear S a; intro a S
      refine c_end ?_
      refine wp_ret ?_
      refine x_thenR ?_
      obtain rfl := Option.some.inj h1
      exact b_ret2 (d1 := (.v (.slice (some ⟨g1, 0, none⟩) 0 0))) (d2 := (.v (.int .i64 2))) S rfl rfl rfl fun ok1 ok2 => S.retX (Hx := []) hb _ _ (((some ⟨g1, 0, none⟩), 0, 0) : (Option Addr) × Nat × Nat) (.cons .here .nil) ⟨⟨ok1, trivial⟩, ⟨ok2, trivial⟩, trivial⟩
    · refine c_condF S rfl c1 ?_
      refine wp_skip ?_
      refine x_thenN ?_
      refine wp_seq ?_
      refine c_region ?_
      refine s_move S rfl rfl ?_; clear S a; intro a S
      obtain ⟨t1, et1, h2⟩ := bind_of h1; clear h1
      refine s_callX S (ds' := [(.sl ch_0_0 (x1).length ch_0_1 (RdS (Ty.prod Ty.bool (Ty.prod (Ty.slice (Ty.int .u8)) (Ty.int .i64))) ch_0_0 x1))]) (ds := [(.sl ch_0_0 (x1).length ch_0_1 (RdS (Ty.prod Ty.bool (Ty.prod (Ty.slice (Ty.int .u8)) (Ty.int .i64))) ch_0_0 x1))]) [] [Res.row (Ty.int .u8) 5 (some ⟨g1, 0, none⟩) 0 0 ([] : List Int)] (fun (ch : Unit) => ((.v (.int .i64 t1)) : D)) (fun (ch : Unit) => []) (fun (ch : Unit) => [Res.row (Ty.int .u8) 5 (some ⟨g1, 0, none⟩) 0 0 ([] : List Int)]) (fun _ => rfl) N23 rfl rfl (fun ok => ok) (.cons .here .nil) rfl (smithyref07_deep.ok k x1 ch_0_0 ch_0_1 t1 et1 _ _) ?_; clear S a w; intro ch1 m le1 a w S
      refine s_bin S rfl rfl rfl rfl ?_; clear S a; intro a S
      refine c_end ?_
      rcases ite_of h2 with ⟨c2, h3⟩ | ⟨c2, h3⟩ <;> clear h2
      · refine c_condT S rfl c2 ?_
        refine c_region ?_
        refine s_move S rfl rfl ?_; clear S a; intro a S
        refine s_assign S rfl rfl ?_; clear S a; intro a S
        refine s_assign S rfl rfl ?_; clear S a; intro a S
        refine c_end ?_
        refine wp_ret ?_
        refine x_thenR ?_
        obtain rfl := Option.some.inj h3
        exact b_ret2 (d1 := (.v (.slice (some ⟨g1, 0, none⟩) 0 0))) (d2 := (.v (.int .i64 4))) S rfl rfl rfl fun ok1 ok2 => S.retX (Hx := []) hb _ _ (((some ⟨g1, 0, none⟩), 0, 0) : (Option Addr) × Nat × Nat) (.cons .here .nil) ⟨⟨ok1, trivial⟩, ⟨ok2, trivial⟩, trivial⟩
      · refine c_condF S rfl c2 ?_
        refine wp_skip ?_
        refine x_thenN ?_
        refine c_region ?_
        refine s_move S rfl rfl ?_; clear S a; intro a S
        obtain ⟨t2, et2, h4⟩ := bind_of h3; clear h3
        refine s_callX S (ds' := [(.sl ch_0_0 (x1).length ch_0_1 (RdS (Ty.prod Ty.bool (Ty.prod (Ty.slice (Ty.int .u8)) (Ty.int .i64))) ch_0_0 x1)), (.v (.int .i64 0))]) (ds := [(.sl ch_0_0 (x1).length ch_0_1 (RdS (Ty.prod Ty.bool (Ty.prod (Ty.slice (Ty.int .u8)) (Ty.int .i64))) ch_0_0 x1)), (.v (.int .i64 0))]) [] [Res.row (Ty.int .u8) 5 (some ⟨g1, 0, none⟩) 0 0 ([] : List Int)] (fun (ch : (Option Addr) × Nat × Nat) => ((.v (.slice ch.1 ch.2.1 ch.2.2)) : D)) (fun (ch : (Option Addr) × Nat × Nat) => [Res.row (Ty.int .u8) 5 ch.1 ch.2.1 ch.2.2 t2]) (fun (ch : (Option Addr) × Nat × Nat) => [Res.row (Ty.int .u8) 5 ch.1 ch.2.1 ch.2.2 t2, Res.row (Ty.int .u8) 5 (some ⟨g1, 0, none⟩) 0 0 ([] : List Int)]) (fun _ => rfl) N24 rfl rfl (fun ok => ok) (.cons .here .nil) rfl (smithyref07_write.ok k x1 0 ch_0_0 ch_0_1 t2 et2 _ _) ?_; clear S a w; intro ch2 m le1 a w S
        refine s_assign S rfl rfl ?_; clear S a; intro a S
        refine c_end ?_
        refine wp_seq ?_
        refine c_region ?_
        refine s_move S rfl rfl ?_; clear S a; intro a S
        refine s_lenO S rfl .here Try.underlying25 rfl ?_; clear S a; intro a S
        refine s_bin S rfl rfl rfl rfl ?_; clear S a; intro a S
        refine c_end ?_
        rcases ite_of h4 with ⟨c3, h5⟩ | ⟨c3, h5⟩ <;> clear h4
        · refine c_condT S rfl c3 ?_
          refine c_region ?_
          refine s_move S rfl rfl ?_; clear S a; intro a S
          refine s_assign S rfl rfl ?_; clear S a; intro a S
          refine s_assign S rfl rfl ?_; clear S a; intro a S
          refine c_end ?_
          refine wp_ret ?_
          refine x_thenR ?_
          obtain rfl := Option.some.inj h5
          exact b_ret2 (d1 := (.v (.slice (some ⟨g1, 0, none⟩) 0 0))) (d2 := (.v (.int .i64 4))) S rfl rfl rfl fun ok1 ok2 => S.retX (Hx := []) hb _ _ (((some ⟨g1, 0, none⟩), 0, 0) : (Option Addr) × Nat × Nat) (.cons (.there .here) .nil) ⟨⟨ok1, trivial⟩, ⟨ok2, trivial⟩, trivial⟩
        · refine c_condF S rfl c3 ?_
          refine wp_skip ?_
          refine x_thenN ?_
          refine c_region ?_
          refine s_move S rfl rfl ?_; clear S a; intro a S
          refine s_assign S rfl rfl ?_; clear S a; intro a S
          refine s_assign S rfl rfl ?_; clear S a; intro a S
          refine c_end ?_
          refine wp_ret ?_
          obtain rfl := Option.some.inj h5
          exact b_ret2 (d1 := (.v (.slice ch2.1 ch2.2.1 ch2.2.2))) (d2 := (.v (.int .i64 0))) S rfl rfl rfl fun ok1 ok2 => S.retX (Hx := []) hb _ _ ((ch2.1, ch2.2.1, ch2.2.2) : (Option Addr) × Nat × Nat) (.cons .here .nil) ⟨⟨ok1, trivial⟩, ⟨ok2, trivial⟩, trivial⟩
  refine c_region' ?_
  refine s_move S rfl rfl ?_; clear S a; intro a S
  obtain ⟨t3, et3, h1⟩ := bind_of h0; clear h0
  refine s_callX S (ds' := [(.sl ch_0_0 (x1).length ch_0_1 (RdS (Ty.prod Ty.bool (Ty.prod (Ty.slice (Ty.int .u8)) (Ty.int .i64))) ch_0_0 x1)), (.v (.int .i64 0))]) (ds := [(.sl ch_0_0 (x1).length ch_0_1 (RdS (Ty.prod Ty.bool (Ty.prod (Ty.slice (Ty.int .u8)) (Ty.int .i64))) ch_0_0 x1)), (.v (.int .i64 0))]) [] [Res.row (Ty.int .u8) 5 (some ⟨g1, 0, none⟩) 0 0 ([] : List Int)] (fun (ch : Unit) => ((.v (.int .i64 t3)) : D)) (fun (ch : Unit) => []) (fun (ch : Unit) => [Res.row (Ty.int .u8) 5 (some ⟨g1, 0, none⟩) 0 0 ([] : List Int)]) (fun _ => rfl) N22 rfl rfl (fun ok => ok) (.cons .here .nil) rfl (smithyref07_end.ok k x1 0 ch_0_0 ch_0_1 t3 et3 _ _) ?_; clear S a w; intro ch3 m le1 a w S
  refine s_move S rfl rfl ?_; clear S a; intro a S
  refine s_lenS S rfl Try.underlying29 rfl ?_; clear S a; intro a S
  refine s_bin S rfl rfl rfl rfl ?_; clear S a; intro a S
  refine s_move S rfl rfl ?_; clear S a; intro a S
  rcases ite_of h1 with ⟨c4, h2⟩ | ⟨c4, h2⟩ <;> clear h1
  · refine s_gF S (b := (t3 != ((x1).length : Int))) rfl rfl c4 rfl ?_; clear S a; intro a S
    refine s_gF S (b := (t3 != ((x1).length : Int))) rfl rfl c4 rfl ?_; clear S a; intro a S
    refine s_gF S (b := (t3 != ((x1).length : Int))) rfl rfl c4 rfl ?_; clear S a; intro a S
    refine s_pick S (b := true) (hc_of rfl c4) rfl rfl ?_; clear S a; intro a S
    refine c_end' ?_
    refine x_thenN ?_
    exact j1 _ true a w (S.sub ⟨rfl, rfl, rfl, trivial⟩ (.cons .here .nil)) h2
  · refine s_gT S (b := (t3 != ((x1).length : Int))) rfl rfl c4 ?_
    refine s_move S rfl rfl ?_; clear S a; intro a S
    refine s_gT S (b := (t3 != ((x1).length : Int))) rfl rfl c4 ?_
    refine s_lenS S rfl Try.underlying29 rfl ?_; clear S a; intro a S
    refine s_gT S (b := (t3 != ((x1).length : Int))) rfl rfl c4 ?_
    refine s_bin S rfl rfl rfl rfl ?_; clear S a; intro a S
    refine s_pick S (b := false) (hc_of rfl c4) rfl rfl ?_; clear S a; intro a S
    refine c_end' ?_
    refine x_thenN ?_
    exact j1 _ (((x1).length : Int) == 0) a w (S.sub ⟨rfl, rfl, rfl, trivial⟩ (.cons .here .nil)) h2
/-! (*smithy/rlp.reader).size -/
abbrev rlp_reader_size.Ty : Type := ((List Int) × (List (Bool × (List Int) × Int))) → Option (Bool × Int × Int × ((List Int) × (List (Bool × (List Int) × Int))))
def rlp_reader_size.Ctr (s : rlp_reader_size.Ty) : Prop := ∀ (x1 : (List Int) × (List (Bool × (List Int) × Int))) (ch_0_0 : Nat) (ch_0_1 : Option Addr) (ch_0_2 : Nat) (ch_0_3 : Option Addr) (ch_0_4 : Nat) (ch_0_5 : Nat) (r : Bool × Int × Int × ((List Int) × (List (Bool × (List Int) × Int)))) (h0 : s x1 = some r) (mi : Mem) (w0 : World), okL mi [(.v (.pointer (some ⟨ch_0_0, 0, none⟩)))] → Pre mi [Res.cells ch_0_0 61 [.sl ch_0_1 (x1.1).length ch_0_2 (RdS (Ty.int .u8) ch_0_1 x1.1), .one (.slice ch_0_3 ch_0_4 ch_0_5)], Res.row (Ty.prod Ty.bool (Ty.prod (Ty.slice (Ty.int .u8)) (Ty.int .i64))) 43 ch_0_3 ch_0_4 ch_0_5 x1.2] w0 → Calls Try.prog 31 (([(.v (.pointer (some ⟨ch_0_0, 0, none⟩)))] : List D).map D.val).toArray w0 (RetX mi [Res.cells ch_0_0 61 [.sl ch_0_1 (x1.1).length ch_0_2 (RdS (Ty.int .u8) ch_0_1 x1.1), .one (.slice ch_0_3 ch_0_4 ch_0_5)], Res.row (Ty.prod Ty.bool (Ty.prod (Ty.slice (Ty.int .u8)) (Ty.int .i64))) 43 ch_0_3 ch_0_4 ch_0_5 x1.2] (fun (ch : (Option Addr) × Nat × (Option Addr) × Nat × Nat) => ((.tup [(false, [.one (.bool r.1)]), (false, [.one (.int .i64 r.2.1)]), (false, [.one (.int .i64 r.2.2.1)])]) : D)) (fun (ch : (Option Addr) × Nat × (Option Addr) × Nat × Nat) => [Res.cells ch_0_0 61 [.sl ch.1 (r.2.2.2.1).length ch.2.1 (RdS (Ty.int .u8) ch.1 r.2.2.2.1), .one (.slice ch.2.2.1 ch.2.2.2.1 ch.2.2.2.2)], Res.row (Ty.prod Ty.bool (Ty.prod (Ty.slice (Ty.int .u8)) (Ty.int .i64))) 43 ch.2.2.1 ch.2.2.2.1 ch.2.2.2.2 r.2.2.2.2]) w0)
def rlp_reader_size.j2 (x1 : (List Int) × (List (Bool × (List Int) × Int))) (y1 : Int) (y7 : Int) : Option (Bool × Int × Int × ((List Int) × (List (Bool × (List Int) × Int)))) := if (0 : Int) ≤ (wr .i64 ((wr .i64 y1) - 183)) ∧ ((wr .i64 ((wr .i64 y1) - 183)) : Int) ≤ ((x1.1.drop (Int.toNat 1)).length : Int) ∧ ((x1.1.drop (Int.toNat 1)).length : Int) ≤ ((x1.1.drop (Int.toNat 1)).length : Int) then (if (decide (y7 ≤ 55)) = true then (some (decide (192 ≤ (rd x1.1 0)), 0, 2, ((x1.1.drop (Int.toNat 1)).drop (Int.toNat (wr .i64 ((wr .i64 y1) - 183))), x1.2))) else (some (decide (192 ≤ (rd x1.1 0)), y7, 0, ((x1.1.drop (Int.toNat 1)).drop (Int.toNat (wr .i64 ((wr .i64 y1) - 183))), x1.2)))) else none
def rlp_reader_size.j3 (x1 : (List Int) × (List (Bool × (List Int) × Int))) (y1 : Int) (y11 : Int) (y12 : Int) (rec1 : Int → Int → Option (Bool × Int × Int × ((List Int) × (List (Bool × (List Int) × Int))))) (y13 : Bool) : Option (Bool × Int × Int × ((List Int) × (List (Bool × (List Int) × Int)))) := if y13 = true then (some (decide (192 ≤ (rd x1.1 0)), 0, 2, (x1.1.drop (Int.toNat 1), x1.2))) else (rec1 (wr .i64 (y11 + 1)) (imin (wr .i64 ((wr .i64 (256 * y12)) + (wr .i64 (rd ((x1.1.drop (Int.toNat 1)).take (Int.toNat (wr .i64 ((wr .i64 y1) - 183)))) y11)))) 1099511627776))
def rlp_reader_size.b1 (x1 : (List Int) × (List (Bool × (List Int) × Int))) (y1 : Int) (rec1 : Int → Int → Option (Bool × Int × Int × ((List Int) × (List (Bool × (List Int) × Int))))) (y11 : Int) (y12 : Int) : Option (Bool × Int × Int × ((List Int) × (List (Bool × (List Int) × Int)))) := if (decide (y11 < (((x1.1.drop (Int.toNat 1)).take (Int.toNat (wr .i64 ((wr .i64 y1) - 183)))).length : Int))) = true then (if (0 : Int) ≤ y11 ∧ y11 < (((x1.1.drop (Int.toNat 1)).take (Int.toNat (wr .i64 ((wr .i64 y1) - 183)))).length : Int) then (if (y11 == 0) = true then (rlp_reader_size.j3 x1 y1 y11 y12 rec1 ((rd ((x1.1.drop (Int.toNat 1)).take (Int.toNat (wr .i64 ((wr .i64 y1) - 183)))) y11) == 0)) else (rlp_reader_size.j3 x1 y1 y11 y12 rec1 false)) else none) else (rlp_reader_size.j2 x1 y1 y12)
def rlp_reader_size.l1 (x1 : (List Int) × (List (Bool × (List Int) × Int))) (y1 : Int) : Nat → Int → Int → Option (Bool × Int × Int × ((List Int) × (List (Bool × (List Int) × Int))))
  | 0, _, _ => none
  | q + 1, y11, y12 => rlp_reader_size.b1 x1 y1 (rlp_reader_size.l1 x1 y1 q) y11 y12
def rlp_reader_size.j1 (k : Nat) (x1 : (List Int) × (List (Bool × (List Int) × Int))) (y1 : Int) : Option (Bool × Int × Int × ((List Int) × (List (Bool × (List Int) × Int)))) := if (0 : Int) ≤ 1 ∧ (1 : Int) ≤ ((x1.1).length : Int) ∧ ((x1.1).length : Int) ≤ ((x1.1).length : Int) then (if (decide (y1 ≤ 183)) = true then (some (decide (192 ≤ (rd x1.1 0)), wr .i64 ((wr .i64 y1) - 128), 0, (x1.1.drop (Int.toNat 1), x1.2))) else (if (decide (((x1.1.drop (Int.toNat 1)).length : Int) < (wr .i64 ((wr .i64 y1) - 183)))) = true then (some (decide (192 ≤ (rd x1.1 0)), 0, 3, (x1.1.drop (Int.toNat 1), x1.2))) else (if (0 : Int) ≤ 0 ∧ (0 : Int) ≤ (wr .i64 ((wr .i64 y1) - 183)) ∧ (wr .i64 ((wr .i64 y1) - 183)) ≤ ((x1.1.drop (Int.toNat 1)).length : Int) then (rlp_reader_size.l1 x1 y1 k 0 0) else none))) else none
def rlp_reader_size.f (k : Nat) (x1 : (List Int) × (List (Bool × (List Int) × Int))) : Option (Bool × Int × Int × ((List Int) × (List (Bool × (List Int) × Int)))) := if (0 : Int) ≤ 0 ∧ 0 < ((x1.1).length : Int) then (if (decide (192 ≤ (rd x1.1 0))) = true then (rlp_reader_size.j1 k x1 (wr .u8 ((rd x1.1 0) - 64))) else (rlp_reader_size.j1 k x1 (rd x1.1 0))) else none
theorem rlp_reader_size.ok (k : Nat) : rlp_reader_size.Ctr (rlp_reader_size.f k) := by
  intro x1 ch_0_0 ch_0_1 ch_0_2 ch_0_3 ch_0_4 ch_0_5 r h0 mi w0 ok hm
  delta rlp_reader_size.f at h0
  refine c_enterX (n := 87) [(.v (.pointer (some ⟨ch_0_0, 0, none⟩)))] (l := [(0, (.v (.pointer (some ⟨ch_0_0, 0, none⟩))))]) Try.func31 rfl rfl rfl rfl ok hm ?_
  clear ok hm
  intro b0 hb a S
  refine c_region ?_
  refine s_assign S rfl rfl ?_; clear S a; intro a S
  refine s_assign S rfl rfl ?_; clear S a; intro a S
  refine s_assign S rfl rfl ?_; clear S a; intro a S
  refine c_end ?_
  refine c_region ?_
  refine s_move S rfl rfl ?_; clear S a; intro a S
  refine s_nilchk S rfl rfl ?_; clear S a; intro a S
  refine s_fieldAddr S rfl I61_0 T25 (by decide) rfl rfl ?_; clear S a; intro a S
  refine s_loadSl S rfl .here T25 (A := ch_0_1) (len := (x1.1).length) (cap := ch_0_2) rfl rfl ?_; clear S a; intro a S
  obtain ⟨c1, h1⟩ := chk_of h0; clear h0
  refine s_iaddrS S rfl rfl rfl Try.underlying25 T5 c1.1 c1.2 rfl ?_; clear S a; intro p1 a S
  refine s_ld1 S (v := (.int .u8 (rd x1.1 0))) rfl T5 (fun _ => rfl) rfl ?_; clear S a; intro a S
  refine s_assign S rfl rfl ?_; clear S a; intro a S
  refine c_end ?_
  refine c_region ?_
  refine s_move S rfl rfl ?_; clear S a; intro a S
  refine s_bin S rfl rfl rfl rfl ?_; clear S a; intro a S
  refine s_assign S rfl rfl ?_; clear S a; intro a S
  refine c_end ?_
  refine wp_seq_k ?_
  intro K1 hK1
  have j1 : ∀ (m : Mem) (y1 : Int) (a : Act) (w : World), St 87 m b0 [(5, (.v (.int .u8 y1))), (6, (.v (.bool (decide (192 ≤ (rd x1.1 0)))))), (0, (.v (.pointer (some ⟨ch_0_0, 0, none⟩))))] [Res.cells ch_0_0 61 [.sl ch_0_1 (x1.1).length ch_0_2 (RdS (Ty.int .u8) ch_0_1 x1.1), .one (.slice ch_0_3 ch_0_4 ch_0_5)], Res.row (Ty.prod Ty.bool (Ty.prod (Ty.slice (Ty.int .u8)) (Ty.int .i64))) 43 ch_0_3 ch_0_4 ch_0_5 x1.2] a w → rlp_reader_size.j1 k x1 y1 = some r → K1 a w := by
    intro m y1 a w S h0
    delta rlp_reader_size.j1 at h0
    refine hK1 a w ?_
    refine c_region ?_
    refine s_move S rfl rfl ?_; clear S a; intro a S
    refine s_move S rfl rfl ?_; clear S a; intro a S
    refine s_nilchk S rfl rfl ?_; clear S a; intro a S
    refine s_fieldAddr S rfl I61_0 T25 (by decide) rfl rfl ?_; clear S a; intro a S
    refine s_loadSl S rfl .here T25 (A := ch_0_1) (len := (x1.1).length) (cap := ch_0_2) rfl rfl ?_; clear S a; intro a S
    obtain ⟨c2, h1⟩ := chk_of h0; clear h0
    refine s_cutS S (i := 1) (j := ((x1.1).length : Int)) (ys := x1.1.drop (Int.toNat 1)) rfl rfl Try.underlying25 T5 (.inr ⟨_, _, rfl, rfl⟩) (.inl ⟨rfl, rfl⟩) c2 rfl (cut_end rfl) ?_; clear S a; intro A1 cp1 a S
    refine s_nilchk S rfl rfl ?_; clear S a; intro a S
    refine s_fieldAddr S rfl I61_0 T25 (by decide) rfl rfl ?_; clear S a; intro a S
    refine s_store S rfl rfl rfl (s' := [.sl A1 (x1.1.drop (Int.toNat 1)).length cp1 (RdS (Ty.int .u8) A1 (x1.1.drop (Int.toNat 1))), .one (.slice ch_0_3 ch_0_4 ch_0_5)]) .here T25 rfl rfl ?_; clear S w; intro w S
    refine c_end ?_
    refine wp_seq ?_
    refine c_region ?_
    refine s_move S rfl rfl ?_; clear S a; intro a S
    refine s_bin S rfl rfl rfl rfl ?_; clear S a; intro a S
    refine c_end ?_
    rcases ite_of h1 with ⟨c3, h2⟩ | ⟨c3, h2⟩ <;> clear h1
    · refine c_condT S rfl c3 ?_
      refine c_region ?_
      refine s_move S rfl rfl ?_; clear S a; intro a S
      refine s_move S rfl rfl ?_; clear S a; intro a S
      refine s_conv S rfl rfl Try.underlying3 rfl ?_; clear S a; intro a S
      refine s_bin S rfl rfl rfl rfl ?_; clear S a; intro a S
      refine s_assign S rfl rfl ?_; clear S a; intro a S
      refine s_assign S rfl rfl ?_; clear S a; intro a S
      refine s_assign S rfl rfl ?_; clear S a; intro a S
      refine c_end ?_
      refine wp_ret ?_
      refine x_thenR ?_
      obtain rfl := Option.some.inj h2
      exact b_retN S [(.v (.bool (decide (192 ≤ (rd x1.1 0))))), (.v (.int .i64 (wr .i64 ((wr .i64 y1) - 128)))), (.v (.int .i64 0))] rfl rfl ⟨rfl, rfl, rfl, trivial⟩ fun ⟨ok1, ok2, ok3, _⟩ => S.retX (Hx := []) hb _ _ ((A1, cp1, ch_0_3, ch_0_4, ch_0_5) : (Option Addr) × Nat × (Option Addr) × Nat × Nat) (.cons .here (.cons .here .nil)) ⟨⟨ok1, trivial⟩, ⟨ok2, trivial⟩, ⟨ok3, trivial⟩, trivial⟩
    · refine c_condF S rfl c3 ?_
      refine wp_skip ?_
      refine x_thenN ?_
      refine c_region ?_
      refine s_move S rfl rfl ?_; clear S a; intro a S
      refine s_conv S rfl rfl Try.underlying3 rfl ?_; clear S a; intro a S
      refine s_bin S rfl rfl rfl rfl ?_; clear S a; intro a S
      refine s_assign S rfl rfl ?_; clear S a; intro a S
      refine c_end ?_
      refine wp_seq ?_
      refine c_region ?_
      refine s_move S rfl rfl ?_; clear S a; intro a S
      refine s_move S rfl rfl ?_; clear S a; intro a S
      refine s_nilchk S rfl rfl ?_; clear S a; intro a S
      refine s_fieldAddr S rfl I61_0 T25 (by decide) rfl rfl ?_; clear S a; intro a S
      refine s_loadSl S rfl .here T25 (A := A1) (len := (x1.1.drop (Int.toNat 1)).length) (cap := cp1) rfl rfl ?_; clear S a; intro a S
      refine s_lenS S rfl Try.underlying25 rfl ?_; clear S a; intro a S
      refine s_bin S rfl rfl rfl rfl ?_; clear S a; intro a S
      refine c_end ?_
      rcases ite_of h2 with ⟨c4, h3⟩ | ⟨c4, h3⟩ <;> clear h2
      · refine c_condT S rfl c4 ?_
        refine c_region ?_
        refine s_move S rfl rfl ?_; clear S a; intro a S
        refine s_assign S rfl rfl ?_; clear S a; intro a S
        refine s_assign S rfl rfl ?_; clear S a; intro a S
        refine s_assign S rfl rfl ?_; clear S a; intro a S
        refine c_end ?_
        refine wp_ret ?_
        refine x_thenR ?_
        obtain rfl := Option.some.inj h3
        exact b_retN S [(.v (.bool (decide (192 ≤ (rd x1.1 0))))), (.v (.int .i64 0)), (.v (.int .i64 3))] rfl rfl ⟨rfl, rfl, rfl, trivial⟩ fun ⟨ok1, ok2, ok3, _⟩ => S.retX (Hx := []) hb _ _ ((A1, cp1, ch_0_3, ch_0_4, ch_0_5) : (Option Addr) × Nat × (Option Addr) × Nat × Nat) (.cons .here (.cons .here .nil)) ⟨⟨ok1, trivial⟩, ⟨ok2, trivial⟩, ⟨ok3, trivial⟩, trivial⟩
      · refine c_condF S rfl c4 ?_
        refine wp_skip ?_
        refine x_thenN ?_
        refine c_region ?_
        refine s_assign S rfl rfl ?_; clear S a; intro a S
        refine c_end ?_
        refine wp_seq_k ?_
        intro K2 hK2
        have j2 : ∀ (m : Mem) (y7 : Int) (A2 : Option Addr) (cp9 : Nat) (a : Act) (w : World), St 87 m b0 [(8, (.v (.int .i64 y7))), (7, (.v (.int .i64 (wr .i64 ((wr .i64 y1) - 183))))), (6, (.v (.bool (decide (192 ≤ (rd x1.1 0)))))), (0, (.v (.pointer (some ⟨ch_0_0, 0, none⟩))))] [Res.cells ch_0_0 61 [.sl A2 (x1.1.drop (Int.toNat 1)).length cp9 (RdS (Ty.int .u8) A2 (x1.1.drop (Int.toNat 1))), .one (.slice ch_0_3 ch_0_4 ch_0_5)], Res.row (Ty.prod Ty.bool (Ty.prod (Ty.slice (Ty.int .u8)) (Ty.int .i64))) 43 ch_0_3 ch_0_4 ch_0_5 x1.2] a w → rlp_reader_size.j2 x1 y1 y7 = some r → K2 a w := by
          intro m y7 A2 cp9 a w S h0
          delta rlp_reader_size.j2 at h0
          refine hK2 a w ?_
          refine c_region ?_
          refine s_move S rfl rfl ?_; clear S a; intro a S
          refine s_move S rfl rfl ?_; clear S a; intro a S
          refine s_nilchk S rfl rfl ?_; clear S a; intro a S
          refine s_fieldAddr S rfl I61_0 T25 (by decide) rfl rfl ?_; clear S a; intro a S
          refine s_loadSl S rfl .here T25 (A := A2) (len := (x1.1.drop (Int.toNat 1)).length) (cap := cp9) rfl rfl ?_; clear S a; intro a S
          refine s_move S rfl rfl ?_; clear S a; intro a S
          obtain ⟨c5, h1⟩ := chk_of h0; clear h0
          refine s_cutS S (i := (wr .i64 ((wr .i64 y1) - 183))) (j := ((x1.1.drop (Int.toNat 1)).length : Int)) (ys := (x1.1.drop (Int.toNat 1)).drop (Int.toNat (wr .i64 ((wr .i64 y1) - 183)))) rfl rfl Try.underlying25 T5 (.inr ⟨_, _, rfl, rfl⟩) (.inl ⟨rfl, rfl⟩) c5 rfl (cut_end rfl) ?_; clear S a; intro A3 cp10 a S
          refine s_nilchk S rfl rfl ?_; clear S a; intro a S
          refine s_fieldAddr S rfl I61_0 T25 (by decide) rfl rfl ?_; clear S a; intro a S
          refine s_store S rfl rfl rfl (s' := [.sl A3 ((x1.1.drop (Int.toNat 1)).drop (Int.toNat (wr .i64 ((wr .i64 y1) - 183)))).length cp10 (RdS (Ty.int .u8) A3 ((x1.1.drop (Int.toNat 1)).drop (Int.toNat (wr .i64 ((wr .i64 y1) - 183))))), .one (.slice ch_0_3 ch_0_4 ch_0_5)]) .here T25 rfl rfl ?_; clear S w; intro w S
          refine c_end ?_
          refine wp_seq ?_
          refine c_region ?_
          refine s_move S rfl rfl ?_; clear S a; intro a S
          refine s_bin S rfl rfl rfl rfl ?_; clear S a; intro a S
          refine c_end ?_
          rcases ite_of h1 with ⟨c6, h2⟩ | ⟨c6, h2⟩ <;> clear h1
          · refine c_condT S rfl c6 ?_
            refine c_region ?_
            refine s_move S rfl rfl ?_; clear S a; intro a S
            refine s_assign S rfl rfl ?_; clear S a; intro a S
            refine s_assign S rfl rfl ?_; clear S a; intro a S
            refine s_assign S rfl rfl ?_; clear S a; intro a S
            refine c_end ?_
            refine wp_ret ?_
            refine x_thenR ?_
            obtain rfl := Option.some.inj h2
            exact b_retN S [(.v (.bool (decide (192 ≤ (rd x1.1 0))))), (.v (.int .i64 0)), (.v (.int .i64 2))] rfl rfl ⟨rfl, rfl, rfl, trivial⟩ fun ⟨ok1, ok2, ok3, _⟩ => S.retX (Hx := []) hb _ _ ((A3, cp10, ch_0_3, ch_0_4, ch_0_5) : (Option Addr) × Nat × (Option Addr) × Nat × Nat) (.cons .here (.cons .here .nil)) ⟨⟨ok1, trivial⟩, ⟨ok2, trivial⟩, ⟨ok3, trivial⟩, trivial⟩
          · refine c_condF S rfl c6 ?_
            refine wp_skip ?_
            refine x_thenN ?_
            refine c_region ?_
            refine s_move S rfl rfl ?_; clear S a; intro a S
            refine s_move S rfl rfl ?_; clear S a; intro a S
            refine s_assign S rfl rfl ?_; clear S a; intro a S
            refine s_assign S rfl rfl ?_; clear S a; intro a S
            refine s_assign S rfl rfl ?_; clear S a; intro a S
            refine c_end ?_
            refine wp_ret ?_
            obtain rfl := Option.some.inj h2
            exact b_retN S [(.v (.bool (decide (192 ≤ (rd x1.1 0))))), (.v (.int .i64 y7)), (.v (.int .i64 0))] rfl rfl ⟨rfl, rfl, rfl, trivial⟩ fun ⟨ok1, ok2, ok3, _⟩ => S.retX (Hx := []) hb _ _ ((A3, cp10, ch_0_3, ch_0_4, ch_0_5) : (Option Addr) × Nat × (Option Addr) × Nat × Nat) (.cons .here (.cons .here .nil)) ⟨⟨ok1, trivial⟩, ⟨ok2, trivial⟩, ⟨ok3, trivial⟩, trivial⟩
        refine c_region ?_
        refine s_move S rfl rfl ?_; clear S a; intro a S
        refine s_nilchk S rfl rfl ?_; clear S a; intro a S
        refine s_fieldAddr S rfl I61_0 T25 (by decide) rfl rfl ?_; clear S a; intro a S
        refine s_loadSl S rfl .here T25 (A := A1) (len := (x1.1.drop (Int.toNat 1)).length) (cap := cp1) rfl rfl ?_; clear S a; intro a S
        refine s_move S rfl rfl ?_; clear S a; intro a S
        obtain ⟨c7, h4⟩ := chk_of h3; clear h3
        refine s_cutS S (i := 0) (j := (wr .i64 ((wr .i64 y1) - 183))) (ys := (x1.1.drop (Int.toNat 1)).take (Int.toNat (wr .i64 ((wr .i64 y1) - 183)))) rfl rfl Try.underlying25 T5 (.inl ⟨rfl, rfl⟩) (.inr ⟨_, _, rfl, rfl⟩) c7 rfl (cut_pre rfl) ?_; clear S a; intro A4 cp11 a S
        refine s_lenS S rfl Try.underlying25 rfl ?_; clear S a; intro a S
        refine s_move S rfl rfl ?_; clear S a; intro a S
        refine c_end ?_
        refine wp_block ?_
        refine c_loop (fun q1 a w => ∃ (m : Mem) (y11 : Int) (A5 : Option Addr) (cp16 : Nat) (y12 : Int) (A6 : Option Addr) (cp17 : Nat), St 87 m b0 [(54, (.v (.int .i64 y11))), (53, (.v (.int .i64 (((x1.1.drop (Int.toNat 1)).take (Int.toNat (wr .i64 ((wr .i64 y1) - 183)))).length : Int)))), (52, (.sl A5 ((x1.1.drop (Int.toNat 1)).take (Int.toNat (wr .i64 ((wr .i64 y1) - 183)))).length cp16 (RdS (Ty.int .u8) A5 ((x1.1.drop (Int.toNat 1)).take (Int.toNat (wr .i64 ((wr .i64 y1) - 183))))))), (8, (.v (.int .i64 y12))), (7, (.v (.int .i64 (wr .i64 ((wr .i64 y1) - 183))))), (6, (.v (.bool (decide (192 ≤ (rd x1.1 0)))))), (0, (.v (.pointer (some ⟨ch_0_0, 0, none⟩))))] [Res.cells ch_0_0 61 [.sl A6 (x1.1.drop (Int.toNat 1)).length cp17 (RdS (Ty.int .u8) A6 (x1.1.drop (Int.toNat 1))), .one (.slice ch_0_3 ch_0_4 ch_0_5)], Res.row (Ty.prod Ty.bool (Ty.prod (Ty.slice (Ty.int .u8)) (Ty.int .i64))) 43 ch_0_3 ch_0_4 ch_0_5 x1.2] a w ∧ rlp_reader_size.l1 x1 y1 q1 y11 y12 = some r) ?_ ?_ (k := k) ⟨_, 0, A4, cp11, 0, A1, cp1, (S.sub ⟨rfl, rfl, rfl, rfl, rfl, rfl, rfl, trivial⟩ (.cons .here (.cons .here .nil))), h4⟩
        · rintro a w ⟨m, y11, A5, cp16, y12, A6, cp17, S, h0⟩
          exact (nomatch (show (none : Option (Bool × Int × Int × ((List Int) × (List (Bool × (List Int) × Int))))) = some r from h0))
        · clear S h4
          rintro q1 a w ⟨m, y11, A5, cp16, y12, A6, cp17, S, h0⟩
          replace h0 : rlp_reader_size.b1 x1 y1 (rlp_reader_size.l1 x1 y1 q1) y11 y12 = some r := h0
          delta rlp_reader_size.b1 at h0
          refine c_region ?_
          refine s_bin S rfl rfl rfl rfl ?_; clear S a; intro a S
          refine c_end ?_
          refine wp_seq ?_
          rcases ite_of h0 with ⟨c8, h1⟩ | ⟨c8, h1⟩ <;> clear h0
          · refine c_condT S rfl c8 ?_
            refine wp_skip ?_
            refine x_thenN ?_
            refine wp_seq ?_
            refine wp_block ?_
            refine c_region ?_
            refine s_move S rfl rfl ?_; clear S a; intro a S
            obtain ⟨c9, h2⟩ := chk_of h1; clear h1
            refine s_iaddrS S rfl rfl rfl Try.underlying25 T5 c9.1 c9.2 rfl ?_; clear S a; intro p3 a S
            refine s_ld1 S (v := (.int .u8 (rd ((x1.1.drop (Int.toNat 1)).take (Int.toNat (wr .i64 ((wr .i64 y1) - 183)))) y11))) rfl T5 (fun _ => rfl) rfl ?_; clear S a; intro a S
            refine s_assign S rfl rfl ?_; clear S a; intro a S
            refine s_assign S rfl rfl ?_; clear S a; intro a S
            refine c_end ?_
            refine wp_seq ?_
            refine wp_seq_k ?_
            intro K3 hK3
            have j3 : ∀ (m : Mem) (y13 : Bool) (a : Act) (w : World), St 87 m b0 [(64, (.v (.bool y13))), (10, (.v (.int .u8 (rd ((x1.1.drop (Int.toNat 1)).take (Int.toNat (wr .i64 ((wr .i64 y1) - 183)))) y11)))), (54, (.v (.int .i64 y11))), (53, (.v (.int .i64 (((x1.1.drop (Int.toNat 1)).take (Int.toNat (wr .i64 ((wr .i64 y1) - 183)))).length : Int)))), (52, (.sl A5 ((x1.1.drop (Int.toNat 1)).take (Int.toNat (wr .i64 ((wr .i64 y1) - 183)))).length cp16 (RdS (Ty.int .u8) A5 ((x1.1.drop (Int.toNat 1)).take (Int.toNat (wr .i64 ((wr .i64 y1) - 183))))))), (8, (.v (.int .i64 y12))), (7, (.v (.int .i64 (wr .i64 ((wr .i64 y1) - 183))))), (6, (.v (.bool (decide (192 ≤ (rd x1.1 0)))))), (0, (.v (.pointer (some ⟨ch_0_0, 0, none⟩))))] [Res.cells ch_0_0 61 [.sl A6 (x1.1.drop (Int.toNat 1)).length cp17 (RdS (Ty.int .u8) A6 (x1.1.drop (Int.toNat 1))), .one (.slice ch_0_3 ch_0_4 ch_0_5)], Res.row (Ty.prod Ty.bool (Ty.prod (Ty.slice (Ty.int .u8)) (Ty.int .i64))) 43 ch_0_3 ch_0_4 ch_0_5 x1.2] a w → rlp_reader_size.j3 x1 y1 y11 y12 (rlp_reader_size.l1 x1 y1 q1) y13 = some r → K3 a w := by
              intro m y13 a w S h0
              delta rlp_reader_size.j3 at h0
              refine hK3 a w ?_
              rcases ite_of h0 with ⟨c10, h1⟩ | ⟨c10, h1⟩ <;> clear h0
              · refine c_condT S rfl c10 ?_
                refine c_region ?_
                refine s_move S rfl rfl ?_; clear S a; intro a S
                refine s_assign S rfl rfl ?_; clear S a; intro a S
                refine s_assign S rfl rfl ?_; clear S a; intro a S
                refine s_assign S rfl rfl ?_; clear S a; intro a S
                refine c_end ?_
                refine wp_ret ?_
                refine x_thenR ?_
                refine x_blockR ?_
                refine x_thenR ?_
                refine x_thenR ?_
                refine x_blockR ?_
                refine x_thenR ?_
                obtain rfl := Option.some.inj h1
                exact b_retN S [(.v (.bool (decide (192 ≤ (rd x1.1 0))))), (.v (.int .i64 0)), (.v (.int .i64 2))] rfl rfl ⟨rfl, rfl, rfl, trivial⟩ fun ⟨ok1, ok2, ok3, _⟩ => S.retX (Hx := []) hb _ _ ((A6, cp17, ch_0_3, ch_0_4, ch_0_5) : (Option Addr) × Nat × (Option Addr) × Nat × Nat) (.cons .here (.cons .here .nil)) ⟨⟨ok1, trivial⟩, ⟨ok2, trivial⟩, ⟨ok3, trivial⟩, trivial⟩
              · refine c_condF S rfl c10 ?_
                refine wp_skip ?_
                refine x_thenN ?_
                refine c_region' ?_
                refine s_move S rfl rfl ?_; clear S a; intro a S
                refine s_bin S rfl rfl rfl rfl ?_; clear S a; intro a S
                refine s_move S rfl rfl ?_; clear S a; intro a S
                refine s_conv S rfl rfl Try.underlying3 rfl ?_; clear S a; intro a S
                refine s_bin S rfl rfl rfl rfl ?_; clear S a; intro a S
                refine s_min2 S rfl rfl rfl ?_; clear S a; intro a S
                refine s_assign S rfl rfl ?_; clear S a; intro a S
                refine c_end' ?_
                refine x_blockN ?_
                refine x_thenN ?_
                refine c_region' ?_
                refine s_bin S rfl rfl rfl rfl ?_; clear S a; intro a S
                refine s_move S rfl rfl ?_; clear S a; intro a S
                refine c_end' ?_
                refine x_thenN ?_
                exact ⟨_, (wr .i64 (y11 + 1)), A5, cp16, (imin (wr .i64 ((wr .i64 (256 * y12)) + (wr .i64 (rd ((x1.1.drop (Int.toNat 1)).take (Int.toNat (wr .i64 ((wr .i64 y1) - 183)))) y11)))) 1099511627776), A6, cp17, (S.sub ⟨rfl, rfl, rfl, rfl, rfl, rfl, rfl, trivial⟩ (.cons .here (.cons .here .nil))), h1⟩
            refine c_region' ?_
            refine s_move S rfl rfl ?_; clear S a; intro a S
            refine s_bin S rfl rfl rfl rfl ?_; clear S a; intro a S
            refine s_move S rfl rfl ?_; clear S a; intro a S
            rcases ite_of h2 with ⟨c11, h3⟩ | ⟨c11, h3⟩ <;> clear h2
            · refine s_gT S (b := (y11 == 0)) rfl rfl c11 ?_
              refine s_move S rfl rfl ?_; clear S a; intro a S
              refine s_gT S (b := (y11 == 0)) rfl rfl c11 ?_
              refine s_bin S rfl rfl rfl rfl ?_; clear S a; intro a S
              refine s_pick S (b := true) (hc_of rfl c11) rfl rfl ?_; clear S a; intro a S
              refine c_end' ?_
              refine x_thenN ?_
              exact j3 _ ((rd ((x1.1.drop (Int.toNat 1)).take (Int.toNat (wr .i64 ((wr .i64 y1) - 183)))) y11) == 0) a w (S.sub ⟨rfl, rfl, rfl, rfl, rfl, rfl, rfl, rfl, rfl, trivial⟩ (.cons .here (.cons .here .nil))) h3
            · refine s_gF S (b := (y11 == 0)) rfl rfl c11 rfl ?_; clear S a; intro a S
              refine s_gF S (b := (y11 == 0)) rfl rfl c11 rfl ?_; clear S a; intro a S
              refine s_pick S (b := false) (hc_of rfl c11) rfl rfl ?_; clear S a; intro a S
              refine c_end' ?_
              refine x_thenN ?_
              exact j3 _ false a w (S.sub ⟨rfl, rfl, rfl, rfl, rfl, rfl, rfl, rfl, rfl, trivial⟩ (.cons .here (.cons .here .nil))) h3
          · refine c_condF S rfl c8 ?_
            refine wp_exit ?_
            refine x_thenX ?_
            refine x_thenX ?_
            refine x_blockX ?_
            refine x_thenN ?_
            exact j2 _ y12 A6 cp17 a w (S.sub ⟨rfl, rfl, rfl, rfl, trivial⟩ (.cons .here (.cons .here .nil))) h1
  refine c_region ?_
  refine s_move S rfl rfl ?_; clear S a; intro a S
  refine c_end ?_
  rcases ite_of h1 with ⟨c12, h2⟩ | ⟨c12, h2⟩ <;> clear h1
  · refine c_condT S rfl c12 ?_
    refine c_region' ?_
    refine s_move S rfl rfl ?_; clear S a; intro a S
    refine s_bin S rfl rfl rfl rfl ?_; clear S a; intro a S
    refine s_assign S rfl rfl ?_; clear S a; intro a S
    refine c_end' ?_
    refine x_thenN ?_
    exact j1 _ (wr .u8 ((rd x1.1 0) - 64)) a w0 (S.sub ⟨rfl, rfl, rfl, trivial⟩ (.cons .here (.cons .here .nil))) h2
  · refine c_condF S rfl c12 ?_
    refine wp_skip ?_
    refine x_thenN ?_
    exact j1 _ (rd x1.1 0) a w0 (S.sub ⟨rfl, rfl, rfl, trivial⟩ (.cons .here (.cons .here .nil))) h2
end GW
