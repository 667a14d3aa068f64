/-
  Printed by a program of these sessions (wip/gw/gx.py): for each Go function a Lean function with the same answers, and the walk that shows it.
-/
import Derived.Test.YtoiopiiljblpjaaDoorProg
import Derived.Test.YtoiopiiljblpjaaDoorGD
set_option linter.unusedVariables false
set_option maxRecDepth 10000
namespace GW
open Go Go.RowKit Go.Proofs
/-! smithy/block.each[smithy/api.Word] -/
abbrev api_Word_1f26.Ty : Type := (List (List Int)) → Option ((List (Bool × (List Int) × Int)))
def api_Word_1f26.Ctr (s : api_Word_1f26.Ty) : Prop := ∀ (x1 : List (List Int)) (ch_0_0 : Option Addr) (ch_0_1 : Nat) (r : (List (Bool × (List Int) × Int))) (h0 : s x1 = some r) (mi : Mem) (w0 : World), okL mi [(.sl ch_0_0 (x1).length ch_0_1 (RdS (Ty.arr .u64 4) ch_0_0 x1)), (.v (.func (.func 26) #[] #[]))] → Pre mi [] w0 → Calls Tryd.prog 51 (([(.sl ch_0_0 (x1).length ch_0_1 (RdS (Ty.arr .u64 4) ch_0_0 x1)), (.v (.func (.func 26) #[] #[]))] : List D).map D.val).toArray w0 (RetX mi [] (fun (ch : (Option Addr) × Nat × Nat) => ((.v (.slice ch.1 ch.2.1 ch.2.2)) : D)) (fun (ch : (Option Addr) × Nat × Nat) => [Res.row (Ty.prod Ty.bool (Ty.prod (Ty.slice (Ty.int .u8)) (Ty.int .i64))) 54 ch.1 ch.2.1 ch.2.2 r]) w0)
def api_Word_1f26.j1 (y1 : List (Bool × (List Int) × Int)) : Option ((List (Bool × (List Int) × Int))) := some y1
def api_Word_1f26.b1 (k : Nat) (x1 : List (List Int)) (rec1 : (List (Bool × (List Int) × Int)) → Int → Option ((List (Bool × (List Int) × Int)))) (y4 : List (Bool × (List Int) × Int)) (y5 : Int) : Option ((List (Bool × (List Int) × Int))) := if (decide (y5 < ((x1).length : Int))) = true then (if (0 : Int) ≤ y5 ∧ y5 < ((x1).length : Int) then ((block_full.f k (gt x1 y5)).bind fun t1 => (if ((y4).length + ([(t1.1, t1.2.1, t1.2.2)]).length) * 40 ≤ 140737488355328 then (rec1 (y4 ++ [(t1.1, t1.2.1, t1.2.2)]) (wr .i64 (y5 + 1))) else none)) else none) else (api_Word_1f26.j1 y4)
def api_Word_1f26.l1 (k : Nat) (x1 : List (List Int)) : Nat → (List (Bool × (List Int) × Int)) → Int → Option ((List (Bool × (List Int) × Int)))
  | 0, _, _ => none
  | q + 1, y4, y5 => api_Word_1f26.b1 k x1 (api_Word_1f26.l1 k x1 q) y4 y5
def api_Word_1f26.f (k : Nat) (x1 : List (List Int)) : Option ((List (Bool × (List Int) × Int))) := api_Word_1f26.l1 k x1 k ([] : List (Bool × (List Int) × Int)) 0
theorem api_Word_1f26.ok (k : Nat) : api_Word_1f26.Ctr (api_Word_1f26.f k) := by
  intro x1 ch_0_0 ch_0_1 r h0 mi w0 ok hm
  delta api_Word_1f26.f at h0
  refine c_enterX (n := 22) [(.sl ch_0_0 (x1).length ch_0_1 (RdS (Ty.arr .u64 4) ch_0_0 x1)), (.v (.func (.func 26) #[] #[]))] (l := [(0, (.sl ch_0_0 (x1).length ch_0_1 (RdS (Ty.arr .u64 4) ch_0_0 x1))), (1, (.v (.func (.func 26) #[] #[])))]) Tryd.func51 rfl rfl rfl rfl ok hm ?_
  clear ok hm
  intro b0 hb a S
  refine c_region ?_
  refine s_assign S rfl rfl ?_; clear S a; intro a S
  refine c_end ?_
  refine c_region ?_
  refine s_assign S rfl rfl ?_; clear S a; intro a S
  refine c_end ?_
  refine wp_seq_k ?_
  intro K1 hK1
  have j1 : ∀ (m : Mem) (A1 : Option Addr) (nn1 : Nat) (cp1 : Nat) (y1 : List (Bool × (List Int) × Int)) (a : Act) (w : World), St 22 m b0 [(5, (.v (.slice A1 nn1 cp1)))] [Res.row (Ty.prod Ty.bool (Ty.prod (Ty.slice (Ty.int .u8)) (Ty.int .i64))) 54 A1 nn1 cp1 y1] a w → api_Word_1f26.j1 y1 = some r → K1 a w := by
    intro m A1 nn1 cp1 y1 a w S h0
    delta api_Word_1f26.j1 at h0
    refine hK1 a w ?_
    refine c_region ?_
    refine s_move S rfl rfl ?_; clear S a; intro a S
    refine s_assign S rfl rfl ?_; clear S a; intro a S
    refine c_end ?_
    refine wp_ret ?_
    obtain rfl := Option.some.inj h0
    exact b_ret1 (d := (.v (.slice A1 nn1 cp1))) S rfl rfl fun ok => S.retX (Hx := []) hb _ _ ((A1, nn1, cp1) : (Option Addr) × Nat × Nat) (.cons .here .nil) ok
  refine c_region ?_
  refine s_move S rfl rfl ?_; clear S a; intro a S
  refine s_lenS S rfl Tryd.underlying66 rfl ?_; clear S a; intro a S
  refine s_move S rfl rfl ?_; clear S a; intro a S
  refine c_end ?_
  refine wp_block ?_
  replace S := S.nilrow (Ty.prod Ty.bool (Ty.prod (Ty.slice (Ty.int .u8)) (Ty.int .i64))) 54
  refine c_loop (fun q1 a w => ∃ (m : Mem) (A2 : Option Addr) (nn3 : Nat) (cp5 : Nat) (y4 : List (Bool × (List Int) × Int)) (y5 : Int), St 22 m b0 [(5, (.v (.slice A2 nn3 cp5))), (10, (.v (.int .i64 y5))), (9, (.v (.int .i64 ((x1).length : Int)))), (8, (.sl ch_0_0 (x1).length ch_0_1 (RdS (Ty.arr .u64 4) ch_0_0 x1))), (1, (.v (.func (.func 26) #[] #[])))] [Res.row (Ty.prod Ty.bool (Ty.prod (Ty.slice (Ty.int .u8)) (Ty.int .i64))) 54 A2 nn3 cp5 y4] a w ∧ api_Word_1f26.l1 k x1 q1 y4 y5 = some r) ?_ ?_ (k := k) ⟨_, none, 0, 0, ([] : List (Bool × (List Int) × Int)), 0, (S.sub ⟨rfl, rfl, rfl, rfl, rfl, trivial⟩ (.cons .here .nil)), h0⟩
  · rintro a w ⟨m, A2, nn3, cp5, y4, y5, S, h0⟩
    exact (nomatch (show (none : Option ((List (Bool × (List Int) × Int)))) = some r from h0))
  · clear S h0
    rintro q1 a w ⟨m, A2, nn3, cp5, y4, y5, S, h0⟩
    replace h0 : api_Word_1f26.b1 k x1 (api_Word_1f26.l1 k x1 q1) y4 y5 = some r := h0
    delta api_Word_1f26.b1 at h0
    refine c_region ?_
    refine s_bin S rfl rfl rfl rfl ?_; clear S a; intro a S
    refine c_end ?_
    refine wp_seq ?_
    rcases ite_of h0 with ⟨c1, h1⟩ | ⟨c1, h1⟩ <;> clear h0
    · refine c_condT S rfl c1 ?_
      refine wp_skip ?_
      refine x_thenN ?_
      refine wp_seq ?_
      refine wp_block ?_
      refine c_region ?_
      obtain ⟨c2, h2⟩ := chk_of h1; clear h1
      refine s_iaddrS S rfl rfl rfl Tryd.underlying66 T26 c2.1 c2.2 rfl ?_; clear S a; intro p1 a S
      refine s_ldA S (fun (c : Unit) => [.ints .u64 (gt x1 y5) 4]) rfl T26 (fun _ => rfl) rfl ?_; clear S a; intro ch1 a S
      refine s_alloc S Z26 rfl ⟨rfl, trivial⟩ rfl ?_; clear S a w; intro g1 a w S
      refine s_store S rfl rfl rfl (s' := [.ints .u64 (gt x1 y5) 4]) .here T26 rfl rfl ?_; clear S w; intro w S
      refine c_end ?_
      refine c_region' ?_
      refine s_move S rfl rfl ?_; clear S a; intro a S
      refine s_move S rfl rfl ?_; clear S a; intro a S
      refine s_loada S rfl .here T26 (s' := [.ints .u64 (gt x1 y5) 4]) rfl rfl ?_; clear S a; intro a S
      obtain ⟨t1, et1, h3⟩ := bind_of h2; clear h2
      refine s_callP S (fun (ch : (Option Addr) × Nat) => ((.agg [.one (.bool t1.1), .sl ch.1 (t1.2.1).length ch.2 (RdS (Ty.int .u8) ch.1 t1.2.1), .one (.int .i64 t1.2.2)]) : D)) N26 rfl rfl (block_full.ok k (gt x1 y5) t1 et1 _ _) ?_; clear S a w; intro ch2 m le1 a w S
      refine s_bldSl S (ty' := (Ty.prod Ty.bool (Ty.prod (Ty.slice (Ty.int .u8)) (Ty.int .i64)))) (ds := [(0, (.agg [.one (.bool t1.1), .sl ch2.1 (t1.2.1).length ch2.2 (RdS (Ty.int .u8) ch2.1 t1.2.1), .one (.int .i64 t1.2.2)]))]) (z := (false, ([] : List Int), 0)) (c0 := ((), (none, 0), ())) (ys := [(t1.1, t1.2.1, t1.2.2)]) (cs := [((), (ch2.1, ch2.2), ())]) rfl Tryd.underlying51 J54 Z54 rfl ⟨rfl, ⟨Nat.le_refl _, Nat.zero_le _, RdS.nil _ _ _, RdS.mono _ _ _⟩, rfl, trivial⟩ rfl rfl rfl rfl rfl rfl ?_; clear S a w; intro g2 a w S
      obtain ⟨c3, h4⟩ := chk_of h3; clear h3
      refine s_app S (k2 := 1) (ys := [(t1.1, t1.2.1, t1.2.2)]) rfl (fun _ _ => (.there (.there .here))) rfl rfl (S.holds _ (Pull.mem .here).1).1 (Res.row.src (S.holds _ (Pull.mem .here).1)) Tryd.underlying51 J54 c3 rfl ?_; clear S a w; intro A3 cp6 a w S
      refine s_assign S rfl rfl ?_; clear S a; intro a S
      refine c_end' ?_
      refine x_blockN ?_
      refine x_thenN ?_
      refine c_region' ?_
      refine s_bin S rfl rfl rfl rfl ?_; clear S a; intro a S
      refine s_move S rfl rfl ?_; clear S a; intro a S
      refine c_end' ?_
      refine x_thenN ?_
      exact ⟨_, A3, (nn3 + 1), cp6, (y4 ++ [(t1.1, t1.2.1, t1.2.2)]), (wr .i64 (y5 + 1)), (S.sub ⟨rfl, rfl, rfl, rfl, rfl, trivial⟩ (.cons (.there (.there .here)) .nil)), h4⟩
    · refine c_condF S rfl c1 ?_
      refine wp_exit ?_
      refine x_thenX ?_
      refine x_thenX ?_
      refine x_blockX ?_
      refine x_thenN ?_
      exact j1 _ A2 nn3 cp5 y4 a w (S.sub ⟨rfl, trivial⟩ (.cons .here .nil)) h1
/-! smithy/block.logs -/
abbrev block_logs.Ty : Type := (List ((List Int) × (List (List Int)) × (List Int))) → Option ((List (Bool × (List Int) × Int)))
def block_logs.Ctr (s : block_logs.Ty) : Prop := ∀ (x1 : List ((List Int) × (List (List Int)) × (List Int))) (ch_0_0 : Option Addr) (ch_0_1 : Nat) (r : (List (Bool × (List Int) × Int))) (h0 : s x1 = some r) (mi : Mem) (w0 : World), okL mi [(.sl ch_0_0 (x1).length ch_0_1 (RdS (Ty.prod (Ty.arr .u8 20) (Ty.prod (Ty.slice (Ty.arr .u64 4)) (Ty.slice (Ty.int .u8)))) ch_0_0 x1))] → Pre mi [] w0 → Calls Tryd.prog 35 (([(.sl ch_0_0 (x1).length ch_0_1 (RdS (Ty.prod (Ty.arr .u8 20) (Ty.prod (Ty.slice (Ty.arr .u64 4)) (Ty.slice (Ty.int .u8)))) ch_0_0 x1))] : List D).map D.val).toArray w0 (RetX mi [] (fun (ch : (Option Addr) × Nat × Nat) => ((.v (.slice ch.1 ch.2.1 ch.2.2)) : D)) (fun (ch : (Option Addr) × Nat × Nat) => [Res.row (Ty.prod Ty.bool (Ty.prod (Ty.slice (Ty.int .u8)) (Ty.int .i64))) 54 ch.1 ch.2.1 ch.2.2 r]) w0)
def block_logs.j1 (k : Nat) (y1 : List (List (Bool × (List Int) × Int))) : Option ((List (Bool × (List Int) × Int))) := (block_list.f k y1).bind fun t1 => (some t1)
def block_logs.j2 (y7 : Int) (rec1 : (List (List (Bool × (List Int) × Int))) → Int → Option ((List (Bool × (List Int) × Int)))) (y8 : List (List (Bool × (List Int) × Int))) : Option ((List (Bool × (List Int) × Int))) := rec1 y8 (wr .i64 (y7 + 1))
def block_logs.b1 (k : Nat) (x1 : List ((List Int) × (List (List Int)) × (List Int))) (rec1 : (List (List (Bool × (List Int) × Int))) → Int → Option ((List (Bool × (List Int) × Int)))) (y6 : List (List (Bool × (List Int) × Int))) (y7 : Int) : Option ((List (Bool × (List Int) × Int))) := if (decide (y7 < ((x1).length : Int))) = true then (if (0 : Int) ≤ y7 ∧ y7 < ((x1).length : Int) then ((block_item.f ((((gt x1 y7).1).drop 0).take 20)).bind fun t7 => ((api_Word_1f26.f k ((gt x1 y7).2.1)).bind fun t8 => ((block_list.f k [t8]).bind fun t9 => ((block_item.f ((gt x1 y7).2.2)).bind fun t10 => ((block_list.f k [[(t7.1, t7.2.1, t7.2.2)], t9, [(t10.1, t10.2.1, t10.2.2)]]).bind fun t11 => (if ((y6).length + ([t11]).length) * 24 ≤ 140737488355328 then (block_logs.j2 y7 rec1 (y6 ++ [t11])) else none)))))) else none) else (block_logs.j1 k y6)
def block_logs.l1 (k : Nat) (x1 : List ((List Int) × (List (List Int)) × (List Int))) : Nat → (List (List (Bool × (List Int) × Int))) → Int → Option ((List (Bool × (List Int) × Int)))
  | 0, _, _ => none
  | q + 1, y6, y7 => block_logs.b1 k x1 (block_logs.l1 k x1 q) y6 y7
def block_logs.f (k : Nat) (x1 : List ((List Int) × (List (List Int)) × (List Int))) : Option ((List (Bool × (List Int) × Int))) := block_logs.l1 k x1 k ([] : List (List (Bool × (List Int) × Int))) 0
theorem block_logs.ok (k : Nat) : block_logs.Ctr (block_logs.f k) := by
  intro x1 ch_0_0 ch_0_1 r h0 mi w0 ok hm
  delta block_logs.f at h0
  refine c_enterX (n := 33) [(.sl ch_0_0 (x1).length ch_0_1 (RdS (Ty.prod (Ty.arr .u8 20) (Ty.prod (Ty.slice (Ty.arr .u64 4)) (Ty.slice (Ty.int .u8)))) ch_0_0 x1))] (l := [(0, (.sl ch_0_0 (x1).length ch_0_1 (RdS (Ty.prod (Ty.arr .u8 20) (Ty.prod (Ty.slice (Ty.arr .u64 4)) (Ty.slice (Ty.int .u8)))) ch_0_0 x1)))]) Tryd.func35 rfl rfl rfl rfl ok hm ?_
  clear ok hm
  intro b0 hb a S
  refine c_region ?_
  refine s_assign S rfl rfl ?_; clear S a; intro a S
  refine c_end ?_
  refine c_region ?_
  refine s_assign S rfl rfl ?_; clear S a; intro a S
  refine c_end ?_
  refine wp_seq_k ?_
  intro K1 hK1
  have j1 : ∀ (m : Mem) (A1 : Option Addr) (nn1 : Nat) (cp1 : Nat) (y1 : List (List (Bool × (List Int) × Int))) (a : Act) (w : World), St 33 m b0 [(3, (.v (.slice A1 nn1 cp1)))] [Res.row (Ty.slice (Ty.prod Ty.bool (Ty.prod (Ty.slice (Ty.int .u8)) (Ty.int .i64)))) 51 A1 nn1 cp1 y1] a w → block_logs.j1 k y1 = some r → K1 a w := by
    intro m A1 nn1 cp1 y1 a w S h0
    delta block_logs.j1 at h0
    refine hK1 a w ?_
    refine c_region ?_
    refine s_move S rfl rfl ?_; clear S a; intro a S
    replace S := S.rowfro .here
    obtain ⟨m, le1, S, hro⟩ := S
    replace S := S.slotro (u := 31) rfl hro
    replace S := S.slotro (u := 3) rfl hro
    obtain ⟨t1, et1, h1⟩ := bind_of h0; clear h0
    refine s_callR S (fun (ch : (Option Addr) × Nat × Nat) => ((.v (.slice ch.1 ch.2.1 ch.2.2)) : D)) (fun (ch : (Option Addr) × Nat × Nat) => Res.row (Ty.prod Ty.bool (Ty.prod (Ty.slice (Ty.int .u8)) (Ty.int .i64))) 54 ch.1 ch.2.1 ch.2.2 t1) N22 rfl rfl (block_list.ok k y1 A1 cp1 t1 et1 _ _) ?_; clear S a w; intro ch1 m le1 a w S
    refine s_assign S rfl rfl ?_; clear S a; intro a S
    refine c_end ?_
    refine wp_ret ?_
    obtain rfl := Option.some.inj h1
    exact b_ret1 (d := (.v (.slice ch1.1 ch1.2.1 ch1.2.2))) S rfl rfl fun ok => S.retX (Hx := []) hb _ _ ((ch1.1, ch1.2.1, ch1.2.2) : (Option Addr) × Nat × Nat) (.cons .here .nil) ok
  refine c_region ?_
  refine s_move S rfl rfl ?_; clear S a; intro a S
  refine s_lenS S rfl Tryd.underlying36 rfl ?_; clear S a; intro a S
  refine s_move S rfl rfl ?_; clear S a; intro a S
  refine c_end ?_
  refine wp_block ?_
  replace S := S.nilrow (Ty.slice (Ty.prod Ty.bool (Ty.prod (Ty.slice (Ty.int .u8)) (Ty.int .i64)))) 51
  refine c_loop (fun q1 a w => ∃ (m : Mem) (A2 : Option Addr) (nn3 : Nat) (cp7 : Nat) (y6 : List (List (Bool × (List Int) × Int))) (y7 : Int), St 33 m b0 [(3, (.v (.slice A2 nn3 cp7))), (8, (.v (.int .i64 y7))), (7, (.v (.int .i64 ((x1).length : Int)))), (6, (.sl ch_0_0 (x1).length ch_0_1 (RdS (Ty.prod (Ty.arr .u8 20) (Ty.prod (Ty.slice (Ty.arr .u64 4)) (Ty.slice (Ty.int .u8)))) ch_0_0 x1)))] [Res.row (Ty.slice (Ty.prod Ty.bool (Ty.prod (Ty.slice (Ty.int .u8)) (Ty.int .i64)))) 51 A2 nn3 cp7 y6] a w ∧ block_logs.l1 k x1 q1 y6 y7 = some r) ?_ ?_ (k := k) ⟨_, none, 0, 0, ([] : List (List (Bool × (List Int) × Int))), 0, (S.sub ⟨rfl, rfl, rfl, rfl, trivial⟩ (.cons .here .nil)), h0⟩
  · rintro a w ⟨m, A2, nn3, cp7, y6, y7, S, h0⟩
    exact (nomatch (show (none : Option ((List (Bool × (List Int) × Int)))) = some r from h0))
  · clear S h0
    rintro q1 a w ⟨m, A2, nn3, cp7, y6, y7, S, h0⟩
    replace h0 : block_logs.b1 k x1 (block_logs.l1 k x1 q1) y6 y7 = some r := h0
    delta block_logs.b1 at h0
    refine c_region ?_
    refine s_bin S rfl rfl rfl rfl ?_; clear S a; intro a S
    refine c_end ?_
    refine wp_seq ?_
    rcases ite_of h0 with ⟨c1, h1⟩ | ⟨c1, h1⟩ <;> clear h0
    · refine c_condT S rfl c1 ?_
      refine wp_skip ?_
      refine x_thenN ?_
      refine wp_seq_k ?_
      intro K2 hK2
      have j2 : ∀ (m : Mem) (A3 : Option Addr) (cp9 : Nat) (y8 : List (List (Bool × (List Int) × Int))) (a : Act) (w : World), St 33 m b0 [(3, (.v (.slice A3 (nn3 + 1) cp9))), (8, (.v (.int .i64 y7))), (7, (.v (.int .i64 ((x1).length : Int)))), (6, (.sl ch_0_0 (x1).length ch_0_1 (RdS (Ty.prod (Ty.arr .u8 20) (Ty.prod (Ty.slice (Ty.arr .u64 4)) (Ty.slice (Ty.int .u8)))) ch_0_0 x1)))] [Res.row (Ty.slice (Ty.prod Ty.bool (Ty.prod (Ty.slice (Ty.int .u8)) (Ty.int .i64)))) 51 A3 (nn3 + 1) cp9 y8] a w → block_logs.j2 y7 (block_logs.l1 k x1 q1) y8 = some r → K2 a w := by
        intro m A3 cp9 y8 a w S h0
        delta block_logs.j2 at h0
        refine hK2 a w ?_
        refine c_region' ?_
        refine s_bin S rfl rfl rfl rfl ?_; clear S a; intro a S
        refine s_move S rfl rfl ?_; clear S a; intro a S
        refine c_end' ?_
        refine x_thenN ?_
        exact ⟨_, A3, (nn3 + 1), cp9, y8, (wr .i64 (y7 + 1)), (S.sub ⟨rfl, rfl, rfl, rfl, trivial⟩ (.cons .here .nil)), h0⟩
      refine wp_block ?_
      refine c_region ?_
      obtain ⟨c2, h2⟩ := chk_of h1; clear h1
      refine s_iaddrS S rfl rfl rfl Tryd.underlying36 T68 c2.1 c2.2 rfl ?_; clear S a; intro p1 a S
      refine s_ldA S (fun (c : Unit × (Option Addr × Nat) × (Option Addr × Nat)) => [.ints .u8 ((gt x1 y7).1) 20, .sl c.2.1.1 ((gt x1 y7).2.1).length c.2.1.2 (RdS (Ty.arr .u64 4) c.2.1.1 ((gt x1 y7).2.1)), .sl c.2.2.1 ((gt x1 y7).2.2).length c.2.2.2 (RdS (Ty.int .u8) c.2.2.1 ((gt x1 y7).2.2))]) rfl T68 (fun _ => rfl) rfl ?_; clear S a; intro ch8 a S
      refine s_alloc S Z68 rfl ⟨rfl, rfl, rfl, trivial⟩ rfl ?_; clear S a w; intro g1 a w S
      refine s_store S rfl rfl rfl (s' := [.ints .u8 ((gt x1 y7).1) 20, .sl ch8.2.1.1 ((gt x1 y7).2.1).length ch8.2.1.2 (RdS (Ty.arr .u64 4) ch8.2.1.1 ((gt x1 y7).2.1)), .sl ch8.2.2.1 ((gt x1 y7).2.2).length ch8.2.2.2 (RdS (Ty.int .u8) ch8.2.2.1 ((gt x1 y7).2.2))]) .here T68 rfl rfl ?_; clear S w; intro w S
      refine c_end ?_
      replace S := S.freeze .here
      obtain ⟨m, le1, S⟩ := S
      refine c_heldS S (.take 0 (.take 1 (.take 2 (.take 5 (.take 6 (.take 10 (.take 11 (.alts (.run 3 true (.alts (.run 4 true (.alts (.run 7 true (.alts (.run 8 true (.alts (.run 9 true (.alts (.run 12 true (.alts (.run 13 true (.alts (.run 14 true (.alts (.run 15 true (.alts (.run 16 true (.alts (.run 17 false (.alts (.run 18 false .done .nil)) .nil)) .nil)) .nil)) .nil)) .nil)) .nil)) .nil)) .nil)) .nil)) (.run 7 true (.alts (.run 4 true (.alts (.run 8 true (.alts (.run 9 true (.alts (.run 12 true (.alts (.run 13 true (.alts (.run 14 true (.alts (.run 15 true (.alts (.run 16 true (.alts (.run 17 false (.alts (.run 18 false .done .nil)) .nil)) .nil)) .nil)) .nil)) .nil)) .nil)) .nil)) .nil)) (.run 8 true (.alts (.run 4 true (.alts (.run 9 true (.alts (.run 12 true (.alts (.run 13 true (.alts (.run 14 true (.alts (.run 15 true (.alts (.run 16 true (.alts (.run 17 false (.alts (.run 18 false .done .nil)) .nil)) .nil)) .nil)) .nil)) .nil)) .nil)) .nil)) (.run 9 true (.alts (.run 4 true (.alts (.run 12 true (.alts (.run 13 true (.alts (.run 14 true (.alts (.run 15 true (.alts (.run 16 true (.alts (.run 17 false (.alts (.run 18 false .done .nil)) .nil)) .nil)) .nil)) .nil)) .nil)) .nil)) (.run 12 true (.alts (.run 4 true (.alts (.run 13 true (.alts (.run 14 true (.alts (.run 15 true (.alts (.run 16 true (.alts (.run 17 false (.alts (.run 18 false .done .nil)) .nil)) .nil)) .nil)) .nil)) .nil)) (.run 13 true (.alts (.run 4 true (.alts (.run 14 true (.alts (.run 15 true (.alts (.run 16 true (.alts (.run 17 false (.alts (.run 18 false .done .nil)) .nil)) .nil)) .nil)) .nil)) .nil)) .nil))) .nil))) .nil))) .nil))) .nil))) .nil))))))))) 17 [Res.fro g1 68 [.ints .u8 ((gt x1 y7).1) 20, .sl ch8.2.1.1 ((gt x1 y7).2.1).length ch8.2.1.2 (RdS (Ty.arr .u64 4) ch8.2.1.1 ((gt x1 y7).2.1)), .sl ch8.2.2.1 ((gt x1 y7).2.2).length ch8.2.2.2 (RdS (Ty.int .u8) ch8.2.2.1 ((gt x1 y7).2.2))]] (.cons .here .nil) ⟨Res.stay_fro, trivial⟩ [(5, (.v (.pointer (some ⟨g1, 0, none⟩)))), (3, (.v (.slice A2 nn3 cp7)))] ⟨rfl, rfl, trivial⟩ (by kernel_rfl) (by kernel_rfl) ?_; clear S; intro w S CL hw le
      refine h_move S CL hw le ⟨rfl, rfl, trivial⟩ rfl rfl rfl trivial ?_; clear S CL a; intro a S CL
      refine h_fieldAddr S CL hw le ⟨rfl, rfl, rfl, trivial⟩ rfl I68_0 T28 (by decide) rfl rfl rfl trivial ?_; clear S CL a; intro a S CL
      refine h_sliceA S CL hw le ⟨rfl, rfl, rfl, rfl, trivial⟩ (i := 0) (j := 20) (o' := 0) (len := 20) (cap := 20) rfl Tryd.underlying28 T5 (.inl ⟨rfl, rfl⟩) (.inl ⟨rfl, rfl⟩) (by decide) rfl rfl rfl rfl rfl trivial ?_; clear S CL a; intro a S CL
      refine h_fieldAddr S CL hw le ⟨rfl, rfl, rfl, rfl, rfl, trivial⟩ rfl I68_1 T66 (by decide) rfl rfl rfl trivial ?_; clear S CL a; intro a S CL
      refine h_loadSlF S CL hw le ⟨rfl, rfl, rfl, rfl, rfl, rfl, trivial⟩ rfl .here T66 (A := ch8.2.1.1) (len := ((gt x1 y7).2.1).length) (cap := ch8.2.1.2) rfl rfl rfl trivial ?_; clear S CL a; intro a S CL
      refine h_fieldAddr S CL hw le ⟨rfl, rfl, rfl, rfl, rfl, rfl, rfl, trivial⟩ rfl I68_2 T37 (by decide) rfl rfl rfl trivial ?_; clear S CL a; intro a S CL
      refine h_loadSlF S CL hw le ⟨rfl, rfl, rfl, rfl, rfl, rfl, rfl, rfl, trivial⟩ rfl .here T37 (A := ch8.2.2.1) (len := ((gt x1 y7).2.2).length) (cap := ch8.2.2.2) rfl rfl rfl trivial ?_; clear S CL a; intro a S CL
      refine h_run' S rfl trivial ?_
      replace S := (S.slup' (u := 14) (lo := 0) (c := 20) (ys := (((gt x1 y7).1).drop 0).take 20) rfl (Pull.mem .here).1 .here (.inl rfl) (by decide) (by decide) rfl).2
      replace CL := CL.drop (lq' := [(23, (.sl ch8.2.2.1 ((gt x1 y7).2.2).length ch8.2.2.2 (RdS (Ty.int .u8) ch8.2.2.1 ((gt x1 y7).2.2)))), (22, (.v (.pointer (some ⟨g1, 21, none⟩)))), (18, (.sl ch8.2.1.1 ((gt x1 y7).2.1).length ch8.2.1.2 (RdS (Ty.arr .u64 4) ch8.2.1.1 ((gt x1 y7).2.1)))), (17, (.v (.pointer (some ⟨g1, 20, none⟩)))), (13, (.v (.pointer (some ⟨g1, 0, none⟩)))), (12, (.v (.slice A2 nn3 cp7))), (5, (.v (.pointer (some ⟨g1, 0, none⟩)))), (3, (.v (.slice A2 nn3 cp7)))]) ⟨rfl, rfl, rfl, rfl, rfl, rfl, rfl, rfl, trivial⟩
      obtain ⟨t7, et7, h3⟩ := bind_of h2; clear h2
      refine s_callP S (fun (ch : (Option Addr) × Nat) => ((.agg [.one (.bool t7.1), .sl ch.1 (t7.2.1).length ch.2 (RdS (Ty.int .u8) ch.1 t7.2.1), .one (.int .i64 t7.2.2)]) : D)) N23 rfl rfl (block_item.ok ((((gt x1 y7).1).drop 0).take 20) (some ⟨g1, 0, none⟩) 20 t7 et7 _ _) ?_; clear S a; intro ch9 m le1 a w S
      replace le := le.trans le1
      replace hw := CL.again hw S (.cons .here .nil) le
      refine h_back ⟨fun _ => hw, ?_⟩
      obtain ⟨t8, et8, h4⟩ := bind_of h3; clear h3
      obtain ⟨t9, et9, h5⟩ := bind_of h4; clear h4
      obtain ⟨t10, et10, h6⟩ := bind_of h5; clear h5
      obtain ⟨t11, et11, h7⟩ := bind_of h6; clear h6
      obtain ⟨c3, h8⟩ := chk_of h7; clear h7
      refine h_alts ?_
      refine h_runO S rfl trivial ?_ ?_
      · refine s_bldSl S (ty' := (Ty.prod Ty.bool (Ty.prod (Ty.slice (Ty.int .u8)) (Ty.int .i64)))) (ds := [(0, (.agg [.one (.bool t7.1), .sl ch9.1 (t7.2.1).length ch9.2 (RdS (Ty.int .u8) ch9.1 t7.2.1), .one (.int .i64 t7.2.2)]))]) (z := (false, ([] : List Int), 0)) (c0 := ((), (none, 0), ())) (ys := [(t7.1, t7.2.1, t7.2.2)]) (cs := [((), (ch9.1, ch9.2), ())]) rfl Tryd.underlying51 J54 Z54 rfl ⟨rfl, ⟨Nat.le_refl _, Nat.zero_le _, RdS.nil _ _ _, RdS.mono _ _ _⟩, rfl, trivial⟩ rfl rfl rfl rfl rfl rfl ?_; clear S a; intro g2 a w S
        replace hw := CL.again hw S (.cons (.there .here) .nil) le
        refine h_back ⟨fun _ => hw, ?_⟩
        refine h_run' S rfl trivial ?_
        refine s_callR S (fun (ch : (Option Addr) × Nat × Nat) => ((.v (.slice ch.1 ch.2.1 ch.2.2)) : D)) (fun (ch : (Option Addr) × Nat × Nat) => Res.row (Ty.prod Ty.bool (Ty.prod (Ty.slice (Ty.int .u8)) (Ty.int .i64))) 54 ch.1 ch.2.1 ch.2.2 t8) N51 rfl rfl (api_Word_1f26.ok k ((gt x1 y7).2.1) ch8.2.1.1 ch8.2.1.2 t8 et8 _ _) ?_; clear S a; intro ch10 m le1 a w S
        replace le := le.trans le1
        replace hw := CL.again hw S (.cons (.there (.there .here)) .nil) le
        refine h_back ⟨fun _ => hw, ?_⟩
        refine h_run' S rfl trivial ?_
        replace S := S.rowfro .here
        obtain ⟨m, le1, S, hro⟩ := S
        replace le := le.trans le1
        replace S := S.slotro (u := 19) rfl hro
        refine s_bldSl S (ty' := (Ty.slice (Ty.prod Ty.bool (Ty.prod (Ty.slice (Ty.int .u8)) (Ty.int .i64))))) (ds := [(0, (.sl ch10.1 (t8).length ch10.2.2 (RdS (Ty.prod Ty.bool (Ty.prod (Ty.slice (Ty.int .u8)) (Ty.int .i64))) ch10.1 t8)))]) (z := ([] : List (Bool × (List Int) × Int))) (c0 := (none, 0)) (ys := [t8]) (cs := [(ch10.1, ch10.2.2)]) rfl Tryd.underlying76 J51 Z51 rfl ⟨⟨Nat.le_refl _, Nat.zero_le _, RdS.nil _ _ _, RdS.mono _ _ _⟩, trivial⟩ rfl rfl rfl rfl rfl rfl ?_; clear S a; intro g3 a w S
        replace hw := CL.again hw S (.cons (.there (.there .here)) .nil) le
        refine h_back ⟨fun _ => hw, ?_⟩
        refine h_run' S rfl trivial ?_
        replace S := S.rowfro .here
        obtain ⟨m, le1, S, hro⟩ := S
        replace le := le.trans le1
        replace S := S.slotro (u := 20) rfl hro
        refine s_callR S (fun (ch : (Option Addr) × Nat × Nat) => ((.v (.slice ch.1 ch.2.1 ch.2.2)) : D)) (fun (ch : (Option Addr) × Nat × Nat) => Res.row (Ty.prod Ty.bool (Ty.prod (Ty.slice (Ty.int .u8)) (Ty.int .i64))) 54 ch.1 ch.2.1 ch.2.2 t9) N22 rfl rfl (block_list.ok k [t8] (some ⟨g3, 0, none⟩) 1 t9 et9 _ _) ?_; clear S a; intro ch11 m le1 a w S
        replace le := le.trans le1
        replace hw := CL.again hw S (.cons (.there (.there .here)) .nil) le
        refine h_back ⟨fun _ => hw, ?_⟩
        refine h_run' S rfl trivial ?_
        refine s_callP S (fun (ch : (Option Addr) × Nat) => ((.agg [.one (.bool t10.1), .sl ch.1 (t10.2.1).length ch.2 (RdS (Ty.int .u8) ch.1 t10.2.1), .one (.int .i64 t10.2.2)]) : D)) N23 rfl rfl (block_item.ok ((gt x1 y7).2.2) ch8.2.2.1 ch8.2.2.2 t10 et10 _ _) ?_; clear S a; intro ch12 m le1 a w S
        replace le := le.trans le1
        replace hw := CL.again hw S (.cons (.there (.there .here)) .nil) le
        refine h_back ⟨fun _ => hw, ?_⟩
        refine h_run' S rfl trivial ?_
        refine s_bldSl S (ty' := (Ty.prod Ty.bool (Ty.prod (Ty.slice (Ty.int .u8)) (Ty.int .i64)))) (ds := [(0, (.agg [.one (.bool t10.1), .sl ch12.1 (t10.2.1).length ch12.2 (RdS (Ty.int .u8) ch12.1 t10.2.1), .one (.int .i64 t10.2.2)]))]) (z := (false, ([] : List Int), 0)) (c0 := ((), (none, 0), ())) (ys := [(t10.1, t10.2.1, t10.2.2)]) (cs := [((), (ch12.1, ch12.2), ())]) rfl Tryd.underlying51 J54 Z54 rfl ⟨rfl, ⟨Nat.le_refl _, Nat.zero_le _, RdS.nil _ _ _, RdS.mono _ _ _⟩, rfl, trivial⟩ rfl rfl rfl rfl rfl rfl ?_; clear S a; intro g4 a w S
        replace hw := CL.again hw S (.cons (.there (.there (.there .here))) .nil) le
        refine h_back ⟨fun _ => hw, ?_⟩
        refine h_run' S rfl trivial ?_
        replace S := S.rowfro (.there (.there .here))
        obtain ⟨m, le1, S, hro⟩ := S
        replace le := le.trans le1
        replace S := S.slotro (u := 16) rfl hro
        replace S := S.rowfro (.there .here)
        obtain ⟨m, le1, S, hro⟩ := S
        replace le := le.trans le1
        replace S := S.slotro (u := 21) rfl hro
        replace S := S.rowfro .here
        obtain ⟨m, le1, S, hro⟩ := S
        replace le := le.trans le1
        replace S := S.slotro (u := 25) rfl hro
        refine s_bldSl S (ty' := (Ty.slice (Ty.prod Ty.bool (Ty.prod (Ty.slice (Ty.int .u8)) (Ty.int .i64))))) (ds := [(0, (.sl (some ⟨g2, 0, none⟩) ([(t7.1, t7.2.1, t7.2.2)]).length 1 (RdS (Ty.prod Ty.bool (Ty.prod (Ty.slice (Ty.int .u8)) (Ty.int .i64))) (some ⟨g2, 0, none⟩) [(t7.1, t7.2.1, t7.2.2)]))), (1, (.sl ch11.1 (t9).length ch11.2.2 (RdS (Ty.prod Ty.bool (Ty.prod (Ty.slice (Ty.int .u8)) (Ty.int .i64))) ch11.1 t9))), (2, (.sl (some ⟨g4, 0, none⟩) ([(t10.1, t10.2.1, t10.2.2)]).length 1 (RdS (Ty.prod Ty.bool (Ty.prod (Ty.slice (Ty.int .u8)) (Ty.int .i64))) (some ⟨g4, 0, none⟩) [(t10.1, t10.2.1, t10.2.2)])))]) (z := ([] : List (Bool × (List Int) × Int))) (c0 := (none, 0)) (ys := [[(t7.1, t7.2.1, t7.2.2)], t9, [(t10.1, t10.2.1, t10.2.2)]]) (cs := [((some ⟨g2, 0, none⟩), 1), (ch11.1, ch11.2.2), ((some ⟨g4, 0, none⟩), 1)]) rfl Tryd.underlying76 J51 Z51 rfl ⟨⟨Nat.le_refl _, Nat.zero_le _, RdS.nil _ _ _, RdS.mono _ _ _⟩, trivial⟩ rfl rfl rfl rfl rfl rfl ?_; clear S a; intro g5 a w S
        replace hw := CL.again hw S (.cons (.there .here) .nil) le
        refine h_back ⟨fun _ => hw, ?_⟩
        refine h_run' S rfl trivial ?_
        replace S := S.rowfro .here
        obtain ⟨m, le1, S, hro⟩ := S
        replace le := le.trans le1
        replace S := S.slotro (u := 26) rfl hro
        refine s_callR S (fun (ch : (Option Addr) × Nat × Nat) => ((.v (.slice ch.1 ch.2.1 ch.2.2)) : D)) (fun (ch : (Option Addr) × Nat × Nat) => Res.row (Ty.prod Ty.bool (Ty.prod (Ty.slice (Ty.int .u8)) (Ty.int .i64))) 54 ch.1 ch.2.1 ch.2.2 t11) N22 rfl rfl (block_list.ok k [[(t7.1, t7.2.1, t7.2.2)], t9, [(t10.1, t10.2.1, t10.2.2)]] (some ⟨g5, 0, none⟩) 3 t11 et11 _ _) ?_; clear S a; intro ch13 m le1 a w S
        replace le := le.trans le1
        replace hw := CL.again hw S (.cons (.there .here) .nil) le
        refine h_back ⟨fun _ => hw, ?_⟩
        refine h_run' S rfl trivial ?_
        replace S := S.rowfro .here
        obtain ⟨m, le1, S, hro⟩ := S
        replace le := le.trans le1
        replace S := S.slotro (u := 27) rfl hro
        refine s_bldSl S (ty' := (Ty.slice (Ty.prod Ty.bool (Ty.prod (Ty.slice (Ty.int .u8)) (Ty.int .i64))))) (ds := [(0, (.sl ch13.1 (t11).length ch13.2.2 (RdS (Ty.prod Ty.bool (Ty.prod (Ty.slice (Ty.int .u8)) (Ty.int .i64))) ch13.1 t11)))]) (z := ([] : List (Bool × (List Int) × Int))) (c0 := (none, 0)) (ys := [t11]) (cs := [(ch13.1, ch13.2.2)]) rfl Tryd.underlying76 J51 Z51 rfl ⟨⟨Nat.le_refl _, Nat.zero_le _, RdS.nil _ _ _, RdS.mono _ _ _⟩, trivial⟩ rfl rfl rfl rfl rfl rfl ?_; clear S a; intro g6 a w S
        replace hw := CL.again hw S (.cons (.there .here) .nil) le
        refine h_back ⟨fun _ => hw, ?_⟩
        refine h_run' S rfl trivial ?_
        refine s_app S (k2 := 1) (ys := [t11]) rfl (fun _ _ => (.there (.there .here))) rfl rfl (S.holds _ (Pull.mem .here).1).1 (Res.row.src (S.holds _ (Pull.mem .here).1)) Tryd.underlying76 J51 c3 rfl ?_; clear S a; intro A4 cp10 a w S
        refine h_back ⟨fun h => (nomatch h), ?_⟩
        refine h_run' S rfl trivial ?_
        refine s_assign S rfl rfl ?_; clear S a; intro a S
        refine h_back ⟨fun h => (nomatch h), ?_⟩
        replace CL := CL.drop (lq' := [(23, (.sl ch8.2.2.1 ((gt x1 y7).2.2).length ch8.2.2.2 (RdS (Ty.int .u8) ch8.2.2.1 ((gt x1 y7).2.2)))), (22, (.v (.pointer (some ⟨g1, 21, none⟩)))), (18, (.sl ch8.2.1.1 ((gt x1 y7).2.1).length ch8.2.1.2 (RdS (Ty.arr .u64 4) ch8.2.1.1 ((gt x1 y7).2.1)))), (17, (.v (.pointer (some ⟨g1, 20, none⟩)))), (13, (.v (.pointer (some ⟨g1, 0, none⟩)))), (12, (.v (.slice A2 nn3 cp7))), (5, (.v (.pointer (some ⟨g1, 0, none⟩))))]) ⟨rfl, rfl, rfl, rfl, rfl, rfl, rfl, trivial⟩
        refine h_done ?_; clear CL hw le
        refine x_blockN ?_
        refine x_thenN ?_
        exact j2 _ A4 cp10 (y6 ++ [t11]) a w (S.sub ⟨rfl, rfl, rfl, rfl, trivial⟩ (.cons (.there (.there .here)) .nil)) h8
      refine h_runO S rfl trivial ?_ ?_
      · refine s_callR S (fun (ch : (Option Addr) × Nat × Nat) => ((.v (.slice ch.1 ch.2.1 ch.2.2)) : D)) (fun (ch : (Option Addr) × Nat × Nat) => Res.row (Ty.prod Ty.bool (Ty.prod (Ty.slice (Ty.int .u8)) (Ty.int .i64))) 54 ch.1 ch.2.1 ch.2.2 t8) N51 rfl rfl (api_Word_1f26.ok k ((gt x1 y7).2.1) ch8.2.1.1 ch8.2.1.2 t8 et8 _ _) ?_; clear S a; intro ch10 m le1 a w S
        replace le := le.trans le1
        replace hw := CL.again hw S (.cons (.there .here) .nil) le
        refine h_back ⟨fun _ => hw, ?_⟩
        refine h_alts ?_
        refine h_runO S rfl trivial ?_ ?_
        · refine s_bldSl S (ty' := (Ty.prod Ty.bool (Ty.prod (Ty.slice (Ty.int .u8)) (Ty.int .i64)))) (ds := [(0, (.agg [.one (.bool t7.1), .sl ch9.1 (t7.2.1).length ch9.2 (RdS (Ty.int .u8) ch9.1 t7.2.1), .one (.int .i64 t7.2.2)]))]) (z := (false, ([] : List Int), 0)) (c0 := ((), (none, 0), ())) (ys := [(t7.1, t7.2.1, t7.2.2)]) (cs := [((), (ch9.1, ch9.2), ())]) rfl Tryd.underlying51 J54 Z54 rfl ⟨rfl, ⟨Nat.le_refl _, Nat.zero_le _, RdS.nil _ _ _, RdS.mono _ _ _⟩, rfl, trivial⟩ rfl rfl rfl rfl rfl rfl ?_; clear S a; intro g2 a w S
          replace hw := CL.again hw S (.cons (.there (.there .here)) .nil) le
          refine h_back ⟨fun _ => hw, ?_⟩
          refine h_run' S rfl trivial ?_
          replace S := S.rowfro (.there .here)
          obtain ⟨m, le1, S, hro⟩ := S
          replace le := le.trans le1
          replace S := S.slotro (u := 19) rfl hro
          refine s_bldSl S (ty' := (Ty.slice (Ty.prod Ty.bool (Ty.prod (Ty.slice (Ty.int .u8)) (Ty.int .i64))))) (ds := [(0, (.sl ch10.1 (t8).length ch10.2.2 (RdS (Ty.prod Ty.bool (Ty.prod (Ty.slice (Ty.int .u8)) (Ty.int .i64))) ch10.1 t8)))]) (z := ([] : List (Bool × (List Int) × Int))) (c0 := (none, 0)) (ys := [t8]) (cs := [(ch10.1, ch10.2.2)]) rfl Tryd.underlying76 J51 Z51 rfl ⟨⟨Nat.le_refl _, Nat.zero_le _, RdS.nil _ _ _, RdS.mono _ _ _⟩, trivial⟩ rfl rfl rfl rfl rfl rfl ?_; clear S a; intro g3 a w S
          replace hw := CL.again hw S (.cons (.there (.there .here)) .nil) le
          refine h_back ⟨fun _ => hw, ?_⟩
          refine h_run' S rfl trivial ?_
          replace S := S.rowfro .here
          obtain ⟨m, le1, S, hro⟩ := S
          replace le := le.trans le1
          replace S := S.slotro (u := 20) rfl hro
          refine s_callR S (fun (ch : (Option Addr) × Nat × Nat) => ((.v (.slice ch.1 ch.2.1 ch.2.2)) : D)) (fun (ch : (Option Addr) × Nat × Nat) => Res.row (Ty.prod Ty.bool (Ty.prod (Ty.slice (Ty.int .u8)) (Ty.int .i64))) 54 ch.1 ch.2.1 ch.2.2 t9) N22 rfl rfl (block_list.ok k [t8] (some ⟨g3, 0, none⟩) 1 t9 et9 _ _) ?_; clear S a; intro ch11 m le1 a w S
          replace le := le.trans le1
          replace hw := CL.again hw S (.cons (.there (.there .here)) .nil) le
          refine h_back ⟨fun _ => hw, ?_⟩
          refine h_run' S rfl trivial ?_
          refine s_callP S (fun (ch : (Option Addr) × Nat) => ((.agg [.one (.bool t10.1), .sl ch.1 (t10.2.1).length ch.2 (RdS (Ty.int .u8) ch.1 t10.2.1), .one (.int .i64 t10.2.2)]) : D)) N23 rfl rfl (block_item.ok ((gt x1 y7).2.2) ch8.2.2.1 ch8.2.2.2 t10 et10 _ _) ?_; clear S a; intro ch12 m le1 a w S
          replace le := le.trans le1
          replace hw := CL.again hw S (.cons (.there (.there .here)) .nil) le
          refine h_back ⟨fun _ => hw, ?_⟩
          refine h_run' S rfl trivial ?_
          refine s_bldSl S (ty' := (Ty.prod Ty.bool (Ty.prod (Ty.slice (Ty.int .u8)) (Ty.int .i64)))) (ds := [(0, (.agg [.one (.bool t10.1), .sl ch12.1 (t10.2.1).length ch12.2 (RdS (Ty.int .u8) ch12.1 t10.2.1), .one (.int .i64 t10.2.2)]))]) (z := (false, ([] : List Int), 0)) (c0 := ((), (none, 0), ())) (ys := [(t10.1, t10.2.1, t10.2.2)]) (cs := [((), (ch12.1, ch12.2), ())]) rfl Tryd.underlying51 J54 Z54 rfl ⟨rfl, ⟨Nat.le_refl _, Nat.zero_le _, RdS.nil _ _ _, RdS.mono _ _ _⟩, rfl, trivial⟩ rfl rfl rfl rfl rfl rfl ?_; clear S a; intro g4 a w S
          replace hw := CL.again hw S (.cons (.there (.there (.there .here))) .nil) le
          refine h_back ⟨fun _ => hw, ?_⟩
          refine h_run' S rfl trivial ?_
          replace S := S.rowfro (.there (.there .here))
          obtain ⟨m, le1, S, hro⟩ := S
          replace le := le.trans le1
          replace S := S.slotro (u := 16) rfl hro
          replace S := S.rowfro (.there .here)
          obtain ⟨m, le1, S, hro⟩ := S
          replace le := le.trans le1
          replace S := S.slotro (u := 21) rfl hro
          replace S := S.rowfro .here
          obtain ⟨m, le1, S, hro⟩ := S
          replace le := le.trans le1
          replace S := S.slotro (u := 25) rfl hro
          refine s_bldSl S (ty' := (Ty.slice (Ty.prod Ty.bool (Ty.prod (Ty.slice (Ty.int .u8)) (Ty.int .i64))))) (ds := [(0, (.sl (some ⟨g2, 0, none⟩) ([(t7.1, t7.2.1, t7.2.2)]).length 1 (RdS (Ty.prod Ty.bool (Ty.prod (Ty.slice (Ty.int .u8)) (Ty.int .i64))) (some ⟨g2, 0, none⟩) [(t7.1, t7.2.1, t7.2.2)]))), (1, (.sl ch11.1 (t9).length ch11.2.2 (RdS (Ty.prod Ty.bool (Ty.prod (Ty.slice (Ty.int .u8)) (Ty.int .i64))) ch11.1 t9))), (2, (.sl (some ⟨g4, 0, none⟩) ([(t10.1, t10.2.1, t10.2.2)]).length 1 (RdS (Ty.prod Ty.bool (Ty.prod (Ty.slice (Ty.int .u8)) (Ty.int .i64))) (some ⟨g4, 0, none⟩) [(t10.1, t10.2.1, t10.2.2)])))]) (z := ([] : List (Bool × (List Int) × Int))) (c0 := (none, 0)) (ys := [[(t7.1, t7.2.1, t7.2.2)], t9, [(t10.1, t10.2.1, t10.2.2)]]) (cs := [((some ⟨g2, 0, none⟩), 1), (ch11.1, ch11.2.2), ((some ⟨g4, 0, none⟩), 1)]) rfl Tryd.underlying76 J51 Z51 rfl ⟨⟨Nat.le_refl _, Nat.zero_le _, RdS.nil _ _ _, RdS.mono _ _ _⟩, trivial⟩ rfl rfl rfl rfl rfl rfl ?_; clear S a; intro g5 a w S
          replace hw := CL.again hw S (.cons (.there .here) .nil) le
          refine h_back ⟨fun _ => hw, ?_⟩
          refine h_run' S rfl trivial ?_
          replace S := S.rowfro .here
          obtain ⟨m, le1, S, hro⟩ := S
          replace le := le.trans le1
          replace S := S.slotro (u := 26) rfl hro
          refine s_callR S (fun (ch : (Option Addr) × Nat × Nat) => ((.v (.slice ch.1 ch.2.1 ch.2.2)) : D)) (fun (ch : (Option Addr) × Nat × Nat) => Res.row (Ty.prod Ty.bool (Ty.prod (Ty.slice (Ty.int .u8)) (Ty.int .i64))) 54 ch.1 ch.2.1 ch.2.2 t11) N22 rfl rfl (block_list.ok k [[(t7.1, t7.2.1, t7.2.2)], t9, [(t10.1, t10.2.1, t10.2.2)]] (some ⟨g5, 0, none⟩) 3 t11 et11 _ _) ?_; clear S a; intro ch13 m le1 a w S
          replace le := le.trans le1
          replace hw := CL.again hw S (.cons (.there .here) .nil) le
          refine h_back ⟨fun _ => hw, ?_⟩
          refine h_run' S rfl trivial ?_
          replace S := S.rowfro .here
          obtain ⟨m, le1, S, hro⟩ := S
          replace le := le.trans le1
          replace S := S.slotro (u := 27) rfl hro
          refine s_bldSl S (ty' := (Ty.slice (Ty.prod Ty.bool (Ty.prod (Ty.slice (Ty.int .u8)) (Ty.int .i64))))) (ds := [(0, (.sl ch13.1 (t11).length ch13.2.2 (RdS (Ty.prod Ty.bool (Ty.prod (Ty.slice (Ty.int .u8)) (Ty.int .i64))) ch13.1 t11)))]) (z := ([] : List (Bool × (List Int) × Int))) (c0 := (none, 0)) (ys := [t11]) (cs := [(ch13.1, ch13.2.2)]) rfl Tryd.underlying76 J51 Z51 rfl ⟨⟨Nat.le_refl _, Nat.zero_le _, RdS.nil _ _ _, RdS.mono _ _ _⟩, trivial⟩ rfl rfl rfl rfl rfl rfl ?_; clear S a; intro g6 a w S
          replace hw := CL.again hw S (.cons (.there .here) .nil) le
          refine h_back ⟨fun _ => hw, ?_⟩
          refine h_run' S rfl trivial ?_
          refine s_app S (k2 := 1) (ys := [t11]) rfl (fun _ _ => (.there (.there .here))) rfl rfl (S.holds _ (Pull.mem .here).1).1 (Res.row.src (S.holds _ (Pull.mem .here).1)) Tryd.underlying76 J51 c3 rfl ?_; clear S a; intro A4 cp10 a w S
          refine h_back ⟨fun h => (nomatch h), ?_⟩
          refine h_run' S rfl trivial ?_
          refine s_assign S rfl rfl ?_; clear S a; intro a S
          refine h_back ⟨fun h => (nomatch h), ?_⟩
          replace CL := CL.drop (lq' := [(23, (.sl ch8.2.2.1 ((gt x1 y7).2.2).length ch8.2.2.2 (RdS (Ty.int .u8) ch8.2.2.1 ((gt x1 y7).2.2)))), (22, (.v (.pointer (some ⟨g1, 21, none⟩)))), (18, (.sl ch8.2.1.1 ((gt x1 y7).2.1).length ch8.2.1.2 (RdS (Ty.arr .u64 4) ch8.2.1.1 ((gt x1 y7).2.1)))), (17, (.v (.pointer (some ⟨g1, 20, none⟩)))), (13, (.v (.pointer (some ⟨g1, 0, none⟩)))), (12, (.v (.slice A2 nn3 cp7))), (5, (.v (.pointer (some ⟨g1, 0, none⟩))))]) ⟨rfl, rfl, rfl, rfl, rfl, rfl, rfl, trivial⟩
          refine h_done ?_; clear CL hw le
          refine x_blockN ?_
          refine x_thenN ?_
          exact j2 _ A4 cp10 (y6 ++ [t11]) a w (S.sub ⟨rfl, rfl, rfl, rfl, trivial⟩ (.cons (.there (.there .here)) .nil)) h8
        refine h_runO S rfl trivial ?_ ?_
        · replace S := S.rowfro .here
          obtain ⟨m, le1, S, hro⟩ := S
          replace le := le.trans le1
          replace S := S.slotro (u := 19) rfl hro
          refine s_bldSl S (ty' := (Ty.slice (Ty.prod Ty.bool (Ty.prod (Ty.slice (Ty.int .u8)) (Ty.int .i64))))) (ds := [(0, (.sl ch10.1 (t8).length ch10.2.2 (RdS (Ty.prod Ty.bool (Ty.prod (Ty.slice (Ty.int .u8)) (Ty.int .i64))) ch10.1 t8)))]) (z := ([] : List (Bool × (List Int) × Int))) (c0 := (none, 0)) (ys := [t8]) (cs := [(ch10.1, ch10.2.2)]) rfl Tryd.underlying76 J51 Z51 rfl ⟨⟨Nat.le_refl _, Nat.zero_le _, RdS.nil _ _ _, RdS.mono _ _ _⟩, trivial⟩ rfl rfl rfl rfl rfl rfl ?_; clear S a; intro g2 a w S
          replace hw := CL.again hw S (.cons (.there .here) .nil) le
          refine h_back ⟨fun _ => hw, ?_⟩
          refine h_alts ?_
          refine h_runO S rfl trivial ?_ ?_
          · refine s_bldSl S (ty' := (Ty.prod Ty.bool (Ty.prod (Ty.slice (Ty.int .u8)) (Ty.int .i64)))) (ds := [(0, (.agg [.one (.bool t7.1), .sl ch9.1 (t7.2.1).length ch9.2 (RdS (Ty.int .u8) ch9.1 t7.2.1), .one (.int .i64 t7.2.2)]))]) (z := (false, ([] : List Int), 0)) (c0 := ((), (none, 0), ())) (ys := [(t7.1, t7.2.1, t7.2.2)]) (cs := [((), (ch9.1, ch9.2), ())]) rfl Tryd.underlying51 J54 Z54 rfl ⟨rfl, ⟨Nat.le_refl _, Nat.zero_le _, RdS.nil _ _ _, RdS.mono _ _ _⟩, rfl, trivial⟩ rfl rfl rfl rfl rfl rfl ?_; clear S a; intro g3 a w S
            replace hw := CL.again hw S (.cons (.there (.there .here)) .nil) le
            refine h_back ⟨fun _ => hw, ?_⟩
            refine h_run' S rfl trivial ?_
            replace S := S.rowfro (.there .here)
            obtain ⟨m, le1, S, hro⟩ := S
            replace le := le.trans le1
            replace S := S.slotro (u := 20) rfl hro
            refine s_callR S (fun (ch : (Option Addr) × Nat × Nat) => ((.v (.slice ch.1 ch.2.1 ch.2.2)) : D)) (fun (ch : (Option Addr) × Nat × Nat) => Res.row (Ty.prod Ty.bool (Ty.prod (Ty.slice (Ty.int .u8)) (Ty.int .i64))) 54 ch.1 ch.2.1 ch.2.2 t9) N22 rfl rfl (block_list.ok k [t8] (some ⟨g2, 0, none⟩) 1 t9 et9 _ _) ?_; clear S a; intro ch11 m le1 a w S
            replace le := le.trans le1
            replace hw := CL.again hw S (.cons (.there (.there .here)) .nil) le
            refine h_back ⟨fun _ => hw, ?_⟩
            refine h_run' S rfl trivial ?_
            refine s_callP S (fun (ch : (Option Addr) × Nat) => ((.agg [.one (.bool t10.1), .sl ch.1 (t10.2.1).length ch.2 (RdS (Ty.int .u8) ch.1 t10.2.1), .one (.int .i64 t10.2.2)]) : D)) N23 rfl rfl (block_item.ok ((gt x1 y7).2.2) ch8.2.2.1 ch8.2.2.2 t10 et10 _ _) ?_; clear S a; intro ch12 m le1 a w S
            replace le := le.trans le1
            replace hw := CL.again hw S (.cons (.there (.there .here)) .nil) le
            refine h_back ⟨fun _ => hw, ?_⟩
            refine h_run' S rfl trivial ?_
            refine s_bldSl S (ty' := (Ty.prod Ty.bool (Ty.prod (Ty.slice (Ty.int .u8)) (Ty.int .i64)))) (ds := [(0, (.agg [.one (.bool t10.1), .sl ch12.1 (t10.2.1).length ch12.2 (RdS (Ty.int .u8) ch12.1 t10.2.1), .one (.int .i64 t10.2.2)]))]) (z := (false, ([] : List Int), 0)) (c0 := ((), (none, 0), ())) (ys := [(t10.1, t10.2.1, t10.2.2)]) (cs := [((), (ch12.1, ch12.2), ())]) rfl Tryd.underlying51 J54 Z54 rfl ⟨rfl, ⟨Nat.le_refl _, Nat.zero_le _, RdS.nil _ _ _, RdS.mono _ _ _⟩, rfl, trivial⟩ rfl rfl rfl rfl rfl rfl ?_; clear S a; intro g4 a w S
            replace hw := CL.again hw S (.cons (.there (.there (.there .here))) .nil) le
            refine h_back ⟨fun _ => hw, ?_⟩
            refine h_run' S rfl trivial ?_
            replace S := S.rowfro (.there (.there .here))
            obtain ⟨m, le1, S, hro⟩ := S
            replace le := le.trans le1
            replace S := S.slotro (u := 16) rfl hro
            replace S := S.rowfro (.there .here)
            obtain ⟨m, le1, S, hro⟩ := S
            replace le := le.trans le1
            replace S := S.slotro (u := 21) rfl hro
            replace S := S.rowfro .here
            obtain ⟨m, le1, S, hro⟩ := S
            replace le := le.trans le1
            replace S := S.slotro (u := 25) rfl hro
            refine s_bldSl S (ty' := (Ty.slice (Ty.prod Ty.bool (Ty.prod (Ty.slice (Ty.int .u8)) (Ty.int .i64))))) (ds := [(0, (.sl (some ⟨g3, 0, none⟩) ([(t7.1, t7.2.1, t7.2.2)]).length 1 (RdS (Ty.prod Ty.bool (Ty.prod (Ty.slice (Ty.int .u8)) (Ty.int .i64))) (some ⟨g3, 0, none⟩) [(t7.1, t7.2.1, t7.2.2)]))), (1, (.sl ch11.1 (t9).length ch11.2.2 (RdS (Ty.prod Ty.bool (Ty.prod (Ty.slice (Ty.int .u8)) (Ty.int .i64))) ch11.1 t9))), (2, (.sl (some ⟨g4, 0, none⟩) ([(t10.1, t10.2.1, t10.2.2)]).length 1 (RdS (Ty.prod Ty.bool (Ty.prod (Ty.slice (Ty.int .u8)) (Ty.int .i64))) (some ⟨g4, 0, none⟩) [(t10.1, t10.2.1, t10.2.2)])))]) (z := ([] : List (Bool × (List Int) × Int))) (c0 := (none, 0)) (ys := [[(t7.1, t7.2.1, t7.2.2)], t9, [(t10.1, t10.2.1, t10.2.2)]]) (cs := [((some ⟨g3, 0, none⟩), 1), (ch11.1, ch11.2.2), ((some ⟨g4, 0, none⟩), 1)]) rfl Tryd.underlying76 J51 Z51 rfl ⟨⟨Nat.le_refl _, Nat.zero_le _, RdS.nil _ _ _, RdS.mono _ _ _⟩, trivial⟩ rfl rfl rfl rfl rfl rfl ?_; clear S a; intro g5 a w S
            replace hw := CL.again hw S (.cons (.there .here) .nil) le
            refine h_back ⟨fun _ => hw, ?_⟩
            refine h_run' S rfl trivial ?_
            replace S := S.rowfro .here
            obtain ⟨m, le1, S, hro⟩ := S
            replace le := le.trans le1
            replace S := S.slotro (u := 26) rfl hro
            refine s_callR S (fun (ch : (Option Addr) × Nat × Nat) => ((.v (.slice ch.1 ch.2.1 ch.2.2)) : D)) (fun (ch : (Option Addr) × Nat × Nat) => Res.row (Ty.prod Ty.bool (Ty.prod (Ty.slice (Ty.int .u8)) (Ty.int .i64))) 54 ch.1 ch.2.1 ch.2.2 t11) N22 rfl rfl (block_list.ok k [[(t7.1, t7.2.1, t7.2.2)], t9, [(t10.1, t10.2.1, t10.2.2)]] (some ⟨g5, 0, none⟩) 3 t11 et11 _ _) ?_; clear S a; intro ch13 m le1 a w S
            replace le := le.trans le1
            replace hw := CL.again hw S (.cons (.there .here) .nil) le
            refine h_back ⟨fun _ => hw, ?_⟩
            refine h_run' S rfl trivial ?_
            replace S := S.rowfro .here
            obtain ⟨m, le1, S, hro⟩ := S
            replace le := le.trans le1
            replace S := S.slotro (u := 27) rfl hro
            refine s_bldSl S (ty' := (Ty.slice (Ty.prod Ty.bool (Ty.prod (Ty.slice (Ty.int .u8)) (Ty.int .i64))))) (ds := [(0, (.sl ch13.1 (t11).length ch13.2.2 (RdS (Ty.prod Ty.bool (Ty.prod (Ty.slice (Ty.int .u8)) (Ty.int .i64))) ch13.1 t11)))]) (z := ([] : List (Bool × (List Int) × Int))) (c0 := (none, 0)) (ys := [t11]) (cs := [(ch13.1, ch13.2.2)]) rfl Tryd.underlying76 J51 Z51 rfl ⟨⟨Nat.le_refl _, Nat.zero_le _, RdS.nil _ _ _, RdS.mono _ _ _⟩, trivial⟩ rfl rfl rfl rfl rfl rfl ?_; clear S a; intro g6 a w S
            replace hw := CL.again hw S (.cons (.there .here) .nil) le
            refine h_back ⟨fun _ => hw, ?_⟩
            refine h_run' S rfl trivial ?_
            refine s_app S (k2 := 1) (ys := [t11]) rfl (fun _ _ => (.there (.there .here))) rfl rfl (S.holds _ (Pull.mem .here).1).1 (Res.row.src (S.holds _ (Pull.mem .here).1)) Tryd.underlying76 J51 c3 rfl ?_; clear S a; intro A4 cp10 a w S
            refine h_back ⟨fun h => (nomatch h), ?_⟩
            refine h_run' S rfl trivial ?_
            refine s_assign S rfl rfl ?_; clear S a; intro a S
            refine h_back ⟨fun h => (nomatch h), ?_⟩
            replace CL := CL.drop (lq' := [(23, (.sl ch8.2.2.1 ((gt x1 y7).2.2).length ch8.2.2.2 (RdS (Ty.int .u8) ch8.2.2.1 ((gt x1 y7).2.2)))), (22, (.v (.pointer (some ⟨g1, 21, none⟩)))), (18, (.sl ch8.2.1.1 ((gt x1 y7).2.1).length ch8.2.1.2 (RdS (Ty.arr .u64 4) ch8.2.1.1 ((gt x1 y7).2.1)))), (17, (.v (.pointer (some ⟨g1, 20, none⟩)))), (13, (.v (.pointer (some ⟨g1, 0, none⟩)))), (12, (.v (.slice A2 nn3 cp7))), (5, (.v (.pointer (some ⟨g1, 0, none⟩))))]) ⟨rfl, rfl, rfl, rfl, rfl, rfl, rfl, trivial⟩
            refine h_done ?_; clear CL hw le
            refine x_blockN ?_
            refine x_thenN ?_
            exact j2 _ A4 cp10 (y6 ++ [t11]) a w (S.sub ⟨rfl, rfl, rfl, rfl, trivial⟩ (.cons (.there (.there .here)) .nil)) h8
          refine h_runO S rfl trivial ?_ ?_
          · replace S := S.rowfro .here
            obtain ⟨m, le1, S, hro⟩ := S
            replace le := le.trans le1
            replace S := S.slotro (u := 20) rfl hro
            refine s_callR S (fun (ch : (Option Addr) × Nat × Nat) => ((.v (.slice ch.1 ch.2.1 ch.2.2)) : D)) (fun (ch : (Option Addr) × Nat × Nat) => Res.row (Ty.prod Ty.bool (Ty.prod (Ty.slice (Ty.int .u8)) (Ty.int .i64))) 54 ch.1 ch.2.1 ch.2.2 t9) N22 rfl rfl (block_list.ok k [t8] (some ⟨g2, 0, none⟩) 1 t9 et9 _ _) ?_; clear S a; intro ch11 m le1 a w S
            replace le := le.trans le1
            replace hw := CL.again hw S (.cons (.there .here) .nil) le
            refine h_back ⟨fun _ => hw, ?_⟩
            refine h_alts ?_
            refine h_runO S rfl trivial ?_ ?_
            · refine s_bldSl S (ty' := (Ty.prod Ty.bool (Ty.prod (Ty.slice (Ty.int .u8)) (Ty.int .i64)))) (ds := [(0, (.agg [.one (.bool t7.1), .sl ch9.1 (t7.2.1).length ch9.2 (RdS (Ty.int .u8) ch9.1 t7.2.1), .one (.int .i64 t7.2.2)]))]) (z := (false, ([] : List Int), 0)) (c0 := ((), (none, 0), ())) (ys := [(t7.1, t7.2.1, t7.2.2)]) (cs := [((), (ch9.1, ch9.2), ())]) rfl Tryd.underlying51 J54 Z54 rfl ⟨rfl, ⟨Nat.le_refl _, Nat.zero_le _, RdS.nil _ _ _, RdS.mono _ _ _⟩, rfl, trivial⟩ rfl rfl rfl rfl rfl rfl ?_; clear S a; intro g3 a w S
              replace hw := CL.again hw S (.cons (.there (.there .here)) .nil) le
              refine h_back ⟨fun _ => hw, ?_⟩
              refine h_run' S rfl trivial ?_
              refine s_callP S (fun (ch : (Option Addr) × Nat) => ((.agg [.one (.bool t10.1), .sl ch.1 (t10.2.1).length ch.2 (RdS (Ty.int .u8) ch.1 t10.2.1), .one (.int .i64 t10.2.2)]) : D)) N23 rfl rfl (block_item.ok ((gt x1 y7).2.2) ch8.2.2.1 ch8.2.2.2 t10 et10 _ _) ?_; clear S a; intro ch12 m le1 a w S
              replace le := le.trans le1
              replace hw := CL.again hw S (.cons (.there (.there .here)) .nil) le
              refine h_back ⟨fun _ => hw, ?_⟩
              refine h_run' S rfl trivial ?_
              refine s_bldSl S (ty' := (Ty.prod Ty.bool (Ty.prod (Ty.slice (Ty.int .u8)) (Ty.int .i64)))) (ds := [(0, (.agg [.one (.bool t10.1), .sl ch12.1 (t10.2.1).length ch12.2 (RdS (Ty.int .u8) ch12.1 t10.2.1), .one (.int .i64 t10.2.2)]))]) (z := (false, ([] : List Int), 0)) (c0 := ((), (none, 0), ())) (ys := [(t10.1, t10.2.1, t10.2.2)]) (cs := [((), (ch12.1, ch12.2), ())]) rfl Tryd.underlying51 J54 Z54 rfl ⟨rfl, ⟨Nat.le_refl _, Nat.zero_le _, RdS.nil _ _ _, RdS.mono _ _ _⟩, rfl, trivial⟩ rfl rfl rfl rfl rfl rfl ?_; clear S a; intro g4 a w S
              replace hw := CL.again hw S (.cons (.there (.there (.there .here))) .nil) le
              refine h_back ⟨fun _ => hw, ?_⟩
              refine h_run' S rfl trivial ?_
              replace S := S.rowfro (.there .here)
              obtain ⟨m, le1, S, hro⟩ := S
              replace le := le.trans le1
              replace S := S.slotro (u := 16) rfl hro
              replace S := S.rowfro (.there .here)
              obtain ⟨m, le1, S, hro⟩ := S
              replace le := le.trans le1
              replace S := S.slotro (u := 21) rfl hro
              replace S := S.rowfro .here
              obtain ⟨m, le1, S, hro⟩ := S
              replace le := le.trans le1
              replace S := S.slotro (u := 25) rfl hro
              refine s_bldSl S (ty' := (Ty.slice (Ty.prod Ty.bool (Ty.prod (Ty.slice (Ty.int .u8)) (Ty.int .i64))))) (ds := [(0, (.sl (some ⟨g3, 0, none⟩) ([(t7.1, t7.2.1, t7.2.2)]).length 1 (RdS (Ty.prod Ty.bool (Ty.prod (Ty.slice (Ty.int .u8)) (Ty.int .i64))) (some ⟨g3, 0, none⟩) [(t7.1, t7.2.1, t7.2.2)]))), (1, (.sl ch11.1 (t9).length ch11.2.2 (RdS (Ty.prod Ty.bool (Ty.prod (Ty.slice (Ty.int .u8)) (Ty.int .i64))) ch11.1 t9))), (2, (.sl (some ⟨g4, 0, none⟩) ([(t10.1, t10.2.1, t10.2.2)]).length 1 (RdS (Ty.prod Ty.bool (Ty.prod (Ty.slice (Ty.int .u8)) (Ty.int .i64))) (some ⟨g4, 0, none⟩) [(t10.1, t10.2.1, t10.2.2)])))]) (z := ([] : List (Bool × (List Int) × Int))) (c0 := (none, 0)) (ys := [[(t7.1, t7.2.1, t7.2.2)], t9, [(t10.1, t10.2.1, t10.2.2)]]) (cs := [((some ⟨g3, 0, none⟩), 1), (ch11.1, ch11.2.2), ((some ⟨g4, 0, none⟩), 1)]) rfl Tryd.underlying76 J51 Z51 rfl ⟨⟨Nat.le_refl _, Nat.zero_le _, RdS.nil _ _ _, RdS.mono _ _ _⟩, trivial⟩ rfl rfl rfl rfl rfl rfl ?_; clear S a; intro g5 a w S
              replace hw := CL.again hw S (.cons (.there .here) .nil) le
              refine h_back ⟨fun _ => hw, ?_⟩
              refine h_run' S rfl trivial ?_
              replace S := S.rowfro .here
              obtain ⟨m, le1, S, hro⟩ := S
              replace le := le.trans le1
              replace S := S.slotro (u := 26) rfl hro
              refine s_callR S (fun (ch : (Option Addr) × Nat × Nat) => ((.v (.slice ch.1 ch.2.1 ch.2.2)) : D)) (fun (ch : (Option Addr) × Nat × Nat) => Res.row (Ty.prod Ty.bool (Ty.prod (Ty.slice (Ty.int .u8)) (Ty.int .i64))) 54 ch.1 ch.2.1 ch.2.2 t11) N22 rfl rfl (block_list.ok k [[(t7.1, t7.2.1, t7.2.2)], t9, [(t10.1, t10.2.1, t10.2.2)]] (some ⟨g5, 0, none⟩) 3 t11 et11 _ _) ?_; clear S a; intro ch13 m le1 a w S
              replace le := le.trans le1
              replace hw := CL.again hw S (.cons (.there .here) .nil) le
              refine h_back ⟨fun _ => hw, ?_⟩
              refine h_run' S rfl trivial ?_
              replace S := S.rowfro .here
              obtain ⟨m, le1, S, hro⟩ := S
              replace le := le.trans le1
              replace S := S.slotro (u := 27) rfl hro
              refine s_bldSl S (ty' := (Ty.slice (Ty.prod Ty.bool (Ty.prod (Ty.slice (Ty.int .u8)) (Ty.int .i64))))) (ds := [(0, (.sl ch13.1 (t11).length ch13.2.2 (RdS (Ty.prod Ty.bool (Ty.prod (Ty.slice (Ty.int .u8)) (Ty.int .i64))) ch13.1 t11)))]) (z := ([] : List (Bool × (List Int) × Int))) (c0 := (none, 0)) (ys := [t11]) (cs := [(ch13.1, ch13.2.2)]) rfl Tryd.underlying76 J51 Z51 rfl ⟨⟨Nat.le_refl _, Nat.zero_le _, RdS.nil _ _ _, RdS.mono _ _ _⟩, trivial⟩ rfl rfl rfl rfl rfl rfl ?_; clear S a; intro g6 a w S
              replace hw := CL.again hw S (.cons (.there .here) .nil) le
              refine h_back ⟨fun _ => hw, ?_⟩
              refine h_run' S rfl trivial ?_
              refine s_app S (k2 := 1) (ys := [t11]) rfl (fun _ _ => (.there (.there .here))) rfl rfl (S.holds _ (Pull.mem .here).1).1 (Res.row.src (S.holds _ (Pull.mem .here).1)) Tryd.underlying76 J51 c3 rfl ?_; clear S a; intro A4 cp10 a w S
              refine h_back ⟨fun h => (nomatch h), ?_⟩
              refine h_run' S rfl trivial ?_
              refine s_assign S rfl rfl ?_; clear S a; intro a S
              refine h_back ⟨fun h => (nomatch h), ?_⟩
              replace CL := CL.drop (lq' := [(23, (.sl ch8.2.2.1 ((gt x1 y7).2.2).length ch8.2.2.2 (RdS (Ty.int .u8) ch8.2.2.1 ((gt x1 y7).2.2)))), (22, (.v (.pointer (some ⟨g1, 21, none⟩)))), (18, (.sl ch8.2.1.1 ((gt x1 y7).2.1).length ch8.2.1.2 (RdS (Ty.arr .u64 4) ch8.2.1.1 ((gt x1 y7).2.1)))), (17, (.v (.pointer (some ⟨g1, 20, none⟩)))), (13, (.v (.pointer (some ⟨g1, 0, none⟩)))), (12, (.v (.slice A2 nn3 cp7))), (5, (.v (.pointer (some ⟨g1, 0, none⟩))))]) ⟨rfl, rfl, rfl, rfl, rfl, rfl, rfl, trivial⟩
              refine h_done ?_; clear CL hw le
              refine x_blockN ?_
              refine x_thenN ?_
              exact j2 _ A4 cp10 (y6 ++ [t11]) a w (S.sub ⟨rfl, rfl, rfl, rfl, trivial⟩ (.cons (.there (.there .here)) .nil)) h8
            refine h_runO S rfl trivial ?_ ?_
            · refine s_callP S (fun (ch : (Option Addr) × Nat) => ((.agg [.one (.bool t10.1), .sl ch.1 (t10.2.1).length ch.2 (RdS (Ty.int .u8) ch.1 t10.2.1), .one (.int .i64 t10.2.2)]) : D)) N23 rfl rfl (block_item.ok ((gt x1 y7).2.2) ch8.2.2.1 ch8.2.2.2 t10 et10 _ _) ?_; clear S a; intro ch12 m le1 a w S
              replace le := le.trans le1
              replace hw := CL.again hw S (.cons (.there .here) .nil) le
              refine h_back ⟨fun _ => hw, ?_⟩
              refine h_alts ?_
              refine h_runO S rfl trivial ?_ ?_
              · refine s_bldSl S (ty' := (Ty.prod Ty.bool (Ty.prod (Ty.slice (Ty.int .u8)) (Ty.int .i64)))) (ds := [(0, (.agg [.one (.bool t7.1), .sl ch9.1 (t7.2.1).length ch9.2 (RdS (Ty.int .u8) ch9.1 t7.2.1), .one (.int .i64 t7.2.2)]))]) (z := (false, ([] : List Int), 0)) (c0 := ((), (none, 0), ())) (ys := [(t7.1, t7.2.1, t7.2.2)]) (cs := [((), (ch9.1, ch9.2), ())]) rfl Tryd.underlying51 J54 Z54 rfl ⟨rfl, ⟨Nat.le_refl _, Nat.zero_le _, RdS.nil _ _ _, RdS.mono _ _ _⟩, rfl, trivial⟩ rfl rfl rfl rfl rfl rfl ?_; clear S a; intro g3 a w S
                replace hw := CL.again hw S (.cons (.there (.there .here)) .nil) le
                refine h_back ⟨fun _ => hw, ?_⟩
                refine h_run' S rfl trivial ?_
                refine s_bldSl S (ty' := (Ty.prod Ty.bool (Ty.prod (Ty.slice (Ty.int .u8)) (Ty.int .i64)))) (ds := [(0, (.agg [.one (.bool t10.1), .sl ch12.1 (t10.2.1).length ch12.2 (RdS (Ty.int .u8) ch12.1 t10.2.1), .one (.int .i64 t10.2.2)]))]) (z := (false, ([] : List Int), 0)) (c0 := ((), (none, 0), ())) (ys := [(t10.1, t10.2.1, t10.2.2)]) (cs := [((), (ch12.1, ch12.2), ())]) rfl Tryd.underlying51 J54 Z54 rfl ⟨rfl, ⟨Nat.le_refl _, Nat.zero_le _, RdS.nil _ _ _, RdS.mono _ _ _⟩, rfl, trivial⟩ rfl rfl rfl rfl rfl rfl ?_; clear S a; intro g4 a w S
                replace hw := CL.again hw S (.cons (.there (.there (.there .here))) .nil) le
                refine h_back ⟨fun _ => hw, ?_⟩
                refine h_run' S rfl trivial ?_
                replace S := S.rowfro (.there .here)
                obtain ⟨m, le1, S, hro⟩ := S
                replace le := le.trans le1
                replace S := S.slotro (u := 16) rfl hro
                replace S := S.rowfro (.there .here)
                obtain ⟨m, le1, S, hro⟩ := S
                replace le := le.trans le1
                replace S := S.slotro (u := 21) rfl hro
                replace S := S.rowfro .here
                obtain ⟨m, le1, S, hro⟩ := S
                replace le := le.trans le1
                replace S := S.slotro (u := 25) rfl hro
                refine s_bldSl S (ty' := (Ty.slice (Ty.prod Ty.bool (Ty.prod (Ty.slice (Ty.int .u8)) (Ty.int .i64))))) (ds := [(0, (.sl (some ⟨g3, 0, none⟩) ([(t7.1, t7.2.1, t7.2.2)]).length 1 (RdS (Ty.prod Ty.bool (Ty.prod (Ty.slice (Ty.int .u8)) (Ty.int .i64))) (some ⟨g3, 0, none⟩) [(t7.1, t7.2.1, t7.2.2)]))), (1, (.sl ch11.1 (t9).length ch11.2.2 (RdS (Ty.prod Ty.bool (Ty.prod (Ty.slice (Ty.int .u8)) (Ty.int .i64))) ch11.1 t9))), (2, (.sl (some ⟨g4, 0, none⟩) ([(t10.1, t10.2.1, t10.2.2)]).length 1 (RdS (Ty.prod Ty.bool (Ty.prod (Ty.slice (Ty.int .u8)) (Ty.int .i64))) (some ⟨g4, 0, none⟩) [(t10.1, t10.2.1, t10.2.2)])))]) (z := ([] : List (Bool × (List Int) × Int))) (c0 := (none, 0)) (ys := [[(t7.1, t7.2.1, t7.2.2)], t9, [(t10.1, t10.2.1, t10.2.2)]]) (cs := [((some ⟨g3, 0, none⟩), 1), (ch11.1, ch11.2.2), ((some ⟨g4, 0, none⟩), 1)]) rfl Tryd.underlying76 J51 Z51 rfl ⟨⟨Nat.le_refl _, Nat.zero_le _, RdS.nil _ _ _, RdS.mono _ _ _⟩, trivial⟩ rfl rfl rfl rfl rfl rfl ?_; clear S a; intro g5 a w S
                replace hw := CL.again hw S (.cons (.there .here) .nil) le
                refine h_back ⟨fun _ => hw, ?_⟩
                refine h_run' S rfl trivial ?_
                replace S := S.rowfro .here
                obtain ⟨m, le1, S, hro⟩ := S
                replace le := le.trans le1
                replace S := S.slotro (u := 26) rfl hro
                refine s_callR S (fun (ch : (Option Addr) × Nat × Nat) => ((.v (.slice ch.1 ch.2.1 ch.2.2)) : D)) (fun (ch : (Option Addr) × Nat × Nat) => Res.row (Ty.prod Ty.bool (Ty.prod (Ty.slice (Ty.int .u8)) (Ty.int .i64))) 54 ch.1 ch.2.1 ch.2.2 t11) N22 rfl rfl (block_list.ok k [[(t7.1, t7.2.1, t7.2.2)], t9, [(t10.1, t10.2.1, t10.2.2)]] (some ⟨g5, 0, none⟩) 3 t11 et11 _ _) ?_; clear S a; intro ch13 m le1 a w S
                replace le := le.trans le1
                replace hw := CL.again hw S (.cons (.there .here) .nil) le
                refine h_back ⟨fun _ => hw, ?_⟩
                refine h_run' S rfl trivial ?_
                replace S := S.rowfro .here
                obtain ⟨m, le1, S, hro⟩ := S
                replace le := le.trans le1
                replace S := S.slotro (u := 27) rfl hro
                refine s_bldSl S (ty' := (Ty.slice (Ty.prod Ty.bool (Ty.prod (Ty.slice (Ty.int .u8)) (Ty.int .i64))))) (ds := [(0, (.sl ch13.1 (t11).length ch13.2.2 (RdS (Ty.prod Ty.bool (Ty.prod (Ty.slice (Ty.int .u8)) (Ty.int .i64))) ch13.1 t11)))]) (z := ([] : List (Bool × (List Int) × Int))) (c0 := (none, 0)) (ys := [t11]) (cs := [(ch13.1, ch13.2.2)]) rfl Tryd.underlying76 J51 Z51 rfl ⟨⟨Nat.le_refl _, Nat.zero_le _, RdS.nil _ _ _, RdS.mono _ _ _⟩, trivial⟩ rfl rfl rfl rfl rfl rfl ?_; clear S a; intro g6 a w S
                replace hw := CL.again hw S (.cons (.there .here) .nil) le
                refine h_back ⟨fun _ => hw, ?_⟩
                refine h_run' S rfl trivial ?_
                refine s_app S (k2 := 1) (ys := [t11]) rfl (fun _ _ => (.there (.there .here))) rfl rfl (S.holds _ (Pull.mem .here).1).1 (Res.row.src (S.holds _ (Pull.mem .here).1)) Tryd.underlying76 J51 c3 rfl ?_; clear S a; intro A4 cp10 a w S
                refine h_back ⟨fun h => (nomatch h), ?_⟩
                refine h_run' S rfl trivial ?_
                refine s_assign S rfl rfl ?_; clear S a; intro a S
                refine h_back ⟨fun h => (nomatch h), ?_⟩
                replace CL := CL.drop (lq' := [(23, (.sl ch8.2.2.1 ((gt x1 y7).2.2).length ch8.2.2.2 (RdS (Ty.int .u8) ch8.2.2.1 ((gt x1 y7).2.2)))), (22, (.v (.pointer (some ⟨g1, 21, none⟩)))), (18, (.sl ch8.2.1.1 ((gt x1 y7).2.1).length ch8.2.1.2 (RdS (Ty.arr .u64 4) ch8.2.1.1 ((gt x1 y7).2.1)))), (17, (.v (.pointer (some ⟨g1, 20, none⟩)))), (13, (.v (.pointer (some ⟨g1, 0, none⟩)))), (12, (.v (.slice A2 nn3 cp7))), (5, (.v (.pointer (some ⟨g1, 0, none⟩))))]) ⟨rfl, rfl, rfl, rfl, rfl, rfl, rfl, trivial⟩
                refine h_done ?_; clear CL hw le
                refine x_blockN ?_
                refine x_thenN ?_
                exact j2 _ A4 cp10 (y6 ++ [t11]) a w (S.sub ⟨rfl, rfl, rfl, rfl, trivial⟩ (.cons (.there (.there .here)) .nil)) h8
              refine h_runO S rfl trivial ?_ ?_
              · refine s_bldSl S (ty' := (Ty.prod Ty.bool (Ty.prod (Ty.slice (Ty.int .u8)) (Ty.int .i64)))) (ds := [(0, (.agg [.one (.bool t10.1), .sl ch12.1 (t10.2.1).length ch12.2 (RdS (Ty.int .u8) ch12.1 t10.2.1), .one (.int .i64 t10.2.2)]))]) (z := (false, ([] : List Int), 0)) (c0 := ((), (none, 0), ())) (ys := [(t10.1, t10.2.1, t10.2.2)]) (cs := [((), (ch12.1, ch12.2), ())]) rfl Tryd.underlying51 J54 Z54 rfl ⟨rfl, ⟨Nat.le_refl _, Nat.zero_le _, RdS.nil _ _ _, RdS.mono _ _ _⟩, rfl, trivial⟩ rfl rfl rfl rfl rfl rfl ?_; clear S a; intro g3 a w S
                replace hw := CL.again hw S (.cons (.there (.there .here)) .nil) le
                refine h_back ⟨fun _ => hw, ?_⟩
                refine h_run' S rfl trivial ?_
                refine s_bldSl S (ty' := (Ty.prod Ty.bool (Ty.prod (Ty.slice (Ty.int .u8)) (Ty.int .i64)))) (ds := [(0, (.agg [.one (.bool t7.1), .sl ch9.1 (t7.2.1).length ch9.2 (RdS (Ty.int .u8) ch9.1 t7.2.1), .one (.int .i64 t7.2.2)]))]) (z := (false, ([] : List Int), 0)) (c0 := ((), (none, 0), ())) (ys := [(t7.1, t7.2.1, t7.2.2)]) (cs := [((), (ch9.1, ch9.2), ())]) rfl Tryd.underlying51 J54 Z54 rfl ⟨rfl, ⟨Nat.le_refl _, Nat.zero_le _, RdS.nil _ _ _, RdS.mono _ _ _⟩, rfl, trivial⟩ rfl rfl rfl rfl rfl rfl ?_; clear S a; intro g4 a w S
                replace hw := CL.again hw S (.cons (.there (.there (.there .here))) .nil) le
                refine h_back ⟨fun _ => hw, ?_⟩
                refine h_run' S rfl trivial ?_
                replace S := S.rowfro .here
                obtain ⟨m, le1, S, hro⟩ := S
                replace le := le.trans le1
                replace S := S.slotro (u := 16) rfl hro
                replace S := S.rowfro (.there .here)
                obtain ⟨m, le1, S, hro⟩ := S
                replace le := le.trans le1
                replace S := S.slotro (u := 21) rfl hro
                replace S := S.rowfro .here
                obtain ⟨m, le1, S, hro⟩ := S
                replace le := le.trans le1
                replace S := S.slotro (u := 25) rfl hro
                refine s_bldSl S (ty' := (Ty.slice (Ty.prod Ty.bool (Ty.prod (Ty.slice (Ty.int .u8)) (Ty.int .i64))))) (ds := [(0, (.sl (some ⟨g4, 0, none⟩) ([(t7.1, t7.2.1, t7.2.2)]).length 1 (RdS (Ty.prod Ty.bool (Ty.prod (Ty.slice (Ty.int .u8)) (Ty.int .i64))) (some ⟨g4, 0, none⟩) [(t7.1, t7.2.1, t7.2.2)]))), (1, (.sl ch11.1 (t9).length ch11.2.2 (RdS (Ty.prod Ty.bool (Ty.prod (Ty.slice (Ty.int .u8)) (Ty.int .i64))) ch11.1 t9))), (2, (.sl (some ⟨g3, 0, none⟩) ([(t10.1, t10.2.1, t10.2.2)]).length 1 (RdS (Ty.prod Ty.bool (Ty.prod (Ty.slice (Ty.int .u8)) (Ty.int .i64))) (some ⟨g3, 0, none⟩) [(t10.1, t10.2.1, t10.2.2)])))]) (z := ([] : List (Bool × (List Int) × Int))) (c0 := (none, 0)) (ys := [[(t7.1, t7.2.1, t7.2.2)], t9, [(t10.1, t10.2.1, t10.2.2)]]) (cs := [((some ⟨g4, 0, none⟩), 1), (ch11.1, ch11.2.2), ((some ⟨g3, 0, none⟩), 1)]) rfl Tryd.underlying76 J51 Z51 rfl ⟨⟨Nat.le_refl _, Nat.zero_le _, RdS.nil _ _ _, RdS.mono _ _ _⟩, trivial⟩ rfl rfl rfl rfl rfl rfl ?_; clear S a; intro g5 a w S
                replace hw := CL.again hw S (.cons (.there .here) .nil) le
                refine h_back ⟨fun _ => hw, ?_⟩
                refine h_run' S rfl trivial ?_
                replace S := S.rowfro .here
                obtain ⟨m, le1, S, hro⟩ := S
                replace le := le.trans le1
                replace S := S.slotro (u := 26) rfl hro
                refine s_callR S (fun (ch : (Option Addr) × Nat × Nat) => ((.v (.slice ch.1 ch.2.1 ch.2.2)) : D)) (fun (ch : (Option Addr) × Nat × Nat) => Res.row (Ty.prod Ty.bool (Ty.prod (Ty.slice (Ty.int .u8)) (Ty.int .i64))) 54 ch.1 ch.2.1 ch.2.2 t11) N22 rfl rfl (block_list.ok k [[(t7.1, t7.2.1, t7.2.2)], t9, [(t10.1, t10.2.1, t10.2.2)]] (some ⟨g5, 0, none⟩) 3 t11 et11 _ _) ?_; clear S a; intro ch13 m le1 a w S
                replace le := le.trans le1
                replace hw := CL.again hw S (.cons (.there .here) .nil) le
                refine h_back ⟨fun _ => hw, ?_⟩
                refine h_run' S rfl trivial ?_
                replace S := S.rowfro .here
                obtain ⟨m, le1, S, hro⟩ := S
                replace le := le.trans le1
                replace S := S.slotro (u := 27) rfl hro
                refine s_bldSl S (ty' := (Ty.slice (Ty.prod Ty.bool (Ty.prod (Ty.slice (Ty.int .u8)) (Ty.int .i64))))) (ds := [(0, (.sl ch13.1 (t11).length ch13.2.2 (RdS (Ty.prod Ty.bool (Ty.prod (Ty.slice (Ty.int .u8)) (Ty.int .i64))) ch13.1 t11)))]) (z := ([] : List (Bool × (List Int) × Int))) (c0 := (none, 0)) (ys := [t11]) (cs := [(ch13.1, ch13.2.2)]) rfl Tryd.underlying76 J51 Z51 rfl ⟨⟨Nat.le_refl _, Nat.zero_le _, RdS.nil _ _ _, RdS.mono _ _ _⟩, trivial⟩ rfl rfl rfl rfl rfl rfl ?_; clear S a; intro g6 a w S
                replace hw := CL.again hw S (.cons (.there .here) .nil) le
                refine h_back ⟨fun _ => hw, ?_⟩
                refine h_run' S rfl trivial ?_
                refine s_app S (k2 := 1) (ys := [t11]) rfl (fun _ _ => (.there (.there .here))) rfl rfl (S.holds _ (Pull.mem .here).1).1 (Res.row.src (S.holds _ (Pull.mem .here).1)) Tryd.underlying76 J51 c3 rfl ?_; clear S a; intro A4 cp10 a w S
                refine h_back ⟨fun h => (nomatch h), ?_⟩
                refine h_run' S rfl trivial ?_
                refine s_assign S rfl rfl ?_; clear S a; intro a S
                refine h_back ⟨fun h => (nomatch h), ?_⟩
                replace CL := CL.drop (lq' := [(23, (.sl ch8.2.2.1 ((gt x1 y7).2.2).length ch8.2.2.2 (RdS (Ty.int .u8) ch8.2.2.1 ((gt x1 y7).2.2)))), (22, (.v (.pointer (some ⟨g1, 21, none⟩)))), (18, (.sl ch8.2.1.1 ((gt x1 y7).2.1).length ch8.2.1.2 (RdS (Ty.arr .u64 4) ch8.2.1.1 ((gt x1 y7).2.1)))), (17, (.v (.pointer (some ⟨g1, 20, none⟩)))), (13, (.v (.pointer (some ⟨g1, 0, none⟩)))), (12, (.v (.slice A2 nn3 cp7))), (5, (.v (.pointer (some ⟨g1, 0, none⟩))))]) ⟨rfl, rfl, rfl, rfl, rfl, rfl, rfl, trivial⟩
                refine h_done ?_; clear CL hw le
                refine x_blockN ?_
                refine x_thenN ?_
                exact j2 _ A4 cp10 (y6 ++ [t11]) a w (S.sub ⟨rfl, rfl, rfl, rfl, trivial⟩ (.cons (.there (.there .here)) .nil)) h8
              exact h_nil
            exact h_nil
          exact h_nil
        exact h_nil
      exact h_nil
    · refine c_condF S rfl c1 ?_
      refine wp_exit ?_
      refine x_thenX ?_
      refine x_thenX ?_
      refine x_blockX ?_
      refine x_thenN ?_
      exact j1 _ A2 nn3 cp7 y6 a w (S.sub ⟨rfl, trivial⟩ (.cons .here .nil)) h1
/-! smithy/block.Receipt -/
abbrev block_Receipt.Ty : Type := ((List Int) × Int × Bool × Int × (List Int) × (List Int) × (List ((List Int) × (List (List Int)) × (List Int))) × (List Int)) → Option ((List Int))
def block_Receipt.Ctr (s : block_Receipt.Ty) : Prop := ∀ (x1 : (List Int) × Int × Bool × Int × (List Int) × (List Int) × (List ((List Int) × (List (List Int)) × (List Int))) × (List Int)) (ch_0_0 : Option Addr) (ch_0_1 : Nat) (ch_0_2 : Option Addr) (ch_0_3 : Nat) (r : (List Int)) (h0 : s x1 = some r) (mi : Mem) (w0 : World) (G : Glob mi), okL mi [(.agg [.ints .u8 x1.1 20, .one (.int .u64 x1.2.1), .one (.bool x1.2.2.1), .one (.int .u64 x1.2.2.2.1), .ints .u64 x1.2.2.2.2.1 4, .ints .u8 x1.2.2.2.2.2.1 20, .sl ch_0_0 (x1.2.2.2.2.2.2.1).length ch_0_1 (RdS (Ty.prod (Ty.arr .u8 20) (Ty.prod (Ty.slice (Ty.arr .u64 4)) (Ty.slice (Ty.int .u8)))) ch_0_0 x1.2.2.2.2.2.2.1), .sl ch_0_2 (x1.2.2.2.2.2.2.2).length ch_0_3 (RdS (Ty.int .u8) ch_0_2 x1.2.2.2.2.2.2.2)])] → Pre mi [] w0 → Calls Tryd.prog 13 (([(.agg [.ints .u8 x1.1 20, .one (.int .u64 x1.2.1), .one (.bool x1.2.2.1), .one (.int .u64 x1.2.2.2.1), .ints .u64 x1.2.2.2.2.1 4, .ints .u8 x1.2.2.2.2.2.1 20, .sl ch_0_0 (x1.2.2.2.2.2.2.1).length ch_0_1 (RdS (Ty.prod (Ty.arr .u8 20) (Ty.prod (Ty.slice (Ty.arr .u64 4)) (Ty.slice (Ty.int .u8)))) ch_0_0 x1.2.2.2.2.2.2.1), .sl ch_0_2 (x1.2.2.2.2.2.2.2).length ch_0_3 (RdS (Ty.int .u8) ch_0_2 x1.2.2.2.2.2.2.2)])] : List D).map D.val).toArray w0 (RetX mi [] (fun (ch : Unit) => ((.agg [.ints .u8 r 32]) : D)) (fun (ch : Unit) => []) w0)
def block_Receipt.j2 (y2 : List Int) : Option ((List Int)) := some y2
def block_Receipt.j1 (k : Nat) (x1 : (List Int) × Int × Bool × Int × (List Int) × (List Int) × (List ((List Int) × (List (List Int)) × (List Int))) × (List Int)) (y1 : Int) : Option ((List Int)) := (block_item.f (((x1.1).drop 0).take 20)).bind fun t1 => ((block_count.f k x1.2.1).bind fun t2 => ((block_count.f k y1).bind fun t3 => ((block_count.f k x1.2.2.2.1).bind fun t4 => ((block_number.f k x1.2.2.2.2.1).bind fun t5 => ((block_item.f (((x1.2.2.2.2.2.1).drop 0).take 20)).bind fun t6 => ((block_item.f x1.2.2.2.2.2.2.2).bind fun t7 => ((block_logs.f k x1.2.2.2.2.2.2.1).bind fun t8 => ((block_list.f k [[(t1.1, t1.2.1, t1.2.2), (t2.1, t2.2.1, t2.2.2), (t3.1, t3.2.1, t3.2.2), (t4.1, t4.2.1, t4.2.2), (t5.1, t5.2.1, t5.2.2), (t6.1, t6.2.1, t6.2.2), (t7.1, t7.2.1, t7.2.2)], t8]).bind fun t9 => ((block_hash.f k t9).bind fun t10 => (block_Receipt.j2 t10))))))))))
def block_Receipt.f (k : Nat) (x1 : (List Int) × Int × Bool × Int × (List Int) × (List Int) × (List ((List Int) × (List (List Int)) × (List Int))) × (List Int)) : Option ((List Int)) := if x1.2.2.1 = true then (block_Receipt.j1 k x1 1) else (block_Receipt.j1 k x1 0)
theorem block_Receipt.ok (k : Nat) : block_Receipt.Ctr (block_Receipt.f k) := by
  intro x1 ch_0_0 ch_0_1 ch_0_2 ch_0_3 r h0 mi w0 G ok hm
  delta block_Receipt.f at h0
  refine c_enterX (n := 33) [(.agg [.ints .u8 x1.1 20, .one (.int .u64 x1.2.1), .one (.bool x1.2.2.1), .one (.int .u64 x1.2.2.2.1), .ints .u64 x1.2.2.2.2.1 4, .ints .u8 x1.2.2.2.2.2.1 20, .sl ch_0_0 (x1.2.2.2.2.2.2.1).length ch_0_1 (RdS (Ty.prod (Ty.arr .u8 20) (Ty.prod (Ty.slice (Ty.arr .u64 4)) (Ty.slice (Ty.int .u8)))) ch_0_0 x1.2.2.2.2.2.2.1), .sl ch_0_2 (x1.2.2.2.2.2.2.2).length ch_0_3 (RdS (Ty.int .u8) ch_0_2 x1.2.2.2.2.2.2.2)])] (l := [(0, (.agg [.ints .u8 x1.1 20, .one (.int .u64 x1.2.1), .one (.bool x1.2.2.1), .one (.int .u64 x1.2.2.2.1), .ints .u64 x1.2.2.2.2.1 4, .ints .u8 x1.2.2.2.2.2.1 20, .sl ch_0_0 (x1.2.2.2.2.2.2.1).length ch_0_1 (RdS (Ty.prod (Ty.arr .u8 20) (Ty.prod (Ty.slice (Ty.arr .u64 4)) (Ty.slice (Ty.int .u8)))) ch_0_0 x1.2.2.2.2.2.2.1), .sl ch_0_2 (x1.2.2.2.2.2.2.2).length ch_0_3 (RdS (Ty.int .u8) ch_0_2 x1.2.2.2.2.2.2.2)]))]) Tryd.func13 rfl rfl rfl rfl ok hm ?_
  clear ok hm
  intro b0 hb a S
  refine c_region ?_
  refine s_box S rfl rfl rfl ?_; clear S a; intro g1 a w S
  refine s_alloc S Z23 rfl ⟨rfl, trivial⟩ rfl ?_; clear S a w; intro g2 a w S
  refine c_end ?_
  refine c_region ?_
  refine s_assign S rfl rfl ?_; clear S a; intro a S
  refine c_end ?_
  refine wp_seq_k ?_
  intro K1 hK1
  have j1 : ∀ (m : Mem) (y1 : Int) (g3 : Nat) (g4 : Nat) (a : Act) (w : World), St 33 m b0 [(3, (.v (.int .u64 y1))), (2, (.v (.pointer (some ⟨g3, 0, none⟩)))), (1, (.v (.pointer (some ⟨g4, 0, none⟩))))] [Res.cells g3 23 [.ints .u8 [0, 0, 0, 0, 0, 0, 0, 0, 0, 0, 0, 0, 0, 0, 0, 0, 0, 0, 0, 0, 0, 0, 0, 0, 0, 0, 0, 0, 0, 0, 0, 0] 32], Res.cells g4 39 [.ints .u8 x1.1 20, .one (.int .u64 x1.2.1), .one (.bool x1.2.2.1), .one (.int .u64 x1.2.2.2.1), .ints .u64 x1.2.2.2.2.1 4, .ints .u8 x1.2.2.2.2.2.1 20, .sl ch_0_0 (x1.2.2.2.2.2.2.1).length ch_0_1 (RdS (Ty.prod (Ty.arr .u8 20) (Ty.prod (Ty.slice (Ty.arr .u64 4)) (Ty.slice (Ty.int .u8)))) ch_0_0 x1.2.2.2.2.2.2.1), .sl ch_0_2 (x1.2.2.2.2.2.2.2).length ch_0_3 (RdS (Ty.int .u8) ch_0_2 x1.2.2.2.2.2.2.2)]] a w → block_Receipt.j1 k x1 y1 = some r → K1 a w := by
    intro m y1 g3 g4 a w S h0
    delta block_Receipt.j1 at h0
    refine hK1 a w ?_
    replace S := S.freeze (.there .here)
    obtain ⟨m, le1, S⟩ := S
    refine wp_seq_k ?_
    intro K2 hK2
    have j2 : ∀ (m : Mem) (g7 : Nat) (y2 : List Int) (a : Act) (w : World), St 33 m b0 [(2, (.v (.pointer (some ⟨g7, 0, none⟩))))] [Res.cells g7 23 [.ints .u8 y2 32]] a w → block_Receipt.j2 y2 = some r → K2 a w := by
      intro m g7 y2 a w S h0
      delta block_Receipt.j2 at h0
      refine hK2 a w ?_
      refine wp_ret ?_
      obtain rfl := Option.some.inj h0
      exact b_ret1 (d := (.agg [.ints .u8 y2 32])) S rfl (resD_cell rfl .here T23 rfl rfl) fun ok => S.retX (Hx := []) hb _ _ (() : Unit) .nil ok
    refine c_heldS S (.take 0 (.take 1 (.take 3 (.take 4 (.take 6 (.take 8 (.take 9 (.take 11 (.take 12 (.take 14 (.take 15 (.take 17 (.take 18 (.take 21 (.take 22 (.alts (.run 2 true (.alts (.run 5 true (.alts (.run 7 true (.alts (.run 10 true (.alts (.run 13 true (.alts (.run 16 true (.alts (.run 19 true (.alts (.run 20 true (.alts (.run 23 true (.alts (.run 24 true (.alts (.run 25 true (.alts (.run 26 true (.alts (.run 27 false .done .nil)) .nil)) .nil)) .nil)) .nil)) (.run 23 true (.alts (.run 20 true (.alts (.run 24 true (.alts (.run 25 true (.alts (.run 26 true (.alts (.run 27 false .done .nil)) .nil)) .nil)) .nil)) .nil)) .nil))) .nil)) .nil)) .nil)) .nil)) .nil)) .nil)) .nil))))))))))))))))) 27 [Res.cells g3 23 [.ints .u8 [0, 0, 0, 0, 0, 0, 0, 0, 0, 0, 0, 0, 0, 0, 0, 0, 0, 0, 0, 0, 0, 0, 0, 0, 0, 0, 0, 0, 0, 0, 0, 0] 32], Res.fro g4 39 [.ints .u8 x1.1 20, .one (.int .u64 x1.2.1), .one (.bool x1.2.2.1), .one (.int .u64 x1.2.2.2.1), .ints .u64 x1.2.2.2.2.1 4, .ints .u8 x1.2.2.2.2.2.1 20, .sl ch_0_0 (x1.2.2.2.2.2.2.1).length ch_0_1 (RdS (Ty.prod (Ty.arr .u8 20) (Ty.prod (Ty.slice (Ty.arr .u64 4)) (Ty.slice (Ty.int .u8)))) ch_0_0 x1.2.2.2.2.2.2.1), .sl ch_0_2 (x1.2.2.2.2.2.2.2).length ch_0_3 (RdS (Ty.int .u8) ch_0_2 x1.2.2.2.2.2.2.2)]] (.cons .here (.cons .here .nil)) ⟨Res.stay_cells, Res.stay_fro, trivial⟩ [(3, (.v (.int .u64 y1))), (1, (.v (.pointer (some ⟨g4, 0, none⟩))))] ⟨rfl, rfl, trivial⟩ (by kernel_rfl) (by kernel_rfl) ?_; clear S; intro w S CL hw le
    refine h_fieldAddr S CL hw le ⟨rfl, rfl, trivial⟩ rfl I39_0 T28 (by decide) rfl rfl rfl trivial ?_; clear S CL a; intro a S CL
    refine h_sliceA S CL hw le ⟨rfl, rfl, rfl, trivial⟩ (i := 0) (j := 20) (o' := 0) (len := 20) (cap := 20) rfl Tryd.underlying28 T5 (.inl ⟨rfl, rfl⟩) (.inl ⟨rfl, rfl⟩) (by decide) rfl rfl rfl rfl rfl trivial ?_; clear S CL a; intro a S CL
    refine h_fieldAddr S CL hw le ⟨rfl, rfl, rfl, rfl, trivial⟩ rfl I39_1 T24 (by decide) rfl rfl rfl trivial ?_; clear S CL a; intro a S CL
    refine h_load1F S CL hw le ⟨rfl, rfl, rfl, rfl, rfl, trivial⟩ rfl (.there .here) T24 (v := (.int .u64 x1.2.1)) rfl rfl rfl trivial ?_; clear S CL a; intro a S CL
    refine h_move S CL hw le ⟨rfl, rfl, rfl, rfl, rfl, rfl, trivial⟩ rfl rfl rfl trivial ?_; clear S CL a; intro a S CL
    refine h_fieldAddr S CL hw le ⟨rfl, rfl, rfl, rfl, rfl, rfl, rfl, trivial⟩ rfl I39_3 T24 (by decide) rfl rfl rfl trivial ?_; clear S CL a; intro a S CL
    refine h_load1F S CL hw le ⟨rfl, rfl, rfl, rfl, rfl, rfl, rfl, rfl, trivial⟩ rfl (.there .here) T24 (v := (.int .u64 x1.2.2.2.1)) rfl rfl rfl trivial ?_; clear S CL a; intro a S CL
    refine h_fieldAddr S CL hw le ⟨rfl, rfl, rfl, rfl, rfl, rfl, rfl, rfl, rfl, trivial⟩ rfl I39_4 T26 (by decide) rfl rfl rfl trivial ?_; clear S CL a; intro a S CL
    refine h_loadaF S CL hw le ⟨rfl, rfl, rfl, rfl, rfl, rfl, rfl, rfl, rfl, rfl, trivial⟩ rfl (.there .here) T26 (s' := [.ints .u64 x1.2.2.2.2.1 4]) rfl rfl rfl trivial ?_; clear S CL a; intro a S CL
    refine h_fieldAddr S CL hw le ⟨rfl, rfl, rfl, rfl, rfl, rfl, rfl, rfl, rfl, rfl, rfl, trivial⟩ rfl I39_5 T28 (by decide) rfl rfl rfl trivial ?_; clear S CL a; intro a S CL
    refine h_sliceA S CL hw le ⟨rfl, rfl, rfl, rfl, rfl, rfl, rfl, rfl, rfl, rfl, rfl, rfl, trivial⟩ (i := 0) (j := 20) (o' := 27) (len := 20) (cap := 20) rfl Tryd.underlying28 T5 (.inl ⟨rfl, rfl⟩) (.inl ⟨rfl, rfl⟩) (by decide) rfl rfl rfl rfl rfl trivial ?_; clear S CL a; intro a S CL
    refine h_fieldAddr S CL hw le ⟨rfl, rfl, rfl, rfl, rfl, rfl, rfl, rfl, rfl, rfl, rfl, rfl, rfl, trivial⟩ rfl I39_7 T37 (by decide) rfl rfl rfl trivial ?_; clear S CL a; intro a S CL
    refine h_loadSlF S CL hw le ⟨rfl, rfl, rfl, rfl, rfl, rfl, rfl, rfl, rfl, rfl, rfl, rfl, rfl, rfl, trivial⟩ rfl (.there .here) T37 (A := ch_0_2) (len := (x1.2.2.2.2.2.2.2).length) (cap := ch_0_3) rfl rfl rfl trivial ?_; clear S CL a; intro a S CL
    refine h_fieldAddr S CL hw le ⟨rfl, rfl, rfl, rfl, rfl, rfl, rfl, rfl, rfl, rfl, rfl, rfl, rfl, rfl, rfl, trivial⟩ rfl I39_6 T36 (by decide) rfl rfl rfl trivial ?_; clear S CL a; intro a S CL
    refine h_loadSlF S CL hw le ⟨rfl, rfl, rfl, rfl, rfl, rfl, rfl, rfl, rfl, rfl, rfl, rfl, rfl, rfl, rfl, rfl, trivial⟩ rfl (.there .here) T36 (A := ch_0_0) (len := (x1.2.2.2.2.2.2.1).length) (cap := ch_0_1) rfl rfl rfl trivial ?_; clear S CL a; intro a S CL
    refine h_run' S rfl trivial ?_
    replace S := (S.slup' (u := 7) (lo := 0) (c := 20) (ys := ((x1.1).drop 0).take 20) rfl (Pull.mem (.there .here)).1 .here (.inl rfl) (by decide) (by decide) rfl).2
    replace CL := CL.drop (lq' := [(28, (.sl ch_0_0 (x1.2.2.2.2.2.2.1).length ch_0_1 (RdS (Ty.prod (Ty.arr .u8 20) (Ty.prod (Ty.slice (Ty.arr .u64 4)) (Ty.slice (Ty.int .u8)))) ch_0_0 x1.2.2.2.2.2.2.1))), (27, (.v (.pointer (some ⟨g4, 47, none⟩)))), (24, (.sl ch_0_2 (x1.2.2.2.2.2.2.2).length ch_0_3 (RdS (Ty.int .u8) ch_0_2 x1.2.2.2.2.2.2.2))), (23, (.v (.pointer (some ⟨g4, 48, none⟩)))), (21, (.v (.slice (some ⟨g4, 27, none⟩) 20 20))), (20, (.v (.pointer (some ⟨g4, 27, none⟩)))), (18, (.agg [.ints .u64 x1.2.2.2.2.1 4])), (17, (.v (.pointer (some ⟨g4, 23, none⟩)))), (15, (.v (.int .u64 x1.2.2.2.1))), (14, (.v (.pointer (some ⟨g4, 22, none⟩)))), (12, (.v (.int .u64 y1))), (10, (.v (.int .u64 x1.2.1))), (9, (.v (.pointer (some ⟨g4, 20, none⟩)))), (6, (.v (.pointer (some ⟨g4, 0, none⟩)))), (3, (.v (.int .u64 y1))), (1, (.v (.pointer (some ⟨g4, 0, none⟩))))]) ⟨rfl, rfl, rfl, rfl, rfl, rfl, rfl, rfl, rfl, rfl, rfl, rfl, rfl, rfl, rfl, rfl, trivial⟩
    obtain ⟨t1, et1, h1⟩ := bind_of h0; clear h0
    refine s_callP S (fun (ch : (Option Addr) × Nat) => ((.agg [.one (.bool t1.1), .sl ch.1 (t1.2.1).length ch.2 (RdS (Ty.int .u8) ch.1 t1.2.1), .one (.int .i64 t1.2.2)]) : D)) N23 rfl rfl (block_item.ok (((x1.1).drop 0).take 20) (some ⟨g4, 0, none⟩) 20 t1 et1 _ _) ?_; clear S a; intro ch1 m le1 a w S
    replace le := le.trans le1
    replace hw := CL.again hw S (.cons .here (.cons .here .nil)) le
    refine h_back ⟨fun _ => hw, ?_⟩
    refine h_run' S rfl trivial ?_
    obtain ⟨t2, et2, h2⟩ := bind_of h1; clear h1
    refine s_callP S (fun (ch : (Option Addr) × Nat) => ((.agg [.one (.bool t2.1), .sl ch.1 (t2.2.1).length ch.2 (RdS (Ty.int .u8) ch.1 t2.2.1), .one (.int .i64 t2.2.2)]) : D)) N24 rfl rfl (block_count.ok k x1.2.1 t2 et2 _ _) ?_; clear S a; intro ch2 m le1 a w S
    replace le := le.trans le1
    replace hw := CL.again hw S (.cons .here (.cons .here .nil)) le
    refine h_back ⟨fun _ => hw, ?_⟩
    refine h_run' S rfl trivial ?_
    obtain ⟨t3, et3, h3⟩ := bind_of h2; clear h2
    refine s_callP S (fun (ch : (Option Addr) × Nat) => ((.agg [.one (.bool t3.1), .sl ch.1 (t3.2.1).length ch.2 (RdS (Ty.int .u8) ch.1 t3.2.1), .one (.int .i64 t3.2.2)]) : D)) N24 rfl rfl (block_count.ok k y1 t3 et3 _ _) ?_; clear S a; intro ch3 m le1 a w S
    replace le := le.trans le1
    replace hw := CL.again hw S (.cons .here (.cons .here .nil)) le
    refine h_back ⟨fun _ => hw, ?_⟩
    refine h_run' S rfl trivial ?_
    obtain ⟨t4, et4, h4⟩ := bind_of h3; clear h3
    refine s_callP S (fun (ch : (Option Addr) × Nat) => ((.agg [.one (.bool t4.1), .sl ch.1 (t4.2.1).length ch.2 (RdS (Ty.int .u8) ch.1 t4.2.1), .one (.int .i64 t4.2.2)]) : D)) N24 rfl rfl (block_count.ok k x1.2.2.2.1 t4 et4 _ _) ?_; clear S a; intro ch4 m le1 a w S
    replace le := le.trans le1
    replace hw := CL.again hw S (.cons .here (.cons .here .nil)) le
    refine h_back ⟨fun _ => hw, ?_⟩
    refine h_run' S rfl trivial ?_
    obtain ⟨t5, et5, h5⟩ := bind_of h4; clear h4
    refine s_callP S (fun (ch : (Option Addr) × Nat) => ((.agg [.one (.bool t5.1), .sl ch.1 (t5.2.1).length ch.2 (RdS (Ty.int .u8) ch.1 t5.2.1), .one (.int .i64 t5.2.2)]) : D)) N25 rfl rfl (block_number.ok k x1.2.2.2.2.1 t5 et5 _ _) ?_; clear S a; intro ch5 m le1 a w S
    replace le := le.trans le1
    replace hw := CL.again hw S (.cons .here (.cons .here .nil)) le
    refine h_back ⟨fun _ => hw, ?_⟩
    refine h_run' S rfl trivial ?_
    replace S := (S.slup' (u := 21) (lo := 0) (c := 20) (ys := ((x1.2.2.2.2.2.1).drop 0).take 20) rfl (Pull.mem (.there .here)).1 (.there (.there (.there (.there (.there .here rfl) rfl) rfl) rfl) rfl) (.inl rfl) (by decide) (by decide) rfl).2
    replace CL := CL.drop (lq' := [(28, (.sl ch_0_0 (x1.2.2.2.2.2.2.1).length ch_0_1 (RdS (Ty.prod (Ty.arr .u8 20) (Ty.prod (Ty.slice (Ty.arr .u64 4)) (Ty.slice (Ty.int .u8)))) ch_0_0 x1.2.2.2.2.2.2.1))), (27, (.v (.pointer (some ⟨g4, 47, none⟩)))), (24, (.sl ch_0_2 (x1.2.2.2.2.2.2.2).length ch_0_3 (RdS (Ty.int .u8) ch_0_2 x1.2.2.2.2.2.2.2))), (23, (.v (.pointer (some ⟨g4, 48, none⟩)))), (20, (.v (.pointer (some ⟨g4, 27, none⟩)))), (18, (.agg [.ints .u64 x1.2.2.2.2.1 4])), (17, (.v (.pointer (some ⟨g4, 23, none⟩)))), (15, (.v (.int .u64 x1.2.2.2.1))), (14, (.v (.pointer (some ⟨g4, 22, none⟩)))), (12, (.v (.int .u64 y1))), (10, (.v (.int .u64 x1.2.1))), (9, (.v (.pointer (some ⟨g4, 20, none⟩)))), (6, (.v (.pointer (some ⟨g4, 0, none⟩)))), (3, (.v (.int .u64 y1))), (1, (.v (.pointer (some ⟨g4, 0, none⟩))))]) ⟨rfl, rfl, rfl, rfl, rfl, rfl, rfl, rfl, rfl, rfl, rfl, rfl, rfl, rfl, rfl, trivial⟩
    obtain ⟨t6, et6, h6⟩ := bind_of h5; clear h5
    refine s_callP S (fun (ch : (Option Addr) × Nat) => ((.agg [.one (.bool t6.1), .sl ch.1 (t6.2.1).length ch.2 (RdS (Ty.int .u8) ch.1 t6.2.1), .one (.int .i64 t6.2.2)]) : D)) N23 rfl rfl (block_item.ok (((x1.2.2.2.2.2.1).drop 0).take 20) (some ⟨g4, 27, none⟩) 20 t6 et6 _ _) ?_; clear S a; intro ch6 m le1 a w S
    replace le := le.trans le1
    replace hw := CL.again hw S (.cons .here (.cons .here .nil)) le
    refine h_back ⟨fun _ => hw, ?_⟩
    refine h_run' S rfl trivial ?_
    obtain ⟨t7, et7, h7⟩ := bind_of h6; clear h6
    refine s_callP S (fun (ch : (Option Addr) × Nat) => ((.agg [.one (.bool t7.1), .sl ch.1 (t7.2.1).length ch.2 (RdS (Ty.int .u8) ch.1 t7.2.1), .one (.int .i64 t7.2.2)]) : D)) N23 rfl rfl (block_item.ok x1.2.2.2.2.2.2.2 ch_0_2 ch_0_3 t7 et7 _ _) ?_; clear S a; intro ch7 m le1 a w S
    replace le := le.trans le1
    replace hw := CL.again hw S (.cons .here (.cons .here .nil)) le
    refine h_back ⟨fun _ => hw, ?_⟩
    obtain ⟨t8, et8, h8⟩ := bind_of h7; clear h7
    obtain ⟨t9, et9, h9⟩ := bind_of h8; clear h8
    obtain ⟨t10, et10, h10⟩ := bind_of h9; clear h9
    refine h_alts ?_
    refine h_runO S rfl trivial ?_ ?_
    · refine s_bldSl S (ty' := (Ty.prod Ty.bool (Ty.prod (Ty.slice (Ty.int .u8)) (Ty.int .i64)))) (ds := [(0, (.agg [.one (.bool t1.1), .sl ch1.1 (t1.2.1).length ch1.2 (RdS (Ty.int .u8) ch1.1 t1.2.1), .one (.int .i64 t1.2.2)])), (1, (.agg [.one (.bool t2.1), .sl ch2.1 (t2.2.1).length ch2.2 (RdS (Ty.int .u8) ch2.1 t2.2.1), .one (.int .i64 t2.2.2)])), (2, (.agg [.one (.bool t3.1), .sl ch3.1 (t3.2.1).length ch3.2 (RdS (Ty.int .u8) ch3.1 t3.2.1), .one (.int .i64 t3.2.2)])), (3, (.agg [.one (.bool t4.1), .sl ch4.1 (t4.2.1).length ch4.2 (RdS (Ty.int .u8) ch4.1 t4.2.1), .one (.int .i64 t4.2.2)])), (4, (.agg [.one (.bool t5.1), .sl ch5.1 (t5.2.1).length ch5.2 (RdS (Ty.int .u8) ch5.1 t5.2.1), .one (.int .i64 t5.2.2)])), (5, (.agg [.one (.bool t6.1), .sl ch6.1 (t6.2.1).length ch6.2 (RdS (Ty.int .u8) ch6.1 t6.2.1), .one (.int .i64 t6.2.2)])), (6, (.agg [.one (.bool t7.1), .sl ch7.1 (t7.2.1).length ch7.2 (RdS (Ty.int .u8) ch7.1 t7.2.1), .one (.int .i64 t7.2.2)]))]) (z := (false, ([] : List Int), 0)) (c0 := ((), (none, 0), ())) (ys := [(t1.1, t1.2.1, t1.2.2), (t2.1, t2.2.1, t2.2.2), (t3.1, t3.2.1, t3.2.2), (t4.1, t4.2.1, t4.2.2), (t5.1, t5.2.1, t5.2.2), (t6.1, t6.2.1, t6.2.2), (t7.1, t7.2.1, t7.2.2)]) (cs := [((), (ch1.1, ch1.2), ()), ((), (ch2.1, ch2.2), ()), ((), (ch3.1, ch3.2), ()), ((), (ch4.1, ch4.2), ()), ((), (ch5.1, ch5.2), ()), ((), (ch6.1, ch6.2), ()), ((), (ch7.1, ch7.2), ())]) rfl Tryd.underlying51 J54 Z54 rfl ⟨rfl, ⟨Nat.le_refl _, Nat.zero_le _, RdS.nil _ _ _, RdS.mono _ _ _⟩, rfl, trivial⟩ rfl rfl rfl rfl rfl rfl ?_; clear S a; intro g8 a w S
      replace hw := CL.again hw S (.cons (.there .here) (.cons (.there .here) .nil)) le
      refine h_back ⟨fun _ => hw, ?_⟩
      refine h_run' S rfl trivial ?_
      refine s_callR S (fun (ch : (Option Addr) × Nat × Nat) => ((.v (.slice ch.1 ch.2.1 ch.2.2)) : D)) (fun (ch : (Option Addr) × Nat × Nat) => Res.row (Ty.prod Ty.bool (Ty.prod (Ty.slice (Ty.int .u8)) (Ty.int .i64))) 54 ch.1 ch.2.1 ch.2.2 t8) N35 rfl rfl (block_logs.ok k x1.2.2.2.2.2.2.1 ch_0_0 ch_0_1 t8 et8 _ _) ?_; clear S a; intro ch8 m le1 a w S
      replace le := le.trans le1
      replace hw := CL.again hw S (.cons (.there (.there .here)) (.cons (.there (.there .here)) .nil)) le
      refine h_back ⟨fun _ => hw, ?_⟩
      refine h_run' S rfl trivial ?_
      replace S := S.rowfro (.there .here)
      obtain ⟨m, le1, S, hro⟩ := S
      replace le := le.trans le1
      replace S := S.slotro (u := 26) rfl hro
      replace S := S.rowfro .here
      obtain ⟨m, le1, S, hro⟩ := S
      replace le := le.trans le1
      replace S := S.slotro (u := 29) rfl hro
      refine s_bldSl S (ty' := (Ty.slice (Ty.prod Ty.bool (Ty.prod (Ty.slice (Ty.int .u8)) (Ty.int .i64))))) (ds := [(0, (.sl (some ⟨g8, 0, none⟩) ([(t1.1, t1.2.1, t1.2.2), (t2.1, t2.2.1, t2.2.2), (t3.1, t3.2.1, t3.2.2), (t4.1, t4.2.1, t4.2.2), (t5.1, t5.2.1, t5.2.2), (t6.1, t6.2.1, t6.2.2), (t7.1, t7.2.1, t7.2.2)]).length 7 (RdS (Ty.prod Ty.bool (Ty.prod (Ty.slice (Ty.int .u8)) (Ty.int .i64))) (some ⟨g8, 0, none⟩) [(t1.1, t1.2.1, t1.2.2), (t2.1, t2.2.1, t2.2.2), (t3.1, t3.2.1, t3.2.2), (t4.1, t4.2.1, t4.2.2), (t5.1, t5.2.1, t5.2.2), (t6.1, t6.2.1, t6.2.2), (t7.1, t7.2.1, t7.2.2)]))), (1, (.sl ch8.1 (t8).length ch8.2.2 (RdS (Ty.prod Ty.bool (Ty.prod (Ty.slice (Ty.int .u8)) (Ty.int .i64))) ch8.1 t8)))]) (z := ([] : List (Bool × (List Int) × Int))) (c0 := (none, 0)) (ys := [[(t1.1, t1.2.1, t1.2.2), (t2.1, t2.2.1, t2.2.2), (t3.1, t3.2.1, t3.2.2), (t4.1, t4.2.1, t4.2.2), (t5.1, t5.2.1, t5.2.2), (t6.1, t6.2.1, t6.2.2), (t7.1, t7.2.1, t7.2.2)], t8]) (cs := [((some ⟨g8, 0, none⟩), 7), (ch8.1, ch8.2.2)]) rfl Tryd.underlying76 J51 Z51 rfl ⟨⟨Nat.le_refl _, Nat.zero_le _, RdS.nil _ _ _, RdS.mono _ _ _⟩, trivial⟩ rfl rfl rfl rfl rfl rfl ?_; clear S a; intro g9 a w S
      replace hw := CL.again hw S (.cons (.there .here) (.cons (.there .here) .nil)) le
      refine h_back ⟨fun _ => hw, ?_⟩
      refine h_run' S rfl trivial ?_
      replace S := S.rowfro .here
      obtain ⟨m, le1, S, hro⟩ := S
      replace le := le.trans le1
      replace S := S.slotro (u := 30) rfl hro
      refine s_callR S (fun (ch : (Option Addr) × Nat × Nat) => ((.v (.slice ch.1 ch.2.1 ch.2.2)) : D)) (fun (ch : (Option Addr) × Nat × Nat) => Res.row (Ty.prod Ty.bool (Ty.prod (Ty.slice (Ty.int .u8)) (Ty.int .i64))) 54 ch.1 ch.2.1 ch.2.2 t9) N22 rfl rfl (block_list.ok k [[(t1.1, t1.2.1, t1.2.2), (t2.1, t2.2.1, t2.2.2), (t3.1, t3.2.1, t3.2.2), (t4.1, t4.2.1, t4.2.2), (t5.1, t5.2.1, t5.2.2), (t6.1, t6.2.1, t6.2.2), (t7.1, t7.2.1, t7.2.2)], t8] (some ⟨g9, 0, none⟩) 2 t9 et9 _ _) ?_; clear S a; intro ch9 m le1 a w S
      replace le := le.trans le1
      replace hw := CL.again hw S (.cons (.there .here) (.cons (.there .here) .nil)) le
      refine h_back ⟨fun _ => hw, ?_⟩
      refine h_run' S rfl trivial ?_
      replace S := S.rowfro .here
      obtain ⟨m, le1, S, hro⟩ := S
      replace le := le.trans le1
      replace S := S.slotro (u := 31) rfl hro
      refine s_callP S (fun (ch : Unit) => ((.agg [.ints .u8 t10 32]) : D)) N21 rfl rfl (block_hash.ok k t9 ch9.1 ch9.2.2 t10 et10 _ _ (G.mono (S.leB hb))) ?_; clear S a; intro ch10 m le1 a w S
      replace le := le.trans le1
      replace hw := CL.again hw S (.cons .here (.cons .here .nil)) le
      refine h_back ⟨fun _ => hw, ?_⟩
      refine h_run' S rfl trivial ?_
      refine s_store S rfl rfl rfl (s' := [.ints .u8 t10 32]) .here T23 rfl rfl ?_; clear S; intro w S
      refine h_back ⟨fun h => (nomatch h), ?_⟩
      refine h_done ?_; clear CL hw le
      refine x_thenN ?_
      exact j2 _ g3 t10 a w (S.sub ⟨rfl, trivial⟩ (.cons .here .nil)) h10
    refine h_runO S rfl trivial ?_ ?_
    · refine s_callR S (fun (ch : (Option Addr) × Nat × Nat) => ((.v (.slice ch.1 ch.2.1 ch.2.2)) : D)) (fun (ch : (Option Addr) × Nat × Nat) => Res.row (Ty.prod Ty.bool (Ty.prod (Ty.slice (Ty.int .u8)) (Ty.int .i64))) 54 ch.1 ch.2.1 ch.2.2 t8) N35 rfl rfl (block_logs.ok k x1.2.2.2.2.2.2.1 ch_0_0 ch_0_1 t8 et8 _ _) ?_; clear S a; intro ch8 m le1 a w S
      replace le := le.trans le1
      replace hw := CL.again hw S (.cons (.there .here) (.cons (.there .here) .nil)) le
      refine h_back ⟨fun _ => hw, ?_⟩
      refine h_run' S rfl trivial ?_
      refine s_bldSl S (ty' := (Ty.prod Ty.bool (Ty.prod (Ty.slice (Ty.int .u8)) (Ty.int .i64)))) (ds := [(0, (.agg [.one (.bool t1.1), .sl ch1.1 (t1.2.1).length ch1.2 (RdS (Ty.int .u8) ch1.1 t1.2.1), .one (.int .i64 t1.2.2)])), (1, (.agg [.one (.bool t2.1), .sl ch2.1 (t2.2.1).length ch2.2 (RdS (Ty.int .u8) ch2.1 t2.2.1), .one (.int .i64 t2.2.2)])), (2, (.agg [.one (.bool t3.1), .sl ch3.1 (t3.2.1).length ch3.2 (RdS (Ty.int .u8) ch3.1 t3.2.1), .one (.int .i64 t3.2.2)])), (3, (.agg [.one (.bool t4.1), .sl ch4.1 (t4.2.1).length ch4.2 (RdS (Ty.int .u8) ch4.1 t4.2.1), .one (.int .i64 t4.2.2)])), (4, (.agg [.one (.bool t5.1), .sl ch5.1 (t5.2.1).length ch5.2 (RdS (Ty.int .u8) ch5.1 t5.2.1), .one (.int .i64 t5.2.2)])), (5, (.agg [.one (.bool t6.1), .sl ch6.1 (t6.2.1).length ch6.2 (RdS (Ty.int .u8) ch6.1 t6.2.1), .one (.int .i64 t6.2.2)])), (6, (.agg [.one (.bool t7.1), .sl ch7.1 (t7.2.1).length ch7.2 (RdS (Ty.int .u8) ch7.1 t7.2.1), .one (.int .i64 t7.2.2)]))]) (z := (false, ([] : List Int), 0)) (c0 := ((), (none, 0), ())) (ys := [(t1.1, t1.2.1, t1.2.2), (t2.1, t2.2.1, t2.2.2), (t3.1, t3.2.1, t3.2.2), (t4.1, t4.2.1, t4.2.2), (t5.1, t5.2.1, t5.2.2), (t6.1, t6.2.1, t6.2.2), (t7.1, t7.2.1, t7.2.2)]) (cs := [((), (ch1.1, ch1.2), ()), ((), (ch2.1, ch2.2), ()), ((), (ch3.1, ch3.2), ()), ((), (ch4.1, ch4.2), ()), ((), (ch5.1, ch5.2), ()), ((), (ch6.1, ch6.2), ()), ((), (ch7.1, ch7.2), ())]) rfl Tryd.underlying51 J54 Z54 rfl ⟨rfl, ⟨Nat.le_refl _, Nat.zero_le _, RdS.nil _ _ _, RdS.mono _ _ _⟩, rfl, trivial⟩ rfl rfl rfl rfl rfl rfl ?_; clear S a; intro g8 a w S
      replace hw := CL.again hw S (.cons (.there (.there .here)) (.cons (.there (.there .here)) .nil)) le
      refine h_back ⟨fun _ => hw, ?_⟩
      refine h_run' S rfl trivial ?_
      replace S := S.rowfro .here
      obtain ⟨m, le1, S, hro⟩ := S
      replace le := le.trans le1
      replace S := S.slotro (u := 26) rfl hro
      replace S := S.rowfro .here
      obtain ⟨m, le1, S, hro⟩ := S
      replace le := le.trans le1
      replace S := S.slotro (u := 29) rfl hro
      refine s_bldSl S (ty' := (Ty.slice (Ty.prod Ty.bool (Ty.prod (Ty.slice (Ty.int .u8)) (Ty.int .i64))))) (ds := [(0, (.sl (some ⟨g8, 0, none⟩) ([(t1.1, t1.2.1, t1.2.2), (t2.1, t2.2.1, t2.2.2), (t3.1, t3.2.1, t3.2.2), (t4.1, t4.2.1, t4.2.2), (t5.1, t5.2.1, t5.2.2), (t6.1, t6.2.1, t6.2.2), (t7.1, t7.2.1, t7.2.2)]).length 7 (RdS (Ty.prod Ty.bool (Ty.prod (Ty.slice (Ty.int .u8)) (Ty.int .i64))) (some ⟨g8, 0, none⟩) [(t1.1, t1.2.1, t1.2.2), (t2.1, t2.2.1, t2.2.2), (t3.1, t3.2.1, t3.2.2), (t4.1, t4.2.1, t4.2.2), (t5.1, t5.2.1, t5.2.2), (t6.1, t6.2.1, t6.2.2), (t7.1, t7.2.1, t7.2.2)]))), (1, (.sl ch8.1 (t8).length ch8.2.2 (RdS (Ty.prod Ty.bool (Ty.prod (Ty.slice (Ty.int .u8)) (Ty.int .i64))) ch8.1 t8)))]) (z := ([] : List (Bool × (List Int) × Int))) (c0 := (none, 0)) (ys := [[(t1.1, t1.2.1, t1.2.2), (t2.1, t2.2.1, t2.2.2), (t3.1, t3.2.1, t3.2.2), (t4.1, t4.2.1, t4.2.2), (t5.1, t5.2.1, t5.2.2), (t6.1, t6.2.1, t6.2.2), (t7.1, t7.2.1, t7.2.2)], t8]) (cs := [((some ⟨g8, 0, none⟩), 7), (ch8.1, ch8.2.2)]) rfl Tryd.underlying76 J51 Z51 rfl ⟨⟨Nat.le_refl _, Nat.zero_le _, RdS.nil _ _ _, RdS.mono _ _ _⟩, trivial⟩ rfl rfl rfl rfl rfl rfl ?_; clear S a; intro g9 a w S
      replace hw := CL.again hw S (.cons (.there .here) (.cons (.there .here) .nil)) le
      refine h_back ⟨fun _ => hw, ?_⟩
      refine h_run' S rfl trivial ?_
      replace S := S.rowfro .here
      obtain ⟨m, le1, S, hro⟩ := S
      replace le := le.trans le1
      replace S := S.slotro (u := 30) rfl hro
      refine s_callR S (fun (ch : (Option Addr) × Nat × Nat) => ((.v (.slice ch.1 ch.2.1 ch.2.2)) : D)) (fun (ch : (Option Addr) × Nat × Nat) => Res.row (Ty.prod Ty.bool (Ty.prod (Ty.slice (Ty.int .u8)) (Ty.int .i64))) 54 ch.1 ch.2.1 ch.2.2 t9) N22 rfl rfl (block_list.ok k [[(t1.1, t1.2.1, t1.2.2), (t2.1, t2.2.1, t2.2.2), (t3.1, t3.2.1, t3.2.2), (t4.1, t4.2.1, t4.2.2), (t5.1, t5.2.1, t5.2.2), (t6.1, t6.2.1, t6.2.2), (t7.1, t7.2.1, t7.2.2)], t8] (some ⟨g9, 0, none⟩) 2 t9 et9 _ _) ?_; clear S a; intro ch9 m le1 a w S
      replace le := le.trans le1
      replace hw := CL.again hw S (.cons (.there .here) (.cons (.there .here) .nil)) le
      refine h_back ⟨fun _ => hw, ?_⟩
      refine h_run' S rfl trivial ?_
      replace S := S.rowfro .here
      obtain ⟨m, le1, S, hro⟩ := S
      replace le := le.trans le1
      replace S := S.slotro (u := 31) rfl hro
      refine s_callP S (fun (ch : Unit) => ((.agg [.ints .u8 t10 32]) : D)) N21 rfl rfl (block_hash.ok k t9 ch9.1 ch9.2.2 t10 et10 _ _ (G.mono (S.leB hb))) ?_; clear S a; intro ch10 m le1 a w S
      replace le := le.trans le1
      replace hw := CL.again hw S (.cons .here (.cons .here .nil)) le
      refine h_back ⟨fun _ => hw, ?_⟩
      refine h_run' S rfl trivial ?_
      refine s_store S rfl rfl rfl (s' := [.ints .u8 t10 32]) .here T23 rfl rfl ?_; clear S; intro w S
      refine h_back ⟨fun h => (nomatch h), ?_⟩
      refine h_done ?_; clear CL hw le
      refine x_thenN ?_
      exact j2 _ g3 t10 a w (S.sub ⟨rfl, trivial⟩ (.cons .here .nil)) h10
    exact h_nil
  refine c_region ?_
  refine s_fieldAddr S rfl I39_2 T4 (by decide) rfl rfl ?_; clear S a; intro a S
  refine s_load1 S rfl (.there .here) T4 (v := (.bool x1.2.2.1)) rfl rfl ?_; clear S a; intro a S
  refine c_end ?_
  rcases ite_of h0 with ⟨c1, h1⟩ | ⟨c1, h1⟩ <;> clear h0
  · refine c_condT S rfl c1 ?_
    refine c_region' ?_
    refine s_assign S rfl rfl ?_; clear S a; intro a S
    refine c_end' ?_
    refine x_thenN ?_
    exact j1 _ 1 g2 g1 a w (S.sub ⟨rfl, rfl, rfl, trivial⟩ (.cons .here (.cons .here .nil))) h1
  · refine c_condF S rfl c1 ?_
    refine wp_skip ?_
    refine x_thenN ?_
    exact j1 _ 0 g2 g1 a w (S.sub ⟨rfl, rfl, rfl, trivial⟩ (.cons .here (.cons .here .nil))) h1
/-! smithy/smithylaw23.BlockReceipts -/
abbrev smithylaw23_BlockReceipts.Ty : Type := ((List Int) × Int × Bool × Int × (List Int) × (List Int) × (List ((List Int) × (List (List Int)) × (List Int))) × (List Int)) → Option Bool
def smithylaw23_BlockReceipts.Ctr (s : smithylaw23_BlockReceipts.Ty) : Prop := ∀ (x1 : (List Int) × Int × Bool × Int × (List Int) × (List Int) × (List ((List Int) × (List (List Int)) × (List Int))) × (List Int)) (ch_0_0 : Option Addr) (ch_0_1 : Nat) (ch_0_2 : Option Addr) (ch_0_3 : Nat) (r : Bool) (h0 : s x1 = some r) (mi : Mem) (w0 : World) (G : Glob mi), okL mi [(.agg [.ints .u8 x1.1 20, .one (.int .u64 x1.2.1), .one (.bool x1.2.2.1), .one (.int .u64 x1.2.2.2.1), .ints .u64 x1.2.2.2.2.1 4, .ints .u8 x1.2.2.2.2.2.1 20, .sl ch_0_0 (x1.2.2.2.2.2.2.1).length ch_0_1 (RdS (Ty.prod (Ty.arr .u8 20) (Ty.prod (Ty.slice (Ty.arr .u64 4)) (Ty.slice (Ty.int .u8)))) ch_0_0 x1.2.2.2.2.2.2.1), .sl ch_0_2 (x1.2.2.2.2.2.2.2).length ch_0_3 (RdS (Ty.int .u8) ch_0_2 x1.2.2.2.2.2.2.2)])] → Pre mi [] w0 → Calls Tryd.prog 4 (([(.agg [.ints .u8 x1.1 20, .one (.int .u64 x1.2.1), .one (.bool x1.2.2.1), .one (.int .u64 x1.2.2.2.1), .ints .u64 x1.2.2.2.2.1 4, .ints .u8 x1.2.2.2.2.2.1 20, .sl ch_0_0 (x1.2.2.2.2.2.2.1).length ch_0_1 (RdS (Ty.prod (Ty.arr .u8 20) (Ty.prod (Ty.slice (Ty.arr .u64 4)) (Ty.slice (Ty.int .u8)))) ch_0_0 x1.2.2.2.2.2.2.1), .sl ch_0_2 (x1.2.2.2.2.2.2.2).length ch_0_3 (RdS (Ty.int .u8) ch_0_2 x1.2.2.2.2.2.2.2)])] : List D).map D.val).toArray w0 (RetX mi [] (fun (ch : Unit) => ((.v (.bool r)) : D)) (fun (ch : Unit) => []) w0)
def smithylaw23_BlockReceipts.f (k : Nat) (x1 : (List Int) × Int × Bool × Int × (List Int) × (List Int) × (List ((List Int) × (List (List Int)) × (List Int))) × (List Int)) : Option Bool := (smithyref23_Great.f k (x1.1, x1.2.1, x1.2.2.1, x1.2.2.2.1, x1.2.2.2.2.1, x1.2.2.2.2.2.1, x1.2.2.2.2.2.2.1, x1.2.2.2.2.2.2.2)).bind fun t1 => (if t1 = true then ((smithylaw23_fixed.f k).bind fun t2 => (some t2)) else (if ((([] : List Int)).length + (x1.2.2.2.2.2.2.2).length) * 1 ≤ 140737488355328 then ((smithyref23_Receipt.f k (x1.1, x1.2.1, x1.2.2.1, x1.2.2.2.1, x1.2.2.2.2.1, x1.2.2.2.2.2.1, x1.2.2.2.2.2.2.1, x1.2.2.2.2.2.2.2)).bind fun t3 => ((smithylaw23_fixed.f k).bind fun t4 => (if t4 = true then ((block_Receipt.f k (x1.1, x1.2.1, x1.2.2.1, x1.2.2.2.1, x1.2.2.2.2.1, x1.2.2.2.2.2.1, x1.2.2.2.2.2.2.1, x1.2.2.2.2.2.2.2)).bind fun t5 => (if (decide (t5 = t3)) = true then (if ((bstr (([] : List Int) ++ x1.2.2.2.2.2.2.2)).toList == (bstr x1.2.2.2.2.2.2.2).toList) = true then ((block_Receipt.f k (x1.1, x1.2.1, x1.2.2.1, x1.2.2.2.1, x1.2.2.2.2.1, x1.2.2.2.2.2.1, x1.2.2.2.2.2.2.1, x1.2.2.2.2.2.2.2)).bind fun t6 => (some (decide (t6 = t3)))) else (some false)) else (some false))) else (some false)))) else none))
theorem smithylaw23_BlockReceipts.ok (k : Nat) : smithylaw23_BlockReceipts.Ctr (smithylaw23_BlockReceipts.f k) := by
  intro x1 ch_0_0 ch_0_1 ch_0_2 ch_0_3 r h0 mi w0 G ok hm
  delta smithylaw23_BlockReceipts.f at h0
  refine c_enterX (n := 35) [(.agg [.ints .u8 x1.1 20, .one (.int .u64 x1.2.1), .one (.bool x1.2.2.1), .one (.int .u64 x1.2.2.2.1), .ints .u64 x1.2.2.2.2.1 4, .ints .u8 x1.2.2.2.2.2.1 20, .sl ch_0_0 (x1.2.2.2.2.2.2.1).length ch_0_1 (RdS (Ty.prod (Ty.arr .u8 20) (Ty.prod (Ty.slice (Ty.arr .u64 4)) (Ty.slice (Ty.int .u8)))) ch_0_0 x1.2.2.2.2.2.2.1), .sl ch_0_2 (x1.2.2.2.2.2.2.2).length ch_0_3 (RdS (Ty.int .u8) ch_0_2 x1.2.2.2.2.2.2.2)])] (l := [(0, (.agg [.ints .u8 x1.1 20, .one (.int .u64 x1.2.1), .one (.bool x1.2.2.1), .one (.int .u64 x1.2.2.2.1), .ints .u64 x1.2.2.2.2.1 4, .ints .u8 x1.2.2.2.2.2.1 20, .sl ch_0_0 (x1.2.2.2.2.2.2.1).length ch_0_1 (RdS (Ty.prod (Ty.arr .u8 20) (Ty.prod (Ty.slice (Ty.arr .u64 4)) (Ty.slice (Ty.int .u8)))) ch_0_0 x1.2.2.2.2.2.2.1), .sl ch_0_2 (x1.2.2.2.2.2.2.2).length ch_0_3 (RdS (Ty.int .u8) ch_0_2 x1.2.2.2.2.2.2.2)]))]) Tryd.func4 rfl rfl rfl rfl ok hm ?_
  clear ok hm
  intro b0 hb a S
  refine c_region ?_
  refine s_box S rfl rfl rfl ?_; clear S a; intro g1 a w S
  refine s_assign S rfl rfl ?_; clear S a; intro a S
  refine c_end ?_
  refine wp_seq ?_
  refine c_region ?_
  refine s_loada S rfl .here T39 (s' := [.ints .u8 x1.1 20, .one (.int .u64 x1.2.1), .one (.bool x1.2.2.1), .one (.int .u64 x1.2.2.2.1), .ints .u64 x1.2.2.2.2.1 4, .ints .u8 x1.2.2.2.2.2.1 20, .sl ch_0_0 (x1.2.2.2.2.2.2.1).length ch_0_1 (RdS (Ty.prod (Ty.arr .u8 20) (Ty.prod (Ty.slice (Ty.arr .u64 4)) (Ty.slice (Ty.int .u8)))) ch_0_0 x1.2.2.2.2.2.2.1), .sl ch_0_2 (x1.2.2.2.2.2.2.2).length ch_0_3 (RdS (Ty.int .u8) ch_0_2 x1.2.2.2.2.2.2.2)]) rfl rfl ?_; clear S a; intro a S
  obtain ⟨t1, et1, h1⟩ := bind_of h0; clear h0
  refine s_callP S (fun (ch : Unit) => ((.v (.bool t1)) : D)) N11 rfl rfl (smithyref23_Great.ok k (x1.1, x1.2.1, x1.2.2.1, x1.2.2.2.1, x1.2.2.2.2.1, x1.2.2.2.2.2.1, x1.2.2.2.2.2.2.1, x1.2.2.2.2.2.2.2) ch_0_0 ch_0_1 ch_0_2 ch_0_3 t1 et1 _ _) ?_; clear S a w; intro ch1 m le1 a w S
  refine c_end ?_
  rcases ite_of h1 with ⟨c1, h2⟩ | ⟨c1, h2⟩ <;> clear h1
  · refine c_condT S rfl c1 ?_
    refine c_region ?_
    obtain ⟨t2, et2, h3⟩ := bind_of h2; clear h2
    refine s_callP S (fun (ch : Unit) => ((.v (.bool t2)) : D)) N6 rfl rfl (smithylaw23_fixed.ok k t2 et2 _ _ (G.mono (S.leB hb))) ?_; clear S a w; intro ch2 m le1 a w S
    refine s_assign S rfl rfl ?_; clear S a; intro a S
    refine c_end ?_
    refine wp_ret ?_
    refine x_thenR ?_
    obtain rfl := Option.some.inj h3
    exact b_ret1 (d := (.v (.bool t2))) S rfl rfl fun ok => S.retX (Hx := []) hb _ _ (() : Unit) .nil ok
  · refine c_condF S rfl c1 ?_
    refine wp_skip ?_
    refine x_thenN ?_
    refine c_region ?_
    refine s_bldSl S (ty' := (Ty.int .u8)) (ds := []) (z := 0) (c0 := ()) (ys := ([] : List Int)) (cs := []) rfl Tryd.underlying37 J5 Z5 rfl ⟨rfl, trivial⟩ rfl rfl rfl rfl rfl rfl ?_; clear S a w; intro g2 a w S
    refine s_fieldAddr S rfl I39_7 T37 (by decide) rfl rfl ?_; clear S a; intro a S
    refine s_loadSl S rfl (.there .here) T37 (A := ch_0_2) (len := (x1.2.2.2.2.2.2.2).length) (cap := ch_0_3) rfl rfl ?_; clear S a; intro a S
    obtain ⟨c2, h3⟩ := chk_of h2; clear h2
    refine s_app S (k2 := ((x1.2.2.2.2.2.2.2).length)) (ys := x1.2.2.2.2.2.2.2) rfl (fun _ _ => .here) rfl rfl rfl (RdS.src (S.get 10 (.sl ch_0_2 (x1.2.2.2.2.2.2.2).length ch_0_3 (RdS (Ty.int .u8) ch_0_2 x1.2.2.2.2.2.2.2)) rfl).2.2.2.1 (by decide) S.frz) Tryd.underlying37 J5 c2 rfl ?_; clear S a w; intro A1 cp1 a w S
    refine s_assign S rfl rfl ?_; clear S a; intro a S
    refine c_end ?_
    refine c_region ?_
    refine s_loada S rfl (.there .here) T39 (s' := [.ints .u8 x1.1 20, .one (.int .u64 x1.2.1), .one (.bool x1.2.2.1), .one (.int .u64 x1.2.2.2.1), .ints .u64 x1.2.2.2.2.1 4, .ints .u8 x1.2.2.2.2.2.1 20, .sl ch_0_0 (x1.2.2.2.2.2.2.1).length ch_0_1 (RdS (Ty.prod (Ty.arr .u8 20) (Ty.prod (Ty.slice (Ty.arr .u64 4)) (Ty.slice (Ty.int .u8)))) ch_0_0 x1.2.2.2.2.2.2.1), .sl ch_0_2 (x1.2.2.2.2.2.2.2).length ch_0_3 (RdS (Ty.int .u8) ch_0_2 x1.2.2.2.2.2.2.2)]) rfl rfl ?_; clear S a; intro a S
    obtain ⟨t3, et3, h4⟩ := bind_of h3; clear h3
    refine s_callP S (fun (ch : Unit) => ((.agg [.ints .u8 t3 32]) : D)) N12 rfl rfl (smithyref23_Receipt.ok k (x1.1, x1.2.1, x1.2.2.1, x1.2.2.2.1, x1.2.2.2.2.1, x1.2.2.2.2.2.1, x1.2.2.2.2.2.2.1, x1.2.2.2.2.2.2.2) ch_0_0 ch_0_1 ch_0_2 ch_0_3 t3 et3 _ _) ?_; clear S a w; intro ch3 m le1 a w S
    refine s_alloc S Z23 rfl ⟨rfl, trivial⟩ rfl ?_; clear S a w; intro g3 a w S
    refine s_store S rfl rfl rfl (s' := [.ints .u8 t3 32]) .here T23 rfl rfl ?_; clear S w; intro w S
    refine c_end ?_
    refine wp_seq (c_heldS S (.alts (.run 0 true (.take 1 (.take 2 (.take 4 (.alts (.run 3 true (.take 5 (.take 6 (.take 7 (.take 8 (.take 10 (.take 11 (.take 12 (.alts (.run 9 true (.take 13 (.take 14 (.take 15 (.take 16 (.take 18 (.alts (.run 17 true (.take 19 (.take 20 (.take 21 .done))) .nil))))))) .nil))))))))) .nil))))) .nil)) 22 [Res.cells g3 23 [.ints .u8 t3 32], Res.cells g1 39 [.ints .u8 x1.1 20, .one (.int .u64 x1.2.1), .one (.bool x1.2.2.1), .one (.int .u64 x1.2.2.2.1), .ints .u64 x1.2.2.2.2.1 4, .ints .u8 x1.2.2.2.2.2.1 20, .sl ch_0_0 (x1.2.2.2.2.2.2.1).length ch_0_1 (RdS (Ty.prod (Ty.arr .u8 20) (Ty.prod (Ty.slice (Ty.arr .u64 4)) (Ty.slice (Ty.int .u8)))) ch_0_0 x1.2.2.2.2.2.2.1), .sl ch_0_2 (x1.2.2.2.2.2.2.2).length ch_0_3 (RdS (Ty.int .u8) ch_0_2 x1.2.2.2.2.2.2.2)]] (.cons .here (.cons (.there .here) .nil)) ⟨Res.stay_cells, Res.stay_cells, trivial⟩ [(4, (.v (.pointer (some ⟨g3, 0, none⟩)))), (3, (.v (.slice A1 (0 + ((x1.2.2.2.2.2.2.2).length)) cp1))), (1, (.v (.pointer (some ⟨g1, 0, none⟩))))] ⟨rfl, rfl, rfl, trivial⟩ (by kernel_rfl) (by kernel_rfl) ?_); clear S; intro w S CL hw le
    refine h_run' S rfl trivial ?_
    obtain ⟨t4, et4, h5⟩ := bind_of h4; clear h4
    refine s_callP S (fun (ch : Unit) => ((.v (.bool t4)) : D)) N6 rfl rfl (smithylaw23_fixed.ok k t4 et4 _ _ (G.mono (S.leB hb))) ?_; clear S a; intro ch4 m le1 a w S
    replace le := le.trans le1
    replace hw := CL.again hw S (.cons .here (.cons (.there .here) .nil)) le
    refine h_back ⟨fun _ => hw, ?_⟩
    replace CL := CL.add (t := 14) (d := (.v (.bool t4))) S rfl rfl
    refine h_move S CL hw le ⟨rfl, rfl, rfl, rfl, trivial⟩ rfl rfl rfl trivial ?_; clear S CL a; intro a S CL
    rcases ite_of h5 with ⟨c3, h6⟩ | ⟨c3, h6⟩ <;> clear h5
    · refine h_loada S CL hw le ⟨rfl, rfl, rfl, rfl, rfl, trivial⟩ rfl (.there .here) T39 (s' := [.ints .u8 x1.1 20, .one (.int .u64 x1.2.1), .one (.bool x1.2.2.1), .one (.int .u64 x1.2.2.2.1), .ints .u64 x1.2.2.2.2.1 4, .ints .u8 x1.2.2.2.2.2.1 20, .sl ch_0_0 (x1.2.2.2.2.2.2.1).length ch_0_1 (RdS (Ty.prod (Ty.arr .u8 20) (Ty.prod (Ty.slice (Ty.arr .u64 4)) (Ty.slice (Ty.int .u8)))) ch_0_0 x1.2.2.2.2.2.2.1), .sl ch_0_2 (x1.2.2.2.2.2.2.2).length ch_0_3 (RdS (Ty.int .u8) ch_0_2 x1.2.2.2.2.2.2.2)]) rfl rfl rfl ⟨_, _, rfl, rfl, c3⟩ ?_; clear S CL a; intro a S CL
      refine h_loada S CL hw le ⟨rfl, rfl, rfl, rfl, rfl, rfl, trivial⟩ rfl .here T23 (s' := [.ints .u8 t3 32]) rfl rfl rfl ⟨_, _, rfl, rfl, c3⟩ ?_; clear S CL a; intro a S CL
      refine h_run' S rfl ⟨_, _, rfl, rfl, c3⟩ ?_
      obtain ⟨t5, et5, h7⟩ := bind_of h6; clear h6
      refine s_callP S (fun (ch : Unit) => ((.agg [.ints .u8 t5 32]) : D)) N13 rfl rfl (block_Receipt.ok k (x1.1, x1.2.1, x1.2.2.1, x1.2.2.2.1, x1.2.2.2.2.1, x1.2.2.2.2.2.1, x1.2.2.2.2.2.2.1, x1.2.2.2.2.2.2.2) ch_0_0 ch_0_1 ch_0_2 ch_0_3 t5 et5 _ _ (G.mono (S.leB hb))) ?_; clear S a; intro ch5 m le1 a w S
      replace le := le.trans le1
      replace hw := CL.again hw S (.cons .here (.cons (.there .here) .nil)) le
      refine h_back ⟨fun _ => hw, ?_⟩
      replace CL := CL.add (t := 17) (d := (.agg [.ints .u8 t5 32])) S rfl rfl
      refine h_eqa S CL hw le ⟨rfl, rfl, rfl, rfl, rfl, rfl, rfl, rfl, trivial⟩ rfl rfl Tryd.underlying23 Tryd.underlying5 T5 Q23 rfl rfl ⟨_, _, rfl, rfl, c3⟩ ?_; clear S CL a; intro a S CL
      refine h_pick S CL hw le ⟨rfl, rfl, rfl, rfl, rfl, rfl, rfl, rfl, rfl, trivial⟩ (b := true) (hc_of rfl c3) rfl rfl rfl trivial ?_; clear S CL a; intro a S CL
      refine h_move S CL hw le ⟨rfl, rfl, rfl, rfl, rfl, rfl, rfl, rfl, rfl, rfl, trivial⟩ rfl rfl rfl trivial ?_; clear S CL a; intro a S CL
      rcases ite_of h7 with ⟨c4, h8⟩ | ⟨c4, h8⟩ <;> clear h7
      · refine h_move S CL hw le ⟨rfl, rfl, rfl, rfl, rfl, rfl, rfl, rfl, rfl, rfl, rfl, trivial⟩ rfl rfl rfl ⟨_, _, rfl, rfl, c4⟩ ?_; clear S CL a; intro a S CL
        refine h_fieldAddr S CL hw le ⟨rfl, rfl, rfl, rfl, rfl, rfl, rfl, rfl, rfl, rfl, rfl, rfl, trivial⟩ rfl I39_7 T37 (by decide) rfl rfl rfl ⟨_, _, rfl, rfl, c4⟩ ?_; clear S CL a; intro a S CL
        refine h_loadSl S CL hw le ⟨rfl, rfl, rfl, rfl, rfl, rfl, rfl, rfl, rfl, rfl, rfl, rfl, rfl, trivial⟩ rfl (.there .here) T37 (A := ch_0_2) (len := (x1.2.2.2.2.2.2.2).length) (cap := ch_0_3) rfl rfl rfl ⟨_, _, rfl, rfl, c4⟩ ?_; clear S CL a; intro a S CL
        refine h_strS S CL hw le ⟨rfl, rfl, rfl, rfl, rfl, rfl, rfl, rfl, rfl, rfl, rfl, rfl, rfl, rfl, trivial⟩ rfl rfl Tryd.underlying37 Tryd.underlying5 Tryd.underlying9 rfl rfl ⟨_, _, rfl, rfl, c4⟩ ?_; clear S CL a; intro a S CL
        refine h_run' S rfl ⟨_, _, rfl, rfl, c4⟩ ?_
        replace S := S.rowfro (.there .here)
        obtain ⟨m, le1, S, hro⟩ := S
        replace le := le.trans le1
        replace S := S.slotro (u := 22) rfl hro
        replace S := S.slotro (u := 3) rfl hro
        replace S := S.slotro (u := 11) rfl hro
        replace CL := CL.drop (lq' := [(26, (.v (.string (bstr x1.2.2.2.2.2.2.2)))), (25, (.sl ch_0_2 (x1.2.2.2.2.2.2.2).length ch_0_3 (RdS (Ty.int .u8) ch_0_2 x1.2.2.2.2.2.2.2))), (24, (.v (.pointer (some ⟨g1, 48, none⟩)))), (21, (.v (.bool (decide (t5 = t3))))), (20, (.v (.bool (decide (t5 = t3))))), (19, (.v (.bool (decide (t5 = t3))))), (17, (.agg [.ints .u8 t5 32])), (18, (.agg [.ints .u8 t3 32])), (16, (.agg [.ints .u8 x1.1 20, .one (.int .u64 x1.2.1), .one (.bool x1.2.2.1), .one (.int .u64 x1.2.2.2.1), .ints .u64 x1.2.2.2.2.1 4, .ints .u8 x1.2.2.2.2.2.1 20, .sl ch_0_0 (x1.2.2.2.2.2.2.1).length ch_0_1 (RdS (Ty.prod (Ty.arr .u8 20) (Ty.prod (Ty.slice (Ty.arr .u64 4)) (Ty.slice (Ty.int .u8)))) ch_0_0 x1.2.2.2.2.2.2.1), .sl ch_0_2 (x1.2.2.2.2.2.2.2).length ch_0_3 (RdS (Ty.int .u8) ch_0_2 x1.2.2.2.2.2.2.2)])), (15, (.v (.bool t4))), (14, (.v (.bool t4))), (4, (.v (.pointer (some ⟨g3, 0, none⟩)))), (1, (.v (.pointer (some ⟨g1, 0, none⟩))))]) ⟨rfl, rfl, rfl, rfl, rfl, rfl, rfl, rfl, rfl, rfl, rfl, rfl, rfl, trivial⟩
        refine s_strS S rfl rfl Tryd.underlying37 Tryd.underlying5 Tryd.underlying9 rfl ?_; clear S a; intro a S
        replace hw := CL.again hw S (.cons .here (.cons .here .nil)) le
        refine h_back ⟨fun _ => hw, ?_⟩
        replace CL := CL.add (t := 23) (d := (.v (.string (bstr (([] : List Int) ++ x1.2.2.2.2.2.2.2))))) S rfl rfl
        refine h_eqT S CL hw le ⟨rfl, rfl, rfl, rfl, rfl, rfl, rfl, rfl, rfl, rfl, rfl, rfl, rfl, rfl, trivial⟩ rfl rfl rfl rfl ⟨_, _, rfl, rfl, c4⟩ ?_; clear S CL a; intro a S CL
        refine h_pick S CL hw le ⟨rfl, rfl, rfl, rfl, rfl, rfl, rfl, rfl, rfl, rfl, rfl, rfl, rfl, rfl, rfl, trivial⟩ (b := true) (hc_of rfl c4) rfl rfl rfl trivial ?_; clear S CL a; intro a S CL
        refine h_move S CL hw le ⟨rfl, rfl, rfl, rfl, rfl, rfl, rfl, rfl, rfl, rfl, rfl, rfl, rfl, rfl, rfl, rfl, trivial⟩ rfl rfl rfl trivial ?_; clear S CL a; intro a S CL
        rcases ite_of h8 with ⟨c5, h9⟩ | ⟨c5, h9⟩ <;> clear h8
        · refine h_loada S CL hw le ⟨rfl, rfl, rfl, rfl, rfl, rfl, rfl, rfl, rfl, rfl, rfl, rfl, rfl, rfl, rfl, rfl, rfl, trivial⟩ rfl (.there .here) T39 (s' := [.ints .u8 x1.1 20, .one (.int .u64 x1.2.1), .one (.bool x1.2.2.1), .one (.int .u64 x1.2.2.2.1), .ints .u64 x1.2.2.2.2.1 4, .ints .u8 x1.2.2.2.2.2.1 20, .sl ch_0_0 (x1.2.2.2.2.2.2.1).length ch_0_1 (RdS (Ty.prod (Ty.arr .u8 20) (Ty.prod (Ty.slice (Ty.arr .u64 4)) (Ty.slice (Ty.int .u8)))) ch_0_0 x1.2.2.2.2.2.2.1), .sl ch_0_2 (x1.2.2.2.2.2.2.2).length ch_0_3 (RdS (Ty.int .u8) ch_0_2 x1.2.2.2.2.2.2.2)]) rfl rfl rfl ⟨_, _, rfl, rfl, c5⟩ ?_; clear S CL a; intro a S CL
          refine h_loada S CL hw le ⟨rfl, rfl, rfl, rfl, rfl, rfl, rfl, rfl, rfl, rfl, rfl, rfl, rfl, rfl, rfl, rfl, rfl, rfl, trivial⟩ rfl .here T23 (s' := [.ints .u8 t3 32]) rfl rfl rfl ⟨_, _, rfl, rfl, c5⟩ ?_; clear S CL a; intro a S CL
          refine h_run' S rfl ⟨_, _, rfl, rfl, c5⟩ ?_
          obtain ⟨t6, et6, h10⟩ := bind_of h9; clear h9
          refine s_callP S (fun (ch : Unit) => ((.agg [.ints .u8 t6 32]) : D)) N13 rfl rfl (block_Receipt.ok k (x1.1, x1.2.1, x1.2.2.1, x1.2.2.2.1, x1.2.2.2.2.1, x1.2.2.2.2.2.1, x1.2.2.2.2.2.2.1, x1.2.2.2.2.2.2.2) ch_0_0 ch_0_1 ch_0_2 ch_0_3 t6 et6 _ _ (G.mono (S.leB hb))) ?_; clear S a; intro ch6 m le1 a w S
          replace le := le.trans le1
          replace hw := CL.again hw S (.cons .here (.cons .here .nil)) le
          refine h_back ⟨fun _ => hw, ?_⟩
          replace CL := CL.add (t := 31) (d := (.agg [.ints .u8 t6 32])) S rfl rfl
          refine h_eqa S CL hw le ⟨rfl, rfl, rfl, rfl, rfl, rfl, rfl, rfl, rfl, rfl, rfl, rfl, rfl, rfl, rfl, rfl, rfl, rfl, rfl, rfl, trivial⟩ rfl rfl Tryd.underlying23 Tryd.underlying5 T5 Q23 rfl rfl ⟨_, _, rfl, rfl, c5⟩ ?_; clear S CL a; intro a S CL
          refine h_pick S CL hw le ⟨rfl, rfl, rfl, rfl, rfl, rfl, rfl, rfl, rfl, rfl, rfl, rfl, rfl, rfl, rfl, rfl, rfl, rfl, rfl, rfl, rfl, trivial⟩ (b := true) (hc_of rfl c5) rfl rfl rfl trivial ?_; clear S CL a; intro a S CL
          refine h_assign S CL hw le ⟨rfl, rfl, rfl, rfl, rfl, rfl, rfl, rfl, rfl, rfl, rfl, rfl, rfl, rfl, rfl, rfl, rfl, rfl, rfl, rfl, rfl, rfl, trivial⟩ rfl rfl rfl trivial ?_; clear S CL a; intro a S CL
          refine h_done ?_; clear CL hw le
          refine x_thenN ?_
          refine wp_ret ?_
          obtain rfl := Option.some.inj h10
          exact b_ret1 (d := (.v (.bool (decide (t6 = t3))))) S rfl rfl fun ok => S.retX (Hx := []) hb _ _ (() : Unit) .nil ok
        · refine h_skip S CL rfl rfl rfl (ne_bool c5) rfl ?_; clear S CL a; intro a S CL
          refine h_skip S CL rfl rfl rfl (ne_bool c5) rfl ?_; clear S CL a; intro a S CL
          refine h_skipRt S rfl rfl rfl (ne_bool c5) rfl ?_; clear S a; intro a S
          replace hw := CL.again hw S (.cons .here (.cons .here .nil)) le
          refine h_back ⟨fun _ => hw, ?_⟩
          replace CL := CL.add (t := 31) (d := .u) S rfl rfl
          refine h_skip S CL rfl rfl rfl (ne_bool c5) rfl ?_; clear S CL a; intro a S CL
          refine h_pick S CL hw le ⟨rfl, rfl, rfl, rfl, rfl, rfl, rfl, rfl, rfl, rfl, rfl, rfl, rfl, rfl, rfl, rfl, rfl, rfl, rfl, rfl, rfl, trivial⟩ (b := false) (hc_of rfl c5) rfl rfl rfl trivial ?_; clear S CL a; intro a S CL
          refine h_assign S CL hw le ⟨rfl, rfl, rfl, rfl, rfl, rfl, rfl, rfl, rfl, rfl, rfl, rfl, rfl, rfl, rfl, rfl, rfl, rfl, rfl, rfl, rfl, rfl, trivial⟩ rfl rfl rfl trivial ?_; clear S CL a; intro a S CL
          refine h_done ?_; clear CL hw le
          refine x_thenN ?_
          refine wp_ret ?_
          obtain rfl := Option.some.inj h9
          exact b_ret1 (d := (.v (.bool false))) S rfl rfl fun ok => S.retX (Hx := []) hb _ _ (() : Unit) .nil ok
      · refine h_skip S CL rfl rfl rfl (ne_bool c4) rfl ?_; clear S CL a; intro a S CL
        refine h_skip S CL rfl rfl rfl (ne_bool c4) rfl ?_; clear S CL a; intro a S CL
        refine h_skip S CL rfl rfl rfl (ne_bool c4) rfl ?_; clear S CL a; intro a S CL
        refine h_skip S CL rfl rfl rfl (ne_bool c4) rfl ?_; clear S CL a; intro a S CL
        refine h_skipRt S rfl rfl rfl (ne_bool c4) rfl ?_; clear S a; intro a S
        replace hw := CL.again hw S (.cons .here (.cons (.there .here) .nil)) le
        refine h_back ⟨fun _ => hw, ?_⟩
        replace CL := CL.add (t := 23) (d := .u) S rfl rfl
        refine h_skip S CL rfl rfl rfl (ne_bool c4) rfl ?_; clear S CL a; intro a S CL
        refine h_pick S CL hw le ⟨rfl, rfl, rfl, rfl, rfl, rfl, rfl, rfl, rfl, rfl, rfl, rfl, rfl, rfl, rfl, rfl, rfl, trivial⟩ (b := false) (hc_of rfl c4) rfl rfl rfl trivial ?_; clear S CL a; intro a S CL
        refine h_move S CL hw le ⟨rfl, rfl, rfl, rfl, rfl, rfl, rfl, rfl, rfl, rfl, rfl, rfl, rfl, rfl, rfl, rfl, rfl, rfl, trivial⟩ rfl rfl rfl trivial ?_; clear S CL a; intro a S CL
        refine h_skip S CL rfl rfl rfl (ne_bool rfl) rfl ?_; clear S CL a; intro a S CL
        refine h_skip S CL rfl rfl rfl (ne_bool rfl) rfl ?_; clear S CL a; intro a S CL
        refine h_skipRt S rfl rfl rfl (ne_bool rfl) rfl ?_; clear S a; intro a S
        replace hw := CL.again hw S (.cons .here (.cons (.there .here) .nil)) le
        refine h_back ⟨fun _ => hw, ?_⟩
        replace CL := CL.add (t := 31) (d := .u) S rfl rfl
        refine h_skip S CL rfl rfl rfl (ne_bool rfl) rfl ?_; clear S CL a; intro a S CL
        refine h_pick S CL hw le ⟨rfl, rfl, rfl, rfl, rfl, rfl, rfl, rfl, rfl, rfl, rfl, rfl, rfl, rfl, rfl, rfl, rfl, rfl, rfl, rfl, rfl, rfl, rfl, trivial⟩ (b := false) (hc_of rfl rfl) rfl rfl rfl trivial ?_; clear S CL a; intro a S CL
        refine h_assign S CL hw le ⟨rfl, rfl, rfl, rfl, rfl, rfl, rfl, rfl, rfl, rfl, rfl, rfl, rfl, rfl, rfl, rfl, rfl, rfl, rfl, rfl, rfl, rfl, rfl, rfl, trivial⟩ rfl rfl rfl trivial ?_; clear S CL a; intro a S CL
        refine h_done ?_; clear CL hw le
        refine x_thenN ?_
        refine wp_ret ?_
        obtain rfl := Option.some.inj h8
        exact b_ret1 (d := (.v (.bool false))) S rfl rfl fun ok => S.retX (Hx := []) hb _ _ (() : Unit) .nil ok
    · refine h_skip S CL rfl rfl rfl (ne_bool c3) rfl ?_; clear S CL a; intro a S CL
      refine h_skip S CL rfl rfl rfl (ne_bool c3) rfl ?_; clear S CL a; intro a S CL
      refine h_skipRt S rfl rfl rfl (ne_bool c3) rfl ?_; clear S a; intro a S
      replace hw := CL.again hw S (.cons .here (.cons (.there .here) .nil)) le
      refine h_back ⟨fun _ => hw, ?_⟩
      replace CL := CL.add (t := 17) (d := .u) S rfl rfl
      refine h_skip S CL rfl rfl rfl (ne_bool c3) rfl ?_; clear S CL a; intro a S CL
      refine h_pick S CL hw le ⟨rfl, rfl, rfl, rfl, rfl, rfl, rfl, rfl, rfl, trivial⟩ (b := false) (hc_of rfl c3) rfl rfl rfl trivial ?_; clear S CL a; intro a S CL
      refine h_move S CL hw le ⟨rfl, rfl, rfl, rfl, rfl, rfl, rfl, rfl, rfl, rfl, trivial⟩ rfl rfl rfl trivial ?_; clear S CL a; intro a S CL
      refine h_skip S CL rfl rfl rfl (ne_bool rfl) rfl ?_; clear S CL a; intro a S CL
      refine h_skip S CL rfl rfl rfl (ne_bool rfl) rfl ?_; clear S CL a; intro a S CL
      refine h_skip S CL rfl rfl rfl (ne_bool rfl) rfl ?_; clear S CL a; intro a S CL
      refine h_skip S CL rfl rfl rfl (ne_bool rfl) rfl ?_; clear S CL a; intro a S CL
      refine h_skipRt S rfl rfl rfl (ne_bool rfl) rfl ?_; clear S a; intro a S
      replace hw := CL.again hw S (.cons .here (.cons (.there .here) .nil)) le
      refine h_back ⟨fun _ => hw, ?_⟩
      replace CL := CL.add (t := 23) (d := .u) S rfl rfl
      refine h_skip S CL rfl rfl rfl (ne_bool rfl) rfl ?_; clear S CL a; intro a S CL
      refine h_pick S CL hw le ⟨rfl, rfl, rfl, rfl, rfl, rfl, rfl, rfl, rfl, rfl, rfl, rfl, rfl, rfl, rfl, rfl, rfl, trivial⟩ (b := false) (hc_of rfl rfl) rfl rfl rfl trivial ?_; clear S CL a; intro a S CL
      refine h_move S CL hw le ⟨rfl, rfl, rfl, rfl, rfl, rfl, rfl, rfl, rfl, rfl, rfl, rfl, rfl, rfl, rfl, rfl, rfl, rfl, trivial⟩ rfl rfl rfl trivial ?_; clear S CL a; intro a S CL
      refine h_skip S CL rfl rfl rfl (ne_bool rfl) rfl ?_; clear S CL a; intro a S CL
      refine h_skip S CL rfl rfl rfl (ne_bool rfl) rfl ?_; clear S CL a; intro a S CL
      refine h_skipRt S rfl rfl rfl (ne_bool rfl) rfl ?_; clear S a; intro a S
      replace hw := CL.again hw S (.cons .here (.cons (.there .here) .nil)) le
      refine h_back ⟨fun _ => hw, ?_⟩
      replace CL := CL.add (t := 31) (d := .u) S rfl rfl
      refine h_skip S CL rfl rfl rfl (ne_bool rfl) rfl ?_; clear S CL a; intro a S CL
      refine h_pick S CL hw le ⟨rfl, rfl, rfl, rfl, rfl, rfl, rfl, rfl, rfl, rfl, rfl, rfl, rfl, rfl, rfl, rfl, rfl, rfl, rfl, rfl, rfl, rfl, rfl, trivial⟩ (b := false) (hc_of rfl rfl) rfl rfl rfl trivial ?_; clear S CL a; intro a S CL
      refine h_assign S CL hw le ⟨rfl, rfl, rfl, rfl, rfl, rfl, rfl, rfl, rfl, rfl, rfl, rfl, rfl, rfl, rfl, rfl, rfl, rfl, rfl, rfl, rfl, rfl, rfl, rfl, trivial⟩ rfl rfl rfl trivial ?_; clear S CL a; intro a S CL
      refine h_done ?_; clear CL hw le
      refine x_thenN ?_
      refine wp_ret ?_
      obtain rfl := Option.some.inj h6
      exact b_ret1 (d := (.v (.bool false))) S rfl rfl fun ok => S.retX (Hx := []) hb _ _ (() : Unit) .nil ok
end GW
