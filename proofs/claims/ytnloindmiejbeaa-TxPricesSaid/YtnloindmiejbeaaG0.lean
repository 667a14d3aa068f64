/-
  Printed by a program of these sessions (wip/gw/gx.py): for each Go function a Lean function with the same answers, and the walk that shows it.
-/
import Derived.Test.YtnloindmiejbeaaProg
import Derived.Test.YtnloindmiejbeaaGA
set_option linter.unusedVariables false
set_option maxRecDepth 10000
namespace GW
open Go Go.RowKit Go.Proofs
/-! smithy/smithyref19.Cost -/
abbrev smithyref19_Cost.Ty : Type := ((List Int) × (List Int) × Bool × Int × (List Int) × (List Int) × Int × (List Int) × (List Int) × (List ((List Int) × (List (List Int))))) → Option ((List Int))
def smithyref19_Cost.Ctr (s : smithyref19_Cost.Ty) : Prop := ∀ (x1 : (List Int) × (List Int) × Bool × Int × (List Int) × (List Int) × Int × (List Int) × (List Int) × (List ((List Int) × (List (List Int))))) (ch_0_0 : Option Addr) (ch_0_1 : Nat) (ch_0_2 : Option Addr) (ch_0_3 : Nat) (r : (List Int)) (h0 : s x1 = some r) (mi : Mem) (w0 : World), okL mi [(.agg [.ints .u8 x1.1 20, .ints .u8 x1.2.1 20, .one (.bool x1.2.2.1), .one (.int .u64 x1.2.2.2.1), .ints .u64 x1.2.2.2.2.1 4, .sl ch_0_0 (x1.2.2.2.2.2.1).length ch_0_1 (RdS (Ty.int .u8) ch_0_0 x1.2.2.2.2.2.1), .one (.int .u64 x1.2.2.2.2.2.2.1), .ints .u64 x1.2.2.2.2.2.2.2.1 4, .ints .u64 x1.2.2.2.2.2.2.2.2.1 4, .sl ch_0_2 (x1.2.2.2.2.2.2.2.2.2).length ch_0_3 (RdS (Ty.prod (Ty.arr .u8 20) (Ty.slice (Ty.arr .u64 4))) ch_0_2 x1.2.2.2.2.2.2.2.2.2)])] → Pre mi [] w0 → Calls Try.prog 8 (([(.agg [.ints .u8 x1.1 20, .ints .u8 x1.2.1 20, .one (.bool x1.2.2.1), .one (.int .u64 x1.2.2.2.1), .ints .u64 x1.2.2.2.2.1 4, .sl ch_0_0 (x1.2.2.2.2.2.1).length ch_0_1 (RdS (Ty.int .u8) ch_0_0 x1.2.2.2.2.2.1), .one (.int .u64 x1.2.2.2.2.2.2.1), .ints .u64 x1.2.2.2.2.2.2.2.1 4, .ints .u64 x1.2.2.2.2.2.2.2.2.1 4, .sl ch_0_2 (x1.2.2.2.2.2.2.2.2.2).length ch_0_3 (RdS (Ty.prod (Ty.arr .u8 20) (Ty.slice (Ty.arr .u64 4))) ch_0_2 x1.2.2.2.2.2.2.2.2.2)])] : List D).map D.val).toArray w0 (RetX mi [] (fun (ch : (Option Addr) × Nat × Nat) => ((.v (.slice ch.1 ch.2.1 ch.2.2)) : D)) (fun (ch : (Option Addr) × Nat × Nat) => [Res.row (Ty.int .i64) 3 ch.1 ch.2.1 ch.2.2 r]) w0)
def smithyref19_Cost.f (k : Nat) (x1 : (List Int) × (List Int) × Bool × Int × (List Int) × (List Int) × Int × (List Int) × (List Int) × (List ((List Int) × (List (List Int))))) : Option ((List Int)) := (smithyref02_Of.f k [x1.2.2.2.2.2.2.1, 0, 0, 0]).bind fun t1 => ((smithyref02_Of.f k x1.2.2.2.2.2.2.2.1).bind fun t2 => ((smithyref02_Times.f k t1 t2).bind fun t3 => ((smithyref02_Of.f k x1.2.2.2.2.1).bind fun t4 => ((smithyref02_Plus.f k t3 t4).bind fun t5 => (some t5)))))
theorem smithyref19_Cost.ok (k : Nat) : smithyref19_Cost.Ctr (smithyref19_Cost.f k) := by
  intro x1 ch_0_0 ch_0_1 ch_0_2 ch_0_3 r h0 mi w0 ok hm
  delta smithyref19_Cost.f at h0
  refine c_enterX (n := 15) [(.agg [.ints .u8 x1.1 20, .ints .u8 x1.2.1 20, .one (.bool x1.2.2.1), .one (.int .u64 x1.2.2.2.1), .ints .u64 x1.2.2.2.2.1 4, .sl ch_0_0 (x1.2.2.2.2.2.1).length ch_0_1 (RdS (Ty.int .u8) ch_0_0 x1.2.2.2.2.2.1), .one (.int .u64 x1.2.2.2.2.2.2.1), .ints .u64 x1.2.2.2.2.2.2.2.1 4, .ints .u64 x1.2.2.2.2.2.2.2.2.1 4, .sl ch_0_2 (x1.2.2.2.2.2.2.2.2.2).length ch_0_3 (RdS (Ty.prod (Ty.arr .u8 20) (Ty.slice (Ty.arr .u64 4))) ch_0_2 x1.2.2.2.2.2.2.2.2.2)])] (l := [(0, (.agg [.ints .u8 x1.1 20, .ints .u8 x1.2.1 20, .one (.bool x1.2.2.1), .one (.int .u64 x1.2.2.2.1), .ints .u64 x1.2.2.2.2.1 4, .sl ch_0_0 (x1.2.2.2.2.2.1).length ch_0_1 (RdS (Ty.int .u8) ch_0_0 x1.2.2.2.2.2.1), .one (.int .u64 x1.2.2.2.2.2.2.1), .ints .u64 x1.2.2.2.2.2.2.2.1 4, .ints .u64 x1.2.2.2.2.2.2.2.2.1 4, .sl ch_0_2 (x1.2.2.2.2.2.2.2.2.2).length ch_0_3 (RdS (Ty.prod (Ty.arr .u8 20) (Ty.slice (Ty.arr .u64 4))) ch_0_2 x1.2.2.2.2.2.2.2.2.2)]))]) Try.func8 rfl rfl rfl rfl ok hm ?_
  clear ok hm
  intro b0 hb a S
  refine c_region ?_
  refine s_box S rfl rfl rfl ?_; clear S a; intro g1 a w S
  refine s_assign S rfl rfl ?_; clear S a; intro a S
  refine c_end ?_
  refine wp_seq (c_heldS S (.take 0 (.take 1 (.take 2 (.take 4 (.take 5 (.take 8 (.take 9 (.alts (.run 3 true (.alts (.run 6 true (.alts (.run 7 true (.alts (.run 10 true (.alts (.run 11 true (.take 12 .done) .nil)) .nil)) .nil)) .nil)) .nil))))))))) 13 [Res.cells g1 30 [.ints .u8 x1.1 20, .ints .u8 x1.2.1 20, .one (.bool x1.2.2.1), .one (.int .u64 x1.2.2.2.1), .ints .u64 x1.2.2.2.2.1 4, .sl ch_0_0 (x1.2.2.2.2.2.1).length ch_0_1 (RdS (Ty.int .u8) ch_0_0 x1.2.2.2.2.2.1), .one (.int .u64 x1.2.2.2.2.2.2.1), .ints .u64 x1.2.2.2.2.2.2.2.1 4, .ints .u64 x1.2.2.2.2.2.2.2.2.1 4, .sl ch_0_2 (x1.2.2.2.2.2.2.2.2.2).length ch_0_3 (RdS (Ty.prod (Ty.arr .u8 20) (Ty.slice (Ty.arr .u64 4))) ch_0_2 x1.2.2.2.2.2.2.2.2.2)]] (.cons .here .nil) ⟨Res.stay_cells, trivial⟩ [(1, (.v (.pointer (some ⟨g1, 0, none⟩))))] ⟨rfl, trivial⟩ (by kernel_rfl) (by kernel_rfl) ?_); clear S; intro w S CL hw le
  refine h_fieldAddr S CL hw le ⟨rfl, trivial⟩ rfl I30_6 T24 (by decide) rfl rfl rfl trivial ?_; clear S CL a; intro a S CL
  refine h_load1 S CL hw le ⟨rfl, rfl, trivial⟩ rfl .here T24 (v := (.int .u64 x1.2.2.2.2.2.2.1)) rfl rfl rfl trivial ?_; clear S CL a; intro a S CL
  refine h_build S CL hw le ⟨rfl, rfl, rfl, trivial⟩ (ds := [(0, (.v (.int .u64 x1.2.2.2.2.2.2.1)))]) (dv := (.agg [.ints .u64 [x1.2.2.2.2.2.2.1, 0, 0, 0] 4])) rfl (fun _ => by kernel_rfl) ⟨rfl, trivial⟩ rfl rfl trivial ?_; clear S CL a; intro a S CL
  refine h_fieldAddr S CL hw le ⟨rfl, rfl, rfl, rfl, trivial⟩ rfl I30_7 T26 (by decide) rfl rfl rfl trivial ?_; clear S CL a; intro a S CL
  refine h_loada S CL hw le ⟨rfl, rfl, rfl, rfl, rfl, trivial⟩ rfl .here T26 (s' := [.ints .u64 x1.2.2.2.2.2.2.2.1 4]) rfl rfl rfl trivial ?_; clear S CL a; intro a S CL
  refine h_fieldAddr S CL hw le ⟨rfl, rfl, rfl, rfl, rfl, rfl, trivial⟩ rfl I30_4 T26 (by decide) rfl rfl rfl trivial ?_; clear S CL a; intro a S CL
  refine h_loada S CL hw le ⟨rfl, rfl, rfl, rfl, rfl, rfl, rfl, trivial⟩ rfl .here T26 (s' := [.ints .u64 x1.2.2.2.2.1 4]) rfl rfl rfl trivial ?_; clear S CL a; intro a S CL
  refine h_run' S rfl trivial ?_
  obtain ⟨t1, et1, h1⟩ := bind_of h0; clear h0
  refine s_callR S (fun (ch : (Option Addr) × Nat × Nat) => ((.v (.slice ch.1 ch.2.1 ch.2.2)) : D)) (fun (ch : (Option Addr) × Nat × Nat) => Res.row (Ty.int .i64) 3 ch.1 ch.2.1 ch.2.2 t1) N22 rfl rfl (smithyref02_Of.ok k [x1.2.2.2.2.2.2.1, 0, 0, 0] t1 et1 _ _) ?_; clear S a; intro ch1 m le1 a w S
  replace le := le.trans le1
  replace hw := CL.again hw S (.cons (.there .here) .nil) le
  refine h_back ⟨fun _ => hw, ?_⟩
  refine h_run' S rfl trivial ?_
  obtain ⟨t2, et2, h2⟩ := bind_of h1; clear h1
  refine s_callR S (fun (ch : (Option Addr) × Nat × Nat) => ((.v (.slice ch.1 ch.2.1 ch.2.2)) : D)) (fun (ch : (Option Addr) × Nat × Nat) => Res.row (Ty.int .i64) 3 ch.1 ch.2.1 ch.2.2 t2) N22 rfl rfl (smithyref02_Of.ok k x1.2.2.2.2.2.2.2.1 t2 et2 _ _) ?_; clear S a; intro ch2 m le1 a w S
  replace le := le.trans le1
  replace hw := CL.again hw S (.cons (.there (.there .here)) .nil) le
  refine h_back ⟨fun _ => hw, ?_⟩
  refine h_run' S rfl trivial ?_
  replace S := S.rowfro (.there .here)
  obtain ⟨m, le1, S, hro⟩ := S
  replace le := le.trans le1
  replace S := S.slotro (u := 6) rfl hro
  replace S := S.rowfro .here
  obtain ⟨m, le1, S, hro⟩ := S
  replace le := le.trans le1
  replace S := S.slotro (u := 9) rfl hro
  obtain ⟨t3, et3, h3⟩ := bind_of h2; clear h2
  refine s_callR S (fun (ch : (Option Addr) × Nat × Nat) => ((.v (.slice ch.1 ch.2.1 ch.2.2)) : D)) (fun (ch : (Option Addr) × Nat × Nat) => Res.row (Ty.int .i64) 3 ch.1 ch.2.1 ch.2.2 t3) N21 rfl rfl (smithyref02_Times.ok k t1 t2 ch1.1 ch1.2.2 ch2.1 ch2.2.2 t3 et3 _ _) ?_; clear S a; intro ch3 m le1 a w S
  replace le := le.trans le1
  replace hw := CL.again hw S (.cons (.there .here) .nil) le
  refine h_back ⟨fun _ => hw, ?_⟩
  refine h_run' S rfl trivial ?_
  obtain ⟨t4, et4, h4⟩ := bind_of h3; clear h3
  refine s_callR S (fun (ch : (Option Addr) × Nat × Nat) => ((.v (.slice ch.1 ch.2.1 ch.2.2)) : D)) (fun (ch : (Option Addr) × Nat × Nat) => Res.row (Ty.int .i64) 3 ch.1 ch.2.1 ch.2.2 t4) N22 rfl rfl (smithyref02_Of.ok k x1.2.2.2.2.1 t4 et4 _ _) ?_; clear S a; intro ch4 m le1 a w S
  replace le := le.trans le1
  replace hw := CL.again hw S (.cons (.there (.there .here)) .nil) le
  refine h_back ⟨fun _ => hw, ?_⟩
  refine h_run' S rfl trivial ?_
  replace S := S.rowfro (.there .here)
  obtain ⟨m, le1, S, hro⟩ := S
  replace le := le.trans le1
  replace S := S.slotro (u := 10) rfl hro
  replace S := S.rowfro .here
  obtain ⟨m, le1, S, hro⟩ := S
  replace le := le.trans le1
  replace S := S.slotro (u := 13) rfl hro
  obtain ⟨t5, et5, h5⟩ := bind_of h4; clear h4
  refine s_callR S (fun (ch : (Option Addr) × Nat × Nat) => ((.v (.slice ch.1 ch.2.1 ch.2.2)) : D)) (fun (ch : (Option Addr) × Nat × Nat) => Res.row (Ty.int .i64) 3 ch.1 ch.2.1 ch.2.2 t5) N20 rfl rfl (smithyref02_Plus.ok k t3 t4 ch3.1 ch3.2.2 ch4.1 ch4.2.2 t5 et5 _ _) ?_; clear S a; intro ch5 m le1 a w S
  replace le := le.trans le1
  replace hw := CL.again hw S (.cons (.there .here) .nil) le
  refine h_back ⟨fun _ => hw, ?_⟩
  replace CL := CL.add (t := 14) (d := (.v (.slice ch5.1 ch5.2.1 ch5.2.2))) S rfl rfl
  refine h_assign S CL hw le ⟨rfl, rfl, rfl, rfl, rfl, rfl, rfl, rfl, rfl, trivial⟩ rfl rfl rfl trivial ?_; clear S CL a; intro a S CL
  refine h_done ?_; clear CL hw le
  refine x_thenN ?_
  refine wp_ret ?_
  obtain rfl := Option.some.inj h5
  exact b_ret1 (d := (.v (.slice ch5.1 ch5.2.1 ch5.2.2))) S rfl rfl fun ok => S.retX (Hx := []) hb _ _ ((ch5.1, ch5.2.1, ch5.2.2) : (Option Addr) × Nat × Nat) (.cons .here .nil) ok
/-! (smithy/smithyref02.N).High -/
abbrev smithyref02_N_High.Ty : Type := (List Int) → Option ((List Int))
def smithyref02_N_High.Ctr (s : smithyref02_N_High.Ty) : Prop := ∀ (x1 : List Int) (ch_0_0 : Option Addr) (ch_0_1 : Nat) (r : (List Int)) (h0 : s x1 = some r) (mi : Mem) (w0 : World), okL mi [(.sl ch_0_0 (x1).length ch_0_1 (RdS (Ty.int .i64) ch_0_0 x1))] → Pre mi [] w0 → Calls Try.prog 10 (([(.sl ch_0_0 (x1).length ch_0_1 (RdS (Ty.int .i64) ch_0_0 x1))] : List D).map D.val).toArray w0 (RetX mi [] (fun (ch : (Option Addr) × Nat) => ((.sl ch.1 (r).length ch.2 (RdS (Ty.int .i64) ch.1 r)) : D)) (fun (ch : (Option Addr) × Nat) => []) w0)
def smithyref02_N_High.f (x1 : List Int) : Option ((List Int)) := if (decide (((x1).length : Int) ≤ 32)) = true then (some ([] : List Int)) else (if (0 : Int) ≤ 32 ∧ (32 : Int) ≤ ((x1).length : Int) ∧ ((x1).length : Int) ≤ ((x1).length : Int) then (some (x1.drop (Int.toNat 32))) else none)
theorem smithyref02_N_High.ok : smithyref02_N_High.Ctr (smithyref02_N_High.f) := by
  intro x1 ch_0_0 ch_0_1 r h0 mi w0 ok hm
  delta smithyref02_N_High.f at h0
  refine c_enterX (n := 9) [(.sl ch_0_0 (x1).length ch_0_1 (RdS (Ty.int .i64) ch_0_0 x1))] (l := [(0, (.sl ch_0_0 (x1).length ch_0_1 (RdS (Ty.int .i64) ch_0_0 x1)))]) Try.func10 rfl rfl rfl rfl ok hm ?_
  clear ok hm
  intro b0 hb a S
  refine c_region ?_
  refine s_assign S rfl rfl ?_; clear S a; intro a S
  refine c_end ?_
  refine wp_seq ?_
  refine c_region ?_
  refine s_move S rfl rfl ?_; clear S a; intro a S
  refine s_lenS S rfl Try.underlying36 rfl ?_; clear S a; intro a S
  refine s_bin S rfl rfl rfl rfl ?_; clear S a; intro a S
  refine c_end ?_
  rcases ite_of h0 with ⟨c1, h1⟩ | ⟨c1, h1⟩ <;> clear h0
  · refine c_condT S rfl c1 ?_
    refine c_region ?_
    refine s_bldSl S (ty' := (Ty.int .i64)) (ds := []) (z := 0) (c0 := ()) (ys := ([] : List Int)) (cs := []) rfl Try.underlying36 J3 Z3 rfl ⟨rfl, trivial⟩ rfl rfl rfl rfl rfl rfl ?_; clear S a; intro g1 a w S
    refine s_assign S rfl rfl ?_; clear S a; intro a S
    refine c_end ?_
    refine wp_ret ?_
    refine x_thenR ?_
    replace S := S.rowfro .here
    obtain ⟨m, le1, S, hro⟩ := S
    replace S := S.slotro (u := 2) rfl hro
    replace S := S.slotro (u := 6) rfl hro
    obtain rfl := Option.some.inj h1
    exact b_ret1 (d := (.sl (some ⟨g1, 0, none⟩) (([] : List Int)).length 0 (RdS (Ty.int .i64) (some ⟨g1, 0, none⟩) ([] : List Int)))) S rfl rfl fun ok => S.retX (Hx := []) hb _ _ (((some ⟨g1, 0, none⟩), 0) : (Option Addr) × Nat) .nil ok
  · refine c_condF S rfl c1 ?_
    refine wp_skip ?_
    refine x_thenN ?_
    refine c_region ?_
    refine s_move S rfl rfl ?_; clear S a; intro a S
    obtain ⟨c2, h2⟩ := chk_of h1; clear h1
    refine s_cutS S (i := 32) (j := ((x1).length : Int)) (ys := x1.drop (Int.toNat 32)) rfl rfl Try.underlying36 T3 (.inr ⟨_, _, rfl, rfl⟩) (.inl ⟨rfl, rfl⟩) c2 rfl (cut_end rfl) ?_; clear S a; intro A1 cp1 a S
    refine s_assign S rfl rfl ?_; clear S a; intro a S
    refine c_end ?_
    refine wp_ret ?_
    obtain rfl := Option.some.inj h2
    exact b_ret1 (d := (.sl A1 (x1.drop (Int.toNat 32)).length cp1 (RdS (Ty.int .i64) A1 (x1.drop (Int.toNat 32))))) S rfl rfl fun ok => S.retX (Hx := []) hb _ _ ((A1, cp1) : (Option Addr) × Nat) .nil ok
/-! smithy/smithyref02.Zero -/
abbrev smithyref02_Zero.Ty : Type := (List Int) → Option Bool
def smithyref02_Zero.Ctr (s : smithyref02_Zero.Ty) : Prop := ∀ (x1 : List Int) (ch_0_0 : Option Addr) (ch_0_1 : Nat) (r : Bool) (h0 : s x1 = some r) (mi : Mem) (w0 : World), okL mi [(.sl ch_0_0 (x1).length ch_0_1 (RdS (Ty.int .i64) ch_0_0 x1))] → Pre mi [] w0 → Calls Try.prog 9 (([(.sl ch_0_0 (x1).length ch_0_1 (RdS (Ty.int .i64) ch_0_0 x1))] : List D).map D.val).toArray w0 (RetX mi [] (fun (ch : Unit) => ((.v (.bool r)) : D)) (fun (ch : Unit) => []) w0)
def smithyref02_Zero.j1 : Option Bool := some true
def smithyref02_Zero.b1 (x1 : List Int) (rec1 : Int → Option Bool) (y1 : Int) : Option Bool := if (decide (y1 < ((x1).length : Int))) = true then (if (0 : Int) ≤ y1 ∧ y1 < ((x1).length : Int) then (if ((rd x1 y1) != 0) = true then (some false) else (rec1 (wr .i64 (y1 + 1)))) else none) else smithyref02_Zero.j1
def smithyref02_Zero.l1 (x1 : List Int) : Nat → Int → Option Bool
  | 0, _ => none
  | q + 1, y1 => smithyref02_Zero.b1 x1 (smithyref02_Zero.l1 x1 q) y1
def smithyref02_Zero.f (k : Nat) (x1 : List Int) : Option Bool := smithyref02_Zero.l1 x1 k 0
theorem smithyref02_Zero.ok (k : Nat) : smithyref02_Zero.Ctr (smithyref02_Zero.f k) := by
  intro x1 ch_0_0 ch_0_1 r h0 mi w0 ok hm
  delta smithyref02_Zero.f at h0
  refine c_enterX (n := 15) [(.sl ch_0_0 (x1).length ch_0_1 (RdS (Ty.int .i64) ch_0_0 x1))] (l := [(0, (.sl ch_0_0 (x1).length ch_0_1 (RdS (Ty.int .i64) ch_0_0 x1)))]) Try.func9 rfl rfl rfl rfl ok hm ?_
  clear ok hm
  intro b0 hb a S
  refine c_region ?_
  refine s_assign S rfl rfl ?_; clear S a; intro a S
  refine c_end ?_
  refine wp_seq_k ?_
  intro K1 hK1
  have j1 : ∀ (m : Mem) (a : Act) (w : World), St 15 m b0 [] [] a w → smithyref02_Zero.j1 = some r → K1 a w := by
    intro m a w S h0
    delta smithyref02_Zero.j1 at h0
    refine hK1 a w ?_
    refine c_region ?_
    refine s_assign S rfl rfl ?_; clear S a; intro a S
    refine c_end ?_
    refine wp_ret ?_
    obtain rfl := Option.some.inj h0
    exact b_ret1 (d := (.v (.bool true))) S rfl rfl fun ok => S.retX (Hx := []) hb _ _ (() : Unit) .nil ok
  refine c_region ?_
  refine s_move S rfl rfl ?_; clear S a; intro a S
  refine s_lenS S rfl Try.underlying36 rfl ?_; clear S a; intro a S
  refine s_move S rfl rfl ?_; clear S a; intro a S
  refine c_end ?_
  refine wp_block ?_
  refine c_loop (fun q1 a w => ∃ (m : Mem) (y1 : Int), St 15 m b0 [(6, (.v (.int .i64 y1))), (5, (.v (.int .i64 ((x1).length : Int)))), (0, (.sl ch_0_0 (x1).length ch_0_1 (RdS (Ty.int .i64) ch_0_0 x1)))] [] a w ∧ smithyref02_Zero.l1 x1 q1 y1 = some r) ?_ ?_ (k := k) ⟨_, 0, (S.sub ⟨rfl, rfl, rfl, trivial⟩ .nil), h0⟩
  · rintro a w ⟨m, y1, S, h0⟩
    exact (nomatch (show (none : Option Bool) = some r from h0))
  · clear S h0
    rintro q1 a w ⟨m, y1, S, h0⟩
    replace h0 : smithyref02_Zero.b1 x1 (smithyref02_Zero.l1 x1 q1) y1 = some r := h0
    delta smithyref02_Zero.b1 at h0
    refine c_region ?_
    refine s_bin S rfl rfl rfl rfl ?_; clear S a; intro a S
    refine c_end ?_
    refine wp_seq ?_
    rcases ite_of h0 with ⟨c1, h1⟩ | ⟨c1, h1⟩ <;> clear h0
    · refine c_condT S rfl c1 ?_
      refine wp_skip ?_
      refine x_thenN ?_
      refine wp_seq ?_
      refine wp_block ?_
      refine c_region ?_
      refine s_move S rfl rfl ?_; clear S a; intro a S
      refine s_assign S rfl rfl ?_; clear S a; intro a S
      refine c_end ?_
      refine c_region ?_
      refine s_move S rfl rfl ?_; clear S a; intro a S
      refine s_move S rfl rfl ?_; clear S a; intro a S
      obtain ⟨c2, h2⟩ := chk_of h1; clear h1
      refine s_iaddrS S rfl rfl rfl Try.underlying36 T3 c2.1 c2.2 rfl ?_; clear S a; intro p1 a S
      refine s_ld1 S (v := (.int .i64 (rd x1 y1))) rfl T3 (fun _ => rfl) rfl ?_; clear S a; intro a S
      refine s_bin S rfl rfl rfl rfl ?_; clear S a; intro a S
      refine c_end ?_
      rcases ite_of h2 with ⟨c3, h3⟩ | ⟨c3, h3⟩ <;> clear h2
      · refine c_condT S rfl c3 ?_
        refine c_region ?_
        refine s_assign S rfl rfl ?_; clear S a; intro a S
        refine c_end ?_
        refine wp_ret ?_
        refine x_blockR ?_
        refine x_thenR ?_
        refine x_thenR ?_
        refine x_blockR ?_
        refine x_thenR ?_
        obtain rfl := Option.some.inj h3
        exact b_ret1 (d := (.v (.bool false))) S rfl rfl fun ok => S.retX (Hx := []) hb _ _ (() : Unit) .nil ok
      · refine c_condF S rfl c3 ?_
        refine wp_skip ?_
        refine x_blockN ?_
        refine x_thenN ?_
        refine c_region' ?_
        refine s_bin S rfl rfl rfl rfl ?_; clear S a; intro a S
        refine s_move S rfl rfl ?_; clear S a; intro a S
        refine c_end' ?_
        refine x_thenN ?_
        exact ⟨_, (wr .i64 (y1 + 1)), (S.sub ⟨rfl, rfl, rfl, trivial⟩ .nil), h3⟩
    · refine c_condF S rfl c1 ?_
      refine wp_exit ?_
      refine x_thenX ?_
      refine x_thenX ?_
      refine x_blockX ?_
      refine x_thenN ?_
      exact j1 _ a w (S.sub trivial .nil) h1
/-! (smithy/smithyref01.D).Word -/
abbrev smithyref01_D_Word.Ty : Type := (List Int) → Option ((List Int))
def smithyref01_D_Word.Ctr (s : smithyref01_D_Word.Ty) : Prop := ∀ (x1 : List Int) (r : (List Int)) (h0 : s x1 = some r) (mi : Mem) (w0 : World), okL mi [(.agg [.ints .i64 x1 32])] → Pre mi [] w0 → Calls Try.prog 30 (([(.agg [.ints .i64 x1 32])] : List D).map D.val).toArray w0 (RetX mi [] (fun (ch : Unit) => ((.agg [.ints .u64 r 4]) : D)) (fun (ch : Unit) => []) w0)
def smithyref01_D_Word.j1 (y1 : List Int) : Option ((List Int)) := some y1
def smithyref01_D_Word.b1 (x1 : List Int) (rec1 : Int → (List Int) → Option ((List Int))) (y4 : Int) (y5 : List Int) : Option ((List Int)) := if (decide (0 ≤ y4)) = true then (if (0 : Int) ≤ (wr .i64 (Int.tdiv y4 8)) ∧ (wr .i64 (Int.tdiv y4 8)) < 4 then (if (0 : Int) ≤ y4 ∧ y4 < 32 then (rec1 (wr .i64 (y4 - 1)) (y5.set (Int.toNat (wr .i64 (Int.tdiv y4 8))) (wr .u64 ((wr .u64 ((rd y5 (wr .i64 (Int.tdiv y4 8))) * 256)) + (wr .u64 (rd x1 y4)))))) else none) else none) else (smithyref01_D_Word.j1 y5)
def smithyref01_D_Word.l1 (x1 : List Int) : Nat → Int → (List Int) → Option ((List Int))
  | 0, _, _ => none
  | q + 1, y4, y5 => smithyref01_D_Word.b1 x1 (smithyref01_D_Word.l1 x1 q) y4 y5
def smithyref01_D_Word.f (k : Nat) (x1 : List Int) : Option ((List Int)) := smithyref01_D_Word.l1 x1 k 31 [0, 0, 0, 0]
theorem smithyref01_D_Word.ok (k : Nat) : smithyref01_D_Word.Ctr (smithyref01_D_Word.f k) := by
  intro x1 r h0 mi w0 ok hm
  delta smithyref01_D_Word.f at h0
  refine c_enterX (n := 24) [(.agg [.ints .i64 x1 32])] (l := [(0, (.agg [.ints .i64 x1 32]))]) Try.func30 rfl rfl rfl rfl ok hm ?_
  clear ok hm
  intro b0 hb a S
  refine c_region ?_
  refine s_box S rfl rfl rfl ?_; clear S a; intro g1 a w S
  refine s_alloc S Z26 rfl ⟨rfl, trivial⟩ rfl ?_; clear S a w; intro g2 a w S
  refine c_end ?_
  refine c_region ?_
  refine s_build S (ds := []) (dv := (.agg [.ints .u64 [0, 0, 0, 0] 4])) rfl (fun _ => by kernel_rfl) ⟨rfl, trivial⟩ rfl ?_; clear S a; intro a S
  refine s_alloc S Z26 rfl ⟨rfl, trivial⟩ rfl ?_; clear S a w; intro g3 a w S
  refine s_store S rfl rfl rfl (s' := [.ints .u64 [0, 0, 0, 0] 4]) .here T26 rfl rfl ?_; clear S w; intro w S
  refine c_end ?_
  refine wp_seq_k ?_
  intro K1 hK1
  have j1 : ∀ (m : Mem) (g13 : Nat) (g14 : Nat) (y1 : List Int) (a : Act) (w : World), St 24 m b0 [(3, (.v (.pointer (some ⟨g13, 0, none⟩)))), (2, (.v (.pointer (some ⟨g14, 0, none⟩))))] [Res.cells g13 26 [.ints .u64 y1 4], Res.cells g14 26 [.ints .u64 [0, 0, 0, 0] 4]] a w → smithyref01_D_Word.j1 y1 = some r → K1 a w := by
    intro m g13 g14 y1 a w S h0
    delta smithyref01_D_Word.j1 at h0
    refine hK1 a w ?_
    refine c_region ?_
    refine s_loada S rfl .here T26 (s' := [.ints .u64 y1 4]) rfl rfl ?_; clear S a; intro a S
    refine s_store S rfl rfl rfl (s' := [.ints .u64 y1 4]) (.there .here) T26 rfl rfl ?_; clear S w; intro w S
    refine c_end ?_
    refine wp_ret ?_
    obtain rfl := Option.some.inj h0
    exact b_ret1 (d := (.agg [.ints .u64 y1 4])) S rfl (resD_cell rfl (.there .here) T26 rfl rfl) fun ok => S.retX (Hx := []) hb _ _ (() : Unit) .nil ok
  refine c_region ?_
  refine s_assign S rfl rfl ?_; clear S a; intro a S
  refine c_end ?_
  refine wp_block ?_
  refine c_loop (fun q1 a w => ∃ (m : Mem) (y4 : Int) (g21 : Nat) (g22 : Nat) (g23 : Nat) (y5 : List Int), St 24 m b0 [(4, (.v (.int .i64 y4))), (3, (.v (.pointer (some ⟨g21, 0, none⟩)))), (2, (.v (.pointer (some ⟨g22, 0, none⟩)))), (1, (.v (.pointer (some ⟨g23, 0, none⟩))))] [Res.cells g21 26 [.ints .u64 y5 4], Res.cells g22 26 [.ints .u64 [0, 0, 0, 0] 4], Res.cells g23 70 [.ints .i64 x1 32]] a w ∧ smithyref01_D_Word.l1 x1 q1 y4 y5 = some r) ?_ ?_ (k := k) ⟨_, 31, g3, g2, g1, [0, 0, 0, 0], (S.sub ⟨rfl, rfl, rfl, rfl, trivial⟩ (.cons .here (.cons .here (.cons .here .nil)))), h0⟩
  · rintro a w ⟨m, y4, g21, g22, g23, y5, S, h0⟩
    exact (nomatch (show (none : Option ((List Int))) = some r from h0))
  · clear S h0
    rintro q1 a w ⟨m, y4, g21, g22, g23, y5, S, h0⟩
    replace h0 : smithyref01_D_Word.b1 x1 (smithyref01_D_Word.l1 x1 q1) y4 y5 = some r := h0
    delta smithyref01_D_Word.b1 at h0
    refine wp_seq ?_
    refine c_region ?_
    refine s_move S rfl rfl ?_; clear S a; intro a S
    refine s_bin S rfl rfl rfl rfl ?_; clear S a; intro a S
    refine c_end ?_
    rcases ite_of h0 with ⟨c1, h1⟩ | ⟨c1, h1⟩ <;> clear h0
    · refine c_condT S rfl c1 ?_
      refine wp_skip ?_
      refine x_thenN ?_
      refine wp_seq ?_
      refine wp_block ?_
      refine c_heldS S (.take 0 (.take 1 (.take 2 (.take 3 (.take 4 (.take 5 (.take 6 (.take 7 (.take 8 (.take 9 (.take 10 (.take 11 (.take 12 (.alts (.run 13 false .done .nil))))))))))))))) 13 [Res.cells g21 26 [.ints .u64 y5 4], Res.cells g22 26 [.ints .u64 [0, 0, 0, 0] 4], Res.cells g23 70 [.ints .i64 x1 32]] (.cons .here (.cons .here (.cons .here .nil))) ⟨Res.stay_cells, Res.stay_cells, Res.stay_cells, trivial⟩ [(4, (.v (.int .i64 y4))), (3, (.v (.pointer (some ⟨g21, 0, none⟩)))), (1, (.v (.pointer (some ⟨g23, 0, none⟩))))] ⟨rfl, rfl, rfl, trivial⟩ (by kernel_rfl) (by kernel_rfl) ?_; clear S; intro w S CL hw le
      refine h_move S CL hw le ⟨rfl, rfl, rfl, trivial⟩ rfl rfl rfl trivial ?_; clear S CL a; intro a S CL
      refine h_quo S CL hw le ⟨rfl, rfl, rfl, rfl, trivial⟩ rfl rfl (by decide) rfl rfl trivial ?_; clear S CL a; intro a S CL
      refine h_move S CL hw le ⟨rfl, rfl, rfl, rfl, rfl, trivial⟩ rfl rfl rfl trivial ?_; clear S CL a; intro a S CL
      refine h_quo S CL hw le ⟨rfl, rfl, rfl, rfl, rfl, rfl, trivial⟩ rfl rfl (by decide) rfl rfl trivial ?_; clear S CL a; intro a S CL
      obtain ⟨c2, h2⟩ := chk_of h1; clear h1
      refine h_iaddr S CL hw le ⟨rfl, rfl, rfl, rfl, rfl, rfl, rfl, trivial⟩ rfl rfl Try.underlying26 T24 c2.1 c2.2 (mul1 _ _) rfl rfl trivial ?_; clear S CL a; intro a S CL
      refine h_loadi S CL hw le ⟨rfl, rfl, rfl, rfl, rfl, rfl, rfl, rfl, trivial⟩ (i := (wr .i64 (Int.tdiv y4 8))) rfl .here T24 .here rfl c2.1 c2.2 rfl rfl trivial ?_; clear S CL a; intro a S CL
      refine h_bin S CL hw le ⟨rfl, rfl, rfl, rfl, rfl, rfl, rfl, rfl, rfl, trivial⟩ rfl rfl rfl rfl rfl trivial ?_; clear S CL a; intro a S CL
      refine h_move S CL hw le ⟨rfl, rfl, rfl, rfl, rfl, rfl, rfl, rfl, rfl, rfl, trivial⟩ rfl rfl rfl trivial ?_; clear S CL a; intro a S CL
      obtain ⟨c3, h3⟩ := chk_of h2; clear h2
      refine h_iaddr S CL hw le ⟨rfl, rfl, rfl, rfl, rfl, rfl, rfl, rfl, rfl, rfl, rfl, trivial⟩ rfl rfl Try.underlying70 T3 c3.1 c3.2 (mul1 _ _) rfl rfl trivial ?_; clear S CL a; intro a S CL
      refine h_loadi S CL hw le ⟨rfl, rfl, rfl, rfl, rfl, rfl, rfl, rfl, rfl, rfl, rfl, rfl, trivial⟩ (i := y4) rfl (.there (.there .here)) T3 .here rfl c3.1 c3.2 rfl rfl trivial ?_; clear S CL a; intro a S CL
      refine h_conv S CL hw le ⟨rfl, rfl, rfl, rfl, rfl, rfl, rfl, rfl, rfl, rfl, rfl, rfl, rfl, trivial⟩ rfl rfl Try.underlying24 rfl rfl trivial ?_; clear S CL a; intro a S CL
      refine h_bin S CL hw le ⟨rfl, rfl, rfl, rfl, rfl, rfl, rfl, rfl, rfl, rfl, rfl, rfl, rfl, rfl, trivial⟩ rfl rfl rfl rfl rfl trivial ?_; clear S CL a; intro a S CL
      refine h_iaddr S CL hw le ⟨rfl, rfl, rfl, rfl, rfl, rfl, rfl, rfl, rfl, rfl, rfl, rfl, rfl, rfl, rfl, trivial⟩ rfl rfl Try.underlying26 T24 c2.1 c2.2 (mul1 _ _) rfl rfl trivial ?_; clear S CL a; intro a S CL
      refine h_run' S rfl trivial ?_
      refine s_storei S (i := (wr .i64 (Int.tdiv y4 8))) rfl rfl .here T24 .here rfl c2.1 c2.2 ?_; clear S; intro w S
      refine h_back ⟨fun h => (nomatch h), ?_⟩
      refine h_done ?_; clear CL hw le
      refine x_blockN ?_
      refine x_thenN ?_
      refine c_region' ?_
      refine s_move S rfl rfl ?_; clear S a; intro a S
      refine s_bin S rfl rfl rfl rfl ?_; clear S a; intro a S
      refine s_assign S rfl rfl ?_; clear S a; intro a S
      refine c_end' ?_
      refine x_thenN ?_
      exact ⟨_, (wr .i64 (y4 - 1)), g21, g22, g23, (y5.set (Int.toNat (wr .i64 (Int.tdiv y4 8))) (wr .u64 ((wr .u64 ((rd y5 (wr .i64 (Int.tdiv y4 8))) * 256)) + (wr .u64 (rd x1 y4))))), (S.sub ⟨rfl, rfl, rfl, rfl, trivial⟩ (.cons .here (.cons .here (.cons .here .nil)))), h3⟩
    · refine c_condF S rfl c1 ?_
      refine wp_exit ?_
      refine x_thenX ?_
      refine x_thenX ?_
      refine x_blockX ?_
      refine x_thenN ?_
      exact j1 _ g21 g22 y5 a w (S.sub ⟨rfl, rfl, trivial⟩ (.cons .here (.cons .here .nil))) h1
/-! (smithy/smithyref02.N).Word -/
abbrev smithyref02_N_Word.Ty : Type := (List Int) → Option ((List Int))
def smithyref02_N_Word.Ctr (s : smithyref02_N_Word.Ty) : Prop := ∀ (x1 : List Int) (ch_0_0 : Option Addr) (ch_0_1 : Nat) (r : (List Int)) (h0 : s x1 = some r) (mi : Mem) (w0 : World), okL mi [(.sl ch_0_0 (x1).length ch_0_1 (RdS (Ty.int .i64) ch_0_0 x1))] → Pre mi [] w0 → Calls Try.prog 11 (([(.sl ch_0_0 (x1).length ch_0_1 (RdS (Ty.int .i64) ch_0_0 x1))] : List D).map D.val).toArray w0 (RetX mi [] (fun (ch : Unit) => ((.agg [.ints .u64 r 4]) : D)) (fun (ch : Unit) => []) w0)
def smithyref02_N_Word.j1 (k : Nat) (y1 : List Int) : Option ((List Int)) := (smithyref01_D_Word.f k y1).bind fun t1 => (some t1)
def smithyref02_N_Word.b1 (k : Nat) (x1 : List Int) (rec1 : Int → (List Int) → Option ((List Int))) (y4 : Int) (y5 : List Int) : Option ((List Int)) := if (decide (y4 < 32)) = true then ((smithyref02_at.f x1 y4).bind fun t4 => (if (0 : Int) ≤ y4 ∧ y4 < 32 then (rec1 (wr .i64 (y4 + 1)) (y5.set (Int.toNat y4) t4)) else none)) else (smithyref02_N_Word.j1 k y5)
def smithyref02_N_Word.l1 (k : Nat) (x1 : List Int) : Nat → Int → (List Int) → Option ((List Int))
  | 0, _, _ => none
  | q + 1, y4, y5 => smithyref02_N_Word.b1 k x1 (smithyref02_N_Word.l1 k x1 q) y4 y5
def smithyref02_N_Word.f (k : Nat) (x1 : List Int) : Option ((List Int)) := smithyref02_N_Word.l1 k x1 k 0 [0, 0, 0, 0, 0, 0, 0, 0, 0, 0, 0, 0, 0, 0, 0, 0, 0, 0, 0, 0, 0, 0, 0, 0, 0, 0, 0, 0, 0, 0, 0, 0]
theorem smithyref02_N_Word.ok (k : Nat) : smithyref02_N_Word.Ctr (smithyref02_N_Word.f k) := by
  intro x1 ch_0_0 ch_0_1 r h0 mi w0 ok hm
  delta smithyref02_N_Word.f at h0
  refine c_enterX (n := 17) [(.sl ch_0_0 (x1).length ch_0_1 (RdS (Ty.int .i64) ch_0_0 x1))] (l := [(0, (.sl ch_0_0 (x1).length ch_0_1 (RdS (Ty.int .i64) ch_0_0 x1)))]) Try.func11 rfl rfl rfl rfl ok hm ?_
  clear ok hm
  intro b0 hb a S
  refine c_region ?_
  refine s_alloc S Z26 rfl ⟨rfl, trivial⟩ rfl ?_; clear S a; intro g1 a w S
  refine c_end ?_
  refine c_region ?_
  refine s_build S (ds := []) (dv := (.agg [.ints .i64 [0, 0, 0, 0, 0, 0, 0, 0, 0, 0, 0, 0, 0, 0, 0, 0, 0, 0, 0, 0, 0, 0, 0, 0, 0, 0, 0, 0, 0, 0, 0, 0] 32])) rfl (fun _ => by kernel_rfl) ⟨rfl, trivial⟩ rfl ?_; clear S a; intro a S
  refine s_alloc S Z70 rfl ⟨rfl, trivial⟩ rfl ?_; clear S a w; intro g2 a w S
  refine s_store S rfl rfl rfl (s' := [.ints .i64 [0, 0, 0, 0, 0, 0, 0, 0, 0, 0, 0, 0, 0, 0, 0, 0, 0, 0, 0, 0, 0, 0, 0, 0, 0, 0, 0, 0, 0, 0, 0, 0] 32]) .here T70 rfl rfl ?_; clear S w; intro w S
  refine c_end ?_
  refine wp_seq_k ?_
  intro K1 hK1
  have j1 : ∀ (m : Mem) (g9 : Nat) (g10 : Nat) (y1 : List Int) (a : Act) (w : World), St 17 m b0 [(3, (.v (.pointer (some ⟨g9, 0, none⟩)))), (2, (.v (.pointer (some ⟨g10, 0, none⟩))))] [Res.cells g9 70 [.ints .i64 y1 32], Res.cells g10 26 [.ints .u64 [0, 0, 0, 0] 4]] a w → smithyref02_N_Word.j1 k y1 = some r → K1 a w := by
    intro m g9 g10 y1 a w S h0
    delta smithyref02_N_Word.j1 at h0
    refine hK1 a w ?_
    refine c_region ?_
    refine s_loada S rfl .here T70 (s' := [.ints .i64 y1 32]) rfl rfl ?_; clear S a; intro a S
    obtain ⟨t1, et1, h1⟩ := bind_of h0; clear h0
    refine s_callP S (fun (ch : Unit) => ((.agg [.ints .u64 t1 4]) : D)) N30 rfl rfl (smithyref01_D_Word.ok k y1 t1 et1 _ _) ?_; clear S a w; intro ch1 m le1 a w S
    refine s_store S rfl rfl rfl (s' := [.ints .u64 t1 4]) (.there .here) T26 rfl rfl ?_; clear S w; intro w S
    refine c_end ?_
    refine wp_ret ?_
    obtain rfl := Option.some.inj h1
    exact b_ret1 (d := (.agg [.ints .u64 t1 4])) S rfl (resD_cell rfl (.there .here) T26 rfl rfl) fun ok => S.retX (Hx := []) hb _ _ (() : Unit) .nil ok
  refine c_region ?_
  refine s_assign S rfl rfl ?_; clear S a; intro a S
  refine c_end ?_
  refine wp_block ?_
  refine c_loop (fun q1 a w => ∃ (m : Mem) (y4 : Int) (g15 : Nat) (g16 : Nat) (y5 : List Int), St 17 m b0 [(4, (.v (.int .i64 y4))), (3, (.v (.pointer (some ⟨g15, 0, none⟩)))), (2, (.v (.pointer (some ⟨g16, 0, none⟩)))), (0, (.sl ch_0_0 (x1).length ch_0_1 (RdS (Ty.int .i64) ch_0_0 x1)))] [Res.cells g15 70 [.ints .i64 y5 32], Res.cells g16 26 [.ints .u64 [0, 0, 0, 0] 4]] a w ∧ smithyref02_N_Word.l1 k x1 q1 y4 y5 = some r) ?_ ?_ (k := k) ⟨_, 0, g2, g1, [0, 0, 0, 0, 0, 0, 0, 0, 0, 0, 0, 0, 0, 0, 0, 0, 0, 0, 0, 0, 0, 0, 0, 0, 0, 0, 0, 0, 0, 0, 0, 0], (S.sub ⟨rfl, rfl, rfl, rfl, trivial⟩ (.cons .here (.cons .here .nil))), h0⟩
  · rintro a w ⟨m, y4, g15, g16, y5, S, h0⟩
    exact (nomatch (show (none : Option ((List Int))) = some r from h0))
  · clear S h0
    rintro q1 a w ⟨m, y4, g15, g16, y5, S, h0⟩
    replace h0 : smithyref02_N_Word.b1 k x1 (smithyref02_N_Word.l1 k x1 q1) y4 y5 = some r := h0
    delta smithyref02_N_Word.b1 at h0
    refine wp_seq ?_
    refine c_region ?_
    refine s_move S rfl rfl ?_; clear S a; intro a S
    refine s_bin S rfl rfl rfl rfl ?_; clear S a; intro a S
    refine c_end ?_
    rcases ite_of h0 with ⟨c1, h1⟩ | ⟨c1, h1⟩ <;> clear h0
    · refine c_condT S rfl c1 ?_
      refine wp_skip ?_
      refine x_thenN ?_
      refine wp_seq ?_
      refine wp_block ?_
      refine c_region' ?_
      refine s_move S rfl rfl ?_; clear S a; intro a S
      refine s_move S rfl rfl ?_; clear S a; intro a S
      refine s_move S rfl rfl ?_; clear S a; intro a S
      obtain ⟨t4, et4, h2⟩ := bind_of h1; clear h1
      refine s_callP S (fun (ch : Unit) => ((.v (.int .i64 t4)) : D)) N29 rfl rfl (smithyref02_at.ok x1 y4 ch_0_0 ch_0_1 t4 et4 _ _) ?_; clear S a w; intro ch2 m le1 a w S
      obtain ⟨c2, h3⟩ := chk_of h2; clear h2
      refine s_iaddr S rfl rfl Try.underlying70 T3 c2.1 c2.2 (mul1 _ _) rfl ?_; clear S a; intro a S
      refine s_storei S (i := y4) rfl rfl .here T3 .here rfl c2.1 c2.2 ?_; clear S w; intro w S
      refine c_end' ?_
      refine x_blockN ?_
      refine x_thenN ?_
      refine c_region' ?_
      refine s_move S rfl rfl ?_; clear S a; intro a S
      refine s_bin S rfl rfl rfl rfl ?_; clear S a; intro a S
      refine s_assign S rfl rfl ?_; clear S a; intro a S
      refine c_end' ?_
      refine x_thenN ?_
      exact ⟨_, (wr .i64 (y4 + 1)), g15, g16, (y5.set (Int.toNat y4) t4), (S.sub ⟨rfl, rfl, rfl, rfl, trivial⟩ (.cons .here (.cons .here .nil))), h3⟩
    · refine c_condF S rfl c1 ?_
      refine wp_exit ?_
      refine x_thenX ?_
      refine x_thenX ?_
      refine x_blockX ?_
      refine x_thenN ?_
      exact j1 _ g15 g16 y5 a w (S.sub ⟨rfl, rfl, trivial⟩ (.cons .here (.cons .here .nil))) h1
/-! smithy/smithyref01.Compare -/
abbrev smithyref01_Compare.Ty : Type := (List Int) → (List Int) → Option Int
def smithyref01_Compare.Ctr (s : smithyref01_Compare.Ty) : Prop := ∀ (x1 : List Int) (x2 : List Int) (r : Int) (h0 : s x1 x2 = some r) (mi : Mem) (w0 : World), okL mi [(.agg [.ints .i64 x1 32]), (.agg [.ints .i64 x2 32])] → Pre mi [] w0 → Calls Try.prog 47 (([(.agg [.ints .i64 x1 32]), (.agg [.ints .i64 x2 32])] : List D).map D.val).toArray w0 (RetX mi [] (fun (ch : Unit) => ((.v (.int .i64 r)) : D)) (fun (ch : Unit) => []) w0)
def smithyref01_Compare.j1 : Option Int := some 0
def smithyref01_Compare.b1 (x1 : List Int) (x2 : List Int) (rec1 : Int → Option Int) (y1 : Int) : Option Int := if (decide (0 ≤ y1)) = true then (if (0 : Int) ≤ y1 ∧ y1 < 32 then (if (decide ((rd x1 y1) < (rd x2 y1))) = true then (some (-1)) else (if (decide ((rd x2 y1) < (rd x1 y1))) = true then (some 1) else (rec1 (wr .i64 (y1 - 1))))) else none) else smithyref01_Compare.j1
def smithyref01_Compare.l1 (x1 : List Int) (x2 : List Int) : Nat → Int → Option Int
  | 0, _ => none
  | q + 1, y1 => smithyref01_Compare.b1 x1 x2 (smithyref01_Compare.l1 x1 x2 q) y1
def smithyref01_Compare.f (k : Nat) (x1 : List Int) (x2 : List Int) : Option Int := smithyref01_Compare.l1 x1 x2 k 31
theorem smithyref01_Compare.ok (k : Nat) : smithyref01_Compare.Ctr (smithyref01_Compare.f k) := by
  intro x1 x2 r h0 mi w0 ok hm
  delta smithyref01_Compare.f at h0
  refine c_enterX (n := 24) [(.agg [.ints .i64 x1 32]), (.agg [.ints .i64 x2 32])] (l := [(0, (.agg [.ints .i64 x1 32])), (1, (.agg [.ints .i64 x2 32]))]) Try.func47 rfl rfl rfl rfl ok hm ?_
  clear ok hm
  intro b0 hb a S
  refine c_region ?_
  refine s_box S rfl rfl rfl ?_; clear S a; intro g1 a w S
  refine s_box S rfl rfl rfl ?_; clear S a w; intro g2 a w S
  refine s_assign S rfl rfl ?_; clear S a; intro a S
  refine c_end ?_
  refine wp_seq_k ?_
  intro K1 hK1
  have j1 : ∀ (m : Mem) (a : Act) (w : World), St 24 m b0 [] [] a w → smithyref01_Compare.j1 = some r → K1 a w := by
    intro m a w S h0
    delta smithyref01_Compare.j1 at h0
    refine hK1 a w ?_
    refine c_region ?_
    refine s_assign S rfl rfl ?_; clear S a; intro a S
    refine c_end ?_
    refine wp_ret ?_
    obtain rfl := Option.some.inj h0
    exact b_ret1 (d := (.v (.int .i64 0))) S rfl rfl fun ok => S.retX (Hx := []) hb _ _ (() : Unit) .nil ok
  refine c_region ?_
  refine s_assign S rfl rfl ?_; clear S a; intro a S
  refine c_end ?_
  refine wp_block ?_
  refine c_loop (fun q1 a w => ∃ (m : Mem) (y1 : Int) (g13 : Nat) (g14 : Nat), St 24 m b0 [(5, (.v (.int .i64 y1))), (3, (.v (.pointer (some ⟨g13, 0, none⟩)))), (2, (.v (.pointer (some ⟨g14, 0, none⟩))))] [Res.cells g13 70 [.ints .i64 x2 32], Res.cells g14 70 [.ints .i64 x1 32]] a w ∧ smithyref01_Compare.l1 x1 x2 q1 y1 = some r) ?_ ?_ (k := k) ⟨_, 31, g2, g1, (S.sub ⟨rfl, rfl, rfl, trivial⟩ (.cons .here (.cons .here .nil))), h0⟩
  · rintro a w ⟨m, y1, g13, g14, S, h0⟩
    exact (nomatch (show (none : Option Int) = some r from h0))
  · clear S h0
    rintro q1 a w ⟨m, y1, g13, g14, S, h0⟩
    replace h0 : smithyref01_Compare.b1 x1 x2 (smithyref01_Compare.l1 x1 x2 q1) y1 = some r := h0
    delta smithyref01_Compare.b1 at h0
    refine wp_seq ?_
    refine c_region ?_
    refine s_move S rfl rfl ?_; clear S a; intro a S
    refine s_bin S rfl rfl rfl rfl ?_; clear S a; intro a S
    refine c_end ?_
    rcases ite_of h0 with ⟨c1, h1⟩ | ⟨c1, h1⟩ <;> clear h0
    · refine c_condT S rfl c1 ?_
      refine wp_skip ?_
      refine x_thenN ?_
      refine wp_seq ?_
      refine wp_block ?_
      refine wp_seq ?_
      refine wp_seq (c_heldS S (.take 0 (.take 1 (.take 2 (.take 3 (.take 4 (.take 5 (.take 6 .done))))))) 7 [Res.cells g13 70 [.ints .i64 x2 32], Res.cells g14 70 [.ints .i64 x1 32]] (.cons .here (.cons .here .nil)) ⟨Res.stay_cells, Res.stay_cells, trivial⟩ [(5, (.v (.int .i64 y1))), (3, (.v (.pointer (some ⟨g13, 0, none⟩)))), (2, (.v (.pointer (some ⟨g14, 0, none⟩))))] ⟨rfl, rfl, rfl, trivial⟩ (by kernel_rfl) (by kernel_rfl) ?_); clear S; intro w S CL hw le
      refine h_move S CL hw le ⟨rfl, rfl, rfl, trivial⟩ rfl rfl rfl trivial ?_; clear S CL a; intro a S CL
      obtain ⟨c2, h2⟩ := chk_of h1; clear h1
      refine h_iaddr S CL hw le ⟨rfl, rfl, rfl, rfl, trivial⟩ rfl rfl Try.underlying70 T3 c2.1 c2.2 (mul1 _ _) rfl rfl trivial ?_; clear S CL a; intro a S CL
      refine h_loadi S CL hw le ⟨rfl, rfl, rfl, rfl, rfl, trivial⟩ (i := y1) rfl (.there .here) T3 .here rfl c2.1 c2.2 rfl rfl trivial ?_; clear S CL a; intro a S CL
      refine h_move S CL hw le ⟨rfl, rfl, rfl, rfl, rfl, rfl, trivial⟩ rfl rfl rfl trivial ?_; clear S CL a; intro a S CL
      refine h_iaddr S CL hw le ⟨rfl, rfl, rfl, rfl, rfl, rfl, rfl, trivial⟩ rfl rfl Try.underlying70 T3 c2.1 c2.2 (mul1 _ _) rfl rfl trivial ?_; clear S CL a; intro a S CL
      refine h_loadi S CL hw le ⟨rfl, rfl, rfl, rfl, rfl, rfl, rfl, rfl, trivial⟩ (i := y1) rfl .here T3 .here rfl c2.1 c2.2 rfl rfl trivial ?_; clear S CL a; intro a S CL
      refine h_bin S CL hw le ⟨rfl, rfl, rfl, rfl, rfl, rfl, rfl, rfl, rfl, trivial⟩ rfl rfl rfl rfl rfl trivial ?_; clear S CL a; intro a S CL
      refine h_done ?_; clear CL hw le
      refine x_thenN ?_
      rcases ite_of h2 with ⟨c3, h3⟩ | ⟨c3, h3⟩ <;> clear h2
      · refine c_condT S rfl c3 ?_
        refine c_region ?_
        refine s_assign S rfl rfl ?_; clear S a; intro a S
        refine c_end ?_
        refine wp_ret ?_
        refine x_thenR ?_
        refine x_blockR ?_
        refine x_thenR ?_
        refine x_thenR ?_
        refine x_blockR ?_
        refine x_thenR ?_
        obtain rfl := Option.some.inj h3
        exact b_ret1 (d := (.v (.int .i64 (-1)))) S rfl rfl fun ok => S.retX (Hx := []) hb _ _ (() : Unit) .nil ok
      · refine c_condF S rfl c3 ?_
        refine wp_skip ?_
        refine x_thenN ?_
        refine wp_seq (c_heldS S (.take 0 (.take 1 (.take 2 (.take 3 (.take 4 (.take 5 (.take 6 .done))))))) 7 [Res.cells g13 70 [.ints .i64 x2 32], Res.cells g14 70 [.ints .i64 x1 32]] (.cons .here (.cons .here .nil)) ⟨Res.stay_cells, Res.stay_cells, trivial⟩ [(5, (.v (.int .i64 y1))), (3, (.v (.pointer (some ⟨g13, 0, none⟩)))), (2, (.v (.pointer (some ⟨g14, 0, none⟩))))] ⟨rfl, rfl, rfl, trivial⟩ (by kernel_rfl) (by kernel_rfl) ?_); clear S; intro w S CL hw le
        refine h_move S CL hw le ⟨rfl, rfl, rfl, trivial⟩ rfl rfl rfl trivial ?_; clear S CL a; intro a S CL
        refine h_iaddr S CL hw le ⟨rfl, rfl, rfl, rfl, trivial⟩ rfl rfl Try.underlying70 T3 c2.1 c2.2 (mul1 _ _) rfl rfl trivial ?_; clear S CL a; intro a S CL
        refine h_loadi S CL hw le ⟨rfl, rfl, rfl, rfl, rfl, trivial⟩ (i := y1) rfl (.there .here) T3 .here rfl c2.1 c2.2 rfl rfl trivial ?_; clear S CL a; intro a S CL
        refine h_move S CL hw le ⟨rfl, rfl, rfl, rfl, rfl, rfl, trivial⟩ rfl rfl rfl trivial ?_; clear S CL a; intro a S CL
        refine h_iaddr S CL hw le ⟨rfl, rfl, rfl, rfl, rfl, rfl, rfl, trivial⟩ rfl rfl Try.underlying70 T3 c2.1 c2.2 (mul1 _ _) rfl rfl trivial ?_; clear S CL a; intro a S CL
        refine h_loadi S CL hw le ⟨rfl, rfl, rfl, rfl, rfl, rfl, rfl, rfl, trivial⟩ (i := y1) rfl .here T3 .here rfl c2.1 c2.2 rfl rfl trivial ?_; clear S CL a; intro a S CL
        refine h_bin S CL hw le ⟨rfl, rfl, rfl, rfl, rfl, rfl, rfl, rfl, rfl, trivial⟩ rfl rfl rfl rfl rfl trivial ?_; clear S CL a; intro a S CL
        refine h_done ?_; clear CL hw le
        refine x_thenN ?_
        rcases ite_of h3 with ⟨c4, h4⟩ | ⟨c4, h4⟩ <;> clear h3
        · refine c_condT S rfl c4 ?_
          refine c_region ?_
          refine s_assign S rfl rfl ?_; clear S a; intro a S
          refine c_end ?_
          refine wp_ret ?_
          refine x_blockR ?_
          refine x_thenR ?_
          refine x_thenR ?_
          refine x_blockR ?_
          refine x_thenR ?_
          obtain rfl := Option.some.inj h4
          exact b_ret1 (d := (.v (.int .i64 1))) S rfl rfl fun ok => S.retX (Hx := []) hb _ _ (() : Unit) .nil ok
        · refine c_condF S rfl c4 ?_
          refine wp_skip ?_
          refine x_blockN ?_
          refine x_thenN ?_
          refine c_region' ?_
          refine s_move S rfl rfl ?_; clear S a; intro a S
          refine s_bin S rfl rfl rfl rfl ?_; clear S a; intro a S
          refine s_assign S rfl rfl ?_; clear S a; intro a S
          refine c_end' ?_
          refine x_thenN ?_
          exact ⟨_, (wr .i64 (y1 - 1)), g13, g14, (S.sub ⟨rfl, rfl, rfl, trivial⟩ (.cons .here (.cons .here .nil))), h4⟩
    · refine c_condF S rfl c1 ?_
      refine wp_exit ?_
      refine x_thenX ?_
      refine x_thenX ?_
      refine x_blockX ?_
      refine x_thenN ?_
      exact j1 _ a w (S.sub trivial .nil) h1
/-! smithy/smithyref19.less -/
abbrev smithyref19_less.Ty : Type := (List Int) → (List Int) → Option Bool
def smithyref19_less.Ctr (s : smithyref19_less.Ty) : Prop := ∀ (x1 : List Int) (x2 : List Int) (r : Bool) (h0 : s x1 x2 = some r) (mi : Mem) (w0 : World), okL mi [(.agg [.ints .u64 x1 4]), (.agg [.ints .u64 x2 4])] → Pre mi [] w0 → Calls Try.prog 32 (([(.agg [.ints .u64 x1 4]), (.agg [.ints .u64 x2 4])] : List D).map D.val).toArray w0 (RetX mi [] (fun (ch : Unit) => ((.v (.bool r)) : D)) (fun (ch : Unit) => []) w0)
def smithyref19_less.f (k : Nat) (x1 : List Int) (x2 : List Int) : Option Bool := (smithyref01_Of.f k x1).bind fun t1 => ((smithyref01_Of.f k x2).bind fun t2 => ((smithyref01_Compare.f k t1 t2).bind fun t3 => (some (decide (t3 < 0)))))
theorem smithyref19_less.ok (k : Nat) : smithyref19_less.Ctr (smithyref19_less.f k) := by
  intro x1 x2 r h0 mi w0 ok hm
  delta smithyref19_less.f at h0
  refine c_enterX (n := 11) [(.agg [.ints .u64 x1 4]), (.agg [.ints .u64 x2 4])] (l := [(0, (.agg [.ints .u64 x1 4])), (1, (.agg [.ints .u64 x2 4]))]) Try.func32 rfl rfl rfl rfl ok hm ?_
  clear ok hm
  intro b0 hb a S
  refine c_region ?_
  refine s_box S rfl rfl rfl ?_; clear S a; intro g1 a w S
  refine s_box S rfl rfl rfl ?_; clear S a w; intro g2 a w S
  refine s_assign S rfl rfl ?_; clear S a; intro a S
  refine c_end ?_
  refine wp_seq (c_heldS S (.take 0 (.take 2 (.alts (.run 1 true (.alts (.run 3 true (.alts (.run 4 true (.take 5 (.take 6 .done)) .nil)) .nil)) .nil)))) 7 [Res.cells g2 26 [.ints .u64 x2 4], Res.cells g1 26 [.ints .u64 x1 4]] (.cons .here (.cons .here .nil)) ⟨Res.stay_cells, Res.stay_cells, trivial⟩ [(3, (.v (.pointer (some ⟨g2, 0, none⟩)))), (2, (.v (.pointer (some ⟨g1, 0, none⟩))))] ⟨rfl, rfl, trivial⟩ (by kernel_rfl) (by kernel_rfl) ?_); clear S; intro w S CL hw le
  refine h_loada S CL hw le ⟨rfl, rfl, trivial⟩ rfl (.there .here) T26 (s' := [.ints .u64 x1 4]) rfl rfl rfl trivial ?_; clear S CL a; intro a S CL
  refine h_loada S CL hw le ⟨rfl, rfl, rfl, trivial⟩ rfl .here T26 (s' := [.ints .u64 x2 4]) rfl rfl rfl trivial ?_; clear S CL a; intro a S CL
  refine h_run' S rfl trivial ?_
  obtain ⟨t1, et1, h1⟩ := bind_of h0; clear h0
  refine s_callP S (fun (ch : Unit) => ((.agg [.ints .i64 t1 32]) : D)) N42 rfl rfl (smithyref01_Of.ok k x1 t1 et1 _ _) ?_; clear S a; intro ch1 m le1 a w S
  replace le := le.trans le1
  replace hw := CL.again hw S (.cons .here (.cons .here .nil)) le
  refine h_back ⟨fun _ => hw, ?_⟩
  refine h_run' S rfl trivial ?_
  obtain ⟨t2, et2, h2⟩ := bind_of h1; clear h1
  refine s_callP S (fun (ch : Unit) => ((.agg [.ints .i64 t2 32]) : D)) N42 rfl rfl (smithyref01_Of.ok k x2 t2 et2 _ _) ?_; clear S a; intro ch2 m le1 a w S
  replace le := le.trans le1
  replace hw := CL.again hw S (.cons .here (.cons .here .nil)) le
  refine h_back ⟨fun _ => hw, ?_⟩
  refine h_run' S rfl trivial ?_
  obtain ⟨t3, et3, h3⟩ := bind_of h2; clear h2
  refine s_callP S (fun (ch : Unit) => ((.v (.int .i64 t3)) : D)) N47 rfl rfl (smithyref01_Compare.ok k t1 t2 t3 et3 _ _) ?_; clear S a; intro ch3 m le1 a w S
  replace le := le.trans le1
  replace hw := CL.again hw S (.cons .here (.cons .here .nil)) le
  refine h_back ⟨fun _ => hw, ?_⟩
  replace CL := CL.add (t := 9) (d := (.v (.int .i64 t3))) S rfl rfl
  refine h_bin S CL hw le ⟨rfl, rfl, rfl, rfl, rfl, trivial⟩ rfl rfl rfl rfl rfl trivial ?_; clear S CL a; intro a S CL
  refine h_assign S CL hw le ⟨rfl, rfl, rfl, rfl, rfl, rfl, trivial⟩ rfl rfl rfl trivial ?_; clear S CL a; intro a S CL
  refine h_done ?_; clear CL hw le
  refine x_thenN ?_
  refine wp_ret ?_
  obtain rfl := Option.some.inj h3
  exact b_ret1 (d := (.v (.bool (decide (t3 < 0))))) S rfl rfl fun ok => S.retX (Hx := []) hb _ _ (() : Unit) .nil ok
/-! smithy/smithyref02.Less -/
abbrev smithyref02_Less.Ty : Type := (List Int) → (List Int) → Option Bool
def smithyref02_Less.Ctr (s : smithyref02_Less.Ty) : Prop := ∀ (x1 : List Int) (x2 : List Int) (ch_0_0 : Option Addr) (ch_0_1 : Nat) (ch_1_0 : Option Addr) (ch_1_1 : Nat) (r : Bool) (h0 : s x1 x2 = some r) (mi : Mem) (w0 : World), okL mi [(.sl ch_0_0 (x1).length ch_0_1 (RdS (Ty.int .i64) ch_0_0 x1)), (.sl ch_1_0 (x2).length ch_1_1 (RdS (Ty.int .i64) ch_1_0 x2))] → Pre mi [] w0 → Calls Try.prog 23 (([(.sl ch_0_0 (x1).length ch_0_1 (RdS (Ty.int .i64) ch_0_0 x1)), (.sl ch_1_0 (x2).length ch_1_1 (RdS (Ty.int .i64) ch_1_0 x2))] : List D).map D.val).toArray w0 (RetX mi [] (fun (ch : Unit) => ((.v (.bool r)) : D)) (fun (ch : Unit) => []) w0)
def smithyref02_Less.j1 : Option Bool := some false
def smithyref02_Less.b1 (x1 : List Int) (x2 : List Int) (rec1 : Int → Option Bool) (y1 : Int) : Option Bool := if (decide (0 ≤ y1)) = true then ((smithyref02_at.f x1 y1).bind fun t1 => ((smithyref02_at.f x2 y1).bind fun t2 => (if (t1 != t2) = true then ((smithyref02_at.f x1 y1).bind fun t3 => ((smithyref02_at.f x2 y1).bind fun t4 => (some (decide (t3 < t4))))) else (rec1 (wr .i64 (y1 - 1)))))) else smithyref02_Less.j1
def smithyref02_Less.l1 (x1 : List Int) (x2 : List Int) : Nat → Int → Option Bool
  | 0, _ => none
  | q + 1, y1 => smithyref02_Less.b1 x1 x2 (smithyref02_Less.l1 x1 x2 q) y1
def smithyref02_Less.f (k : Nat) (x1 : List Int) (x2 : List Int) : Option Bool := smithyref02_Less.l1 x1 x2 k (wr .i64 ((imax ((x1).length : Int) ((x2).length : Int)) - 1))
theorem smithyref02_Less.ok (k : Nat) : smithyref02_Less.Ctr (smithyref02_Less.f k) := by
  intro x1 x2 ch_0_0 ch_0_1 ch_1_0 ch_1_1 r h0 mi w0 ok hm
  delta smithyref02_Less.f at h0
  refine c_enterX (n := 30) [(.sl ch_0_0 (x1).length ch_0_1 (RdS (Ty.int .i64) ch_0_0 x1)), (.sl ch_1_0 (x2).length ch_1_1 (RdS (Ty.int .i64) ch_1_0 x2))] (l := [(0, (.sl ch_0_0 (x1).length ch_0_1 (RdS (Ty.int .i64) ch_0_0 x1))), (1, (.sl ch_1_0 (x2).length ch_1_1 (RdS (Ty.int .i64) ch_1_0 x2)))]) Try.func23 rfl rfl rfl rfl ok hm ?_
  clear ok hm
  intro b0 hb a S
  refine c_region ?_
  refine s_assign S rfl rfl ?_; clear S a; intro a S
  refine c_end ?_
  refine wp_seq_k ?_
  intro K1 hK1
  have j1 : ∀ (m : Mem) (a : Act) (w : World), St 30 m b0 [] [] a w → smithyref02_Less.j1 = some r → K1 a w := by
    intro m a w S h0
    delta smithyref02_Less.j1 at h0
    refine hK1 a w ?_
    refine c_region ?_
    refine s_assign S rfl rfl ?_; clear S a; intro a S
    refine c_end ?_
    refine wp_ret ?_
    obtain rfl := Option.some.inj h0
    exact b_ret1 (d := (.v (.bool false))) S rfl rfl fun ok => S.retX (Hx := []) hb _ _ (() : Unit) .nil ok
  refine c_region ?_
  refine s_move S rfl rfl ?_; clear S a; intro a S
  refine s_lenS S rfl Try.underlying36 rfl ?_; clear S a; intro a S
  refine s_move S rfl rfl ?_; clear S a; intro a S
  refine s_lenS S rfl Try.underlying36 rfl ?_; clear S a; intro a S
  refine s_max2 S rfl rfl rfl ?_; clear S a; intro a S
  refine s_bin S rfl rfl rfl rfl ?_; clear S a; intro a S
  refine s_assign S rfl rfl ?_; clear S a; intro a S
  refine c_end ?_
  refine wp_block ?_
  refine c_loop (fun q1 a w => ∃ (m : Mem) (y1 : Int), St 30 m b0 [(5, (.v (.int .i64 y1))), (0, (.sl ch_0_0 (x1).length ch_0_1 (RdS (Ty.int .i64) ch_0_0 x1))), (1, (.sl ch_1_0 (x2).length ch_1_1 (RdS (Ty.int .i64) ch_1_0 x2)))] [] a w ∧ smithyref02_Less.l1 x1 x2 q1 y1 = some r) ?_ ?_ (k := k) ⟨_, (wr .i64 ((imax ((x1).length : Int) ((x2).length : Int)) - 1)), (S.sub ⟨rfl, rfl, rfl, trivial⟩ .nil), h0⟩
  · rintro a w ⟨m, y1, S, h0⟩
    exact (nomatch (show (none : Option Bool) = some r from h0))
  · clear S h0
    rintro q1 a w ⟨m, y1, S, h0⟩
    replace h0 : smithyref02_Less.b1 x1 x2 (smithyref02_Less.l1 x1 x2 q1) y1 = some r := h0
    delta smithyref02_Less.b1 at h0
    refine wp_seq ?_
    refine c_region ?_
    refine s_move S rfl rfl ?_; clear S a; intro a S
    refine s_bin S rfl rfl rfl rfl ?_; clear S a; intro a S
    refine c_end ?_
    rcases ite_of h0 with ⟨c1, h1⟩ | ⟨c1, h1⟩ <;> clear h0
    · refine c_condT S rfl c1 ?_
      refine wp_skip ?_
      refine x_thenN ?_
      refine wp_seq ?_
      refine wp_block ?_
      refine c_region ?_
      refine s_move S rfl rfl ?_; clear S a; intro a S
      refine s_move S rfl rfl ?_; clear S a; intro a S
      obtain ⟨t1, et1, h2⟩ := bind_of h1; clear h1
      refine s_callP S (fun (ch : Unit) => ((.v (.int .i64 t1)) : D)) N29 rfl rfl (smithyref02_at.ok x1 y1 ch_0_0 ch_0_1 t1 et1 _ _) ?_; clear S a w; intro ch1 m le1 a w S
      refine s_move S rfl rfl ?_; clear S a; intro a S
      refine s_move S rfl rfl ?_; clear S a; intro a S
      obtain ⟨t2, et2, h3⟩ := bind_of h2; clear h2
      refine s_callP S (fun (ch : Unit) => ((.v (.int .i64 t2)) : D)) N29 rfl rfl (smithyref02_at.ok x2 y1 ch_1_0 ch_1_1 t2 et2 _ _) ?_; clear S a w; intro ch2 m le1 a w S
      refine s_bin S rfl rfl rfl rfl ?_; clear S a; intro a S
      refine c_end ?_
      rcases ite_of h3 with ⟨c2, h4⟩ | ⟨c2, h4⟩ <;> clear h3
      · refine c_condT S rfl c2 ?_
        refine c_region ?_
        refine s_move S rfl rfl ?_; clear S a; intro a S
        refine s_move S rfl rfl ?_; clear S a; intro a S
        obtain ⟨t3, et3, h5⟩ := bind_of h4; clear h4
        refine s_callP S (fun (ch : Unit) => ((.v (.int .i64 t3)) : D)) N29 rfl rfl (smithyref02_at.ok x1 y1 ch_0_0 ch_0_1 t3 et3 _ _) ?_; clear S a w; intro ch3 m le1 a w S
        refine s_move S rfl rfl ?_; clear S a; intro a S
        refine s_move S rfl rfl ?_; clear S a; intro a S
        obtain ⟨t4, et4, h6⟩ := bind_of h5; clear h5
        refine s_callP S (fun (ch : Unit) => ((.v (.int .i64 t4)) : D)) N29 rfl rfl (smithyref02_at.ok x2 y1 ch_1_0 ch_1_1 t4 et4 _ _) ?_; clear S a w; intro ch4 m le1 a w S
        refine s_bin S rfl rfl rfl rfl ?_; clear S a; intro a S
        refine s_assign S rfl rfl ?_; clear S a; intro a S
        refine c_end ?_
        refine wp_ret ?_
        refine x_blockR ?_
        refine x_thenR ?_
        refine x_thenR ?_
        refine x_blockR ?_
        refine x_thenR ?_
        obtain rfl := Option.some.inj h6
        exact b_ret1 (d := (.v (.bool (decide (t3 < t4))))) S rfl rfl fun ok => S.retX (Hx := []) hb _ _ (() : Unit) .nil ok
      · refine c_condF S rfl c2 ?_
        refine wp_skip ?_
        refine x_blockN ?_
        refine x_thenN ?_
        refine c_region' ?_
        refine s_move S rfl rfl ?_; clear S a; intro a S
        refine s_bin S rfl rfl rfl rfl ?_; clear S a; intro a S
        refine s_assign S rfl rfl ?_; clear S a; intro a S
        refine c_end' ?_
        refine x_thenN ?_
        exact ⟨_, (wr .i64 (y1 - 1)), (S.sub ⟨rfl, rfl, rfl, trivial⟩ .nil), h4⟩
    · refine c_condF S rfl c1 ?_
      refine wp_exit ?_
      refine x_thenX ?_
      refine x_thenX ?_
      refine x_blockX ?_
      refine x_thenN ?_
      exact j1 _ a w (S.sub trivial .nil) h1
/-! smithy/smithyref19.Price -/
abbrev smithyref19_Price.Ty : Type := ((List Int) × (List Int) × Bool × Int × (List Int) × (List Int) × Int × (List Int) × (List Int) × (List ((List Int) × (List (List Int))))) → (List Int) → Option ((List Int) × Bool)
def smithyref19_Price.Ctr (s : smithyref19_Price.Ty) : Prop := ∀ (x1 : (List Int) × (List Int) × Bool × Int × (List Int) × (List Int) × Int × (List Int) × (List Int) × (List ((List Int) × (List (List Int))))) (x2 : List Int) (ch_0_0 : Option Addr) (ch_0_1 : Nat) (ch_0_2 : Option Addr) (ch_0_3 : Nat) (r : (List Int) × Bool) (h0 : s x1 x2 = some r) (mi : Mem) (w0 : World), okL mi [(.agg [.ints .u8 x1.1 20, .ints .u8 x1.2.1 20, .one (.bool x1.2.2.1), .one (.int .u64 x1.2.2.2.1), .ints .u64 x1.2.2.2.2.1 4, .sl ch_0_0 (x1.2.2.2.2.2.1).length ch_0_1 (RdS (Ty.int .u8) ch_0_0 x1.2.2.2.2.2.1), .one (.int .u64 x1.2.2.2.2.2.2.1), .ints .u64 x1.2.2.2.2.2.2.2.1 4, .ints .u64 x1.2.2.2.2.2.2.2.2.1 4, .sl ch_0_2 (x1.2.2.2.2.2.2.2.2.2).length ch_0_3 (RdS (Ty.prod (Ty.arr .u8 20) (Ty.slice (Ty.arr .u64 4))) ch_0_2 x1.2.2.2.2.2.2.2.2.2)]), (.agg [.ints .u64 x2 4])] → Pre mi [] w0 → Calls Try.prog 13 (([(.agg [.ints .u8 x1.1 20, .ints .u8 x1.2.1 20, .one (.bool x1.2.2.1), .one (.int .u64 x1.2.2.2.1), .ints .u64 x1.2.2.2.2.1 4, .sl ch_0_0 (x1.2.2.2.2.2.1).length ch_0_1 (RdS (Ty.int .u8) ch_0_0 x1.2.2.2.2.2.1), .one (.int .u64 x1.2.2.2.2.2.2.1), .ints .u64 x1.2.2.2.2.2.2.2.1 4, .ints .u64 x1.2.2.2.2.2.2.2.2.1 4, .sl ch_0_2 (x1.2.2.2.2.2.2.2.2.2).length ch_0_3 (RdS (Ty.prod (Ty.arr .u8 20) (Ty.slice (Ty.arr .u64 4))) ch_0_2 x1.2.2.2.2.2.2.2.2.2)]), (.agg [.ints .u64 x2 4])] : List D).map D.val).toArray w0 (RetX mi [] (fun (ch : Unit) => ((.tup [(true, [.ints .u64 r.1 4]), (false, [.one (.bool r.2)])]) : D)) (fun (ch : Unit) => []) w0)
def smithyref19_Price.f (k : Nat) (x1 : (List Int) × (List Int) × Bool × Int × (List Int) × (List Int) × Int × (List Int) × (List Int) × (List ((List Int) × (List (List Int))))) (x2 : List Int) : Option ((List Int) × Bool) := (smithyref19_less.f k x1.2.2.2.2.2.2.2.1 x2).bind fun t1 => (if t1 = true then (some ([0, 0, 0, 0], false)) else ((smithyref02_Of.f k x2).bind fun t2 => ((smithyref02_Of.f k x1.2.2.2.2.2.2.2.2.1).bind fun t3 => ((smithyref02_Plus.f k t2 t3).bind fun t4 => ((smithyref02_Of.f k x1.2.2.2.2.2.2.2.1).bind fun t5 => ((smithyref02_Less.f k t4 t5).bind fun t6 => (if t6 = true then ((smithyref02_N_Word.f k t4).bind fun t7 => (some (t7, true))) else (some (x1.2.2.2.2.2.2.2.1, true)))))))))
theorem smithyref19_Price.ok (k : Nat) : smithyref19_Price.Ctr (smithyref19_Price.f k) := by
  intro x1 x2 ch_0_0 ch_0_1 ch_0_2 ch_0_3 r h0 mi w0 ok hm
  delta smithyref19_Price.f at h0
  refine c_enterX (n := 27) [(.agg [.ints .u8 x1.1 20, .ints .u8 x1.2.1 20, .one (.bool x1.2.2.1), .one (.int .u64 x1.2.2.2.1), .ints .u64 x1.2.2.2.2.1 4, .sl ch_0_0 (x1.2.2.2.2.2.1).length ch_0_1 (RdS (Ty.int .u8) ch_0_0 x1.2.2.2.2.2.1), .one (.int .u64 x1.2.2.2.2.2.2.1), .ints .u64 x1.2.2.2.2.2.2.2.1 4, .ints .u64 x1.2.2.2.2.2.2.2.2.1 4, .sl ch_0_2 (x1.2.2.2.2.2.2.2.2.2).length ch_0_3 (RdS (Ty.prod (Ty.arr .u8 20) (Ty.slice (Ty.arr .u64 4))) ch_0_2 x1.2.2.2.2.2.2.2.2.2)]), (.agg [.ints .u64 x2 4])] (l := [(0, (.agg [.ints .u8 x1.1 20, .ints .u8 x1.2.1 20, .one (.bool x1.2.2.1), .one (.int .u64 x1.2.2.2.1), .ints .u64 x1.2.2.2.2.1 4, .sl ch_0_0 (x1.2.2.2.2.2.1).length ch_0_1 (RdS (Ty.int .u8) ch_0_0 x1.2.2.2.2.2.1), .one (.int .u64 x1.2.2.2.2.2.2.1), .ints .u64 x1.2.2.2.2.2.2.2.1 4, .ints .u64 x1.2.2.2.2.2.2.2.2.1 4, .sl ch_0_2 (x1.2.2.2.2.2.2.2.2.2).length ch_0_3 (RdS (Ty.prod (Ty.arr .u8 20) (Ty.slice (Ty.arr .u64 4))) ch_0_2 x1.2.2.2.2.2.2.2.2.2)])), (1, (.agg [.ints .u64 x2 4]))]) Try.func13 rfl rfl rfl rfl ok hm ?_
  clear ok hm
  intro b0 hb a S
  refine c_region ?_
  refine s_box S rfl rfl rfl ?_; clear S a; intro g1 a w S
  refine s_box S rfl rfl rfl ?_; clear S a w; intro g2 a w S
  refine s_alloc S Z26 rfl ⟨rfl, trivial⟩ rfl ?_; clear S a w; intro g3 a w S
  refine s_assign S rfl rfl ?_; clear S a; intro a S
  refine c_end ?_
  refine wp_seq ?_
  refine c_region ?_
  refine s_fieldAddr S rfl I30_7 T26 (by decide) rfl rfl ?_; clear S a; intro a S
  refine s_loada S rfl (.there (.there .here)) T26 (s' := [.ints .u64 x1.2.2.2.2.2.2.2.1 4]) rfl rfl ?_; clear S a; intro a S
  refine s_loada S rfl (.there .here) T26 (s' := [.ints .u64 x2 4]) rfl rfl ?_; clear S a; intro a S
  obtain ⟨t1, et1, h1⟩ := bind_of h0; clear h0
  refine s_callP S (fun (ch : Unit) => ((.v (.bool t1)) : D)) N32 rfl rfl (smithyref19_less.ok k x1.2.2.2.2.2.2.2.1 x2 t1 et1 _ _) ?_; clear S a w; intro ch1 m le1 a w S
  refine c_end ?_
  rcases ite_of h1 with ⟨c1, h2⟩ | ⟨c1, h2⟩ <;> clear h1
  · refine c_condT S rfl c1 ?_
    refine c_region ?_
    refine s_build S (ds := []) (dv := (.agg [.ints .u64 [0, 0, 0, 0] 4])) rfl (fun _ => by kernel_rfl) ⟨rfl, trivial⟩ rfl ?_; clear S a; intro a S
    refine s_store S rfl rfl rfl (s' := [.ints .u64 [0, 0, 0, 0] 4]) .here T26 rfl rfl ?_; clear S w; intro w S
    refine s_assign S rfl rfl ?_; clear S a; intro a S
    refine c_end ?_
    refine wp_ret ?_
    refine x_thenR ?_
    obtain rfl := Option.some.inj h2
    exact b_ret2 (d1 := (.agg [.ints .u64 [0, 0, 0, 0] 4])) (d2 := (.v (.bool false))) S rfl (resD_cell rfl .here T26 rfl rfl) rfl fun ok1 ok2 => S.retX (Hx := []) hb _ _ (() : Unit) .nil ⟨ok1, ⟨ok2, trivial⟩, trivial⟩
  · refine c_condF S rfl c1 ?_
    refine wp_skip ?_
    refine x_thenN ?_
    refine wp_seq (c_heldS S (.take 0 (.take 2 (.take 3 (.alts (.run 1 true (.alts (.run 4 true (.alts (.run 5 true (.take 6 .done) .nil)) .nil)) .nil))))) 7 [Res.cells g3 26 [.ints .u64 [0, 0, 0, 0] 4], Res.cells g2 26 [.ints .u64 x2 4], Res.cells g1 30 [.ints .u8 x1.1 20, .ints .u8 x1.2.1 20, .one (.bool x1.2.2.1), .one (.int .u64 x1.2.2.2.1), .ints .u64 x1.2.2.2.2.1 4, .sl ch_0_0 (x1.2.2.2.2.2.1).length ch_0_1 (RdS (Ty.int .u8) ch_0_0 x1.2.2.2.2.2.1), .one (.int .u64 x1.2.2.2.2.2.2.1), .ints .u64 x1.2.2.2.2.2.2.2.1 4, .ints .u64 x1.2.2.2.2.2.2.2.2.1 4, .sl ch_0_2 (x1.2.2.2.2.2.2.2.2.2).length ch_0_3 (RdS (Ty.prod (Ty.arr .u8 20) (Ty.slice (Ty.arr .u64 4))) ch_0_2 x1.2.2.2.2.2.2.2.2.2)]] (.cons .here (.cons .here (.cons .here .nil))) ⟨Res.stay_cells, Res.stay_cells, Res.stay_cells, trivial⟩ [(3, (.v (.pointer (some ⟨g2, 0, none⟩)))), (2, (.v (.pointer (some ⟨g1, 0, none⟩))))] ⟨rfl, rfl, trivial⟩ (by kernel_rfl) (by kernel_rfl) ?_); clear S; intro w S CL hw le
    refine h_loada S CL hw le ⟨rfl, rfl, trivial⟩ rfl (.there .here) T26 (s' := [.ints .u64 x2 4]) rfl rfl rfl trivial ?_; clear S CL a; intro a S CL
    refine h_fieldAddr S CL hw le ⟨rfl, rfl, rfl, trivial⟩ rfl I30_8 T26 (by decide) rfl rfl rfl trivial ?_; clear S CL a; intro a S CL
    refine h_loada S CL hw le ⟨rfl, rfl, rfl, rfl, trivial⟩ rfl (.there (.there .here)) T26 (s' := [.ints .u64 x1.2.2.2.2.2.2.2.2.1 4]) rfl rfl rfl trivial ?_; clear S CL a; intro a S CL
    refine h_run' S rfl trivial ?_
    obtain ⟨t2, et2, h3⟩ := bind_of h2; clear h2
    refine s_callR S (fun (ch : (Option Addr) × Nat × Nat) => ((.v (.slice ch.1 ch.2.1 ch.2.2)) : D)) (fun (ch : (Option Addr) × Nat × Nat) => Res.row (Ty.int .i64) 3 ch.1 ch.2.1 ch.2.2 t2) N22 rfl rfl (smithyref02_Of.ok k x2 t2 et2 _ _) ?_; clear S a; intro ch2 m le1 a w S
    replace le := le.trans le1
    replace hw := CL.again hw S (.cons (.there .here) (.cons (.there .here) (.cons (.there .here) .nil))) le
    refine h_back ⟨fun _ => hw, ?_⟩
    refine h_run' S rfl trivial ?_
    obtain ⟨t3, et3, h4⟩ := bind_of h3; clear h3
    refine s_callR S (fun (ch : (Option Addr) × Nat × Nat) => ((.v (.slice ch.1 ch.2.1 ch.2.2)) : D)) (fun (ch : (Option Addr) × Nat × Nat) => Res.row (Ty.int .i64) 3 ch.1 ch.2.1 ch.2.2 t3) N22 rfl rfl (smithyref02_Of.ok k x1.2.2.2.2.2.2.2.2.1 t3 et3 _ _) ?_; clear S a; intro ch3 m le1 a w S
    replace le := le.trans le1
    replace hw := CL.again hw S (.cons (.there (.there .here)) (.cons (.there (.there .here)) (.cons (.there (.there .here)) .nil))) le
    refine h_back ⟨fun _ => hw, ?_⟩
    refine h_run' S rfl trivial ?_
    replace S := S.rowfro (.there .here)
    obtain ⟨m, le1, S, hro⟩ := S
    replace le := le.trans le1
    replace S := S.slotro (u := 13) rfl hro
    replace S := S.rowfro .here
    obtain ⟨m, le1, S, hro⟩ := S
    replace le := le.trans le1
    replace S := S.slotro (u := 16) rfl hro
    obtain ⟨t4, et4, h5⟩ := bind_of h4; clear h4
    refine s_callR S (fun (ch : (Option Addr) × Nat × Nat) => ((.v (.slice ch.1 ch.2.1 ch.2.2)) : D)) (fun (ch : (Option Addr) × Nat × Nat) => Res.row (Ty.int .i64) 3 ch.1 ch.2.1 ch.2.2 t4) N20 rfl rfl (smithyref02_Plus.ok k t2 t3 ch2.1 ch2.2.2 ch3.1 ch3.2.2 t4 et4 _ _) ?_; clear S a; intro ch4 m le1 a w S
    replace le := le.trans le1
    replace hw := CL.again hw S (.cons (.there .here) (.cons (.there .here) (.cons (.there .here) .nil))) le
    refine h_back ⟨fun _ => hw, ?_⟩
    replace CL := CL.add (t := 17) (d := (.v (.slice ch4.1 ch4.2.1 ch4.2.2))) S rfl rfl
    refine h_assign S CL hw le ⟨rfl, rfl, rfl, rfl, rfl, rfl, trivial⟩ rfl rfl rfl trivial ?_; clear S CL a; intro a S CL
    refine h_done ?_; clear CL hw le
    refine x_thenN ?_
    refine wp_seq ?_
    refine c_region ?_
    refine s_move S rfl rfl ?_; clear S a; intro a S
    refine s_fieldAddr S rfl I30_7 T26 (by decide) rfl rfl ?_; clear S a; intro a S
    refine s_loada S rfl (.there (.there (.there .here))) T26 (s' := [.ints .u64 x1.2.2.2.2.2.2.2.1 4]) rfl rfl ?_; clear S a; intro a S
    obtain ⟨t5, et5, h6⟩ := bind_of h5; clear h5
    refine s_callR S (fun (ch : (Option Addr) × Nat × Nat) => ((.v (.slice ch.1 ch.2.1 ch.2.2)) : D)) (fun (ch : (Option Addr) × Nat × Nat) => Res.row (Ty.int .i64) 3 ch.1 ch.2.1 ch.2.2 t5) N22 rfl rfl (smithyref02_Of.ok k x1.2.2.2.2.2.2.2.1 t5 et5 _ _) ?_; clear S a w; intro ch5 m le1 a w S
    replace S := S.rowfro (.there .here)
    obtain ⟨m, le1, S, hro⟩ := S
    replace S := S.slotro (u := 18) rfl hro
    replace S := S.slotro (u := 6) rfl hro
    replace S := S.slotro (u := 17) rfl hro
    replace S := S.rowfro .here
    obtain ⟨m, le1, S, hro⟩ := S
    replace S := S.slotro (u := 21) rfl hro
    obtain ⟨t6, et6, h7⟩ := bind_of h6; clear h6
    refine s_callP S (fun (ch : Unit) => ((.v (.bool t6)) : D)) N23 rfl rfl (smithyref02_Less.ok k t4 t5 ch4.1 ch4.2.2 ch5.1 ch5.2.2 t6 et6 _ _) ?_; clear S a w; intro ch6 m le1 a w S
    refine c_end ?_
    rcases ite_of h7 with ⟨c2, h8⟩ | ⟨c2, h8⟩ <;> clear h7
    · refine c_condT S rfl c2 ?_
      refine c_region ?_
      refine s_move S rfl rfl ?_; clear S a; intro a S
      obtain ⟨t7, et7, h9⟩ := bind_of h8; clear h8
      refine s_callP S (fun (ch : Unit) => ((.agg [.ints .u64 t7 4]) : D)) N11 rfl rfl (smithyref02_N_Word.ok k t4 ch4.1 ch4.2.2 t7 et7 _ _) ?_; clear S a w; intro ch7 m le1 a w S
      refine s_store S rfl rfl rfl (s' := [.ints .u64 t7 4]) .here T26 rfl rfl ?_; clear S w; intro w S
      refine s_assign S rfl rfl ?_; clear S a; intro a S
      refine c_end ?_
      refine wp_ret ?_
      refine x_thenR ?_
      obtain rfl := Option.some.inj h9
      exact b_ret2 (d1 := (.agg [.ints .u64 t7 4])) (d2 := (.v (.bool true))) S rfl (resD_cell rfl .here T26 rfl rfl) rfl fun ok1 ok2 => S.retX (Hx := []) hb _ _ (() : Unit) .nil ⟨ok1, ⟨ok2, trivial⟩, trivial⟩
    · refine c_condF S rfl c2 ?_
      refine wp_skip ?_
      refine x_thenN ?_
      refine c_region ?_
      refine s_fieldAddr S rfl I30_7 T26 (by decide) rfl rfl ?_; clear S a; intro a S
      refine s_loada S rfl (.there (.there .here)) T26 (s' := [.ints .u64 x1.2.2.2.2.2.2.2.1 4]) rfl rfl ?_; clear S a; intro a S
      refine s_store S rfl rfl rfl (s' := [.ints .u64 x1.2.2.2.2.2.2.2.1 4]) .here T26 rfl rfl ?_; clear S w; intro w S
      refine s_assign S rfl rfl ?_; clear S a; intro a S
      refine c_end ?_
      refine wp_ret ?_
      obtain rfl := Option.some.inj h8
      exact b_ret2 (d1 := (.agg [.ints .u64 x1.2.2.2.2.2.2.2.1 4])) (d2 := (.v (.bool true))) S rfl (resD_cell rfl .here T26 rfl rfl) rfl fun ok1 ok2 => S.retX (Hx := []) hb _ _ (() : Unit) .nil ⟨ok1, ⟨ok2, trivial⟩, trivial⟩
/-! smithy/gas.either -/
abbrev gas_either.Ty : Type := Bool → Int → Int → Option Int
def gas_either.Ctr (s : gas_either.Ty) : Prop := ∀ (x1 : Bool) (x2 : Int) (x3 : Int) (r : Int) (h0 : s x1 x2 x3 = some r) (mi : Mem) (w0 : World), okL mi [(.v (.bool x1)), (.v (.int .u64 x2)), (.v (.int .u64 x3))] → Pre mi [] w0 → Calls Try.prog 48 (([(.v (.bool x1)), (.v (.int .u64 x2)), (.v (.int .u64 x3))] : List D).map D.val).toArray w0 (RetX mi [] (fun (ch : Unit) => ((.v (.int .u64 r)) : D)) (fun (ch : Unit) => []) w0)
def gas_either.f (x1 : Bool) (x2 : Int) (x3 : Int) : Option Int := if x1 = true then (some x2) else (some x3)
theorem gas_either.ok : gas_either.Ctr (gas_either.f) := by
  intro x1 x2 x3 r h0 mi w0 ok hm
  delta gas_either.f at h0
  refine c_enterX (n := 10) [(.v (.bool x1)), (.v (.int .u64 x2)), (.v (.int .u64 x3))] (l := [(0, (.v (.bool x1))), (1, (.v (.int .u64 x2))), (2, (.v (.int .u64 x3)))]) Try.func48 rfl rfl rfl rfl ok hm ?_
  clear ok hm
  intro b0 hb a S
  refine c_region ?_
  refine s_assign S rfl rfl ?_; clear S a; intro a S
  refine c_end ?_
  refine wp_seq ?_
  refine c_region ?_
  refine s_move S rfl rfl ?_; clear S a; intro a S
  refine c_end ?_
  rcases ite_of h0 with ⟨c1, h1⟩ | ⟨c1, h1⟩ <;> clear h0
  · refine c_condT S rfl c1 ?_
    refine c_region ?_
    refine s_move S rfl rfl ?_; clear S a; intro a S
    refine s_assign S rfl rfl ?_; clear S a; intro a S
    refine c_end ?_
    refine wp_ret ?_
    refine x_thenR ?_
    obtain rfl := Option.some.inj h1
    exact b_ret1 (d := (.v (.int .u64 x2))) S rfl rfl fun ok => S.retX (Hx := []) hb _ _ (() : Unit) .nil ok
  · refine c_condF S rfl c1 ?_
    refine wp_skip ?_
    refine x_thenN ?_
    refine c_region ?_
    refine s_move S rfl rfl ?_; clear S a; intro a S
    refine s_assign S rfl rfl ?_; clear S a; intro a S
    refine c_end ?_
    refine wp_ret ?_
    obtain rfl := Option.some.inj h1
    exact b_ret1 (d := (.v (.int .u64 x3))) S rfl rfl fun ok => S.retX (Hx := []) hb _ _ (() : Unit) .nil ok
/-! smithy/mem.Words -/
abbrev mem_Words.Ty : Type := Int → Option Int
def mem_Words.Ctr (s : mem_Words.Ty) : Prop := ∀ (x1 : Int) (r : Int) (h0 : s x1 = some r) (mi : Mem) (w0 : World), okL mi [(.v (.int .u64 x1))] → Pre mi [] w0 → Calls Try.prog 49 (([(.v (.int .u64 x1))] : List D).map D.val).toArray w0 (RetX mi [] (fun (ch : Unit) => ((.v (.int .u64 r)) : D)) (fun (ch : Unit) => []) w0)
def mem_Words.j1 (y1 : Int) : Option Int := some y1
def mem_Words.f (x1 : Int) : Option Int := if (decide (0 < (Int.tmod x1 32))) = true then (mem_Words.j1 (wr .u64 ((wr .u64 (Int.tdiv x1 32)) + 1))) else (mem_Words.j1 (wr .u64 (Int.tdiv x1 32)))
theorem mem_Words.ok : mem_Words.Ctr (mem_Words.f) := by
  intro x1 r h0 mi w0 ok hm
  delta mem_Words.f at h0
  refine c_enterX (n := 12) [(.v (.int .u64 x1))] (l := [(0, (.v (.int .u64 x1)))]) Try.func49 rfl rfl rfl rfl ok hm ?_
  clear ok hm
  intro b0 hb a S
  refine c_region ?_
  refine s_assign S rfl rfl ?_; clear S a; intro a S
  refine c_end ?_
  refine c_region ?_
  refine s_move S rfl rfl ?_; clear S a; intro a S
  refine s_quo S rfl rfl (by decide) rfl ?_; clear S a; intro a S
  refine s_assign S rfl rfl ?_; clear S a; intro a S
  refine c_end ?_
  refine wp_seq_k ?_
  intro K1 hK1
  have j1 : ∀ (m : Mem) (y1 : Int) (a : Act) (w : World), St 12 m b0 [(3, (.v (.int .u64 y1)))] [] a w → mem_Words.j1 y1 = some r → K1 a w := by
    intro m y1 a w S h0
    delta mem_Words.j1 at h0
    refine hK1 a w ?_
    refine c_region ?_
    refine s_move S rfl rfl ?_; clear S a; intro a S
    refine s_assign S rfl rfl ?_; clear S a; intro a S
    refine c_end ?_
    refine wp_ret ?_
    obtain rfl := Option.some.inj h0
    exact b_ret1 (d := (.v (.int .u64 y1))) S rfl rfl fun ok => S.retX (Hx := []) hb _ _ (() : Unit) .nil ok
  refine c_region ?_
  refine s_move S rfl rfl ?_; clear S a; intro a S
  refine s_rem S rfl rfl (by decide) rfl ?_; clear S a; intro a S
  refine s_bin S rfl rfl rfl rfl ?_; clear S a; intro a S
  refine c_end ?_
  rcases ite_of h0 with ⟨c1, h1⟩ | ⟨c1, h1⟩ <;> clear h0
  · refine c_condT S rfl c1 ?_
    refine c_region' ?_
    refine s_move S rfl rfl ?_; clear S a; intro a S
    refine s_bin S rfl rfl rfl rfl ?_; clear S a; intro a S
    refine s_assign S rfl rfl ?_; clear S a; intro a S
    refine c_end' ?_
    refine x_thenN ?_
    exact j1 _ (wr .u64 ((wr .u64 (Int.tdiv x1 32)) + 1)) a w0 (S.sub ⟨rfl, trivial⟩ .nil) h1
  · refine c_condF S rfl c1 ?_
    refine wp_skip ?_
    refine x_thenN ?_
    exact j1 _ (wr .u64 (Int.tdiv x1 32)) a w0 (S.sub ⟨rfl, trivial⟩ .nil) h1
/-! smithy/gas.Intrinsic -/
abbrev gas_Intrinsic.Ty : Type := (List Int) → Bool → Int → Int → Option Int
def gas_Intrinsic.Ctr (s : gas_Intrinsic.Ty) : Prop := ∀ (x1 : List Int) (x2 : Bool) (x3 : Int) (x4 : Int) (ch_0_0 : Option Addr) (ch_0_1 : Nat) (r : Int) (h0 : s x1 x2 x3 x4 = some r) (mi : Mem) (w0 : World), okL mi [(.sl ch_0_0 (x1).length ch_0_1 (RdS (Ty.int .u8) ch_0_0 x1)), (.v (.bool x2)), (.v (.int .u64 x3)), (.v (.int .u64 x4))] → Pre mi [] w0 → Calls Try.prog 33 (([(.sl ch_0_0 (x1).length ch_0_1 (RdS (Ty.int .u8) ch_0_0 x1)), (.v (.bool x2)), (.v (.int .u64 x3)), (.v (.int .u64 x4))] : List D).map D.val).toArray w0 (RetX mi [] (fun (ch : Unit) => ((.v (.int .u64 r)) : D)) (fun (ch : Unit) => []) w0)
def gas_Intrinsic.j2 (y2 : Int) : Option Int := some y2
def gas_Intrinsic.j1 (x1 : List Int) (x2 : Bool) (y1 : Int) : Option Int := if x2 = true then ((mem_Words.f (wr .u64 ((x1).length : Int))).bind fun t1 => (gas_Intrinsic.j2 (wr .u64 (y1 + (wr .u64 (32000 + (wr .u64 (2 * t1)))))))) else (gas_Intrinsic.j2 y1)
def gas_Intrinsic.b1 (x1 : List Int) (x2 : Bool) (rec1 : Int → Int → Option Int) (y5 : Int) (y6 : Int) : Option Int := if (decide (y5 < ((x1).length : Int))) = true then (if (0 : Int) ≤ y5 ∧ y5 < ((x1).length : Int) then ((gas_either.f ((rd x1 y5) == 0) 4 16).bind fun t4 => (rec1 (wr .i64 (y5 + 1)) (wr .u64 (y6 + t4)))) else none) else (gas_Intrinsic.j1 x1 x2 y6)
def gas_Intrinsic.l1 (x1 : List Int) (x2 : Bool) : Nat → Int → Int → Option Int
  | 0, _, _ => none
  | q + 1, y5, y6 => gas_Intrinsic.b1 x1 x2 (gas_Intrinsic.l1 x1 x2 q) y5 y6
def gas_Intrinsic.f (k : Nat) (x1 : List Int) (x2 : Bool) (x3 : Int) (x4 : Int) : Option Int := gas_Intrinsic.l1 x1 x2 k 0 (wr .u64 ((wr .u64 (21000 + (wr .u64 (2400 * x3)))) + (wr .u64 (1900 * x4))))
theorem gas_Intrinsic.ok (k : Nat) : gas_Intrinsic.Ctr (gas_Intrinsic.f k) := by
  intro x1 x2 x3 x4 ch_0_0 ch_0_1 r h0 mi w0 ok hm
  delta gas_Intrinsic.f at h0
  refine c_enterX (n := 40) [(.sl ch_0_0 (x1).length ch_0_1 (RdS (Ty.int .u8) ch_0_0 x1)), (.v (.bool x2)), (.v (.int .u64 x3)), (.v (.int .u64 x4))] (l := [(0, (.sl ch_0_0 (x1).length ch_0_1 (RdS (Ty.int .u8) ch_0_0 x1))), (1, (.v (.bool x2))), (2, (.v (.int .u64 x3))), (3, (.v (.int .u64 x4)))]) Try.func33 rfl rfl rfl rfl ok hm ?_
  clear ok hm
  intro b0 hb a S
  refine c_region ?_
  refine s_assign S rfl rfl ?_; clear S a; intro a S
  refine c_end ?_
  refine c_region ?_
  refine s_move S rfl rfl ?_; clear S a; intro a S
  refine s_bin S rfl rfl rfl rfl ?_; clear S a; intro a S
  refine s_bin S rfl rfl rfl rfl ?_; clear S a; intro a S
  refine s_move S rfl rfl ?_; clear S a; intro a S
  refine s_bin S rfl rfl rfl rfl ?_; clear S a; intro a S
  refine s_bin S rfl rfl rfl rfl ?_; clear S a; intro a S
  refine s_assign S rfl rfl ?_; clear S a; intro a S
  refine c_end ?_
  refine wp_seq_k ?_
  intro K1 hK1
  have j1 : ∀ (m : Mem) (y1 : Int) (a : Act) (w : World), St 40 m b0 [(9, (.v (.int .u64 y1))), (0, (.sl ch_0_0 (x1).length ch_0_1 (RdS (Ty.int .u8) ch_0_0 x1))), (1, (.v (.bool x2)))] [] a w → gas_Intrinsic.j1 x1 x2 y1 = some r → K1 a w := by
    intro m y1 a w S h0
    delta gas_Intrinsic.j1 at h0
    refine hK1 a w ?_
    refine wp_seq_k ?_
    intro K2 hK2
    have j2 : ∀ (m : Mem) (y2 : Int) (a : Act) (w : World), St 40 m b0 [(9, (.v (.int .u64 y2)))] [] a w → gas_Intrinsic.j2 y2 = some r → K2 a w := by
      intro m y2 a w S h0
      delta gas_Intrinsic.j2 at h0
      refine hK2 a w ?_
      refine c_region ?_
      refine s_move S rfl rfl ?_; clear S a; intro a S
      refine s_assign S rfl rfl ?_; clear S a; intro a S
      refine c_end ?_
      refine wp_ret ?_
      obtain rfl := Option.some.inj h0
      exact b_ret1 (d := (.v (.int .u64 y2))) S rfl rfl fun ok => S.retX (Hx := []) hb _ _ (() : Unit) .nil ok
    refine c_region ?_
    refine s_move S rfl rfl ?_; clear S a; intro a S
    refine c_end ?_
    rcases ite_of h0 with ⟨c1, h1⟩ | ⟨c1, h1⟩ <;> clear h0
    · refine c_condT S rfl c1 ?_
      refine c_region' ?_
      refine s_move S rfl rfl ?_; clear S a; intro a S
      refine s_move S rfl rfl ?_; clear S a; intro a S
      refine s_lenS S rfl Try.underlying27 rfl ?_; clear S a; intro a S
      refine s_conv S rfl rfl Try.underlying24 rfl ?_; clear S a; intro a S
      obtain ⟨t1, et1, h2⟩ := bind_of h1; clear h1
      refine s_callP S (fun (ch : Unit) => ((.v (.int .u64 t1)) : D)) N49 rfl rfl (mem_Words.ok (wr .u64 ((x1).length : Int)) t1 et1 _ _) ?_; clear S a w; intro ch1 m le1 a w S
      refine s_bin S rfl rfl rfl rfl ?_; clear S a; intro a S
      refine s_bin S rfl rfl rfl rfl ?_; clear S a; intro a S
      refine s_bin S rfl rfl rfl rfl ?_; clear S a; intro a S
      refine s_assign S rfl rfl ?_; clear S a; intro a S
      refine c_end' ?_
      refine x_thenN ?_
      exact j2 _ (wr .u64 (y1 + (wr .u64 (32000 + (wr .u64 (2 * t1)))))) a w (S.sub ⟨rfl, trivial⟩ .nil) h2
    · refine c_condF S rfl c1 ?_
      refine wp_skip ?_
      refine x_thenN ?_
      exact j2 _ y1 a w (S.sub ⟨rfl, trivial⟩ .nil) h1
  refine c_region ?_
  refine s_move S rfl rfl ?_; clear S a; intro a S
  refine s_lenS S rfl Try.underlying27 rfl ?_; clear S a; intro a S
  refine s_move S rfl rfl ?_; clear S a; intro a S
  refine c_end ?_
  refine wp_block ?_
  refine c_loop (fun q1 a w => ∃ (m : Mem) (y5 : Int) (y6 : Int), St 40 m b0 [(20, (.v (.int .i64 y5))), (19, (.v (.int .i64 ((x1).length : Int)))), (18, (.sl ch_0_0 (x1).length ch_0_1 (RdS (Ty.int .u8) ch_0_0 x1))), (9, (.v (.int .u64 y6))), (0, (.sl ch_0_0 (x1).length ch_0_1 (RdS (Ty.int .u8) ch_0_0 x1))), (1, (.v (.bool x2)))] [] a w ∧ gas_Intrinsic.l1 x1 x2 q1 y5 y6 = some r) ?_ ?_ (k := k) ⟨_, 0, (wr .u64 ((wr .u64 (21000 + (wr .u64 (2400 * x3)))) + (wr .u64 (1900 * x4)))), (S.sub ⟨rfl, rfl, rfl, rfl, rfl, rfl, trivial⟩ .nil), h0⟩
  · rintro a w ⟨m, y5, y6, S, h0⟩
    exact (nomatch (show (none : Option Int) = some r from h0))
  · clear S h0
    rintro q1 a w ⟨m, y5, y6, S, h0⟩
    replace h0 : gas_Intrinsic.b1 x1 x2 (gas_Intrinsic.l1 x1 x2 q1) y5 y6 = some r := h0
    delta gas_Intrinsic.b1 at h0
    refine c_region ?_
    refine s_bin S rfl rfl rfl rfl ?_; clear S a; intro a S
    refine c_end ?_
    refine wp_seq ?_
    rcases ite_of h0 with ⟨c2, h1⟩ | ⟨c2, h1⟩ <;> clear h0
    · refine c_condT S rfl c2 ?_
      refine wp_skip ?_
      refine x_thenN ?_
      refine wp_seq ?_
      refine wp_block ?_
      refine c_region ?_
      obtain ⟨c3, h2⟩ := chk_of h1; clear h1
      refine s_iaddrS S rfl rfl rfl Try.underlying27 T5 c3.1 c3.2 rfl ?_; clear S a; intro p1 a S
      refine s_ld1 S (v := (.int .u8 (rd x1 y5))) rfl T5 (fun _ => rfl) rfl ?_; clear S a; intro a S
      refine s_assign S rfl rfl ?_; clear S a; intro a S
      refine c_end ?_
      refine c_region' ?_
      refine s_move S rfl rfl ?_; clear S a; intro a S
      refine s_move S rfl rfl ?_; clear S a; intro a S
      refine s_bin S rfl rfl rfl rfl ?_; clear S a; intro a S
      obtain ⟨t4, et4, h3⟩ := bind_of h2; clear h2
      refine s_callP S (fun (ch : Unit) => ((.v (.int .u64 t4)) : D)) N48 rfl rfl (gas_either.ok ((rd x1 y5) == 0) 4 16 t4 et4 _ _) ?_; clear S a w; intro ch2 m le1 a w S
      refine s_bin S rfl rfl rfl rfl ?_; clear S a; intro a S
      refine s_assign S rfl rfl ?_; clear S a; intro a S
      refine c_end' ?_
      refine x_blockN ?_
      refine x_thenN ?_
      refine c_region' ?_
      refine s_bin S rfl rfl rfl rfl ?_; clear S a; intro a S
      refine s_move S rfl rfl ?_; clear S a; intro a S
      refine c_end' ?_
      refine x_thenN ?_
      exact ⟨_, (wr .i64 (y5 + 1)), (wr .u64 (y6 + t4)), (S.sub ⟨rfl, rfl, rfl, rfl, rfl, rfl, trivial⟩ .nil), h3⟩
    · refine c_condF S rfl c2 ?_
      refine wp_exit ?_
      refine x_thenX ?_
      refine x_thenX ?_
      refine x_blockX ?_
      refine x_thenN ?_
      exact j1 _ y6 a w (S.sub ⟨rfl, rfl, rfl, trivial⟩ .nil) h1
/-! smithy/tx.Intrinsic -/
abbrev tx_Intrinsic.Ty : Type := ((List Int) × (List Int) × Bool × Int × (List Int) × (List Int) × Int × (List Int) × (List Int) × (List ((List Int) × (List (List Int))))) → Option Int
def tx_Intrinsic.Ctr (s : tx_Intrinsic.Ty) : Prop := ∀ (x1 : (List Int) × (List Int) × Bool × Int × (List Int) × (List Int) × Int × (List Int) × (List Int) × (List ((List Int) × (List (List Int))))) (ch_0_0 : Option Addr) (ch_0_1 : Nat) (ch_0_2 : Option Addr) (ch_0_3 : Nat) (r : Int) (h0 : s x1 = some r) (mi : Mem) (w0 : World), okL mi [(.agg [.ints .u8 x1.1 20, .ints .u8 x1.2.1 20, .one (.bool x1.2.2.1), .one (.int .u64 x1.2.2.2.1), .ints .u64 x1.2.2.2.2.1 4, .sl ch_0_0 (x1.2.2.2.2.2.1).length ch_0_1 (RdS (Ty.int .u8) ch_0_0 x1.2.2.2.2.2.1), .one (.int .u64 x1.2.2.2.2.2.2.1), .ints .u64 x1.2.2.2.2.2.2.2.1 4, .ints .u64 x1.2.2.2.2.2.2.2.2.1 4, .sl ch_0_2 (x1.2.2.2.2.2.2.2.2.2).length ch_0_3 (RdS (Ty.prod (Ty.arr .u8 20) (Ty.slice (Ty.arr .u64 4))) ch_0_2 x1.2.2.2.2.2.2.2.2.2)])] → Pre mi [] w0 → Calls Try.prog 14 (([(.agg [.ints .u8 x1.1 20, .ints .u8 x1.2.1 20, .one (.bool x1.2.2.1), .one (.int .u64 x1.2.2.2.1), .ints .u64 x1.2.2.2.2.1 4, .sl ch_0_0 (x1.2.2.2.2.2.1).length ch_0_1 (RdS (Ty.int .u8) ch_0_0 x1.2.2.2.2.2.1), .one (.int .u64 x1.2.2.2.2.2.2.1), .ints .u64 x1.2.2.2.2.2.2.2.1 4, .ints .u64 x1.2.2.2.2.2.2.2.2.1 4, .sl ch_0_2 (x1.2.2.2.2.2.2.2.2.2).length ch_0_3 (RdS (Ty.prod (Ty.arr .u8 20) (Ty.slice (Ty.arr .u64 4))) ch_0_2 x1.2.2.2.2.2.2.2.2.2)])] : List D).map D.val).toArray w0 (RetX mi [] (fun (ch : Unit) => ((.v (.int .u64 r)) : D)) (fun (ch : Unit) => []) w0)
def tx_Intrinsic.j1 (k : Nat) (x1 : (List Int) × (List Int) × Bool × Int × (List Int) × (List Int) × Int × (List Int) × (List Int) × (List ((List Int) × (List (List Int))))) (y1 : Int) : Option Int := (gas_Intrinsic.f k x1.2.2.2.2.2.1 x1.2.2.1 (wr .u64 ((x1.2.2.2.2.2.2.2.2.2).length : Int)) y1).bind fun t1 => (some t1)
def tx_Intrinsic.b1 (k : Nat) (x1 : (List Int) × (List Int) × Bool × Int × (List Int) × (List Int) × Int × (List Int) × (List Int) × (List ((List Int) × (List (List Int))))) (rec1 : Int → Int → Option Int) (y4 : Int) (y5 : Int) : Option Int := if (decide (y4 < ((x1.2.2.2.2.2.2.2.2.2).length : Int))) = true then (if (0 : Int) ≤ y4 ∧ y4 < ((x1.2.2.2.2.2.2.2.2.2).length : Int) then (rec1 (wr .i64 (y4 + 1)) (wr .u64 (y5 + (wr .u64 (((gt x1.2.2.2.2.2.2.2.2.2 y4).2).length : Int))))) else none) else (tx_Intrinsic.j1 k x1 y5)
def tx_Intrinsic.l1 (k : Nat) (x1 : (List Int) × (List Int) × Bool × Int × (List Int) × (List Int) × Int × (List Int) × (List Int) × (List ((List Int) × (List (List Int))))) : Nat → Int → Int → Option Int
  | 0, _, _ => none
  | q + 1, y4, y5 => tx_Intrinsic.b1 k x1 (tx_Intrinsic.l1 k x1 q) y4 y5
def tx_Intrinsic.f (k : Nat) (x1 : (List Int) × (List Int) × Bool × Int × (List Int) × (List Int) × Int × (List Int) × (List Int) × (List ((List Int) × (List (List Int))))) : Option Int := tx_Intrinsic.l1 k x1 k 0 0
theorem tx_Intrinsic.ok (k : Nat) : tx_Intrinsic.Ctr (tx_Intrinsic.f k) := by
  intro x1 ch_0_0 ch_0_1 ch_0_2 ch_0_3 r h0 mi w0 ok hm
  delta tx_Intrinsic.f at h0
  refine c_enterX (n := 30) [(.agg [.ints .u8 x1.1 20, .ints .u8 x1.2.1 20, .one (.bool x1.2.2.1), .one (.int .u64 x1.2.2.2.1), .ints .u64 x1.2.2.2.2.1 4, .sl ch_0_0 (x1.2.2.2.2.2.1).length ch_0_1 (RdS (Ty.int .u8) ch_0_0 x1.2.2.2.2.2.1), .one (.int .u64 x1.2.2.2.2.2.2.1), .ints .u64 x1.2.2.2.2.2.2.2.1 4, .ints .u64 x1.2.2.2.2.2.2.2.2.1 4, .sl ch_0_2 (x1.2.2.2.2.2.2.2.2.2).length ch_0_3 (RdS (Ty.prod (Ty.arr .u8 20) (Ty.slice (Ty.arr .u64 4))) ch_0_2 x1.2.2.2.2.2.2.2.2.2)])] (l := [(0, (.agg [.ints .u8 x1.1 20, .ints .u8 x1.2.1 20, .one (.bool x1.2.2.1), .one (.int .u64 x1.2.2.2.1), .ints .u64 x1.2.2.2.2.1 4, .sl ch_0_0 (x1.2.2.2.2.2.1).length ch_0_1 (RdS (Ty.int .u8) ch_0_0 x1.2.2.2.2.2.1), .one (.int .u64 x1.2.2.2.2.2.2.1), .ints .u64 x1.2.2.2.2.2.2.2.1 4, .ints .u64 x1.2.2.2.2.2.2.2.2.1 4, .sl ch_0_2 (x1.2.2.2.2.2.2.2.2.2).length ch_0_3 (RdS (Ty.prod (Ty.arr .u8 20) (Ty.slice (Ty.arr .u64 4))) ch_0_2 x1.2.2.2.2.2.2.2.2.2)]))]) Try.func14 rfl rfl rfl rfl ok hm ?_
  clear ok hm
  intro b0 hb a S
  refine c_region ?_
  refine s_box S rfl rfl rfl ?_; clear S a; intro g1 a w S
  refine s_assign S rfl rfl ?_; clear S a; intro a S
  refine c_end ?_
  refine c_region ?_
  refine s_assign S rfl rfl ?_; clear S a; intro a S
  refine c_end ?_
  refine wp_seq_k ?_
  intro K1 hK1
  have j1 : ∀ (m : Mem) (y1 : Int) (g7 : Nat) (a : Act) (w : World), St 30 m b0 [(3, (.v (.int .u64 y1))), (1, (.v (.pointer (some ⟨g7, 0, none⟩))))] [Res.cells g7 30 [.ints .u8 x1.1 20, .ints .u8 x1.2.1 20, .one (.bool x1.2.2.1), .one (.int .u64 x1.2.2.2.1), .ints .u64 x1.2.2.2.2.1 4, .sl ch_0_0 (x1.2.2.2.2.2.1).length ch_0_1 (RdS (Ty.int .u8) ch_0_0 x1.2.2.2.2.2.1), .one (.int .u64 x1.2.2.2.2.2.2.1), .ints .u64 x1.2.2.2.2.2.2.2.1 4, .ints .u64 x1.2.2.2.2.2.2.2.2.1 4, .sl ch_0_2 (x1.2.2.2.2.2.2.2.2.2).length ch_0_3 (RdS (Ty.prod (Ty.arr .u8 20) (Ty.slice (Ty.arr .u64 4))) ch_0_2 x1.2.2.2.2.2.2.2.2.2)]] a w → tx_Intrinsic.j1 k x1 y1 = some r → K1 a w := by
    intro m y1 g7 a w S h0
    delta tx_Intrinsic.j1 at h0
    refine hK1 a w ?_
    refine c_region ?_
    refine s_fieldAddr S rfl I30_5 T27 (by decide) rfl rfl ?_; clear S a; intro a S
    refine s_loadSl S rfl .here T27 (A := ch_0_0) (len := (x1.2.2.2.2.2.1).length) (cap := ch_0_1) rfl rfl ?_; clear S a; intro a S
    refine s_fieldAddr S rfl I30_2 T4 (by decide) rfl rfl ?_; clear S a; intro a S
    refine s_load1 S rfl .here T4 (v := (.bool x1.2.2.1)) rfl rfl ?_; clear S a; intro a S
    refine s_fieldAddr S rfl I30_9 T28 (by decide) rfl rfl ?_; clear S a; intro a S
    refine s_loadSl S rfl .here T28 (A := ch_0_2) (len := (x1.2.2.2.2.2.2.2.2.2).length) (cap := ch_0_3) rfl rfl ?_; clear S a; intro a S
    refine s_lenS S rfl Try.underlying28 rfl ?_; clear S a; intro a S
    refine s_conv S rfl rfl Try.underlying24 rfl ?_; clear S a; intro a S
    refine s_move S rfl rfl ?_; clear S a; intro a S
    obtain ⟨t1, et1, h1⟩ := bind_of h0; clear h0
    refine s_callP S (fun (ch : Unit) => ((.v (.int .u64 t1)) : D)) N33 rfl rfl (gas_Intrinsic.ok k x1.2.2.2.2.2.1 x1.2.2.1 (wr .u64 ((x1.2.2.2.2.2.2.2.2.2).length : Int)) y1 ch_0_0 ch_0_1 t1 et1 _ _) ?_; clear S a w; intro ch1 m le1 a w S
    refine s_assign S rfl rfl ?_; clear S a; intro a S
    refine c_end ?_
    refine wp_ret ?_
    obtain rfl := Option.some.inj h1
    exact b_ret1 (d := (.v (.int .u64 t1))) S rfl rfl fun ok => S.retX (Hx := []) hb _ _ (() : Unit) .nil ok
  refine c_region ?_
  refine s_fieldAddr S rfl I30_9 T28 (by decide) rfl rfl ?_; clear S a; intro a S
  refine s_loadSl S rfl .here T28 (A := ch_0_2) (len := (x1.2.2.2.2.2.2.2.2.2).length) (cap := ch_0_3) rfl rfl ?_; clear S a; intro a S
  refine s_lenS S rfl Try.underlying28 rfl ?_; clear S a; intro a S
  refine s_move S rfl rfl ?_; clear S a; intro a S
  refine c_end ?_
  refine wp_block ?_
  refine c_loop (fun q1 a w => ∃ (m : Mem) (y4 : Int) (y5 : Int) (g12 : Nat), St 30 m b0 [(9, (.v (.int .i64 y4))), (8, (.v (.int .i64 ((x1.2.2.2.2.2.2.2.2.2).length : Int)))), (7, (.sl ch_0_2 (x1.2.2.2.2.2.2.2.2.2).length ch_0_3 (RdS (Ty.prod (Ty.arr .u8 20) (Ty.slice (Ty.arr .u64 4))) ch_0_2 x1.2.2.2.2.2.2.2.2.2))), (3, (.v (.int .u64 y5))), (1, (.v (.pointer (some ⟨g12, 0, none⟩))))] [Res.cells g12 30 [.ints .u8 x1.1 20, .ints .u8 x1.2.1 20, .one (.bool x1.2.2.1), .one (.int .u64 x1.2.2.2.1), .ints .u64 x1.2.2.2.2.1 4, .sl ch_0_0 (x1.2.2.2.2.2.1).length ch_0_1 (RdS (Ty.int .u8) ch_0_0 x1.2.2.2.2.2.1), .one (.int .u64 x1.2.2.2.2.2.2.1), .ints .u64 x1.2.2.2.2.2.2.2.1 4, .ints .u64 x1.2.2.2.2.2.2.2.2.1 4, .sl ch_0_2 (x1.2.2.2.2.2.2.2.2.2).length ch_0_3 (RdS (Ty.prod (Ty.arr .u8 20) (Ty.slice (Ty.arr .u64 4))) ch_0_2 x1.2.2.2.2.2.2.2.2.2)]] a w ∧ tx_Intrinsic.l1 k x1 q1 y4 y5 = some r) ?_ ?_ (k := k) ⟨_, 0, 0, g1, (S.sub ⟨rfl, rfl, rfl, rfl, rfl, trivial⟩ (.cons .here .nil)), h0⟩
  · rintro a w ⟨m, y4, y5, g12, S, h0⟩
    exact (nomatch (show (none : Option Int) = some r from h0))
  · clear S h0
    rintro q1 a w ⟨m, y4, y5, g12, S, h0⟩
    replace h0 : tx_Intrinsic.b1 k x1 (tx_Intrinsic.l1 k x1 q1) y4 y5 = some r := h0
    delta tx_Intrinsic.b1 at h0
    refine c_region ?_
    refine s_bin S rfl rfl rfl rfl ?_; clear S a; intro a S
    refine c_end ?_
    refine wp_seq ?_
    rcases ite_of h0 with ⟨c1, h1⟩ | ⟨c1, h1⟩ <;> clear h0
    · refine c_condT S rfl c1 ?_
      refine wp_skip ?_
      refine x_thenN ?_
      refine wp_seq ?_
      refine wp_block ?_
      refine c_region ?_
      obtain ⟨c2, h2⟩ := chk_of h1; clear h1
      refine s_iaddrS S rfl rfl rfl Try.underlying28 T63 c2.1 c2.2 rfl ?_; clear S a; intro p1 a S
      refine s_ldA S (fun (c : Unit × (Option Addr × Nat)) => [.ints .u8 ((gt x1.2.2.2.2.2.2.2.2.2 y4).1) 20, .sl c.2.1 ((gt x1.2.2.2.2.2.2.2.2.2 y4).2).length c.2.2 (RdS (Ty.arr .u64 4) c.2.1 ((gt x1.2.2.2.2.2.2.2.2.2 y4).2))]) rfl T63 (fun _ => rfl) rfl ?_; clear S a; intro ch4 a S
      refine s_alloc S Z63 rfl ⟨rfl, rfl, trivial⟩ rfl ?_; clear S a w; intro g13 a w S
      refine s_store S rfl rfl rfl (s' := [.ints .u8 ((gt x1.2.2.2.2.2.2.2.2.2 y4).1) 20, .sl ch4.2.1 ((gt x1.2.2.2.2.2.2.2.2.2 y4).2).length ch4.2.2 (RdS (Ty.arr .u64 4) ch4.2.1 ((gt x1.2.2.2.2.2.2.2.2.2 y4).2))]) .here T63 rfl rfl ?_; clear S w; intro w S
      refine c_end ?_
      refine c_region' ?_
      refine s_move S rfl rfl ?_; clear S a; intro a S
      refine s_fieldAddr S rfl I63_1 T61 (by decide) rfl rfl ?_; clear S a; intro a S
      refine s_loadSl S rfl .here T61 (A := ch4.2.1) (len := ((gt x1.2.2.2.2.2.2.2.2.2 y4).2).length) (cap := ch4.2.2) rfl rfl ?_; clear S a; intro a S
      refine s_lenS S rfl Try.underlying61 rfl ?_; clear S a; intro a S
      refine s_conv S rfl rfl Try.underlying24 rfl ?_; clear S a; intro a S
      refine s_bin S rfl rfl rfl rfl ?_; clear S a; intro a S
      refine s_assign S rfl rfl ?_; clear S a; intro a S
      refine c_end' ?_
      refine x_blockN ?_
      refine x_thenN ?_
      refine c_region' ?_
      refine s_bin S rfl rfl rfl rfl ?_; clear S a; intro a S
      refine s_move S rfl rfl ?_; clear S a; intro a S
      refine c_end' ?_
      refine x_thenN ?_
      exact ⟨_, (wr .i64 (y4 + 1)), (wr .u64 (y5 + (wr .u64 (((gt x1.2.2.2.2.2.2.2.2.2 y4).2).length : Int)))), g12, (S.sub ⟨rfl, rfl, rfl, rfl, rfl, trivial⟩ (.cons (.there .here) .nil)), h2⟩
    · refine c_condF S rfl c1 ?_
      refine wp_exit ?_
      refine x_thenX ?_
      refine x_thenX ?_
      refine x_blockX ?_
      refine x_thenN ?_
      exact j1 _ y5 g12 a w (S.sub ⟨rfl, rfl, trivial⟩ (.cons .here .nil)) h1
/-! smithy/smithyref10.Words -/
abbrev smithyref10_Words.Ty : Type := Int → Option Int
def smithyref10_Words.Ctr (s : smithyref10_Words.Ty) : Prop := ∀ (x1 : Int) (r : Int) (h0 : s x1 = some r) (mi : Mem) (w0 : World), okL mi [(.v (.int .u64 x1))] → Pre mi [] w0 → Calls Try.prog 50 (([(.v (.int .u64 x1))] : List D).map D.val).toArray w0 (RetX mi [] (fun (ch : Unit) => ((.v (.int .u64 r)) : D)) (fun (ch : Unit) => []) w0)
def smithyref10_Words.f (x1 : Int) : Option Int := if ((Int.tmod x1 32) == 0) = true then (some (wr .u64 (Int.tdiv x1 32))) else (some (wr .u64 ((wr .u64 (Int.tdiv x1 32)) + 1)))
theorem smithyref10_Words.ok : smithyref10_Words.Ctr (smithyref10_Words.f) := by
  intro x1 r h0 mi w0 ok hm
  delta smithyref10_Words.f at h0
  refine c_enterX (n := 11) [(.v (.int .u64 x1))] (l := [(0, (.v (.int .u64 x1)))]) Try.func50 rfl rfl rfl rfl ok hm ?_
  clear ok hm
  intro b0 hb a S
  refine c_region ?_
  refine s_assign S rfl rfl ?_; clear S a; intro a S
  refine c_end ?_
  refine wp_seq ?_
  refine c_region ?_
  refine s_move S rfl rfl ?_; clear S a; intro a S
  refine s_rem S rfl rfl (by decide) rfl ?_; clear S a; intro a S
  refine s_bin S rfl rfl rfl rfl ?_; clear S a; intro a S
  refine c_end ?_
  rcases ite_of h0 with ⟨c1, h1⟩ | ⟨c1, h1⟩ <;> clear h0
  · refine c_condT S rfl c1 ?_
    refine c_region ?_
    refine s_move S rfl rfl ?_; clear S a; intro a S
    refine s_quo S rfl rfl (by decide) rfl ?_; clear S a; intro a S
    refine s_assign S rfl rfl ?_; clear S a; intro a S
    refine c_end ?_
    refine wp_ret ?_
    refine x_thenR ?_
    obtain rfl := Option.some.inj h1
    exact b_ret1 (d := (.v (.int .u64 (wr .u64 (Int.tdiv x1 32))))) S rfl rfl fun ok => S.retX (Hx := []) hb _ _ (() : Unit) .nil ok
  · refine c_condF S rfl c1 ?_
    refine wp_skip ?_
    refine x_thenN ?_
    refine c_region ?_
    refine s_move S rfl rfl ?_; clear S a; intro a S
    refine s_quo S rfl rfl (by decide) rfl ?_; clear S a; intro a S
    refine s_bin S rfl rfl rfl rfl ?_; clear S a; intro a S
    refine s_assign S rfl rfl ?_; clear S a; intro a S
    refine c_end ?_
    refine wp_ret ?_
    obtain rfl := Option.some.inj h1
    exact b_ret1 (d := (.v (.int .u64 (wr .u64 ((wr .u64 (Int.tdiv x1 32)) + 1))))) S rfl rfl fun ok => S.retX (Hx := []) hb _ _ (() : Unit) .nil ok
/-! smithy/smithyref12.Intrinsic -/
abbrev smithyref12_Intrinsic.Ty : Type := (List Int) → Bool → Int → Int → Option Int
def smithyref12_Intrinsic.Ctr (s : smithyref12_Intrinsic.Ty) : Prop := ∀ (x1 : List Int) (x2 : Bool) (x3 : Int) (x4 : Int) (ch_0_0 : Option Addr) (ch_0_1 : Nat) (r : Int) (h0 : s x1 x2 x3 x4 = some r) (mi : Mem) (w0 : World), okL mi [(.sl ch_0_0 (x1).length ch_0_1 (RdS (Ty.int .u8) ch_0_0 x1)), (.v (.bool x2)), (.v (.int .u64 x3)), (.v (.int .u64 x4))] → Pre mi [] w0 → Calls Try.prog 34 (([(.sl ch_0_0 (x1).length ch_0_1 (RdS (Ty.int .u8) ch_0_0 x1)), (.v (.bool x2)), (.v (.int .u64 x3)), (.v (.int .u64 x4))] : List D).map D.val).toArray w0 (RetX mi [] (fun (ch : Unit) => ((.v (.int .u64 r)) : D)) (fun (ch : Unit) => []) w0)
def smithyref12_Intrinsic.j2 (x3 : Int) (x4 : Int) (y2 : Int) : Option Int := some (wr .u64 ((wr .u64 (y2 + (wr .u64 (x3 * 2400)))) + (wr .u64 (x4 * 1900))))
def smithyref12_Intrinsic.j1 (x1 : List Int) (x2 : Bool) (x3 : Int) (x4 : Int) (y1 : Int) : Option Int := if x2 = true then ((smithyref10_Words.f (wr .u64 ((x1).length : Int))).bind fun t1 => (smithyref12_Intrinsic.j2 x3 x4 (wr .u64 ((wr .u64 (y1 + 32000)) + (wr .u64 (2 * t1)))))) else (smithyref12_Intrinsic.j2 x3 x4 y1)
def smithyref12_Intrinsic.j3 (y7 : Int) (rec1 : Int → Int → Option Int) (y9 : Int) : Option Int := rec1 (wr .i64 (y7 + 1)) y9
def smithyref12_Intrinsic.b1 (x1 : List Int) (x2 : Bool) (x3 : Int) (x4 : Int) (rec1 : Int → Int → Option Int) (y7 : Int) (y8 : Int) : Option Int := if (decide (y7 < ((x1).length : Int))) = true then (if (0 : Int) ≤ y7 ∧ y7 < ((x1).length : Int) then (if ((rd x1 y7) != 0) = true then (smithyref12_Intrinsic.j3 y7 rec1 (wr .u64 ((wr .u64 (y8 + 4)) + 12))) else (smithyref12_Intrinsic.j3 y7 rec1 (wr .u64 (y8 + 4)))) else none) else (smithyref12_Intrinsic.j1 x1 x2 x3 x4 y8)
def smithyref12_Intrinsic.l1 (x1 : List Int) (x2 : Bool) (x3 : Int) (x4 : Int) : Nat → Int → Int → Option Int
  | 0, _, _ => none
  | q + 1, y7, y8 => smithyref12_Intrinsic.b1 x1 x2 x3 x4 (smithyref12_Intrinsic.l1 x1 x2 x3 x4 q) y7 y8
def smithyref12_Intrinsic.f (k : Nat) (x1 : List Int) (x2 : Bool) (x3 : Int) (x4 : Int) : Option Int := smithyref12_Intrinsic.l1 x1 x2 x3 x4 k 0 21000
theorem smithyref12_Intrinsic.ok (k : Nat) : smithyref12_Intrinsic.Ctr (smithyref12_Intrinsic.f k) := by
  intro x1 x2 x3 x4 ch_0_0 ch_0_1 r h0 mi w0 ok hm
  delta smithyref12_Intrinsic.f at h0
  refine c_enterX (n := 43) [(.sl ch_0_0 (x1).length ch_0_1 (RdS (Ty.int .u8) ch_0_0 x1)), (.v (.bool x2)), (.v (.int .u64 x3)), (.v (.int .u64 x4))] (l := [(0, (.sl ch_0_0 (x1).length ch_0_1 (RdS (Ty.int .u8) ch_0_0 x1))), (1, (.v (.bool x2))), (2, (.v (.int .u64 x3))), (3, (.v (.int .u64 x4)))]) Try.func34 rfl rfl rfl rfl ok hm ?_
  clear ok hm
  intro b0 hb a S
  refine c_region ?_
  refine s_assign S rfl rfl ?_; clear S a; intro a S
  refine c_end ?_
  refine c_region ?_
  refine s_assign S rfl rfl ?_; clear S a; intro a S
  refine c_end ?_
  refine wp_seq_k ?_
  intro K1 hK1
  have j1 : ∀ (m : Mem) (y1 : Int) (a : Act) (w : World), St 43 m b0 [(9, (.v (.int .u64 y1))), (0, (.sl ch_0_0 (x1).length ch_0_1 (RdS (Ty.int .u8) ch_0_0 x1))), (1, (.v (.bool x2))), (2, (.v (.int .u64 x3))), (3, (.v (.int .u64 x4)))] [] a w → smithyref12_Intrinsic.j1 x1 x2 x3 x4 y1 = some r → K1 a w := by
    intro m y1 a w S h0
    delta smithyref12_Intrinsic.j1 at h0
    refine hK1 a w ?_
    refine wp_seq_k ?_
    intro K2 hK2
    have j2 : ∀ (m : Mem) (y2 : Int) (a : Act) (w : World), St 43 m b0 [(9, (.v (.int .u64 y2))), (2, (.v (.int .u64 x3))), (3, (.v (.int .u64 x4)))] [] a w → smithyref12_Intrinsic.j2 x3 x4 y2 = some r → K2 a w := by
      intro m y2 a w S h0
      delta smithyref12_Intrinsic.j2 at h0
      refine hK2 a w ?_
      refine c_region ?_
      refine s_move S rfl rfl ?_; clear S a; intro a S
      refine s_move S rfl rfl ?_; clear S a; intro a S
      refine s_bin S rfl rfl rfl rfl ?_; clear S a; intro a S
      refine s_bin S rfl rfl rfl rfl ?_; clear S a; intro a S
      refine s_move S rfl rfl ?_; clear S a; intro a S
      refine s_bin S rfl rfl rfl rfl ?_; clear S a; intro a S
      refine s_bin S rfl rfl rfl rfl ?_; clear S a; intro a S
      refine s_assign S rfl rfl ?_; clear S a; intro a S
      refine c_end ?_
      refine wp_ret ?_
      obtain rfl := Option.some.inj h0
      exact b_ret1 (d := (.v (.int .u64 (wr .u64 ((wr .u64 (y2 + (wr .u64 (x3 * 2400)))) + (wr .u64 (x4 * 1900))))))) S rfl rfl fun ok => S.retX (Hx := []) hb _ _ (() : Unit) .nil ok
    refine c_region ?_
    refine s_move S rfl rfl ?_; clear S a; intro a S
    refine c_end ?_
    rcases ite_of h0 with ⟨c1, h1⟩ | ⟨c1, h1⟩ <;> clear h0
    · refine c_condT S rfl c1 ?_
      refine c_region ?_
      refine s_move S rfl rfl ?_; clear S a; intro a S
      refine s_bin S rfl rfl rfl rfl ?_; clear S a; intro a S
      refine s_assign S rfl rfl ?_; clear S a; intro a S
      refine c_end ?_
      refine c_region' ?_
      refine s_move S rfl rfl ?_; clear S a; intro a S
      refine s_move S rfl rfl ?_; clear S a; intro a S
      refine s_lenS S rfl Try.underlying27 rfl ?_; clear S a; intro a S
      refine s_conv S rfl rfl Try.underlying24 rfl ?_; clear S a; intro a S
      obtain ⟨t1, et1, h2⟩ := bind_of h1; clear h1
      refine s_callP S (fun (ch : Unit) => ((.v (.int .u64 t1)) : D)) N50 rfl rfl (smithyref10_Words.ok (wr .u64 ((x1).length : Int)) t1 et1 _ _) ?_; clear S a w; intro ch1 m le1 a w S
      refine s_bin S rfl rfl rfl rfl ?_; clear S a; intro a S
      refine s_bin S rfl rfl rfl rfl ?_; clear S a; intro a S
      refine s_assign S rfl rfl ?_; clear S a; intro a S
      refine c_end' ?_
      refine x_thenN ?_
      exact j2 _ (wr .u64 ((wr .u64 (y1 + 32000)) + (wr .u64 (2 * t1)))) a w (S.sub ⟨rfl, rfl, rfl, trivial⟩ .nil) h2
    · refine c_condF S rfl c1 ?_
      refine wp_skip ?_
      refine x_thenN ?_
      exact j2 _ y1 a w (S.sub ⟨rfl, rfl, rfl, trivial⟩ .nil) h1
  refine c_region ?_
  refine s_move S rfl rfl ?_; clear S a; intro a S
  refine s_lenS S rfl Try.underlying27 rfl ?_; clear S a; intro a S
  refine s_move S rfl rfl ?_; clear S a; intro a S
  refine c_end ?_
  refine wp_block ?_
  refine c_loop (fun q1 a w => ∃ (m : Mem) (y7 : Int) (y8 : Int), St 43 m b0 [(13, (.v (.int .i64 y7))), (12, (.v (.int .i64 ((x1).length : Int)))), (9, (.v (.int .u64 y8))), (0, (.sl ch_0_0 (x1).length ch_0_1 (RdS (Ty.int .u8) ch_0_0 x1))), (1, (.v (.bool x2))), (2, (.v (.int .u64 x3))), (3, (.v (.int .u64 x4)))] [] a w ∧ smithyref12_Intrinsic.l1 x1 x2 x3 x4 q1 y7 y8 = some r) ?_ ?_ (k := k) ⟨_, 0, 21000, (S.sub ⟨rfl, rfl, rfl, rfl, rfl, rfl, rfl, trivial⟩ .nil), h0⟩
  · rintro a w ⟨m, y7, y8, S, h0⟩
    exact (nomatch (show (none : Option Int) = some r from h0))
  · clear S h0
    rintro q1 a w ⟨m, y7, y8, S, h0⟩
    replace h0 : smithyref12_Intrinsic.b1 x1 x2 x3 x4 (smithyref12_Intrinsic.l1 x1 x2 x3 x4 q1) y7 y8 = some r := h0
    delta smithyref12_Intrinsic.b1 at h0
    refine c_region ?_
    refine s_bin S rfl rfl rfl rfl ?_; clear S a; intro a S
    refine c_end ?_
    refine wp_seq ?_
    rcases ite_of h0 with ⟨c2, h1⟩ | ⟨c2, h1⟩ <;> clear h0
    · refine c_condT S rfl c2 ?_
      refine wp_skip ?_
      refine x_thenN ?_
      refine wp_seq_k ?_
      intro K3 hK3
      have j3 : ∀ (m : Mem) (y9 : Int) (a : Act) (w : World), St 43 m b0 [(9, (.v (.int .u64 y9))), (13, (.v (.int .i64 y7))), (12, (.v (.int .i64 ((x1).length : Int)))), (0, (.sl ch_0_0 (x1).length ch_0_1 (RdS (Ty.int .u8) ch_0_0 x1))), (1, (.v (.bool x2))), (2, (.v (.int .u64 x3))), (3, (.v (.int .u64 x4)))] [] a w → smithyref12_Intrinsic.j3 y7 (smithyref12_Intrinsic.l1 x1 x2 x3 x4 q1) y9 = some r → K3 a w := by
        intro m y9 a w S h0
        delta smithyref12_Intrinsic.j3 at h0
        refine hK3 a w ?_
        refine c_region' ?_
        refine s_bin S rfl rfl rfl rfl ?_; clear S a; intro a S
        refine s_move S rfl rfl ?_; clear S a; intro a S
        refine c_end' ?_
        refine x_thenN ?_
        exact ⟨_, (wr .i64 (y7 + 1)), y9, (S.sub ⟨rfl, rfl, rfl, rfl, rfl, rfl, rfl, trivial⟩ .nil), h0⟩
      refine wp_block ?_
      refine c_region ?_
      refine s_move S rfl rfl ?_; clear S a; intro a S
      refine s_assign S rfl rfl ?_; clear S a; intro a S
      refine c_end ?_
      refine c_region ?_
      refine s_move S rfl rfl ?_; clear S a; intro a S
      refine s_bin S rfl rfl rfl rfl ?_; clear S a; intro a S
      refine s_assign S rfl rfl ?_; clear S a; intro a S
      refine c_end ?_
      refine c_region ?_
      refine s_move S rfl rfl ?_; clear S a; intro a S
      refine s_move S rfl rfl ?_; clear S a; intro a S
      obtain ⟨c3, h2⟩ := chk_of h1; clear h1
      refine s_iaddrS S rfl rfl rfl Try.underlying27 T5 c3.1 c3.2 rfl ?_; clear S a; intro p1 a S
      refine s_ld1 S (v := (.int .u8 (rd x1 y7))) rfl T5 (fun _ => rfl) rfl ?_; clear S a; intro a S
      refine s_bin S rfl rfl rfl rfl ?_; clear S a; intro a S
      refine c_end ?_
      rcases ite_of h2 with ⟨c4, h3⟩ | ⟨c4, h3⟩ <;> clear h2
      · refine c_condT S rfl c4 ?_
        refine c_region' ?_
        refine s_move S rfl rfl ?_; clear S a; intro a S
        refine s_bin S rfl rfl rfl rfl ?_; clear S a; intro a S
        refine s_assign S rfl rfl ?_; clear S a; intro a S
        refine c_end' ?_
        refine x_blockN ?_
        refine x_thenN ?_
        exact j3 _ (wr .u64 ((wr .u64 (y8 + 4)) + 12)) a w (S.sub ⟨rfl, rfl, rfl, rfl, rfl, rfl, rfl, trivial⟩ .nil) h3
      · refine c_condF S rfl c4 ?_
        refine wp_skip ?_
        refine x_blockN ?_
        refine x_thenN ?_
        exact j3 _ (wr .u64 (y8 + 4)) a w (S.sub ⟨rfl, rfl, rfl, rfl, rfl, rfl, rfl, trivial⟩ .nil) h3
    · refine c_condF S rfl c2 ?_
      refine wp_exit ?_
      refine x_thenX ?_
      refine x_thenX ?_
      refine x_blockX ?_
      refine x_thenN ?_
      exact j1 _ y8 a w (S.sub ⟨rfl, rfl, rfl, rfl, rfl, trivial⟩ .nil) h1
/-! smithy/smithyref19.Intrinsic -/
abbrev smithyref19_Intrinsic.Ty : Type := ((List Int) × (List Int) × Bool × Int × (List Int) × (List Int) × Int × (List Int) × (List Int) × (List ((List Int) × (List (List Int))))) → Option Int
def smithyref19_Intrinsic.Ctr (s : smithyref19_Intrinsic.Ty) : Prop := ∀ (x1 : (List Int) × (List Int) × Bool × Int × (List Int) × (List Int) × Int × (List Int) × (List Int) × (List ((List Int) × (List (List Int))))) (ch_0_0 : Option Addr) (ch_0_1 : Nat) (ch_0_2 : Option Addr) (ch_0_3 : Nat) (r : Int) (h0 : s x1 = some r) (mi : Mem) (w0 : World), okL mi [(.agg [.ints .u8 x1.1 20, .ints .u8 x1.2.1 20, .one (.bool x1.2.2.1), .one (.int .u64 x1.2.2.2.1), .ints .u64 x1.2.2.2.2.1 4, .sl ch_0_0 (x1.2.2.2.2.2.1).length ch_0_1 (RdS (Ty.int .u8) ch_0_0 x1.2.2.2.2.2.1), .one (.int .u64 x1.2.2.2.2.2.2.1), .ints .u64 x1.2.2.2.2.2.2.2.1 4, .ints .u64 x1.2.2.2.2.2.2.2.2.1 4, .sl ch_0_2 (x1.2.2.2.2.2.2.2.2.2).length ch_0_3 (RdS (Ty.prod (Ty.arr .u8 20) (Ty.slice (Ty.arr .u64 4))) ch_0_2 x1.2.2.2.2.2.2.2.2.2)])] → Pre mi [] w0 → Calls Try.prog 15 (([(.agg [.ints .u8 x1.1 20, .ints .u8 x1.2.1 20, .one (.bool x1.2.2.1), .one (.int .u64 x1.2.2.2.1), .ints .u64 x1.2.2.2.2.1 4, .sl ch_0_0 (x1.2.2.2.2.2.1).length ch_0_1 (RdS (Ty.int .u8) ch_0_0 x1.2.2.2.2.2.1), .one (.int .u64 x1.2.2.2.2.2.2.1), .ints .u64 x1.2.2.2.2.2.2.2.1 4, .ints .u64 x1.2.2.2.2.2.2.2.2.1 4, .sl ch_0_2 (x1.2.2.2.2.2.2.2.2.2).length ch_0_3 (RdS (Ty.prod (Ty.arr .u8 20) (Ty.slice (Ty.arr .u64 4))) ch_0_2 x1.2.2.2.2.2.2.2.2.2)])] : List D).map D.val).toArray w0 (RetX mi [] (fun (ch : Unit) => ((.v (.int .u64 r)) : D)) (fun (ch : Unit) => []) w0)
def smithyref19_Intrinsic.j1 (k : Nat) (x1 : (List Int) × (List Int) × Bool × Int × (List Int) × (List Int) × Int × (List Int) × (List Int) × (List ((List Int) × (List (List Int))))) (y1 : Int) : Option Int := (smithyref12_Intrinsic.f k x1.2.2.2.2.2.1 x1.2.2.1 (wr .u64 ((x1.2.2.2.2.2.2.2.2.2).length : Int)) (wr .u64 y1)).bind fun t1 => (some t1)
def smithyref19_Intrinsic.b1 (k : Nat) (x1 : (List Int) × (List Int) × Bool × Int × (List Int) × (List Int) × Int × (List Int) × (List Int) × (List ((List Int) × (List (List Int))))) (rec1 : Int → Int → Option Int) (y4 : Int) (y5 : Int) : Option Int := if (decide (y4 < ((x1.2.2.2.2.2.2.2.2.2).length : Int))) = true then (if (0 : Int) ≤ y4 ∧ y4 < ((x1.2.2.2.2.2.2.2.2.2).length : Int) then (rec1 (wr .i64 (y4 + 1)) (wr .i64 (y5 + (((gt x1.2.2.2.2.2.2.2.2.2 y4).2).length : Int)))) else none) else (smithyref19_Intrinsic.j1 k x1 y5)
def smithyref19_Intrinsic.l1 (k : Nat) (x1 : (List Int) × (List Int) × Bool × Int × (List Int) × (List Int) × Int × (List Int) × (List Int) × (List ((List Int) × (List (List Int))))) : Nat → Int → Int → Option Int
  | 0, _, _ => none
  | q + 1, y4, y5 => smithyref19_Intrinsic.b1 k x1 (smithyref19_Intrinsic.l1 k x1 q) y4 y5
def smithyref19_Intrinsic.f (k : Nat) (x1 : (List Int) × (List Int) × Bool × Int × (List Int) × (List Int) × Int × (List Int) × (List Int) × (List ((List Int) × (List (List Int))))) : Option Int := smithyref19_Intrinsic.l1 k x1 k 0 0
theorem smithyref19_Intrinsic.ok (k : Nat) : smithyref19_Intrinsic.Ctr (smithyref19_Intrinsic.f k) := by
  intro x1 ch_0_0 ch_0_1 ch_0_2 ch_0_3 r h0 mi w0 ok hm
  delta smithyref19_Intrinsic.f at h0
  refine c_enterX (n := 32) [(.agg [.ints .u8 x1.1 20, .ints .u8 x1.2.1 20, .one (.bool x1.2.2.1), .one (.int .u64 x1.2.2.2.1), .ints .u64 x1.2.2.2.2.1 4, .sl ch_0_0 (x1.2.2.2.2.2.1).length ch_0_1 (RdS (Ty.int .u8) ch_0_0 x1.2.2.2.2.2.1), .one (.int .u64 x1.2.2.2.2.2.2.1), .ints .u64 x1.2.2.2.2.2.2.2.1 4, .ints .u64 x1.2.2.2.2.2.2.2.2.1 4, .sl ch_0_2 (x1.2.2.2.2.2.2.2.2.2).length ch_0_3 (RdS (Ty.prod (Ty.arr .u8 20) (Ty.slice (Ty.arr .u64 4))) ch_0_2 x1.2.2.2.2.2.2.2.2.2)])] (l := [(0, (.agg [.ints .u8 x1.1 20, .ints .u8 x1.2.1 20, .one (.bool x1.2.2.1), .one (.int .u64 x1.2.2.2.1), .ints .u64 x1.2.2.2.2.1 4, .sl ch_0_0 (x1.2.2.2.2.2.1).length ch_0_1 (RdS (Ty.int .u8) ch_0_0 x1.2.2.2.2.2.1), .one (.int .u64 x1.2.2.2.2.2.2.1), .ints .u64 x1.2.2.2.2.2.2.2.1 4, .ints .u64 x1.2.2.2.2.2.2.2.2.1 4, .sl ch_0_2 (x1.2.2.2.2.2.2.2.2.2).length ch_0_3 (RdS (Ty.prod (Ty.arr .u8 20) (Ty.slice (Ty.arr .u64 4))) ch_0_2 x1.2.2.2.2.2.2.2.2.2)]))]) Try.func15 rfl rfl rfl rfl ok hm ?_
  clear ok hm
  intro b0 hb a S
  refine c_region ?_
  refine s_box S rfl rfl rfl ?_; clear S a; intro g1 a w S
  refine s_assign S rfl rfl ?_; clear S a; intro a S
  refine c_end ?_
  refine c_region ?_
  refine s_assign S rfl rfl ?_; clear S a; intro a S
  refine c_end ?_
  refine wp_seq_k ?_
  intro K1 hK1
  have j1 : ∀ (m : Mem) (y1 : Int) (g5 : Nat) (a : Act) (w : World), St 32 m b0 [(3, (.v (.int .i64 y1))), (1, (.v (.pointer (some ⟨g5, 0, none⟩))))] [Res.cells g5 30 [.ints .u8 x1.1 20, .ints .u8 x1.2.1 20, .one (.bool x1.2.2.1), .one (.int .u64 x1.2.2.2.1), .ints .u64 x1.2.2.2.2.1 4, .sl ch_0_0 (x1.2.2.2.2.2.1).length ch_0_1 (RdS (Ty.int .u8) ch_0_0 x1.2.2.2.2.2.1), .one (.int .u64 x1.2.2.2.2.2.2.1), .ints .u64 x1.2.2.2.2.2.2.2.1 4, .ints .u64 x1.2.2.2.2.2.2.2.2.1 4, .sl ch_0_2 (x1.2.2.2.2.2.2.2.2.2).length ch_0_3 (RdS (Ty.prod (Ty.arr .u8 20) (Ty.slice (Ty.arr .u64 4))) ch_0_2 x1.2.2.2.2.2.2.2.2.2)]] a w → smithyref19_Intrinsic.j1 k x1 y1 = some r → K1 a w := by
    intro m y1 g5 a w S h0
    delta smithyref19_Intrinsic.j1 at h0
    refine hK1 a w ?_
    refine c_region ?_
    refine s_fieldAddr S rfl I30_5 T27 (by decide) rfl rfl ?_; clear S a; intro a S
    refine s_loadSl S rfl .here T27 (A := ch_0_0) (len := (x1.2.2.2.2.2.1).length) (cap := ch_0_1) rfl rfl ?_; clear S a; intro a S
    refine s_fieldAddr S rfl I30_2 T4 (by decide) rfl rfl ?_; clear S a; intro a S
    refine s_load1 S rfl .here T4 (v := (.bool x1.2.2.1)) rfl rfl ?_; clear S a; intro a S
    refine s_fieldAddr S rfl I30_9 T28 (by decide) rfl rfl ?_; clear S a; intro a S
    refine s_loadSl S rfl .here T28 (A := ch_0_2) (len := (x1.2.2.2.2.2.2.2.2.2).length) (cap := ch_0_3) rfl rfl ?_; clear S a; intro a S
    refine s_lenS S rfl Try.underlying28 rfl ?_; clear S a; intro a S
    refine s_conv S rfl rfl Try.underlying24 rfl ?_; clear S a; intro a S
    refine s_move S rfl rfl ?_; clear S a; intro a S
    refine s_conv S rfl rfl Try.underlying24 rfl ?_; clear S a; intro a S
    obtain ⟨t1, et1, h1⟩ := bind_of h0; clear h0
    refine s_callP S (fun (ch : Unit) => ((.v (.int .u64 t1)) : D)) N34 rfl rfl (smithyref12_Intrinsic.ok k x1.2.2.2.2.2.1 x1.2.2.1 (wr .u64 ((x1.2.2.2.2.2.2.2.2.2).length : Int)) (wr .u64 y1) ch_0_0 ch_0_1 t1 et1 _ _) ?_; clear S a w; intro ch1 m le1 a w S
    refine s_assign S rfl rfl ?_; clear S a; intro a S
    refine c_end ?_
    refine wp_ret ?_
    obtain rfl := Option.some.inj h1
    exact b_ret1 (d := (.v (.int .u64 t1))) S rfl rfl fun ok => S.retX (Hx := []) hb _ _ (() : Unit) .nil ok
  refine c_region ?_
  refine s_fieldAddr S rfl I30_9 T28 (by decide) rfl rfl ?_; clear S a; intro a S
  refine s_loadSl S rfl .here T28 (A := ch_0_2) (len := (x1.2.2.2.2.2.2.2.2.2).length) (cap := ch_0_3) rfl rfl ?_; clear S a; intro a S
  refine s_lenS S rfl Try.underlying28 rfl ?_; clear S a; intro a S
  refine s_move S rfl rfl ?_; clear S a; intro a S
  refine c_end ?_
  refine wp_block ?_
  refine c_loop (fun q1 a w => ∃ (m : Mem) (y4 : Int) (y5 : Int) (g8 : Nat), St 32 m b0 [(8, (.v (.int .i64 y4))), (7, (.v (.int .i64 ((x1.2.2.2.2.2.2.2.2.2).length : Int)))), (3, (.v (.int .i64 y5))), (1, (.v (.pointer (some ⟨g8, 0, none⟩))))] [Res.cells g8 30 [.ints .u8 x1.1 20, .ints .u8 x1.2.1 20, .one (.bool x1.2.2.1), .one (.int .u64 x1.2.2.2.1), .ints .u64 x1.2.2.2.2.1 4, .sl ch_0_0 (x1.2.2.2.2.2.1).length ch_0_1 (RdS (Ty.int .u8) ch_0_0 x1.2.2.2.2.2.1), .one (.int .u64 x1.2.2.2.2.2.2.1), .ints .u64 x1.2.2.2.2.2.2.2.1 4, .ints .u64 x1.2.2.2.2.2.2.2.2.1 4, .sl ch_0_2 (x1.2.2.2.2.2.2.2.2.2).length ch_0_3 (RdS (Ty.prod (Ty.arr .u8 20) (Ty.slice (Ty.arr .u64 4))) ch_0_2 x1.2.2.2.2.2.2.2.2.2)]] a w ∧ smithyref19_Intrinsic.l1 k x1 q1 y4 y5 = some r) ?_ ?_ (k := k) ⟨_, 0, 0, g1, (S.sub ⟨rfl, rfl, rfl, rfl, trivial⟩ (.cons .here .nil)), h0⟩
  · rintro a w ⟨m, y4, y5, g8, S, h0⟩
    exact (nomatch (show (none : Option Int) = some r from h0))
  · clear S h0
    rintro q1 a w ⟨m, y4, y5, g8, S, h0⟩
    replace h0 : smithyref19_Intrinsic.b1 k x1 (smithyref19_Intrinsic.l1 k x1 q1) y4 y5 = some r := h0
    delta smithyref19_Intrinsic.b1 at h0
    refine c_region ?_
    refine s_bin S rfl rfl rfl rfl ?_; clear S a; intro a S
    refine c_end ?_
    refine wp_seq ?_
    rcases ite_of h0 with ⟨c1, h1⟩ | ⟨c1, h1⟩ <;> clear h0
    · refine c_condT S rfl c1 ?_
      refine wp_skip ?_
      refine x_thenN ?_
      refine wp_seq ?_
      refine wp_block ?_
      refine c_region ?_
      refine s_move S rfl rfl ?_; clear S a; intro a S
      refine s_assign S rfl rfl ?_; clear S a; intro a S
      refine c_end ?_
      refine c_region' ?_
      refine s_move S rfl rfl ?_; clear S a; intro a S
      refine s_fieldAddr S rfl I30_9 T28 (by decide) rfl rfl ?_; clear S a; intro a S
      refine s_loadSl S rfl .here T28 (A := ch_0_2) (len := (x1.2.2.2.2.2.2.2.2.2).length) (cap := ch_0_3) rfl rfl ?_; clear S a; intro a S
      refine s_move S rfl rfl ?_; clear S a; intro a S
      obtain ⟨c2, h2⟩ := chk_of h1; clear h1
      refine s_iaddrS S rfl rfl rfl Try.underlying28 T63 c2.1 c2.2 rfl ?_; clear S a; intro p1 a S
      refine s_faddrP S (tF := (Ty.slice (Ty.arr .u64 4))) (y := (gt x1.2.2.2.2.2.2.2.2.2 y4).2) rfl I63_1 T61 (by decide) (fun m h => (at_snd (at_0 h))) rfl ?_; clear S a; intro a S
      refine s_ldS S (fun c => c) rfl T61 (fun _ => rfl) rfl ?_; clear S a; intro A1 cp1 a S
      refine s_lenS S rfl Try.underlying61 rfl ?_; clear S a; intro a S
      refine s_bin S rfl rfl rfl rfl ?_; clear S a; intro a S
      refine s_assign S rfl rfl ?_; clear S a; intro a S
      refine c_end' ?_
      refine x_blockN ?_
      refine x_thenN ?_
      refine c_region' ?_
      refine s_bin S rfl rfl rfl rfl ?_; clear S a; intro a S
      refine s_move S rfl rfl ?_; clear S a; intro a S
      refine c_end' ?_
      refine x_thenN ?_
      exact ⟨_, (wr .i64 (y4 + 1)), (wr .i64 (y5 + (((gt x1.2.2.2.2.2.2.2.2.2 y4).2).length : Int))), g8, (S.sub ⟨rfl, rfl, rfl, rfl, trivial⟩ (.cons .here .nil)), h2⟩
    · refine c_condF S rfl c1 ?_
      refine wp_exit ?_
      refine x_thenX ?_
      refine x_thenX ?_
      refine x_blockX ?_
      refine x_thenN ?_
      exact j1 _ y5 g8 a w (S.sub ⟨rfl, rfl, trivial⟩ (.cons .here .nil)) h1
/-! smithy/smithylaw19.TxPrices -/
abbrev smithylaw19_TxPrices.Ty : Type := ((List Int) × (List Int) × Bool × Int × (List Int) × (List Int) × Int × (List Int) × (List Int) × (List ((List Int) × (List (List Int))))) → (List Int) → Option Bool
def smithylaw19_TxPrices.Ctr (s : smithylaw19_TxPrices.Ty) : Prop := ∀ (x1 : (List Int) × (List Int) × Bool × Int × (List Int) × (List Int) × Int × (List Int) × (List Int) × (List ((List Int) × (List (List Int))))) (x2 : List Int) (ch_0_0 : Option Addr) (ch_0_1 : Nat) (ch_0_2 : Option Addr) (ch_0_3 : Nat) (r : Bool) (h0 : s x1 x2 = some r) (mi : Mem) (w0 : World), okL mi [(.agg [.ints .u8 x1.1 20, .ints .u8 x1.2.1 20, .one (.bool x1.2.2.1), .one (.int .u64 x1.2.2.2.1), .ints .u64 x1.2.2.2.2.1 4, .sl ch_0_0 (x1.2.2.2.2.2.1).length ch_0_1 (RdS (Ty.int .u8) ch_0_0 x1.2.2.2.2.2.1), .one (.int .u64 x1.2.2.2.2.2.2.1), .ints .u64 x1.2.2.2.2.2.2.2.1 4, .ints .u64 x1.2.2.2.2.2.2.2.2.1 4, .sl ch_0_2 (x1.2.2.2.2.2.2.2.2.2).length ch_0_3 (RdS (Ty.prod (Ty.arr .u8 20) (Ty.slice (Ty.arr .u64 4))) ch_0_2 x1.2.2.2.2.2.2.2.2.2)]), (.agg [.ints .u64 x2 4])] → Pre mi [] w0 → Calls Try.prog 3 (([(.agg [.ints .u8 x1.1 20, .ints .u8 x1.2.1 20, .one (.bool x1.2.2.1), .one (.int .u64 x1.2.2.2.1), .ints .u64 x1.2.2.2.2.1 4, .sl ch_0_0 (x1.2.2.2.2.2.1).length ch_0_1 (RdS (Ty.int .u8) ch_0_0 x1.2.2.2.2.2.1), .one (.int .u64 x1.2.2.2.2.2.2.1), .ints .u64 x1.2.2.2.2.2.2.2.1 4, .ints .u64 x1.2.2.2.2.2.2.2.2.1 4, .sl ch_0_2 (x1.2.2.2.2.2.2.2.2.2).length ch_0_3 (RdS (Ty.prod (Ty.arr .u8 20) (Ty.slice (Ty.arr .u64 4))) ch_0_2 x1.2.2.2.2.2.2.2.2.2)]), (.agg [.ints .u64 x2 4])] : List D).map D.val).toArray w0 (RetX mi [] (fun (ch : Unit) => ((.v (.bool r)) : D)) (fun (ch : Unit) => []) w0)
def smithylaw19_TxPrices.j1 (k : Nat) (x1 : (List Int) × (List Int) × Bool × Int × (List Int) × (List Int) × Int × (List Int) × (List Int) × (List ((List Int) × (List (List Int))))) (x2 : List Int) (y1 : Bool) : Option Bool := if y1 = true then (some false) else ((tx_Price.f k (x1.1, x1.2.1, x1.2.2.1, x1.2.2.2.1, x1.2.2.2.2.1, x1.2.2.2.2.2.1, x1.2.2.2.2.2.2.1, x1.2.2.2.2.2.2.2.1, x1.2.2.2.2.2.2.2.2.1, x1.2.2.2.2.2.2.2.2.2) x2).bind fun t8 => ((smithyref19_Price.f k (x1.1, x1.2.1, x1.2.2.1, x1.2.2.2.1, x1.2.2.2.2.1, x1.2.2.2.2.2.1, x1.2.2.2.2.2.2.1, x1.2.2.2.2.2.2.2.1, x1.2.2.2.2.2.2.2.2.1, x1.2.2.2.2.2.2.2.2.2) x2).bind fun t9 => ((smithylaw19_fixed.f k).bind fun t10 => (if t10 = true then (if (decide (t8.1 = t9.1)) = true then (if (t8.2 == t9.2) = true then ((tx_Intrinsic.f k (x1.1, x1.2.1, x1.2.2.1, x1.2.2.2.1, x1.2.2.2.2.1, x1.2.2.2.2.2.1, x1.2.2.2.2.2.2.1, x1.2.2.2.2.2.2.2.1, x1.2.2.2.2.2.2.2.2.1, x1.2.2.2.2.2.2.2.2.2)).bind fun t11 => ((smithyref19_Intrinsic.f k (x1.1, x1.2.1, x1.2.2.1, x1.2.2.2.1, x1.2.2.2.2.1, x1.2.2.2.2.2.1, x1.2.2.2.2.2.2.1, x1.2.2.2.2.2.2.2.1, x1.2.2.2.2.2.2.2.2.1, x1.2.2.2.2.2.2.2.2.2)).bind fun t12 => (some (t11 == t12)))) else (some false)) else (some false)) else (some false)))))
def smithylaw19_TxPrices.f (k : Nat) (x1 : (List Int) × (List Int) × Bool × Int × (List Int) × (List Int) × Int × (List Int) × (List Int) × (List ((List Int) × (List (List Int))))) (x2 : List Int) : Option Bool := (smithyref19_Great.f k (x1.1, x1.2.1, x1.2.2.1, x1.2.2.2.1, x1.2.2.2.2.1, x1.2.2.2.2.2.1, x1.2.2.2.2.2.2.1, x1.2.2.2.2.2.2.2.1, x1.2.2.2.2.2.2.2.2.1, x1.2.2.2.2.2.2.2.2.2)).bind fun t1 => (if t1 = true then ((smithylaw19_fixed.f k).bind fun t2 => (some t2)) else ((tx_Cost.f k (x1.1, x1.2.1, x1.2.2.1, x1.2.2.2.1, x1.2.2.2.2.1, x1.2.2.2.2.2.1, x1.2.2.2.2.2.2.1, x1.2.2.2.2.2.2.2.1, x1.2.2.2.2.2.2.2.2.1, x1.2.2.2.2.2.2.2.2.2)).bind fun t3 => ((smithyref19_Cost.f k (x1.1, x1.2.1, x1.2.2.1, x1.2.2.2.1, x1.2.2.2.2.1, x1.2.2.2.2.2.1, x1.2.2.2.2.2.2.1, x1.2.2.2.2.2.2.2.1, x1.2.2.2.2.2.2.2.2.1, x1.2.2.2.2.2.2.2.2.2)).bind fun t4 => ((smithyref02_N_High.f t4).bind fun t5 => ((smithyref02_Zero.f k t5).bind fun t6 => (if (!(t3.2 == t6)) = true then (smithylaw19_TxPrices.j1 k x1 x2 true) else (if t6 = true then ((smithyref02_N_Word.f k t4).bind fun t13 => (if (!(decide (t3.1 = t13))) = true then (smithylaw19_TxPrices.j1 k x1 x2 true) else (if (!t6) = true then (smithylaw19_TxPrices.j1 k x1 x2 (!(decide (t3.1 = [0, 0, 0, 0])))) else (smithylaw19_TxPrices.j1 k x1 x2 false)))) else (if (!t6) = true then (smithylaw19_TxPrices.j1 k x1 x2 (!(decide (t3.1 = [0, 0, 0, 0])))) else (smithylaw19_TxPrices.j1 k x1 x2 false)))))))))
theorem smithylaw19_TxPrices.ok (k : Nat) : smithylaw19_TxPrices.Ctr (smithylaw19_TxPrices.f k) := by
  intro x1 x2 ch_0_0 ch_0_1 ch_0_2 ch_0_3 r h0 mi w0 ok hm
  delta smithylaw19_TxPrices.f at h0
  refine c_enterX (n := 77) [(.agg [.ints .u8 x1.1 20, .ints .u8 x1.2.1 20, .one (.bool x1.2.2.1), .one (.int .u64 x1.2.2.2.1), .ints .u64 x1.2.2.2.2.1 4, .sl ch_0_0 (x1.2.2.2.2.2.1).length ch_0_1 (RdS (Ty.int .u8) ch_0_0 x1.2.2.2.2.2.1), .one (.int .u64 x1.2.2.2.2.2.2.1), .ints .u64 x1.2.2.2.2.2.2.2.1 4, .ints .u64 x1.2.2.2.2.2.2.2.2.1 4, .sl ch_0_2 (x1.2.2.2.2.2.2.2.2.2).length ch_0_3 (RdS (Ty.prod (Ty.arr .u8 20) (Ty.slice (Ty.arr .u64 4))) ch_0_2 x1.2.2.2.2.2.2.2.2.2)]), (.agg [.ints .u64 x2 4])] (l := [(0, (.agg [.ints .u8 x1.1 20, .ints .u8 x1.2.1 20, .one (.bool x1.2.2.1), .one (.int .u64 x1.2.2.2.1), .ints .u64 x1.2.2.2.2.1 4, .sl ch_0_0 (x1.2.2.2.2.2.1).length ch_0_1 (RdS (Ty.int .u8) ch_0_0 x1.2.2.2.2.2.1), .one (.int .u64 x1.2.2.2.2.2.2.1), .ints .u64 x1.2.2.2.2.2.2.2.1 4, .ints .u64 x1.2.2.2.2.2.2.2.2.1 4, .sl ch_0_2 (x1.2.2.2.2.2.2.2.2.2).length ch_0_3 (RdS (Ty.prod (Ty.arr .u8 20) (Ty.slice (Ty.arr .u64 4))) ch_0_2 x1.2.2.2.2.2.2.2.2.2)])), (1, (.agg [.ints .u64 x2 4]))]) Try.func3 rfl rfl rfl rfl ok hm ?_
  clear ok hm
  intro b0 hb a S
  refine c_region ?_
  refine s_box S rfl rfl rfl ?_; clear S a; intro g1 a w S
  refine s_box S rfl rfl rfl ?_; clear S a w; intro g2 a w S
  refine s_assign S rfl rfl ?_; clear S a; intro a S
  refine c_end ?_
  refine wp_seq ?_
  refine c_region ?_
  refine s_loada S rfl (.there .here) T30 (s' := [.ints .u8 x1.1 20, .ints .u8 x1.2.1 20, .one (.bool x1.2.2.1), .one (.int .u64 x1.2.2.2.1), .ints .u64 x1.2.2.2.2.1 4, .sl ch_0_0 (x1.2.2.2.2.2.1).length ch_0_1 (RdS (Ty.int .u8) ch_0_0 x1.2.2.2.2.2.1), .one (.int .u64 x1.2.2.2.2.2.2.1), .ints .u64 x1.2.2.2.2.2.2.2.1 4, .ints .u64 x1.2.2.2.2.2.2.2.2.1 4, .sl ch_0_2 (x1.2.2.2.2.2.2.2.2.2).length ch_0_3 (RdS (Ty.prod (Ty.arr .u8 20) (Ty.slice (Ty.arr .u64 4))) ch_0_2 x1.2.2.2.2.2.2.2.2.2)]) rfl rfl ?_; clear S a; intro a S
  obtain ⟨t1, et1, h1⟩ := bind_of h0; clear h0
  refine s_callP S (fun (ch : Unit) => ((.v (.bool t1)) : D)) N5 rfl rfl (smithyref19_Great.ok k (x1.1, x1.2.1, x1.2.2.1, x1.2.2.2.1, x1.2.2.2.2.1, x1.2.2.2.2.2.1, x1.2.2.2.2.2.2.1, x1.2.2.2.2.2.2.2.1, x1.2.2.2.2.2.2.2.2.1, x1.2.2.2.2.2.2.2.2.2) ch_0_0 ch_0_1 ch_0_2 ch_0_3 t1 et1 _ _) ?_; clear S a w; intro ch1 m le1 a w S
  refine c_end ?_
  rcases ite_of h1 with ⟨c1, h2⟩ | ⟨c1, h2⟩ <;> clear h1
  · refine c_condT S rfl c1 ?_
    refine c_region ?_
    obtain ⟨t2, et2, h3⟩ := bind_of h2; clear h2
    refine s_callP S (fun (ch : Unit) => ((.v (.bool t2)) : D)) N6 rfl rfl (smithylaw19_fixed.ok k t2 et2 _ _) ?_; clear S a w; intro ch2 m le1 a w S
    refine s_assign S rfl rfl ?_; clear S a; intro a S
    refine c_end ?_
    refine wp_ret ?_
    refine x_thenR ?_
    obtain rfl := Option.some.inj h3
    exact b_ret1 (d := (.v (.bool t2))) S rfl rfl fun ok => S.retX (Hx := []) hb _ _ (() : Unit) .nil ok
  · refine c_condF S rfl c1 ?_
    refine wp_skip ?_
    refine x_thenN ?_
    refine c_region ?_
    refine s_loada S rfl (.there .here) T30 (s' := [.ints .u8 x1.1 20, .ints .u8 x1.2.1 20, .one (.bool x1.2.2.1), .one (.int .u64 x1.2.2.2.1), .ints .u64 x1.2.2.2.2.1 4, .sl ch_0_0 (x1.2.2.2.2.2.1).length ch_0_1 (RdS (Ty.int .u8) ch_0_0 x1.2.2.2.2.2.1), .one (.int .u64 x1.2.2.2.2.2.2.1), .ints .u64 x1.2.2.2.2.2.2.2.1 4, .ints .u64 x1.2.2.2.2.2.2.2.2.1 4, .sl ch_0_2 (x1.2.2.2.2.2.2.2.2.2).length ch_0_3 (RdS (Ty.prod (Ty.arr .u8 20) (Ty.slice (Ty.arr .u64 4))) ch_0_2 x1.2.2.2.2.2.2.2.2.2)]) rfl rfl ?_; clear S a; intro a S
    obtain ⟨t3, et3, h3⟩ := bind_of h2; clear h2
    refine s_callP S (fun (ch : Unit) => ((.tup [(true, [.ints .u64 t3.1 4]), (false, [.one (.bool t3.2)])]) : D)) N7 rfl rfl (tx_Cost.ok k (x1.1, x1.2.1, x1.2.2.1, x1.2.2.2.1, x1.2.2.2.2.1, x1.2.2.2.2.2.1, x1.2.2.2.2.2.2.1, x1.2.2.2.2.2.2.2.1, x1.2.2.2.2.2.2.2.2.1, x1.2.2.2.2.2.2.2.2.2) ch_0_0 ch_0_1 ch_0_2 ch_0_3 t3 et3 _ _) ?_; clear S a w; intro ch3 m le1 a w S
    refine s_move S rfl rfl ?_; clear S a; intro a S
    refine s_extract S rfl rfl rfl rfl ?_; clear S a; intro a S
    refine s_extract S rfl rfl rfl rfl ?_; clear S a; intro a S
    refine s_alloc S Z26 rfl ⟨rfl, trivial⟩ rfl ?_; clear S a w; intro g3 a w S
    refine s_store S rfl rfl rfl (s' := [.ints .u64 t3.1 4]) .here T26 rfl rfl ?_; clear S w; intro w S
    refine s_assign S rfl rfl ?_; clear S a; intro a S
    refine c_end ?_
    refine c_region ?_
    refine s_loada S rfl (.there (.there .here)) T30 (s' := [.ints .u8 x1.1 20, .ints .u8 x1.2.1 20, .one (.bool x1.2.2.1), .one (.int .u64 x1.2.2.2.1), .ints .u64 x1.2.2.2.2.1 4, .sl ch_0_0 (x1.2.2.2.2.2.1).length ch_0_1 (RdS (Ty.int .u8) ch_0_0 x1.2.2.2.2.2.1), .one (.int .u64 x1.2.2.2.2.2.2.1), .ints .u64 x1.2.2.2.2.2.2.2.1 4, .ints .u64 x1.2.2.2.2.2.2.2.2.1 4, .sl ch_0_2 (x1.2.2.2.2.2.2.2.2.2).length ch_0_3 (RdS (Ty.prod (Ty.arr .u8 20) (Ty.slice (Ty.arr .u64 4))) ch_0_2 x1.2.2.2.2.2.2.2.2.2)]) rfl rfl ?_; clear S a; intro a S
    obtain ⟨t4, et4, h4⟩ := bind_of h3; clear h3
    refine s_callR S (fun (ch : (Option Addr) × Nat × Nat) => ((.v (.slice ch.1 ch.2.1 ch.2.2)) : D)) (fun (ch : (Option Addr) × Nat × Nat) => Res.row (Ty.int .i64) 3 ch.1 ch.2.1 ch.2.2 t4) N8 rfl rfl (smithyref19_Cost.ok k (x1.1, x1.2.1, x1.2.2.1, x1.2.2.2.1, x1.2.2.2.2.1, x1.2.2.2.2.2.1, x1.2.2.2.2.2.2.1, x1.2.2.2.2.2.2.2.1, x1.2.2.2.2.2.2.2.2.1, x1.2.2.2.2.2.2.2.2.2) ch_0_0 ch_0_1 ch_0_2 ch_0_3 t4 et4 _ _) ?_; clear S a w; intro ch4 m le1 a w S
    refine s_assign S rfl rfl ?_; clear S a; intro a S
    refine c_end ?_
    refine c_region ?_
    refine s_move S rfl rfl ?_; clear S a; intro a S
    replace S := S.rowfro .here
    obtain ⟨m, le1, S, hro⟩ := S
    replace S := S.slotro (u := 23) rfl hro
    replace S := S.slotro (u := 7) rfl hro
    replace S := S.slotro (u := 22) rfl hro
    obtain ⟨t5, et5, h5⟩ := bind_of h4; clear h4
    refine s_callP S (fun (ch : (Option Addr) × Nat) => ((.sl ch.1 (t5).length ch.2 (RdS (Ty.int .i64) ch.1 t5)) : D)) N10 rfl rfl (smithyref02_N_High.ok t4 ch4.1 ch4.2.2 t5 et5 _ _) ?_; clear S a w; intro ch5 m le1 a w S
    obtain ⟨t6, et6, h6⟩ := bind_of h5; clear h5
    refine s_callP S (fun (ch : Unit) => ((.v (.bool t6)) : D)) N9 rfl rfl (smithyref02_Zero.ok k t5 ch5.1 ch5.2 t6 et6 _ _) ?_; clear S a w; intro ch6 m le1 a w S
    refine s_assign S rfl rfl ?_; clear S a; intro a S
    refine c_end ?_
    refine wp_seq ?_
    refine wp_seq_k ?_
    intro K1 hK1
    have j1 : ∀ (m : Mem) (y1 : Bool) (g4 : Nat) (g5 : Nat) (a : Act) (w : World), St 77 m b0 [(46, (.v (.bool y1))), (3, (.v (.pointer (some ⟨g4, 0, none⟩)))), (2, (.v (.pointer (some ⟨g5, 0, none⟩))))] [Res.cells g4 26 [.ints .u64 x2 4], Res.cells g5 30 [.ints .u8 x1.1 20, .ints .u8 x1.2.1 20, .one (.bool x1.2.2.1), .one (.int .u64 x1.2.2.2.1), .ints .u64 x1.2.2.2.2.1 4, .sl ch_0_0 (x1.2.2.2.2.2.1).length ch_0_1 (RdS (Ty.int .u8) ch_0_0 x1.2.2.2.2.2.1), .one (.int .u64 x1.2.2.2.2.2.2.1), .ints .u64 x1.2.2.2.2.2.2.2.1 4, .ints .u64 x1.2.2.2.2.2.2.2.2.1 4, .sl ch_0_2 (x1.2.2.2.2.2.2.2.2.2).length ch_0_3 (RdS (Ty.prod (Ty.arr .u8 20) (Ty.slice (Ty.arr .u64 4))) ch_0_2 x1.2.2.2.2.2.2.2.2.2)]] a w → smithylaw19_TxPrices.j1 k x1 x2 y1 = some r → K1 a w := by
      intro m y1 g4 g5 a w S h0
      delta smithylaw19_TxPrices.j1 at h0
      refine hK1 a w ?_
      rcases ite_of h0 with ⟨c2, h1⟩ | ⟨c2, h1⟩ <;> clear h0
      · refine c_condT S rfl c2 ?_
        refine c_region ?_
        refine s_assign S rfl rfl ?_; clear S a; intro a S
        refine c_end ?_
        refine wp_ret ?_
        refine x_thenR ?_
        obtain rfl := Option.some.inj h1
        exact b_ret1 (d := (.v (.bool false))) S rfl rfl fun ok => S.retX (Hx := []) hb _ _ (() : Unit) .nil ok
      · refine c_condF S rfl c2 ?_
        refine wp_skip ?_
        refine x_thenN ?_
        refine c_region ?_
        refine s_loada S rfl (.there .here) T30 (s' := [.ints .u8 x1.1 20, .ints .u8 x1.2.1 20, .one (.bool x1.2.2.1), .one (.int .u64 x1.2.2.2.1), .ints .u64 x1.2.2.2.2.1 4, .sl ch_0_0 (x1.2.2.2.2.2.1).length ch_0_1 (RdS (Ty.int .u8) ch_0_0 x1.2.2.2.2.2.1), .one (.int .u64 x1.2.2.2.2.2.2.1), .ints .u64 x1.2.2.2.2.2.2.2.1 4, .ints .u64 x1.2.2.2.2.2.2.2.2.1 4, .sl ch_0_2 (x1.2.2.2.2.2.2.2.2.2).length ch_0_3 (RdS (Ty.prod (Ty.arr .u8 20) (Ty.slice (Ty.arr .u64 4))) ch_0_2 x1.2.2.2.2.2.2.2.2.2)]) rfl rfl ?_; clear S a; intro a S
        refine s_loada S rfl .here T26 (s' := [.ints .u64 x2 4]) rfl rfl ?_; clear S a; intro a S
        obtain ⟨t8, et8, h2⟩ := bind_of h1; clear h1
        refine s_callP S (fun (ch : Unit) => ((.tup [(true, [.ints .u64 t8.1 4]), (false, [.one (.bool t8.2)])]) : D)) N12 rfl rfl (tx_Price.ok k (x1.1, x1.2.1, x1.2.2.1, x1.2.2.2.1, x1.2.2.2.2.1, x1.2.2.2.2.2.1, x1.2.2.2.2.2.2.1, x1.2.2.2.2.2.2.2.1, x1.2.2.2.2.2.2.2.2.1, x1.2.2.2.2.2.2.2.2.2) x2 ch_0_0 ch_0_1 ch_0_2 ch_0_3 t8 et8 _ _) ?_; clear S a w; intro ch7 m le1 a w S
        refine s_move S rfl rfl ?_; clear S a; intro a S
        refine s_extract S rfl rfl rfl rfl ?_; clear S a; intro a S
        refine s_extract S rfl rfl rfl rfl ?_; clear S a; intro a S
        refine s_alloc S Z26 rfl ⟨rfl, trivial⟩ rfl ?_; clear S a w; intro g6 a w S
        refine s_store S rfl rfl rfl (s' := [.ints .u64 t8.1 4]) .here T26 rfl rfl ?_; clear S w; intro w S
        refine s_assign S rfl rfl ?_; clear S a; intro a S
        refine c_end ?_
        refine c_region ?_
        refine s_loada S rfl (.there (.there .here)) T30 (s' := [.ints .u8 x1.1 20, .ints .u8 x1.2.1 20, .one (.bool x1.2.2.1), .one (.int .u64 x1.2.2.2.1), .ints .u64 x1.2.2.2.2.1 4, .sl ch_0_0 (x1.2.2.2.2.2.1).length ch_0_1 (RdS (Ty.int .u8) ch_0_0 x1.2.2.2.2.2.1), .one (.int .u64 x1.2.2.2.2.2.2.1), .ints .u64 x1.2.2.2.2.2.2.2.1 4, .ints .u64 x1.2.2.2.2.2.2.2.2.1 4, .sl ch_0_2 (x1.2.2.2.2.2.2.2.2.2).length ch_0_3 (RdS (Ty.prod (Ty.arr .u8 20) (Ty.slice (Ty.arr .u64 4))) ch_0_2 x1.2.2.2.2.2.2.2.2.2)]) rfl rfl ?_; clear S a; intro a S
        refine s_loada S rfl (.there .here) T26 (s' := [.ints .u64 x2 4]) rfl rfl ?_; clear S a; intro a S
        obtain ⟨t9, et9, h3⟩ := bind_of h2; clear h2
        refine s_callP S (fun (ch : Unit) => ((.tup [(true, [.ints .u64 t9.1 4]), (false, [.one (.bool t9.2)])]) : D)) N13 rfl rfl (smithyref19_Price.ok k (x1.1, x1.2.1, x1.2.2.1, x1.2.2.2.1, x1.2.2.2.2.1, x1.2.2.2.2.2.1, x1.2.2.2.2.2.2.1, x1.2.2.2.2.2.2.2.1, x1.2.2.2.2.2.2.2.2.1, x1.2.2.2.2.2.2.2.2.2) x2 ch_0_0 ch_0_1 ch_0_2 ch_0_3 t9 et9 _ _) ?_; clear S a w; intro ch8 m le1 a w S
        refine s_move S rfl rfl ?_; clear S a; intro a S
        refine s_extract S rfl rfl rfl rfl ?_; clear S a; intro a S
        refine s_extract S rfl rfl rfl rfl ?_; clear S a; intro a S
        refine s_alloc S Z26 rfl ⟨rfl, trivial⟩ rfl ?_; clear S a w; intro g7 a w S
        refine s_store S rfl rfl rfl (s' := [.ints .u64 t9.1 4]) .here T26 rfl rfl ?_; clear S w; intro w S
        refine s_assign S rfl rfl ?_; clear S a; intro a S
        refine c_end ?_
        refine wp_seq (c_heldS S (.alts (.run 0 true (.take 1 (.take 2 (.take 3 (.take 4 (.take 5 (.take 6 (.take 7 (.take 8 (.take 9 (.take 10 (.take 11 (.take 12 (.take 14 (.alts (.run 13 true (.alts (.run 15 true (.take 16 (.take 17 (.take 18 .done))) .nil)) .nil))))))))))))))) .nil)) 19 [Res.cells g7 26 [.ints .u64 t9.1 4], Res.cells g6 26 [.ints .u64 t8.1 4], Res.cells g4 26 [.ints .u64 x2 4], Res.cells g5 30 [.ints .u8 x1.1 20, .ints .u8 x1.2.1 20, .one (.bool x1.2.2.1), .one (.int .u64 x1.2.2.2.1), .ints .u64 x1.2.2.2.2.1 4, .sl ch_0_0 (x1.2.2.2.2.2.1).length ch_0_1 (RdS (Ty.int .u8) ch_0_0 x1.2.2.2.2.2.1), .one (.int .u64 x1.2.2.2.2.2.2.1), .ints .u64 x1.2.2.2.2.2.2.2.1 4, .ints .u64 x1.2.2.2.2.2.2.2.2.1 4, .sl ch_0_2 (x1.2.2.2.2.2.2.2.2.2).length ch_0_3 (RdS (Ty.prod (Ty.arr .u8 20) (Ty.slice (Ty.arr .u64 4))) ch_0_2 x1.2.2.2.2.2.2.2.2.2)]] (.cons .here (.cons .here (.cons .here (.cons .here .nil)))) ⟨Res.stay_cells, Res.stay_cells, Res.stay_cells, Res.stay_cells, trivial⟩ [(12, (.v (.bool t9.2))), (11, (.v (.pointer (some ⟨g7, 0, none⟩)))), (10, (.v (.bool t8.2))), (9, (.v (.pointer (some ⟨g6, 0, none⟩)))), (2, (.v (.pointer (some ⟨g5, 0, none⟩))))] ⟨rfl, rfl, rfl, rfl, rfl, trivial⟩ (by kernel_rfl) (by kernel_rfl) ?_); clear S; intro w S CL hw le
        refine h_run' S rfl trivial ?_
        obtain ⟨t10, et10, h4⟩ := bind_of h3; clear h3
        refine s_callP S (fun (ch : Unit) => ((.v (.bool t10)) : D)) N6 rfl rfl (smithylaw19_fixed.ok k t10 et10 _ _) ?_; clear S a; intro ch9 m le1 a w S
        replace le := le.trans le1
        replace hw := CL.again hw S (.cons .here (.cons .here (.cons .here (.cons .here .nil)))) le
        refine h_back ⟨fun _ => hw, ?_⟩
        replace CL := CL.add (t := 59) (d := (.v (.bool t10))) S rfl rfl
        refine h_move S CL hw le ⟨rfl, rfl, rfl, rfl, rfl, rfl, trivial⟩ rfl rfl rfl trivial ?_; clear S CL a; intro a S CL
        rcases ite_of h4 with ⟨c3, h5⟩ | ⟨c3, h5⟩ <;> clear h4
        · refine h_loada S CL hw le ⟨rfl, rfl, rfl, rfl, rfl, rfl, rfl, trivial⟩ rfl (.there .here) T26 (s' := [.ints .u64 t8.1 4]) rfl rfl rfl ⟨_, _, rfl, rfl, c3⟩ ?_; clear S CL a; intro a S CL
          refine h_loada S CL hw le ⟨rfl, rfl, rfl, rfl, rfl, rfl, rfl, rfl, trivial⟩ rfl .here T26 (s' := [.ints .u64 t9.1 4]) rfl rfl rfl ⟨_, _, rfl, rfl, c3⟩ ?_; clear S CL a; intro a S CL
          refine h_eqa S CL hw le ⟨rfl, rfl, rfl, rfl, rfl, rfl, rfl, rfl, rfl, trivial⟩ rfl rfl Try.underlying26 Try.underlying24 T24 Q26 rfl rfl ⟨_, _, rfl, rfl, c3⟩ ?_; clear S CL a; intro a S CL
          refine h_pick S CL hw le ⟨rfl, rfl, rfl, rfl, rfl, rfl, rfl, rfl, rfl, rfl, trivial⟩ (b := true) (hc_of rfl c3) rfl rfl rfl trivial ?_; clear S CL a; intro a S CL
          refine h_move S CL hw le ⟨rfl, rfl, rfl, rfl, rfl, rfl, rfl, rfl, rfl, rfl, rfl, trivial⟩ rfl rfl rfl trivial ?_; clear S CL a; intro a S CL
          rcases ite_of h5 with ⟨c4, h6⟩ | ⟨c4, h6⟩ <;> clear h5
          · refine h_move S CL hw le ⟨rfl, rfl, rfl, rfl, rfl, rfl, rfl, rfl, rfl, rfl, rfl, rfl, trivial⟩ rfl rfl rfl ⟨_, _, rfl, rfl, c4⟩ ?_; clear S CL a; intro a S CL
            refine h_move S CL hw le ⟨rfl, rfl, rfl, rfl, rfl, rfl, rfl, rfl, rfl, rfl, rfl, rfl, rfl, trivial⟩ rfl rfl rfl ⟨_, _, rfl, rfl, c4⟩ ?_; clear S CL a; intro a S CL
            refine h_eqb S CL hw le ⟨rfl, rfl, rfl, rfl, rfl, rfl, rfl, rfl, rfl, rfl, rfl, rfl, rfl, rfl, trivial⟩ rfl rfl Try.underlying4 rfl rfl ⟨_, _, rfl, rfl, c4⟩ ?_; clear S CL a; intro a S CL
            refine h_pick S CL hw le ⟨rfl, rfl, rfl, rfl, rfl, rfl, rfl, rfl, rfl, rfl, rfl, rfl, rfl, rfl, rfl, trivial⟩ (b := true) (hc_of rfl c4) rfl rfl rfl trivial ?_; clear S CL a; intro a S CL
            refine h_move S CL hw le ⟨rfl, rfl, rfl, rfl, rfl, rfl, rfl, rfl, rfl, rfl, rfl, rfl, rfl, rfl, rfl, rfl, trivial⟩ rfl rfl rfl trivial ?_; clear S CL a; intro a S CL
            rcases ite_of h6 with ⟨c5, h7⟩ | ⟨c5, h7⟩ <;> clear h6
            · refine h_loada S CL hw le ⟨rfl, rfl, rfl, rfl, rfl, rfl, rfl, rfl, rfl, rfl, rfl, rfl, rfl, rfl, rfl, rfl, rfl, trivial⟩ rfl (.there (.there (.there .here))) T30 (s' := [.ints .u8 x1.1 20, .ints .u8 x1.2.1 20, .one (.bool x1.2.2.1), .one (.int .u64 x1.2.2.2.1), .ints .u64 x1.2.2.2.2.1 4, .sl ch_0_0 (x1.2.2.2.2.2.1).length ch_0_1 (RdS (Ty.int .u8) ch_0_0 x1.2.2.2.2.2.1), .one (.int .u64 x1.2.2.2.2.2.2.1), .ints .u64 x1.2.2.2.2.2.2.2.1 4, .ints .u64 x1.2.2.2.2.2.2.2.2.1 4, .sl ch_0_2 (x1.2.2.2.2.2.2.2.2.2).length ch_0_3 (RdS (Ty.prod (Ty.arr .u8 20) (Ty.slice (Ty.arr .u64 4))) ch_0_2 x1.2.2.2.2.2.2.2.2.2)]) rfl rfl rfl ⟨_, _, rfl, rfl, c5⟩ ?_; clear S CL a; intro a S CL
              refine h_loada S CL hw le ⟨rfl, rfl, rfl, rfl, rfl, rfl, rfl, rfl, rfl, rfl, rfl, rfl, rfl, rfl, rfl, rfl, rfl, rfl, trivial⟩ rfl (.there (.there (.there .here))) T30 (s' := [.ints .u8 x1.1 20, .ints .u8 x1.2.1 20, .one (.bool x1.2.2.1), .one (.int .u64 x1.2.2.2.1), .ints .u64 x1.2.2.2.2.1 4, .sl ch_0_0 (x1.2.2.2.2.2.1).length ch_0_1 (RdS (Ty.int .u8) ch_0_0 x1.2.2.2.2.2.1), .one (.int .u64 x1.2.2.2.2.2.2.1), .ints .u64 x1.2.2.2.2.2.2.2.1 4, .ints .u64 x1.2.2.2.2.2.2.2.2.1 4, .sl ch_0_2 (x1.2.2.2.2.2.2.2.2.2).length ch_0_3 (RdS (Ty.prod (Ty.arr .u8 20) (Ty.slice (Ty.arr .u64 4))) ch_0_2 x1.2.2.2.2.2.2.2.2.2)]) rfl rfl rfl ⟨_, _, rfl, rfl, c5⟩ ?_; clear S CL a; intro a S CL
              refine h_run' S rfl ⟨_, _, rfl, rfl, c5⟩ ?_
              obtain ⟨t11, et11, h8⟩ := bind_of h7; clear h7
              refine s_callP S (fun (ch : Unit) => ((.v (.int .u64 t11)) : D)) N14 rfl rfl (tx_Intrinsic.ok k (x1.1, x1.2.1, x1.2.2.1, x1.2.2.2.1, x1.2.2.2.2.1, x1.2.2.2.2.2.1, x1.2.2.2.2.2.2.1, x1.2.2.2.2.2.2.2.1, x1.2.2.2.2.2.2.2.2.1, x1.2.2.2.2.2.2.2.2.2) ch_0_0 ch_0_1 ch_0_2 ch_0_3 t11 et11 _ _) ?_; clear S a; intro ch10 m le1 a w S
              replace le := le.trans le1
              replace hw := CL.again hw S (.cons .here (.cons .here (.cons .here (.cons .here .nil)))) le
              refine h_back ⟨fun _ => hw, ?_⟩
              replace CL := CL.add (t := 72) (d := (.v (.int .u64 t11))) S rfl rfl
              refine h_run' S rfl ⟨_, _, rfl, rfl, c5⟩ ?_
              obtain ⟨t12, et12, h9⟩ := bind_of h8; clear h8
              refine s_callP S (fun (ch : Unit) => ((.v (.int .u64 t12)) : D)) N15 rfl rfl (smithyref19_Intrinsic.ok k (x1.1, x1.2.1, x1.2.2.1, x1.2.2.2.1, x1.2.2.2.2.1, x1.2.2.2.2.2.1, x1.2.2.2.2.2.2.1, x1.2.2.2.2.2.2.2.1, x1.2.2.2.2.2.2.2.2.1, x1.2.2.2.2.2.2.2.2.2) ch_0_0 ch_0_1 ch_0_2 ch_0_3 t12 et12 _ _) ?_; clear S a; intro ch11 m le1 a w S
              replace le := le.trans le1
              replace hw := CL.again hw S (.cons .here (.cons .here (.cons .here (.cons .here .nil)))) le
              refine h_back ⟨fun _ => hw, ?_⟩
              replace CL := CL.add (t := 74) (d := (.v (.int .u64 t12))) S rfl rfl
              refine h_bin S CL hw le ⟨rfl, rfl, rfl, rfl, rfl, rfl, rfl, rfl, rfl, rfl, rfl, rfl, rfl, rfl, rfl, rfl, rfl, rfl, rfl, rfl, rfl, trivial⟩ rfl rfl rfl rfl rfl ⟨_, _, rfl, rfl, c5⟩ ?_; clear S CL a; intro a S CL
              refine h_pick S CL hw le ⟨rfl, rfl, rfl, rfl, rfl, rfl, rfl, rfl, rfl, rfl, rfl, rfl, rfl, rfl, rfl, rfl, rfl, rfl, rfl, rfl, rfl, rfl, trivial⟩ (b := true) (hc_of rfl c5) rfl rfl rfl trivial ?_; clear S CL a; intro a S CL
              refine h_assign S CL hw le ⟨rfl, rfl, rfl, rfl, rfl, rfl, rfl, rfl, rfl, rfl, rfl, rfl, rfl, rfl, rfl, rfl, rfl, rfl, rfl, rfl, rfl, rfl, rfl, trivial⟩ rfl rfl rfl trivial ?_; clear S CL a; intro a S CL
              refine h_done ?_; clear CL hw le
              refine x_thenN ?_
              refine wp_ret ?_
              obtain rfl := Option.some.inj h9
              exact b_ret1 (d := (.v (.bool (t11 == t12)))) S rfl rfl fun ok => S.retX (Hx := []) hb _ _ (() : Unit) .nil ok
            · refine h_skip S CL rfl rfl rfl (ne_bool c5) rfl ?_; clear S CL a; intro a S CL
              refine h_skip S CL rfl rfl rfl (ne_bool c5) rfl ?_; clear S CL a; intro a S CL
              refine h_skipRt S rfl rfl rfl (ne_bool c5) rfl ?_; clear S a; intro a S
              replace hw := CL.again hw S (.cons .here (.cons .here (.cons .here (.cons .here .nil)))) le
              refine h_back ⟨fun _ => hw, ?_⟩
              replace CL := CL.add (t := 72) (d := .u) S rfl rfl
              refine h_skipRt S rfl rfl rfl (ne_bool c5) rfl ?_; clear S a; intro a S
              replace hw := CL.again hw S (.cons .here (.cons .here (.cons .here (.cons .here .nil)))) le
              refine h_back ⟨fun _ => hw, ?_⟩
              replace CL := CL.add (t := 74) (d := .u) S rfl rfl
              refine h_skip S CL rfl rfl rfl (ne_bool c5) rfl ?_; clear S CL a; intro a S CL
              refine h_pick S CL hw le ⟨rfl, rfl, rfl, rfl, rfl, rfl, rfl, rfl, rfl, rfl, rfl, rfl, rfl, rfl, rfl, rfl, rfl, rfl, rfl, rfl, rfl, rfl, trivial⟩ (b := false) (hc_of rfl c5) rfl rfl rfl trivial ?_; clear S CL a; intro a S CL
              refine h_assign S CL hw le ⟨rfl, rfl, rfl, rfl, rfl, rfl, rfl, rfl, rfl, rfl, rfl, rfl, rfl, rfl, rfl, rfl, rfl, rfl, rfl, rfl, rfl, rfl, rfl, trivial⟩ rfl rfl rfl trivial ?_; clear S CL a; intro a S CL
              refine h_done ?_; clear CL hw le
              refine x_thenN ?_
              refine wp_ret ?_
              obtain rfl := Option.some.inj h7
              exact b_ret1 (d := (.v (.bool false))) S rfl rfl fun ok => S.retX (Hx := []) hb _ _ (() : Unit) .nil ok
          · refine h_skip S CL rfl rfl rfl (ne_bool c4) rfl ?_; clear S CL a; intro a S CL
            refine h_skip S CL rfl rfl rfl (ne_bool c4) rfl ?_; clear S CL a; intro a S CL
            refine h_skip S CL rfl rfl rfl (ne_bool c4) rfl ?_; clear S CL a; intro a S CL
            refine h_pick S CL hw le ⟨rfl, rfl, rfl, rfl, rfl, rfl, rfl, rfl, rfl, rfl, rfl, rfl, rfl, rfl, rfl, trivial⟩ (b := false) (hc_of rfl c4) rfl rfl rfl trivial ?_; clear S CL a; intro a S CL
            refine h_move S CL hw le ⟨rfl, rfl, rfl, rfl, rfl, rfl, rfl, rfl, rfl, rfl, rfl, rfl, rfl, rfl, rfl, rfl, trivial⟩ rfl rfl rfl trivial ?_; clear S CL a; intro a S CL
            refine h_skip S CL rfl rfl rfl (ne_bool rfl) rfl ?_; clear S CL a; intro a S CL
            refine h_skip S CL rfl rfl rfl (ne_bool rfl) rfl ?_; clear S CL a; intro a S CL
            refine h_skipRt S rfl rfl rfl (ne_bool rfl) rfl ?_; clear S a; intro a S
            replace hw := CL.again hw S (.cons .here (.cons .here (.cons .here (.cons .here .nil)))) le
            refine h_back ⟨fun _ => hw, ?_⟩
            replace CL := CL.add (t := 72) (d := .u) S rfl rfl
            refine h_skipRt S rfl rfl rfl (ne_bool rfl) rfl ?_; clear S a; intro a S
            replace hw := CL.again hw S (.cons .here (.cons .here (.cons .here (.cons .here .nil)))) le
            refine h_back ⟨fun _ => hw, ?_⟩
            replace CL := CL.add (t := 74) (d := .u) S rfl rfl
            refine h_skip S CL rfl rfl rfl (ne_bool rfl) rfl ?_; clear S CL a; intro a S CL
            refine h_pick S CL hw le ⟨rfl, rfl, rfl, rfl, rfl, rfl, rfl, rfl, rfl, rfl, rfl, rfl, rfl, rfl, rfl, rfl, rfl, rfl, rfl, rfl, rfl, rfl, trivial⟩ (b := false) (hc_of rfl rfl) rfl rfl rfl trivial ?_; clear S CL a; intro a S CL
            refine h_assign S CL hw le ⟨rfl, rfl, rfl, rfl, rfl, rfl, rfl, rfl, rfl, rfl, rfl, rfl, rfl, rfl, rfl, rfl, rfl, rfl, rfl, rfl, rfl, rfl, rfl, trivial⟩ rfl rfl rfl trivial ?_; clear S CL a; intro a S CL
            refine h_done ?_; clear CL hw le
            refine x_thenN ?_
            refine wp_ret ?_
            obtain rfl := Option.some.inj h6
            exact b_ret1 (d := (.v (.bool false))) S rfl rfl fun ok => S.retX (Hx := []) hb _ _ (() : Unit) .nil ok
        · refine h_skip S CL rfl rfl rfl (ne_bool c3) rfl ?_; clear S CL a; intro a S CL
          refine h_skip S CL rfl rfl rfl (ne_bool c3) rfl ?_; clear S CL a; intro a S CL
          refine h_skip S CL rfl rfl rfl (ne_bool c3) rfl ?_; clear S CL a; intro a S CL
          refine h_pick S CL hw le ⟨rfl, rfl, rfl, rfl, rfl, rfl, rfl, rfl, rfl, rfl, trivial⟩ (b := false) (hc_of rfl c3) rfl rfl rfl trivial ?_; clear S CL a; intro a S CL
          refine h_move S CL hw le ⟨rfl, rfl, rfl, rfl, rfl, rfl, rfl, rfl, rfl, rfl, rfl, trivial⟩ rfl rfl rfl trivial ?_; clear S CL a; intro a S CL
          refine h_skip S CL rfl rfl rfl (ne_bool rfl) rfl ?_; clear S CL a; intro a S CL
          refine h_skip S CL rfl rfl rfl (ne_bool rfl) rfl ?_; clear S CL a; intro a S CL
          refine h_skip S CL rfl rfl rfl (ne_bool rfl) rfl ?_; clear S CL a; intro a S CL
          refine h_pick S CL hw le ⟨rfl, rfl, rfl, rfl, rfl, rfl, rfl, rfl, rfl, rfl, rfl, rfl, rfl, rfl, rfl, trivial⟩ (b := false) (hc_of rfl rfl) rfl rfl rfl trivial ?_; clear S CL a; intro a S CL
          refine h_move S CL hw le ⟨rfl, rfl, rfl, rfl, rfl, rfl, rfl, rfl, rfl, rfl, rfl, rfl, rfl, rfl, rfl, rfl, trivial⟩ rfl rfl rfl trivial ?_; clear S CL a; intro a S CL
          refine h_skip S CL rfl rfl rfl (ne_bool rfl) rfl ?_; clear S CL a; intro a S CL
          refine h_skip S CL rfl rfl rfl (ne_bool rfl) rfl ?_; clear S CL a; intro a S CL
          refine h_skipRt S rfl rfl rfl (ne_bool rfl) rfl ?_; clear S a; intro a S
          replace hw := CL.again hw S (.cons .here (.cons .here (.cons .here (.cons .here .nil)))) le
          refine h_back ⟨fun _ => hw, ?_⟩
          replace CL := CL.add (t := 72) (d := .u) S rfl rfl
          refine h_skipRt S rfl rfl rfl (ne_bool rfl) rfl ?_; clear S a; intro a S
          replace hw := CL.again hw S (.cons .here (.cons .here (.cons .here (.cons .here .nil)))) le
          refine h_back ⟨fun _ => hw, ?_⟩
          replace CL := CL.add (t := 74) (d := .u) S rfl rfl
          refine h_skip S CL rfl rfl rfl (ne_bool rfl) rfl ?_; clear S CL a; intro a S CL
          refine h_pick S CL hw le ⟨rfl, rfl, rfl, rfl, rfl, rfl, rfl, rfl, rfl, rfl, rfl, rfl, rfl, rfl, rfl, rfl, rfl, rfl, rfl, rfl, rfl, rfl, trivial⟩ (b := false) (hc_of rfl rfl) rfl rfl rfl trivial ?_; clear S CL a; intro a S CL
          refine h_assign S CL hw le ⟨rfl, rfl, rfl, rfl, rfl, rfl, rfl, rfl, rfl, rfl, rfl, rfl, rfl, rfl, rfl, rfl, rfl, rfl, rfl, rfl, rfl, rfl, rfl, trivial⟩ rfl rfl rfl trivial ?_; clear S CL a; intro a S CL
          refine h_done ?_; clear CL hw le
          refine x_thenN ?_
          refine wp_ret ?_
          obtain rfl := Option.some.inj h5
          exact b_ret1 (d := (.v (.bool false))) S rfl rfl fun ok => S.retX (Hx := []) hb _ _ (() : Unit) .nil ok
    refine c_heldS S (.take 0 (.take 1 (.take 2 (.take 3 (.take 4 (.take 5 (.take 6 (.take 7 (.alts (.run 8 true (.take 9 (.take 10 (.take 11 (.take 12 (.take 13 (.take 14 (.take 15 (.take 16 (.take 17 (.take 18 (.take 19 (.take 20 .done)))))))))))) .nil)))))))))) 21 [Res.cells g3 26 [.ints .u64 t3.1 4], Res.cells g2 26 [.ints .u64 x2 4], Res.cells g1 30 [.ints .u8 x1.1 20, .ints .u8 x1.2.1 20, .one (.bool x1.2.2.1), .one (.int .u64 x1.2.2.2.1), .ints .u64 x1.2.2.2.2.1 4, .sl ch_0_0 (x1.2.2.2.2.2.1).length ch_0_1 (RdS (Ty.int .u8) ch_0_0 x1.2.2.2.2.2.1), .one (.int .u64 x1.2.2.2.2.2.2.1), .ints .u64 x1.2.2.2.2.2.2.2.1 4, .ints .u64 x1.2.2.2.2.2.2.2.2.1 4, .sl ch_0_2 (x1.2.2.2.2.2.2.2.2.2).length ch_0_3 (RdS (Ty.prod (Ty.arr .u8 20) (Ty.slice (Ty.arr .u64 4))) ch_0_2 x1.2.2.2.2.2.2.2.2.2)]] (.cons .here (.cons .here (.cons .here .nil))) ⟨Res.stay_cells, Res.stay_cells, Res.stay_cells, trivial⟩ [(8, (.v (.bool t6))), (7, (.sl ch4.1 (t4).length ch4.2.2 (RdS (Ty.int .i64) ch4.1 t4))), (6, (.v (.bool t3.2))), (5, (.v (.pointer (some ⟨g3, 0, none⟩))))] ⟨rfl, rfl, rfl, rfl, trivial⟩ (by kernel_rfl) (by kernel_rfl) ?_; clear S; intro w S CL hw le
    refine h_move S CL hw le ⟨rfl, rfl, rfl, rfl, trivial⟩ rfl rfl rfl trivial ?_; clear S CL a; intro a S CL
    refine h_move S CL hw le ⟨rfl, rfl, rfl, rfl, rfl, trivial⟩ rfl rfl rfl trivial ?_; clear S CL a; intro a S CL
    refine h_neb S CL hw le ⟨rfl, rfl, rfl, rfl, rfl, rfl, trivial⟩ rfl rfl Try.underlying4 rfl rfl trivial ?_; clear S CL a; intro a S CL
    refine h_move S CL hw le ⟨rfl, rfl, rfl, rfl, rfl, rfl, rfl, trivial⟩ rfl rfl rfl trivial ?_; clear S CL a; intro a S CL
    rcases ite_of h6 with ⟨c6, h7⟩ | ⟨c6, h7⟩ <;> clear h6
    · refine h_skip S CL rfl rfl rfl (ne_bool c6) rfl ?_; clear S CL a; intro a S CL
      refine h_skip S CL rfl rfl rfl (ne_bool c6) rfl ?_; clear S CL a; intro a S CL
      refine h_skip S CL rfl rfl rfl ne_undef rfl ?_; clear S CL a; intro a S CL
      refine h_skip S CL rfl rfl rfl ne_undef rfl ?_; clear S CL a; intro a S CL
      refine h_skipRt S rfl rfl rfl ne_undef rfl ?_; clear S a; intro a S
      replace hw := CL.again hw S (.cons .here (.cons .here (.cons .here .nil))) le
      refine h_back ⟨fun _ => hw, ?_⟩
      replace CL := CL.add (t := 34) (d := .u) S rfl rfl
      refine h_skip S CL rfl rfl rfl ne_undef rfl ?_; clear S CL a; intro a S CL
      refine h_skip S CL rfl rfl rfl (ne_bool c6) rfl ?_; clear S CL a; intro a S CL
      refine h_pick S CL hw le ⟨rfl, rfl, rfl, rfl, rfl, rfl, rfl, rfl, rfl, rfl, rfl, rfl, rfl, rfl, rfl, trivial⟩ (b := true) (hc_of rfl c6) rfl rfl rfl trivial ?_; clear S CL a; intro a S CL
      refine h_move S CL hw le ⟨rfl, rfl, rfl, rfl, rfl, rfl, rfl, rfl, rfl, rfl, rfl, rfl, rfl, rfl, rfl, rfl, trivial⟩ rfl rfl rfl trivial ?_; clear S CL a; intro a S CL
      refine h_skip S CL rfl rfl rfl (ne_bool rfl) rfl ?_; clear S CL a; intro a S CL
      refine h_skip S CL rfl rfl rfl (ne_bool rfl) rfl ?_; clear S CL a; intro a S CL
      refine h_skip S CL rfl rfl rfl (ne_bool rfl) rfl ?_; clear S CL a; intro a S CL
      refine h_skip S CL rfl rfl rfl ne_undef rfl ?_; clear S CL a; intro a S CL
      refine h_skip S CL rfl rfl rfl ne_undef rfl ?_; clear S CL a; intro a S CL
      refine h_skip S CL rfl rfl rfl ne_undef rfl ?_; clear S CL a; intro a S CL
      refine h_skip S CL rfl rfl rfl (ne_bool rfl) rfl ?_; clear S CL a; intro a S CL
      refine h_pick S CL hw le ⟨rfl, rfl, rfl, rfl, rfl, rfl, rfl, rfl, rfl, rfl, rfl, rfl, rfl, rfl, rfl, rfl, rfl, rfl, rfl, rfl, rfl, rfl, rfl, rfl, trivial⟩ (b := true) (hc_of rfl rfl) rfl rfl rfl trivial ?_; clear S CL a; intro a S CL
      refine h_done ?_; clear CL hw le
      refine x_thenN ?_
      exact j1 _ true g2 g1 a w (S.sub ⟨rfl, rfl, rfl, trivial⟩ (.cons (.there .here) (.cons (.there .here) .nil))) h7
    · refine h_move S CL hw le ⟨rfl, rfl, rfl, rfl, rfl, rfl, rfl, rfl, trivial⟩ rfl rfl rfl ⟨_, _, rfl, rfl, c6⟩ ?_; clear S CL a; intro a S CL
      refine h_move S CL hw le ⟨rfl, rfl, rfl, rfl, rfl, rfl, rfl, rfl, rfl, trivial⟩ rfl rfl rfl ⟨_, _, rfl, rfl, c6⟩ ?_; clear S CL a; intro a S CL
      rcases ite_of h7 with ⟨c7, h8⟩ | ⟨c7, h8⟩ <;> clear h7
      · refine h_loada S CL hw le ⟨rfl, rfl, rfl, rfl, rfl, rfl, rfl, rfl, rfl, rfl, trivial⟩ rfl .here T26 (s' := [.ints .u64 t3.1 4]) rfl rfl rfl ⟨_, _, rfl, rfl, c7⟩ ?_; clear S CL a; intro a S CL
        refine h_move S CL hw le ⟨rfl, rfl, rfl, rfl, rfl, rfl, rfl, rfl, rfl, rfl, rfl, trivial⟩ rfl rfl rfl ⟨_, _, rfl, rfl, c7⟩ ?_; clear S CL a; intro a S CL
        refine h_run' S rfl ⟨_, _, rfl, rfl, c7⟩ ?_
        obtain ⟨t13, et13, h9⟩ := bind_of h8; clear h8
        refine s_callP S (fun (ch : Unit) => ((.agg [.ints .u64 t13 4]) : D)) N11 rfl rfl (smithyref02_N_Word.ok k t4 ch4.1 ch4.2.2 t13 et13 _ _) ?_; clear S a; intro ch12 m le1 a w S
        replace le := le.trans le1
        replace hw := CL.again hw S (.cons .here (.cons .here (.cons .here .nil))) le
        refine h_back ⟨fun _ => hw, ?_⟩
        replace CL := CL.add (t := 34) (d := (.agg [.ints .u64 t13 4])) S rfl rfl
        refine h_nea S CL hw le ⟨rfl, rfl, rfl, rfl, rfl, rfl, rfl, rfl, rfl, rfl, rfl, rfl, rfl, trivial⟩ rfl rfl Try.underlying26 Try.underlying24 T24 Q26 rfl rfl ⟨_, _, rfl, rfl, c7⟩ ?_; clear S CL a; intro a S CL
        refine h_pick S CL hw le ⟨rfl, rfl, rfl, rfl, rfl, rfl, rfl, rfl, rfl, rfl, rfl, rfl, rfl, rfl, trivial⟩ (b := true) (hc_of rfl c7) rfl rfl rfl ⟨_, _, rfl, rfl, c6⟩ ?_; clear S CL a; intro a S CL
        refine h_pick S CL hw le ⟨rfl, rfl, rfl, rfl, rfl, rfl, rfl, rfl, rfl, rfl, rfl, rfl, rfl, rfl, rfl, trivial⟩ (b := false) (hc_of rfl c6) rfl rfl rfl trivial ?_; clear S CL a; intro a S CL
        refine h_move S CL hw le ⟨rfl, rfl, rfl, rfl, rfl, rfl, rfl, rfl, rfl, rfl, rfl, rfl, rfl, rfl, rfl, rfl, trivial⟩ rfl rfl rfl trivial ?_; clear S CL a; intro a S CL
        rcases ite_of h9 with ⟨c8, h10⟩ | ⟨c8, h10⟩ <;> clear h9
        · refine h_skip S CL rfl rfl rfl (ne_bool c8) rfl ?_; clear S CL a; intro a S CL
          refine h_skip S CL rfl rfl rfl (ne_bool c8) rfl ?_; clear S CL a; intro a S CL
          refine h_skip S CL rfl rfl rfl (ne_bool c8) rfl ?_; clear S CL a; intro a S CL
          refine h_skip S CL rfl rfl rfl ne_undef rfl ?_; clear S CL a; intro a S CL
          refine h_skip S CL rfl rfl rfl ne_undef rfl ?_; clear S CL a; intro a S CL
          refine h_skip S CL rfl rfl rfl ne_undef rfl ?_; clear S CL a; intro a S CL
          refine h_skip S CL rfl rfl rfl (ne_bool c8) rfl ?_; clear S CL a; intro a S CL
          refine h_pick S CL hw le ⟨rfl, rfl, rfl, rfl, rfl, rfl, rfl, rfl, rfl, rfl, rfl, rfl, rfl, rfl, rfl, rfl, rfl, rfl, rfl, rfl, rfl, rfl, rfl, rfl, trivial⟩ (b := true) (hc_of rfl c8) rfl rfl rfl trivial ?_; clear S CL a; intro a S CL
          refine h_done ?_; clear CL hw le
          refine x_thenN ?_
          exact j1 _ true g2 g1 a w (S.sub ⟨rfl, rfl, rfl, trivial⟩ (.cons (.there .here) (.cons (.there .here) .nil))) h10
        · refine h_move S CL hw le ⟨rfl, rfl, rfl, rfl, rfl, rfl, rfl, rfl, rfl, rfl, rfl, rfl, rfl, rfl, rfl, rfl, rfl, trivial⟩ rfl rfl rfl ⟨_, _, rfl, rfl, c8⟩ ?_; clear S CL a; intro a S CL
          refine h_not S CL hw le ⟨rfl, rfl, rfl, rfl, rfl, rfl, rfl, rfl, rfl, rfl, rfl, rfl, rfl, rfl, rfl, rfl, rfl, rfl, trivial⟩ rfl rfl rfl ⟨_, _, rfl, rfl, c8⟩ ?_; clear S CL a; intro a S CL
          refine h_move S CL hw le ⟨rfl, rfl, rfl, rfl, rfl, rfl, rfl, rfl, rfl, rfl, rfl, rfl, rfl, rfl, rfl, rfl, rfl, rfl, rfl, trivial⟩ rfl rfl rfl ⟨_, _, rfl, rfl, c8⟩ ?_; clear S CL a; intro a S CL
          rcases ite_of h10 with ⟨c9, h11⟩ | ⟨c9, h11⟩ <;> clear h10
          · refine h_loada S CL hw le ⟨rfl, rfl, rfl, rfl, rfl, rfl, rfl, rfl, rfl, rfl, rfl, rfl, rfl, rfl, rfl, rfl, rfl, rfl, rfl, rfl, trivial⟩ rfl .here T26 (s' := [.ints .u64 t3.1 4]) rfl rfl rfl ⟨_, _, rfl, rfl, c9⟩ ?_; clear S CL a; intro a S CL
            refine h_build S CL hw le ⟨rfl, rfl, rfl, rfl, rfl, rfl, rfl, rfl, rfl, rfl, rfl, rfl, rfl, rfl, rfl, rfl, rfl, rfl, rfl, rfl, rfl, trivial⟩ (ds := []) (dv := (.agg [.ints .u64 [0, 0, 0, 0] 4])) rfl (fun _ => by kernel_rfl) ⟨rfl, trivial⟩ rfl rfl ⟨_, _, rfl, rfl, c9⟩ ?_; clear S CL a; intro a S CL
            refine h_nea S CL hw le ⟨rfl, rfl, rfl, rfl, rfl, rfl, rfl, rfl, rfl, rfl, rfl, rfl, rfl, rfl, rfl, rfl, rfl, rfl, rfl, rfl, rfl, rfl, trivial⟩ rfl rfl Try.underlying26 Try.underlying24 T24 Q26 rfl rfl ⟨_, _, rfl, rfl, c9⟩ ?_; clear S CL a; intro a S CL
            refine h_pick S CL hw le ⟨rfl, rfl, rfl, rfl, rfl, rfl, rfl, rfl, rfl, rfl, rfl, rfl, rfl, rfl, rfl, rfl, rfl, rfl, rfl, rfl, rfl, rfl, rfl, trivial⟩ (b := true) (hc_of rfl c9) rfl rfl rfl ⟨_, _, rfl, rfl, c8⟩ ?_; clear S CL a; intro a S CL
            refine h_pick S CL hw le ⟨rfl, rfl, rfl, rfl, rfl, rfl, rfl, rfl, rfl, rfl, rfl, rfl, rfl, rfl, rfl, rfl, rfl, rfl, rfl, rfl, rfl, rfl, rfl, rfl, trivial⟩ (b := false) (hc_of rfl c8) rfl rfl rfl trivial ?_; clear S CL a; intro a S CL
            refine h_done ?_; clear CL hw le
            refine x_thenN ?_
            exact j1 _ (!(decide (t3.1 = [0, 0, 0, 0]))) g2 g1 a w (S.sub ⟨rfl, rfl, rfl, trivial⟩ (.cons (.there .here) (.cons (.there .here) .nil))) h11
          · refine h_skip S CL rfl rfl rfl (ne_bool c9) rfl ?_; clear S CL a; intro a S CL
            refine h_skip S CL rfl rfl rfl (ne_bool c9) rfl ?_; clear S CL a; intro a S CL
            refine h_skip S CL rfl rfl rfl (ne_bool c9) rfl ?_; clear S CL a; intro a S CL
            refine h_pick S CL hw le ⟨rfl, rfl, rfl, rfl, rfl, rfl, rfl, rfl, rfl, rfl, rfl, rfl, rfl, rfl, rfl, rfl, rfl, rfl, rfl, rfl, rfl, rfl, rfl, trivial⟩ (b := false) (hc_of rfl c9) rfl rfl rfl ⟨_, _, rfl, rfl, c8⟩ ?_; clear S CL a; intro a S CL
            refine h_pick S CL hw le ⟨rfl, rfl, rfl, rfl, rfl, rfl, rfl, rfl, rfl, rfl, rfl, rfl, rfl, rfl, rfl, rfl, rfl, rfl, rfl, rfl, rfl, rfl, rfl, rfl, trivial⟩ (b := false) (hc_of rfl c8) rfl rfl rfl trivial ?_; clear S CL a; intro a S CL
            refine h_done ?_; clear CL hw le
            refine x_thenN ?_
            exact j1 _ false g2 g1 a w (S.sub ⟨rfl, rfl, rfl, trivial⟩ (.cons (.there .here) (.cons (.there .here) .nil))) h11
      · refine h_skip S CL rfl rfl rfl (ne_bool c7) rfl ?_; clear S CL a; intro a S CL
        refine h_skip S CL rfl rfl rfl (ne_bool c7) rfl ?_; clear S CL a; intro a S CL
        refine h_skipRt S rfl rfl rfl (ne_bool c7) rfl ?_; clear S a; intro a S
        replace hw := CL.again hw S (.cons .here (.cons .here (.cons .here .nil))) le
        refine h_back ⟨fun _ => hw, ?_⟩
        replace CL := CL.add (t := 34) (d := .u) S rfl rfl
        refine h_skip S CL rfl rfl rfl (ne_bool c7) rfl ?_; clear S CL a; intro a S CL
        refine h_pick S CL hw le ⟨rfl, rfl, rfl, rfl, rfl, rfl, rfl, rfl, rfl, rfl, rfl, rfl, rfl, rfl, trivial⟩ (b := false) (hc_of rfl c7) rfl rfl rfl ⟨_, _, rfl, rfl, c6⟩ ?_; clear S CL a; intro a S CL
        refine h_pick S CL hw le ⟨rfl, rfl, rfl, rfl, rfl, rfl, rfl, rfl, rfl, rfl, rfl, rfl, rfl, rfl, rfl, trivial⟩ (b := false) (hc_of rfl c6) rfl rfl rfl trivial ?_; clear S CL a; intro a S CL
        refine h_move S CL hw le ⟨rfl, rfl, rfl, rfl, rfl, rfl, rfl, rfl, rfl, rfl, rfl, rfl, rfl, rfl, rfl, rfl, trivial⟩ rfl rfl rfl trivial ?_; clear S CL a; intro a S CL
        refine h_move S CL hw le ⟨rfl, rfl, rfl, rfl, rfl, rfl, rfl, rfl, rfl, rfl, rfl, rfl, rfl, rfl, rfl, rfl, rfl, trivial⟩ rfl rfl rfl ⟨_, _, rfl, rfl, rfl⟩ ?_; clear S CL a; intro a S CL
        refine h_not S CL hw le ⟨rfl, rfl, rfl, rfl, rfl, rfl, rfl, rfl, rfl, rfl, rfl, rfl, rfl, rfl, rfl, rfl, rfl, rfl, trivial⟩ rfl rfl rfl ⟨_, _, rfl, rfl, rfl⟩ ?_; clear S CL a; intro a S CL
        refine h_move S CL hw le ⟨rfl, rfl, rfl, rfl, rfl, rfl, rfl, rfl, rfl, rfl, rfl, rfl, rfl, rfl, rfl, rfl, rfl, rfl, rfl, trivial⟩ rfl rfl rfl ⟨_, _, rfl, rfl, rfl⟩ ?_; clear S CL a; intro a S CL
        rcases ite_of h8 with ⟨c10, h9⟩ | ⟨c10, h9⟩ <;> clear h8
        · refine h_loada S CL hw le ⟨rfl, rfl, rfl, rfl, rfl, rfl, rfl, rfl, rfl, rfl, rfl, rfl, rfl, rfl, rfl, rfl, rfl, rfl, rfl, rfl, trivial⟩ rfl .here T26 (s' := [.ints .u64 t3.1 4]) rfl rfl rfl ⟨_, _, rfl, rfl, c10⟩ ?_; clear S CL a; intro a S CL
          refine h_build S CL hw le ⟨rfl, rfl, rfl, rfl, rfl, rfl, rfl, rfl, rfl, rfl, rfl, rfl, rfl, rfl, rfl, rfl, rfl, rfl, rfl, rfl, rfl, trivial⟩ (ds := []) (dv := (.agg [.ints .u64 [0, 0, 0, 0] 4])) rfl (fun _ => by kernel_rfl) ⟨rfl, trivial⟩ rfl rfl ⟨_, _, rfl, rfl, c10⟩ ?_; clear S CL a; intro a S CL
          refine h_nea S CL hw le ⟨rfl, rfl, rfl, rfl, rfl, rfl, rfl, rfl, rfl, rfl, rfl, rfl, rfl, rfl, rfl, rfl, rfl, rfl, rfl, rfl, rfl, rfl, trivial⟩ rfl rfl Try.underlying26 Try.underlying24 T24 Q26 rfl rfl ⟨_, _, rfl, rfl, c10⟩ ?_; clear S CL a; intro a S CL
          refine h_pick S CL hw le ⟨rfl, rfl, rfl, rfl, rfl, rfl, rfl, rfl, rfl, rfl, rfl, rfl, rfl, rfl, rfl, rfl, rfl, rfl, rfl, rfl, rfl, rfl, rfl, trivial⟩ (b := true) (hc_of rfl c10) rfl rfl rfl ⟨_, _, rfl, rfl, rfl⟩ ?_; clear S CL a; intro a S CL
          refine h_pick S CL hw le ⟨rfl, rfl, rfl, rfl, rfl, rfl, rfl, rfl, rfl, rfl, rfl, rfl, rfl, rfl, rfl, rfl, rfl, rfl, rfl, rfl, rfl, rfl, rfl, rfl, trivial⟩ (b := false) (hc_of rfl rfl) rfl rfl rfl trivial ?_; clear S CL a; intro a S CL
          refine h_done ?_; clear CL hw le
          refine x_thenN ?_
          exact j1 _ (!(decide (t3.1 = [0, 0, 0, 0]))) g2 g1 a w (S.sub ⟨rfl, rfl, rfl, trivial⟩ (.cons (.there .here) (.cons (.there .here) .nil))) h9
        · refine h_skip S CL rfl rfl rfl (ne_bool c10) rfl ?_; clear S CL a; intro a S CL
          refine h_skip S CL rfl rfl rfl (ne_bool c10) rfl ?_; clear S CL a; intro a S CL
          refine h_skip S CL rfl rfl rfl (ne_bool c10) rfl ?_; clear S CL a; intro a S CL
          refine h_pick S CL hw le ⟨rfl, rfl, rfl, rfl, rfl, rfl, rfl, rfl, rfl, rfl, rfl, rfl, rfl, rfl, rfl, rfl, rfl, rfl, rfl, rfl, rfl, rfl, rfl, trivial⟩ (b := false) (hc_of rfl c10) rfl rfl rfl ⟨_, _, rfl, rfl, rfl⟩ ?_; clear S CL a; intro a S CL
          refine h_pick S CL hw le ⟨rfl, rfl, rfl, rfl, rfl, rfl, rfl, rfl, rfl, rfl, rfl, rfl, rfl, rfl, rfl, rfl, rfl, rfl, rfl, rfl, rfl, rfl, rfl, rfl, trivial⟩ (b := false) (hc_of rfl rfl) rfl rfl rfl trivial ?_; clear S CL a; intro a S CL
          refine h_done ?_; clear CL hw le
          refine x_thenN ?_
          exact j1 _ false g2 g1 a w (S.sub ⟨rfl, rfl, rfl, trivial⟩ (.cons (.there .here) (.cons (.there .here) .nil))) h9
end GW
