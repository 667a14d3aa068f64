/-
  Printed by a program of these sessions (wip/gw/gx.py): for each Go function a Lean function with the same answers, and the walk that shows it.
-/
import Derived.Test.YthkgelaoidbkdaaProg
import Derived.Test.YthkgelaoidbkdaaGC
set_option linter.unusedVariables false
set_option maxRecDepth 10000
namespace GW
open Go Go.RowKit Go.Proofs
/-! smithy/smithylaw07.RlpNests -/
abbrev smithylaw07_RlpNests.Ty : Type := Int → (List Int) → Option Bool
def smithylaw07_RlpNests.Ctr (s : smithylaw07_RlpNests.Ty) : Prop := ∀ (x1 : Int) (x2 : List Int) (ch_1_0 : Option Addr) (ch_1_1 : Nat) (r : Bool) (h0 : s x1 x2 = some r) (mi : Mem) (w0 : World), okL mi [(.v (.int .u8 x1)), (.sl ch_1_0 (x2).length ch_1_1 (RdS (Ty.int .u8) ch_1_0 x2))] → Pre mi [] w0 → Calls Try.prog 6 (([(.v (.int .u8 x1)), (.sl ch_1_0 (x2).length ch_1_1 (RdS (Ty.int .u8) ch_1_0 x2))] : List D).map D.val).toArray w0 (RetX mi [] (fun (ch : Unit) => ((.v (.bool r)) : D)) (fun (ch : Unit) => []) w0)
def smithylaw07_RlpNests.j1 (k : Nat) (x1 : Int) (x2 : List Int) (y1 : List (Bool × (List Int) × Int)) : Option Bool := if ((y1).length + ([(false, x2, 0)]).length) * 40 ≤ 140737488355328 then ((rlp_Encode.f k (y1 ++ [(false, x2, 0)])).bind fun t2 => (if (decide (64 < (Int.tmod (wr .i64 x1) 70))) = true then ((smithylaw07_fixed.f k).bind fun t3 => (if t3 = true then (if (((t2.1).length : Int) == 0) = true then (some (t2.2 == 4)) else (some false)) else (some false))) else ((rlp_Decode.f k t2.1).bind fun t4 => ((smithylaw07_fixed.f k).bind fun t5 => (if t5 = true then (if (t2.2 == 0) = true then (if (t4.2 == 0) = true then ((smithyref07_Same.f k t4.1 (y1 ++ [(false, x2, 0)])).bind fun t6 => (some t6)) else (some false)) else (some false)) else (some false)))))) else none
def smithylaw07_RlpNests.b1 (k : Nat) (x1 : Int) (x2 : List Int) (rec1 : (List (Bool × (List Int) × Int)) → Int → Option Bool) (y4 : List (Bool × (List Int) × Int)) (y5 : Int) : Option Bool := if (decide (y5 < (Int.tmod (wr .i64 x1) 70))) = true then (if ((y4).length + ([(true, ([] : List Int), wr .i64 ((Int.tmod (wr .i64 x1) 70) - y5))]).length) * 40 ≤ 140737488355328 then (rec1 (y4 ++ [(true, ([] : List Int), wr .i64 ((Int.tmod (wr .i64 x1) 70) - y5))]) (wr .i64 (y5 + 1))) else none) else (smithylaw07_RlpNests.j1 k x1 x2 y4)
def smithylaw07_RlpNests.l1 (k : Nat) (x1 : Int) (x2 : List Int) : Nat → (List (Bool × (List Int) × Int)) → Int → Option Bool
  | 0, _, _ => none
  | q + 1, y4, y5 => smithylaw07_RlpNests.b1 k x1 x2 (smithylaw07_RlpNests.l1 k x1 x2 q) y4 y5
def smithylaw07_RlpNests.f (k : Nat) (x1 : Int) (x2 : List Int) : Option Bool := if (decide (300 < ((x2).length : Int))) = true then ((smithylaw07_fixed.f k).bind fun t1 => (some t1)) else (smithylaw07_RlpNests.l1 k x1 x2 k ([] : List (Bool × (List Int) × Int)) 0)
theorem smithylaw07_RlpNests.ok (k : Nat) : smithylaw07_RlpNests.Ctr (smithylaw07_RlpNests.f k) := by
  intro x1 x2 ch_1_0 ch_1_1 r h0 mi w0 ok hm
  delta smithylaw07_RlpNests.f at h0
  refine c_enterX (n := 72) [(.v (.int .u8 x1)), (.sl ch_1_0 (x2).length ch_1_1 (RdS (Ty.int .u8) ch_1_0 x2))] (l := [(0, (.v (.int .u8 x1))), (1, (.sl ch_1_0 (x2).length ch_1_1 (RdS (Ty.int .u8) ch_1_0 x2)))]) Try.func6 rfl rfl rfl rfl ok hm ?_
  clear ok hm
  intro b0 hb a S
  refine c_region ?_
  refine s_assign S rfl rfl ?_; clear S a; intro a S
  refine c_end ?_
  refine wp_seq ?_
  refine c_region ?_
  refine s_move S rfl rfl ?_; clear S a; intro a S
  refine s_lenS S rfl Try.underlying25 rfl ?_; clear S a; intro a S
  refine s_bin S rfl rfl rfl rfl ?_; clear S a; intro a S
  refine c_end ?_
  rcases ite_of h0 with ⟨c1, h1⟩ | ⟨c1, h1⟩ <;> clear h0
  · refine c_condT S rfl c1 ?_
    refine c_region ?_
    obtain ⟨t1, et1, h2⟩ := bind_of h1; clear h1
    refine s_callX S (ds' := []) (ds := []) [] [] (fun (ch : Unit) => ((.v (.bool t1)) : D)) (fun (ch : Unit) => []) (fun (ch : Unit) => []) (fun _ => rfl) N8 rfl rfl (fun ok => ok) .nil rfl (smithylaw07_fixed.ok k t1 et1 _ _) ?_; clear S a; intro ch1 m le1 a w S
    refine s_assign S rfl rfl ?_; clear S a; intro a S
    refine c_end ?_
    refine wp_ret ?_
    refine x_thenR ?_
    obtain rfl := Option.some.inj h2
    exact b_ret1 (d := (.v (.bool t1))) S rfl rfl fun ok => S.retX (Hx := []) hb _ _ (() : Unit) .nil ok
  · refine c_condF S rfl c1 ?_
    refine wp_skip ?_
    refine x_thenN ?_
    refine c_region ?_
    refine s_move S rfl rfl ?_; clear S a; intro a S
    refine s_conv S rfl rfl Try.underlying3 rfl ?_; clear S a; intro a S
    refine s_rem S rfl rfl (by decide) rfl ?_; clear S a; intro a S
    refine s_assign S rfl rfl ?_; clear S a; intro a S
    refine c_end ?_
    refine c_region ?_
    refine s_assign S rfl rfl ?_; clear S a; intro a S
    refine c_end ?_
    refine wp_seq_k ?_
    intro K1 hK1
    have j1 : ∀ (m : Mem) (A1 : Option Addr) (nn1 : Nat) (cp1 : Nat) (y1 : List (Bool × (List Int) × Int)) (a : Act) (w : World), St 72 m b0 [(6, (.v (.slice A1 nn1 cp1))), (5, (.v (.int .i64 (Int.tmod (wr .i64 x1) 70)))), (1, (.sl ch_1_0 (x2).length ch_1_1 (RdS (Ty.int .u8) ch_1_0 x2)))] [Res.row (Ty.prod Ty.bool (Ty.prod (Ty.slice (Ty.int .u8)) (Ty.int .i64))) 43 A1 nn1 cp1 y1] a w → smithylaw07_RlpNests.j1 k x1 x2 y1 = some r → K1 a w := by
      intro m A1 nn1 cp1 y1 a w S h0
      delta smithylaw07_RlpNests.j1 at h0
      refine hK1 a w ?_
      refine c_region ?_
      refine s_move S rfl rfl ?_; clear S a; intro a S
      refine s_move S rfl rfl ?_; clear S a; intro a S
      refine s_bldS S (ds := [(1, (.sl ch_1_0 (x2).length ch_1_1 (RdS (Ty.int .u8) ch_1_0 x2)))]) (zs := [.one (.bool false), .one (.slice none 0 0), .one (.int .i64 0)]) (s' := [.one (.bool false), .sl ch_1_0 (x2).length ch_1_1 (RdS (Ty.int .u8) ch_1_0 x2), .one (.int .i64 0)]) rfl Try.underlying43 P43 Z43 ⟨rfl, rfl, rfl, trivial⟩ rfl rfl ?_; clear S a; intro a S
      refine s_bldSl S (ty' := (Ty.prod Ty.bool (Ty.prod (Ty.slice (Ty.int .u8)) (Ty.int .i64)))) (ds := [(0, (.agg [.one (.bool false), .sl ch_1_0 (x2).length ch_1_1 (RdS (Ty.int .u8) ch_1_0 x2), .one (.int .i64 0)]))]) (z := (false, ([] : List Int), 0)) (c0 := ((), (none, 0), ())) (ys := [(false, x2, 0)]) (cs := [((), (ch_1_0, ch_1_1), ())]) rfl Try.underlying29 J43 Z43 rfl ⟨rfl, ⟨Nat.le_refl _, Nat.zero_le _, RdS.nil _ _ _, RdS.mono _ _ _⟩, rfl, trivial⟩ rfl rfl rfl rfl rfl rfl ?_; clear S a w; intro g1 a w S
      obtain ⟨c2, h1⟩ := chk_of h0; clear h0
      refine s_app S (k2 := 1) (ys := [(false, x2, 0)]) rfl (fun _ _ => (.there .here)) rfl rfl (S.holds _ (Pull.mem .here).1).1 (Res.row.src (S.holds _ (Pull.mem .here).1)) Try.underlying29 J43 c2 rfl ?_; clear S a w; intro A2 cp2 a w S
      refine s_assign S rfl rfl ?_; clear S a; intro a S
      refine c_end ?_
      refine c_region ?_
      refine s_move S rfl rfl ?_; clear S a; intro a S
      replace S := S.rowfro (.there .here)
      obtain ⟨m, le1, S, hro⟩ := S
      replace S := S.slotro (u := 37) rfl hro
      replace S := S.slotro (u := 6) rfl hro
      replace S := S.slotro (u := 35) rfl hro
      obtain ⟨t2, et2, h2⟩ := bind_of h1; clear h1
      refine s_callX S (ds' := [(.sl A2 (y1 ++ [(false, x2, 0)]).length cp2 (RdS (Ty.prod Ty.bool (Ty.prod (Ty.slice (Ty.int .u8)) (Ty.int .i64))) A2 (y1 ++ [(false, x2, 0)])))]) (ds := [(.sl A2 (y1 ++ [(false, x2, 0)]).length cp2 (RdS (Ty.prod Ty.bool (Ty.prod (Ty.slice (Ty.int .u8)) (Ty.int .i64))) A2 (y1 ++ [(false, x2, 0)])))]) [] [Res.row (Ty.prod Ty.bool (Ty.prod (Ty.slice (Ty.int .u8)) (Ty.int .i64))) 43 (some ⟨g1, 0, none⟩) 1 1 [(false, x2, 0)]] (fun (ch : (Option Addr) × Nat) => ((.tup [(false, [.sl ch.1 (t2.1).length ch.2 (RdS (Ty.int .u8) ch.1 t2.1)]), (false, [.one (.int .i64 t2.2)])]) : D)) (fun (ch : (Option Addr) × Nat) => []) (fun (ch : (Option Addr) × Nat) => [Res.row (Ty.prod Ty.bool (Ty.prod (Ty.slice (Ty.int .u8)) (Ty.int .i64))) 43 (some ⟨g1, 0, none⟩) 1 1 [(false, x2, 0)]]) (fun _ => rfl) N11 rfl rfl (fun ok => ok) (.cons .here .nil) rfl (rlp_Encode.ok k (y1 ++ [(false, x2, 0)]) A2 cp2 t2 et2 _ _) ?_; clear S a w; intro ch2 m le1 a w S
      refine s_move S rfl rfl ?_; clear S a; intro a S
      refine s_extract S rfl rfl rfl rfl ?_; clear S a; intro a S
      refine s_extract S rfl rfl rfl rfl ?_; clear S a; intro a S
      refine s_assign S rfl rfl ?_; clear S a; intro a S
      refine s_assign S rfl rfl ?_; clear S a; intro a S
      refine c_end ?_
      refine wp_seq ?_
      refine c_region ?_
      refine s_move S rfl rfl ?_; clear S a; intro a S
      refine s_bin S rfl rfl rfl rfl ?_; clear S a; intro a S
      refine c_end ?_
      rcases ite_of h2 with ⟨c3, h3⟩ | ⟨c3, h3⟩ <;> clear h2
      · refine c_condT S rfl c3 ?_
        refine c_region ?_
        obtain ⟨t3, et3, h4⟩ := bind_of h3; clear h3
        refine s_callX S (ds' := []) (ds := []) [] [Res.row (Ty.prod Ty.bool (Ty.prod (Ty.slice (Ty.int .u8)) (Ty.int .i64))) 43 (some ⟨g1, 0, none⟩) 1 1 [(false, x2, 0)]] (fun (ch : Unit) => ((.v (.bool t3)) : D)) (fun (ch : Unit) => []) (fun (ch : Unit) => [Res.row (Ty.prod Ty.bool (Ty.prod (Ty.slice (Ty.int .u8)) (Ty.int .i64))) 43 (some ⟨g1, 0, none⟩) 1 1 [(false, x2, 0)]]) (fun _ => rfl) N8 rfl rfl (fun ok => ok) (.cons .here .nil) rfl (smithylaw07_fixed.ok k t3 et3 _ _) ?_; clear S a w; intro ch3 m le1 a w S
        refine s_move S rfl rfl ?_; clear S a; intro a S
        rcases ite_of h4 with ⟨c4, h5⟩ | ⟨c4, h5⟩ <;> clear h4
        · refine s_gT S (b := t3) rfl rfl c4 ?_
          refine s_move S rfl rfl ?_; clear S a; intro a S
          refine s_gT S (b := t3) rfl rfl c4 ?_
          refine s_lenS S rfl Try.underlying25 rfl ?_; clear S a; intro a S
          refine s_gT S (b := t3) rfl rfl c4 ?_
          refine s_bin S rfl rfl rfl rfl ?_; clear S a; intro a S
          refine s_pick S (b := true) (hc_of rfl c4) rfl rfl ?_; clear S a; intro a S
          refine s_move S rfl rfl ?_; clear S a; intro a S
          rcases ite_of h5 with ⟨c5, h6⟩ | ⟨c5, h6⟩ <;> clear h5
          · refine s_gT S (b := (((t2.1).length : Int) == 0)) rfl rfl c5 ?_
            refine s_move S rfl rfl ?_; clear S a; intro a S
            refine s_gT S (b := (((t2.1).length : Int) == 0)) rfl rfl c5 ?_
            refine s_bin S rfl rfl rfl rfl ?_; clear S a; intro a S
            refine s_pick S (b := true) (hc_of rfl c5) rfl rfl ?_; clear S a; intro a S
            refine s_assign S rfl rfl ?_; clear S a; intro a S
            refine c_end ?_
            refine wp_ret ?_
            refine x_thenR ?_
            obtain rfl := Option.some.inj h6
            exact b_ret1 (d := (.v (.bool (t2.2 == 4)))) S rfl rfl fun ok => S.retX (Hx := []) hb _ _ (() : Unit) .nil ok
          · refine s_gF S (b := (((t2.1).length : Int) == 0)) rfl rfl c5 rfl ?_; clear S a; intro a S
            refine s_gF S (b := (((t2.1).length : Int) == 0)) rfl rfl c5 rfl ?_; clear S a; intro a S
            refine s_pick S (b := false) (hc_of rfl c5) rfl rfl ?_; clear S a; intro a S
            refine s_assign S rfl rfl ?_; clear S a; intro a S
            refine c_end ?_
            refine wp_ret ?_
            refine x_thenR ?_
            obtain rfl := Option.some.inj h6
            exact b_ret1 (d := (.v (.bool false))) S rfl rfl fun ok => S.retX (Hx := []) hb _ _ (() : Unit) .nil ok
        · refine s_gF S (b := t3) rfl rfl c4 rfl ?_; clear S a; intro a S
          refine s_gF S (b := t3) rfl rfl c4 rfl ?_; clear S a; intro a S
          refine s_gF S (b := t3) rfl rfl c4 rfl ?_; clear S a; intro a S
          refine s_pick S (b := false) (hc_of rfl c4) rfl rfl ?_; clear S a; intro a S
          refine s_move S rfl rfl ?_; clear S a; intro a S
          refine s_gF S (b := false) rfl rfl rfl rfl ?_; clear S a; intro a S
          refine s_gF S (b := false) rfl rfl rfl rfl ?_; clear S a; intro a S
          refine s_pick S (b := false) (hc_of rfl rfl) rfl rfl ?_; clear S a; intro a S
          refine s_assign S rfl rfl ?_; clear S a; intro a S
          refine c_end ?_
          refine wp_ret ?_
          refine x_thenR ?_
          obtain rfl := Option.some.inj h5
          exact b_ret1 (d := (.v (.bool false))) S rfl rfl fun ok => S.retX (Hx := []) hb _ _ (() : Unit) .nil ok
      · refine c_condF S rfl c3 ?_
        refine wp_skip ?_
        refine x_thenN ?_
        refine c_region ?_
        refine s_move S rfl rfl ?_; clear S a; intro a S
        obtain ⟨t4, et4, h4⟩ := bind_of h3; clear h3
        refine s_callX S (ds' := [(.sl ch2.1 (t2.1).length ch2.2 (RdS (Ty.int .u8) ch2.1 t2.1))]) (ds := [(.sl ch2.1 (t2.1).length ch2.2 (RdS (Ty.int .u8) ch2.1 t2.1))]) [] [Res.row (Ty.prod Ty.bool (Ty.prod (Ty.slice (Ty.int .u8)) (Ty.int .i64))) 43 (some ⟨g1, 0, none⟩) 1 1 [(false, x2, 0)]] (fun (ch : (Option Addr) × Nat × Nat) => ((.tup [(false, [.one (.slice ch.1 ch.2.1 ch.2.2)]), (false, [.one (.int .i64 t4.2)])]) : D)) (fun (ch : (Option Addr) × Nat × Nat) => [Res.row (Ty.prod Ty.bool (Ty.prod (Ty.slice (Ty.int .u8)) (Ty.int .i64))) 43 ch.1 ch.2.1 ch.2.2 t4.1]) (fun (ch : (Option Addr) × Nat × Nat) => [Res.row (Ty.prod Ty.bool (Ty.prod (Ty.slice (Ty.int .u8)) (Ty.int .i64))) 43 ch.1 ch.2.1 ch.2.2 t4.1, Res.row (Ty.prod Ty.bool (Ty.prod (Ty.slice (Ty.int .u8)) (Ty.int .i64))) 43 (some ⟨g1, 0, none⟩) 1 1 [(false, x2, 0)]]) (fun _ => rfl) N13 rfl rfl (fun ok => ok) (.cons .here .nil) rfl (rlp_Decode.ok k t2.1 ch2.1 ch2.2 t4 et4 _ _) ?_; clear S a w; intro ch4 m le1 a w S
        refine s_move S rfl rfl ?_; clear S a; intro a S
        refine s_extract S rfl rfl rfl rfl ?_; clear S a; intro a S
        refine s_extract S rfl rfl rfl rfl ?_; clear S a; intro a S
        refine s_assign S rfl rfl ?_; clear S a; intro a S
        refine s_assign S rfl rfl ?_; clear S a; intro a S
        refine c_end ?_
        refine c_region ?_
        obtain ⟨t5, et5, h5⟩ := bind_of h4; clear h4
        refine s_callX S (ds' := []) (ds := []) [] [Res.row (Ty.prod Ty.bool (Ty.prod (Ty.slice (Ty.int .u8)) (Ty.int .i64))) 43 ch4.1 ch4.2.1 ch4.2.2 t4.1, Res.row (Ty.prod Ty.bool (Ty.prod (Ty.slice (Ty.int .u8)) (Ty.int .i64))) 43 (some ⟨g1, 0, none⟩) 1 1 [(false, x2, 0)]] (fun (ch : Unit) => ((.v (.bool t5)) : D)) (fun (ch : Unit) => []) (fun (ch : Unit) => [Res.row (Ty.prod Ty.bool (Ty.prod (Ty.slice (Ty.int .u8)) (Ty.int .i64))) 43 ch4.1 ch4.2.1 ch4.2.2 t4.1, Res.row (Ty.prod Ty.bool (Ty.prod (Ty.slice (Ty.int .u8)) (Ty.int .i64))) 43 (some ⟨g1, 0, none⟩) 1 1 [(false, x2, 0)]]) (fun _ => rfl) N8 rfl rfl (fun ok => ok) (.cons .here (.cons .here .nil)) rfl (smithylaw07_fixed.ok k t5 et5 _ _) ?_; clear S a w; intro ch5 m le1 a w S
        refine s_move S rfl rfl ?_; clear S a; intro a S
        rcases ite_of h5 with ⟨c6, h6⟩ | ⟨c6, h6⟩ <;> clear h5
        · refine s_gT S (b := t5) rfl rfl c6 ?_
          refine s_move S rfl rfl ?_; clear S a; intro a S
          refine s_gT S (b := t5) rfl rfl c6 ?_
          refine s_bin S rfl rfl rfl rfl ?_; clear S a; intro a S
          refine s_pick S (b := true) (hc_of rfl c6) rfl rfl ?_; clear S a; intro a S
          refine s_move S rfl rfl ?_; clear S a; intro a S
          rcases ite_of h6 with ⟨c7, h7⟩ | ⟨c7, h7⟩ <;> clear h6
          · refine s_gT S (b := (t2.2 == 0)) rfl rfl c7 ?_
            refine s_move S rfl rfl ?_; clear S a; intro a S
            refine s_gT S (b := (t2.2 == 0)) rfl rfl c7 ?_
            refine s_bin S rfl rfl rfl rfl ?_; clear S a; intro a S
            refine s_pick S (b := true) (hc_of rfl c7) rfl rfl ?_; clear S a; intro a S
            refine s_move S rfl rfl ?_; clear S a; intro a S
            rcases ite_of h7 with ⟨c8, h8⟩ | ⟨c8, h8⟩ <;> clear h7
            · refine s_gT S (b := (t4.2 == 0)) rfl rfl c8 ?_
              refine s_move S rfl rfl ?_; clear S a; intro a S
              refine s_gT S (b := (t4.2 == 0)) rfl rfl c8 ?_
              refine s_move S rfl rfl ?_; clear S a; intro a S
              refine s_gT S (b := (t4.2 == 0)) rfl rfl c8 ?_
              replace S := S.rowfro .here
              obtain ⟨m, le1, S, hro⟩ := S
              replace S := S.slotro (u := 68) rfl hro
              replace S := S.slotro (u := 10) rfl hro
              replace S := S.slotro (u := 56) rfl hro
              obtain ⟨t6, et6, h9⟩ := bind_of h8; clear h8
              refine s_callX S (ds' := [(.sl ch4.1 (t4.1).length ch4.2.2 (RdS (Ty.prod Ty.bool (Ty.prod (Ty.slice (Ty.int .u8)) (Ty.int .i64))) ch4.1 t4.1)), (.sl A2 (y1 ++ [(false, x2, 0)]).length cp2 (RdS (Ty.prod Ty.bool (Ty.prod (Ty.slice (Ty.int .u8)) (Ty.int .i64))) A2 (y1 ++ [(false, x2, 0)])))]) (ds := [(.sl ch4.1 (t4.1).length ch4.2.2 (RdS (Ty.prod Ty.bool (Ty.prod (Ty.slice (Ty.int .u8)) (Ty.int .i64))) ch4.1 t4.1)), (.sl A2 (y1 ++ [(false, x2, 0)]).length cp2 (RdS (Ty.prod Ty.bool (Ty.prod (Ty.slice (Ty.int .u8)) (Ty.int .i64))) A2 (y1 ++ [(false, x2, 0)])))]) [] [Res.row (Ty.prod Ty.bool (Ty.prod (Ty.slice (Ty.int .u8)) (Ty.int .i64))) 43 (some ⟨g1, 0, none⟩) 1 1 [(false, x2, 0)]] (fun (ch : Unit) => ((.v (.bool t6)) : D)) (fun (ch : Unit) => []) (fun (ch : Unit) => [Res.row (Ty.prod Ty.bool (Ty.prod (Ty.slice (Ty.int .u8)) (Ty.int .i64))) 43 (some ⟨g1, 0, none⟩) 1 1 [(false, x2, 0)]]) (fun _ => rfl) N14 rfl rfl (fun ok => ok) (.cons .here .nil) rfl (smithyref07_Same.ok k t4.1 (y1 ++ [(false, x2, 0)]) ch4.1 ch4.2.2 A2 cp2 t6 et6 _ _) ?_; clear S a w; intro ch6 m le1 a w S
              refine s_pick S (b := true) (hc_of rfl c8) rfl rfl ?_; clear S a; intro a S
              refine s_assign S rfl rfl ?_; clear S a; intro a S
              refine c_end ?_
              refine wp_ret ?_
              obtain rfl := Option.some.inj h9
              exact b_ret1 (d := (.v (.bool t6))) S rfl rfl fun ok => S.retX (Hx := []) hb _ _ (() : Unit) .nil ok
            · refine s_gF S (b := (t4.2 == 0)) rfl rfl c8 rfl ?_; clear S a; intro a S
              refine s_gF S (b := (t4.2 == 0)) rfl rfl c8 rfl ?_; clear S a; intro a S
              refine s_gF S (b := (t4.2 == 0)) rfl rfl c8 rfl ?_; clear S a; intro a S
              refine s_pick S (b := false) (hc_of rfl c8) rfl rfl ?_; clear S a; intro a S
              refine s_assign S rfl rfl ?_; clear S a; intro a S
              refine c_end ?_
              refine wp_ret ?_
              obtain rfl := Option.some.inj h8
              exact b_ret1 (d := (.v (.bool false))) S rfl rfl fun ok => S.retX (Hx := []) hb _ _ (() : Unit) .nil ok
          · refine s_gF S (b := (t2.2 == 0)) rfl rfl c7 rfl ?_; clear S a; intro a S
            refine s_gF S (b := (t2.2 == 0)) rfl rfl c7 rfl ?_; clear S a; intro a S
            refine s_pick S (b := false) (hc_of rfl c7) rfl rfl ?_; clear S a; intro a S
            refine s_move S rfl rfl ?_; clear S a; intro a S
            refine s_gF S (b := false) rfl rfl rfl rfl ?_; clear S a; intro a S
            refine s_gF S (b := false) rfl rfl rfl rfl ?_; clear S a; intro a S
            refine s_gF S (b := false) rfl rfl rfl rfl ?_; clear S a; intro a S
            refine s_pick S (b := false) (hc_of rfl rfl) rfl rfl ?_; clear S a; intro a S
            refine s_assign S rfl rfl ?_; clear S a; intro a S
            refine c_end ?_
            refine wp_ret ?_
            obtain rfl := Option.some.inj h7
            exact b_ret1 (d := (.v (.bool false))) S rfl rfl fun ok => S.retX (Hx := []) hb _ _ (() : Unit) .nil ok
        · refine s_gF S (b := t5) rfl rfl c6 rfl ?_; clear S a; intro a S
          refine s_gF S (b := t5) rfl rfl c6 rfl ?_; clear S a; intro a S
          refine s_pick S (b := false) (hc_of rfl c6) rfl rfl ?_; clear S a; intro a S
          refine s_move S rfl rfl ?_; clear S a; intro a S
          refine s_gF S (b := false) rfl rfl rfl rfl ?_; clear S a; intro a S
          refine s_gF S (b := false) rfl rfl rfl rfl ?_; clear S a; intro a S
          refine s_pick S (b := false) (hc_of rfl rfl) rfl rfl ?_; clear S a; intro a S
          refine s_move S rfl rfl ?_; clear S a; intro a S
          refine s_gF S (b := false) rfl rfl rfl rfl ?_; clear S a; intro a S
          refine s_gF S (b := false) rfl rfl rfl rfl ?_; clear S a; intro a S
          refine s_gF S (b := false) rfl rfl rfl rfl ?_; clear S a; intro a S
          refine s_pick S (b := false) (hc_of rfl rfl) rfl rfl ?_; clear S a; intro a S
          refine s_assign S rfl rfl ?_; clear S a; intro a S
          refine c_end ?_
          refine wp_ret ?_
          obtain rfl := Option.some.inj h6
          exact b_ret1 (d := (.v (.bool false))) S rfl rfl fun ok => S.retX (Hx := []) hb _ _ (() : Unit) .nil ok
    refine c_region ?_
    refine s_move S rfl rfl ?_; clear S a; intro a S
    refine s_move S rfl rfl ?_; clear S a; intro a S
    refine c_end ?_
    refine wp_block ?_
    replace S := S.nilrow (Ty.prod Ty.bool (Ty.prod (Ty.slice (Ty.int .u8)) (Ty.int .i64))) 43
    refine c_loop (fun q1 a w => ∃ (m : Mem) (A3 : Option Addr) (nn3 : Nat) (cp6 : Nat) (y4 : List (Bool × (List Int) × Int)) (y5 : Int), St 72 m b0 [(6, (.v (.slice A3 nn3 cp6))), (20, (.v (.int .i64 y5))), (19, (.v (.int .i64 (Int.tmod (wr .i64 x1) 70)))), (5, (.v (.int .i64 (Int.tmod (wr .i64 x1) 70)))), (1, (.sl ch_1_0 (x2).length ch_1_1 (RdS (Ty.int .u8) ch_1_0 x2)))] [Res.row (Ty.prod Ty.bool (Ty.prod (Ty.slice (Ty.int .u8)) (Ty.int .i64))) 43 A3 nn3 cp6 y4] a w ∧ smithylaw07_RlpNests.l1 k x1 x2 q1 y4 y5 = some r) ?_ ?_ (k := k) ⟨_, none, 0, 0, ([] : List (Bool × (List Int) × Int)), 0, (S.sub ⟨rfl, rfl, rfl, rfl, rfl, trivial⟩ (.cons .here .nil)), h1⟩
    · rintro a w ⟨m, A3, nn3, cp6, y4, y5, S, h0⟩
      exact (nomatch (show (none : Option Bool) = some r from h0))
    · clear S h1
      rintro q1 a w ⟨m, A3, nn3, cp6, y4, y5, S, h0⟩
      replace h0 : smithylaw07_RlpNests.b1 k x1 x2 (smithylaw07_RlpNests.l1 k x1 x2 q1) y4 y5 = some r := h0
      delta smithylaw07_RlpNests.b1 at h0
      refine c_region ?_
      refine s_bin S rfl rfl rfl rfl ?_; clear S a; intro a S
      refine c_end ?_
      refine wp_seq ?_
      rcases ite_of h0 with ⟨c9, h1⟩ | ⟨c9, h1⟩ <;> clear h0
      · refine c_condT S rfl c9 ?_
        refine wp_skip ?_
        refine x_thenN ?_
        refine wp_seq ?_
        refine wp_block ?_
        refine c_region ?_
        refine s_move S rfl rfl ?_; clear S a; intro a S
        refine s_assign S rfl rfl ?_; clear S a; intro a S
        refine c_end ?_
        refine c_region' ?_
        refine s_move S rfl rfl ?_; clear S a; intro a S
        refine s_move S rfl rfl ?_; clear S a; intro a S
        refine s_move S rfl rfl ?_; clear S a; intro a S
        refine s_bin S rfl rfl rfl rfl ?_; clear S a; intro a S
        refine s_bldS S (ds := [(0, (.v (.bool true))), (2, (.v (.int .i64 (wr .i64 ((Int.tmod (wr .i64 x1) 70) - y5)))))]) (zs := [.one (.bool false), .one (.slice none 0 0), .one (.int .i64 0)]) (s' := [.one (.bool true), .one (.slice none 0 0), .one (.int .i64 (wr .i64 ((Int.tmod (wr .i64 x1) 70) - y5)))]) rfl Try.underlying43 P43 Z43 ⟨rfl, rfl, rfl, trivial⟩ rfl rfl ?_; clear S a; intro a S
        replace S := S.slot (u := 27) (d' := (.agg [.one (.bool true), .sl none (([] : List Int)).length 0 (RdS (Ty.int .u8) none ([] : List Int)), .one (.int .i64 (wr .i64 ((Int.tmod (wr .i64 x1) 70) - y5)))])) rfl rfl (by have h := (S.get 27 (.agg [.one (.bool true), .one (.slice none 0 0), .one (.int .i64 (wr .i64 ((Int.tmod (wr .i64 x1) 70) - y5)))]) rfl).2; exact ⟨h.1, ok_nil, h.2.2.1, trivial⟩)
        refine s_bldSl S (ty' := (Ty.prod Ty.bool (Ty.prod (Ty.slice (Ty.int .u8)) (Ty.int .i64)))) (ds := [(0, (.agg [.one (.bool true), .sl none (([] : List Int)).length 0 (RdS (Ty.int .u8) none ([] : List Int)), .one (.int .i64 (wr .i64 ((Int.tmod (wr .i64 x1) 70) - y5)))]))]) (z := (false, ([] : List Int), 0)) (c0 := ((), (none, 0), ())) (ys := [(true, ([] : List Int), wr .i64 ((Int.tmod (wr .i64 x1) 70) - y5))]) (cs := [((), (none, 0), ())]) rfl Try.underlying29 J43 Z43 rfl ⟨rfl, ⟨Nat.le_refl _, Nat.zero_le _, RdS.nil _ _ _, RdS.mono _ _ _⟩, rfl, trivial⟩ rfl rfl rfl rfl rfl rfl ?_; clear S a w; intro g4 a w S
        obtain ⟨c10, h2⟩ := chk_of h1; clear h1
        refine s_app S (k2 := 1) (ys := [(true, ([] : List Int), wr .i64 ((Int.tmod (wr .i64 x1) 70) - y5))]) rfl (fun _ _ => (.there .here)) rfl rfl (S.holds _ (Pull.mem .here).1).1 (Res.row.src (S.holds _ (Pull.mem .here).1)) Try.underlying29 J43 c10 rfl ?_; clear S a w; intro A4 cp7 a w S
        refine s_assign S rfl rfl ?_; clear S a; intro a S
        refine c_end' ?_
        refine x_blockN ?_
        refine x_thenN ?_
        refine c_region' ?_
        refine s_bin S rfl rfl rfl rfl ?_; clear S a; intro a S
        refine s_move S rfl rfl ?_; clear S a; intro a S
        refine c_end' ?_
        refine x_thenN ?_
        exact ⟨_, A4, (nn3 + 1), cp7, (y4 ++ [(true, ([] : List Int), wr .i64 ((Int.tmod (wr .i64 x1) 70) - y5))]), (wr .i64 (y5 + 1)), (S.sub ⟨rfl, rfl, rfl, rfl, rfl, trivial⟩ (.cons (.there .here) .nil)), h2⟩
      · refine c_condF S rfl c9 ?_
        refine wp_exit ?_
        refine x_thenX ?_
        refine x_thenX ?_
        refine x_blockX ?_
        refine x_thenN ?_
        exact j1 _ A3 nn3 cp6 y4 a w (S.sub ⟨rfl, rfl, rfl, trivial⟩ (.cons .here .nil)) h1
end GW
