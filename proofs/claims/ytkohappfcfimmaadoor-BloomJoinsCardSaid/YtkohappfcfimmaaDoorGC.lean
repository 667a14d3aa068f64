/-
  Printed by a program of these sessions (wip/gw/gx.py): for each Go function a Lean function with the same answers, and the walk that shows it.
-/
import Derived.Test.YtkohappfcfimmaaDoorProg
import Derived.Test.YtkohappfcfimmaaDoorGB
set_option linter.unusedVariables false
set_option maxRecDepth 10000
namespace GW
open Go Go.RowKit Go.Proofs
/-! smithy/smithyref29.Set -/
abbrev smithyref29_Set.Ty : Type := (List (List Int)) → Option ((List Bool))
def smithyref29_Set.Ctr (s : smithyref29_Set.Ty) : Prop := ∀ (x1 : List (List Int)) (ch_0_0 : Option Addr) (ch_0_1 : Nat) (r : (List Bool)) (h0 : s x1 = some r) (mi : Mem) (w0 : World), okL mi [(.sl ch_0_0 (x1).length ch_0_1 (RdS (Ty.slice (Ty.int .u8)) ch_0_0 x1))] → Pre mi [] w0 → Calls Tryd.prog 19 (([(.sl ch_0_0 (x1).length ch_0_1 (RdS (Ty.slice (Ty.int .u8)) ch_0_0 x1))] : List D).map D.val).toArray w0 (RetX mi [] (fun (ch : (Option Addr) × Nat × Nat) => ((.v (.slice ch.1 ch.2.1 ch.2.2)) : D)) (fun (ch : (Option Addr) × Nat × Nat) => [Res.row Ty.bool 4 ch.1 ch.2.1 ch.2.2 r]) w0)
def smithyref29_Set.j1 (y1 : List Bool) : Option ((List Bool)) := some y1
def smithyref29_Set.j2 (y14 : Int) (rec1 : Int → (List Bool) → Option ((List Bool))) (y20 : List Bool) : Option ((List Bool)) := rec1 (wr .i64 (y14 + 1)) y20
def smithyref29_Set.b2 (y14 : Int) (rec1 : Int → (List Bool) → Option ((List Bool))) (t1 : (List Int)) (rec2 : Int → (List Bool) → Option ((List Bool))) (y23 : Int) (y24 : List Bool) : Option ((List Bool)) := if (decide (y23 < ((t1).length : Int))) = true then (if (0 : Int) ≤ y23 ∧ y23 < ((t1).length : Int) then (if (0 : Int) ≤ (rd t1 y23) ∧ (rd t1 y23) < ((y24).length : Int) then (rec2 (wr .i64 (y23 + 1)) (y24.set (Int.toNat (rd t1 y23)) true)) else none) else none) else (smithyref29_Set.j2 y14 rec1 y24)
def smithyref29_Set.l2 (y14 : Int) (rec1 : Int → (List Bool) → Option ((List Bool))) (t1 : (List Int)) : Nat → Int → (List Bool) → Option ((List Bool))
  | 0, _, _ => none
  | q + 1, y23, y24 => smithyref29_Set.b2 y14 rec1 t1 (smithyref29_Set.l2 y14 rec1 t1 q) y23 y24
def smithyref29_Set.b1 (k : Nat) (x1 : List (List Int)) (rec1 : Int → (List Bool) → Option ((List Bool))) (y14 : Int) (y15 : List Bool) : Option ((List Bool)) := if (decide (y14 < ((x1).length : Int))) = true then (if (0 : Int) ≤ y14 ∧ y14 < ((x1).length : Int) then ((smithyref29_Places.f k (gt x1 y14)).bind fun t1 => (smithyref29_Set.l2 y14 rec1 t1 k 0 y15)) else none) else (smithyref29_Set.j1 y15)
def smithyref29_Set.l1 (k : Nat) (x1 : List (List Int)) : Nat → Int → (List Bool) → Option ((List Bool))
  | 0, _, _ => none
  | q + 1, y14, y15 => smithyref29_Set.b1 k x1 (smithyref29_Set.l1 k x1 q) y14 y15
def smithyref29_Set.f (k : Nat) (x1 : List (List Int)) : Option ((List Bool)) := if (0 : Int) ≤ 2048 ∧ 1 * Int.toNat 2048 ≤ 281474976710656 then (smithyref29_Set.l1 k x1 k 0 (List.replicate (Int.toNat 2048) (false : Bool))) else none
theorem smithyref29_Set.ok (k : Nat) : smithyref29_Set.Ctr (smithyref29_Set.f k) := by
  intro x1 ch_0_0 ch_0_1 r h0 mi w0 ok hm
  delta smithyref29_Set.f at h0
  refine c_enterX (n := 32) [(.sl ch_0_0 (x1).length ch_0_1 (RdS (Ty.slice (Ty.int .u8)) ch_0_0 x1))] (l := [(0, (.sl ch_0_0 (x1).length ch_0_1 (RdS (Ty.slice (Ty.int .u8)) ch_0_0 x1)))]) Tryd.func19 rfl rfl rfl rfl ok hm ?_
  clear ok hm
  intro b0 hb a S
  refine c_region ?_
  refine s_assign S rfl rfl ?_; clear S a; intro a S
  refine c_end ?_
  refine c_region ?_
  obtain ⟨c1, h1⟩ := chk_of h0; clear h0
  refine s_make S (ty' := Ty.bool) (z := false) (c0 := ()) rfl rfl Tryd.underlying31 J4 Z4 rfl ⟨rfl, trivial⟩ c1.1 c1.2 rfl ?_; clear S a; intro g1 a w S
  refine s_assign S rfl rfl ?_; clear S a; intro a S
  refine c_end ?_
  refine wp_seq_k ?_
  intro K1 hK1
  have j1 : ∀ (m : Mem) (y1 : List Bool) (a : Act) (w : World), St 32 m b0 [(3, (.v (.slice (some ⟨g1, 0, none⟩) (Int.toNat 2048) (Int.toNat 2048))))] [Res.row Ty.bool 4 (some ⟨g1, 0, none⟩) (Int.toNat 2048) (Int.toNat 2048) y1] a w → smithyref29_Set.j1 y1 = some r → K1 a w := by
    intro m y1 a w S h0
    delta smithyref29_Set.j1 at h0
    refine hK1 a w ?_
    refine c_region ?_
    refine s_move S rfl rfl ?_; clear S a; intro a S
    refine s_assign S rfl rfl ?_; clear S a; intro a S
    refine c_end ?_
    refine wp_ret ?_
    obtain rfl := Option.some.inj h0
    exact b_ret1 (d := (.v (.slice (some ⟨g1, 0, none⟩) (Int.toNat 2048) (Int.toNat 2048)))) S rfl rfl fun ok => S.retX (Hx := []) hb _ _ (((some ⟨g1, 0, none⟩), Int.toNat 2048, Int.toNat 2048) : (Option Addr) × Nat × Nat) (.cons .here .nil) ok
  refine c_region ?_
  refine s_move S rfl rfl ?_; clear S a; intro a S
  refine s_lenS S rfl Tryd.underlying39 rfl ?_; clear S a; intro a S
  refine s_move S rfl rfl ?_; clear S a; intro a S
  refine c_end ?_
  refine wp_block ?_
  refine c_loop (fun q1 a w => ∃ (m : Mem) (y14 : Int) (y15 : List Bool), St 32 m b0 [(10, (.v (.int .i64 y14))), (9, (.v (.int .i64 ((x1).length : Int)))), (3, (.v (.slice (some ⟨g1, 0, none⟩) (Int.toNat 2048) (Int.toNat 2048)))), (0, (.sl ch_0_0 (x1).length ch_0_1 (RdS (Ty.slice (Ty.int .u8)) ch_0_0 x1)))] [Res.row Ty.bool 4 (some ⟨g1, 0, none⟩) (Int.toNat 2048) (Int.toNat 2048) y15] a w ∧ smithyref29_Set.l1 k x1 q1 y14 y15 = some r) ?_ ?_ (k := k) ⟨_, 0, (List.replicate (Int.toNat 2048) (false : Bool)), (S.sub ⟨rfl, rfl, rfl, rfl, trivial⟩ (.cons .here .nil)), h1⟩
  · rintro a w ⟨m, y14, y15, S, h0⟩
    exact (nomatch (show (none : Option ((List Bool))) = some r from h0))
  · clear S h1
    rintro q1 a w ⟨m, y14, y15, S, h0⟩
    replace h0 : smithyref29_Set.b1 k x1 (smithyref29_Set.l1 k x1 q1) y14 y15 = some r := h0
    delta smithyref29_Set.b1 at h0
    refine c_region ?_
    refine s_bin S rfl rfl rfl rfl ?_; clear S a; intro a S
    refine c_end ?_
    refine wp_seq ?_
    rcases ite_of h0 with ⟨c2, h1⟩ | ⟨c2, h1⟩ <;> clear h0
    · refine c_condT S rfl c2 ?_
      refine wp_skip ?_
      refine x_thenN ?_
      refine wp_seq_k ?_
      intro K2 hK2
      have j2 : ∀ (m : Mem) (y20 : List Bool) (a : Act) (w : World), St 32 m b0 [(10, (.v (.int .i64 y14))), (9, (.v (.int .i64 ((x1).length : Int)))), (3, (.v (.slice (some ⟨g1, 0, none⟩) (Int.toNat 2048) (Int.toNat 2048)))), (0, (.sl ch_0_0 (x1).length ch_0_1 (RdS (Ty.slice (Ty.int .u8)) ch_0_0 x1)))] [Res.row Ty.bool 4 (some ⟨g1, 0, none⟩) (Int.toNat 2048) (Int.toNat 2048) y20] a w → smithyref29_Set.j2 y14 (smithyref29_Set.l1 k x1 q1) y20 = some r → K2 a w := by
        intro m y20 a w S h0
        delta smithyref29_Set.j2 at h0
        refine hK2 a w ?_
        refine c_region' ?_
        refine s_bin S rfl rfl rfl rfl ?_; clear S a; intro a S
        refine s_move S rfl rfl ?_; clear S a; intro a S
        refine c_end' ?_
        refine x_thenN ?_
        exact ⟨_, (wr .i64 (y14 + 1)), y20, (S.sub ⟨rfl, rfl, rfl, rfl, trivial⟩ (.cons .here .nil)), h0⟩
      refine wp_block ?_
      refine c_region ?_
      refine s_move S rfl rfl ?_; clear S a; intro a S
      refine s_assign S rfl rfl ?_; clear S a; intro a S
      refine c_end ?_
      refine c_region ?_
      refine s_move S rfl rfl ?_; clear S a; intro a S
      refine s_move S rfl rfl ?_; clear S a; intro a S
      obtain ⟨c3, h2⟩ := chk_of h1; clear h1
      refine s_iaddrS S rfl rfl rfl Tryd.underlying39 T36 c3.1 c3.2 rfl ?_; clear S a; intro p1 a S
      refine s_ldS S (fun c => c) rfl T36 (fun _ => rfl) rfl ?_; clear S a; intro A1 cp1 a S
      obtain ⟨t1, et1, h3⟩ := bind_of h2; clear h2
      refine s_callR S (fun (ch : (Option Addr) × Nat × Nat) => ((.v (.slice ch.1 ch.2.1 ch.2.2)) : D)) (fun (ch : (Option Addr) × Nat × Nat) => Res.row (Ty.int .i64) 3 ch.1 ch.2.1 ch.2.2 t1) N17 rfl rfl (smithyref29_Places.ok k (gt x1 y14) A1 cp1 t1 et1 _ _) ?_; clear S a w; intro ch1 m le1 a w S
      refine s_assign S rfl rfl ?_; clear S a; intro a S
      refine c_end ?_
      refine c_region ?_
      refine s_move S rfl rfl ?_; clear S a; intro a S
      refine s_lenO S rfl .here Tryd.underlying44 rfl ?_; clear S a; intro a S
      refine s_move S rfl rfl ?_; clear S a; intro a S
      refine c_end ?_
      refine wp_block ?_
      refine c_loop (fun q2 a w => ∃ (m : Mem) (y23 : Int) (A2 : Option Addr) (nn1 : Nat) (cp4 : Nat) (y24 : List Bool), St 32 m b0 [(20, (.v (.int .i64 y23))), (19, (.v (.int .i64 ((t1).length : Int)))), (5, (.v (.slice A2 nn1 cp4))), (10, (.v (.int .i64 y14))), (9, (.v (.int .i64 ((x1).length : Int)))), (3, (.v (.slice (some ⟨g1, 0, none⟩) (Int.toNat 2048) (Int.toNat 2048)))), (0, (.sl ch_0_0 (x1).length ch_0_1 (RdS (Ty.slice (Ty.int .u8)) ch_0_0 x1)))] [Res.row (Ty.int .i64) 3 A2 nn1 cp4 t1, Res.row Ty.bool 4 (some ⟨g1, 0, none⟩) (Int.toNat 2048) (Int.toNat 2048) y24] a w ∧ smithyref29_Set.l2 y14 (smithyref29_Set.l1 k x1 q1) t1 q2 y23 y24 = some r) ?_ ?_ (k := k) ⟨_, 0, ch1.1, ch1.2.1, ch1.2.2, y15, (S.sub ⟨rfl, rfl, rfl, rfl, rfl, rfl, rfl, trivial⟩ (.cons .here (.cons .here .nil))), h3⟩
      · rintro a w ⟨m, y23, A2, nn1, cp4, y24, S, h0⟩
        exact (nomatch (show (none : Option ((List Bool))) = some r from h0))
      · clear S h3
        rintro q2 a w ⟨m, y23, A2, nn1, cp4, y24, S, h0⟩
        replace h0 : smithyref29_Set.b2 y14 (smithyref29_Set.l1 k x1 q1) t1 (smithyref29_Set.l2 y14 (smithyref29_Set.l1 k x1 q1) t1 q2) y23 y24 = some r := h0
        delta smithyref29_Set.b2 at h0
        refine c_region ?_
        refine s_bin S rfl rfl rfl rfl ?_; clear S a; intro a S
        refine c_end ?_
        refine wp_seq ?_
        rcases ite_of h0 with ⟨c4, h1⟩ | ⟨c4, h1⟩ <;> clear h0
        · refine c_condT S rfl c4 ?_
          refine wp_skip ?_
          refine x_thenN ?_
          refine wp_seq ?_
          refine wp_block ?_
          refine c_region ?_
          refine s_move S rfl rfl ?_; clear S a; intro a S
          refine s_assign S rfl rfl ?_; clear S a; intro a S
          refine c_end ?_
          refine c_region' ?_
          refine s_move S rfl rfl ?_; clear S a; intro a S
          refine s_move S rfl rfl ?_; clear S a; intro a S
          refine s_move S rfl rfl ?_; clear S a; intro a S
          obtain ⟨c5, h2⟩ := chk_of h1; clear h1
          refine s_iaddrO S (ty' := (Ty.int .i64)) rfl .here rfl Tryd.underlying44 T3 c5.1 c5.2 rfl ?_; clear S a; intro g6 a hA1 S
          refine s_ldR1 S (ty' := (Ty.int .i64)) (i := y23) (off := 0) (v := (.int .i64 (rd t1 y23))) rfl hA1 .here T3 c5.1 c5.2 rfl (fun _ => rfl) rfl ?_; clear S a; intro a S
          obtain ⟨c6, h3⟩ := chk_of h2; clear h2
          refine s_iaddrO S (ty' := Ty.bool) rfl (.there .here) rfl Tryd.underlying31 T4 c6.1 c6.2 rfl ?_; clear S a; intro g7 a hA2 S
          refine s_stR S (ty' := Ty.bool) (i := (rd t1 y23)) (off := 0) (u := true) (fun (c : Unit) => ()) rfl rfl rfl hA2 (.there .here) T4 c6.1 c6.2 rfl (by decide) rfl (fun _ => rfl) ?_; clear S w; intro w S
          refine c_end' ?_
          refine x_blockN ?_
          refine x_thenN ?_
          refine c_region' ?_
          refine s_bin S rfl rfl rfl rfl ?_; clear S a; intro a S
          refine s_move S rfl rfl ?_; clear S a; intro a S
          refine c_end' ?_
          refine x_thenN ?_
          exact ⟨_, (wr .i64 (y23 + 1)), A2, nn1, cp4, (y24.set (Int.toNat (rd t1 y23)) true), (S.sub ⟨rfl, rfl, rfl, rfl, rfl, rfl, rfl, trivial⟩ (.cons .here (.cons .here .nil))), h3⟩
        · refine c_condF S rfl c4 ?_
          refine wp_exit ?_
          refine x_thenX ?_
          refine x_thenX ?_
          refine x_blockX ?_
          refine x_blockN ?_
          refine x_thenN ?_
          exact j2 _ y24 a w (S.sub ⟨rfl, rfl, rfl, rfl, trivial⟩ (.cons (.there .here) .nil)) h1
    · refine c_condF S rfl c2 ?_
      refine wp_exit ?_
      refine x_thenX ?_
      refine x_thenX ?_
      refine x_blockX ?_
      refine x_thenN ?_
      exact j1 _ y15 a w (S.sub ⟨rfl, trivial⟩ (.cons .here .nil)) h1
/-! smithy/smithyref29.Of -/
abbrev smithyref29_Of.Ty : Type := (List ((List Int) × (List (List Int)) × (List Int))) → Option ((List Bool))
def smithyref29_Of.Ctr (s : smithyref29_Of.Ty) : Prop := ∀ (x1 : List ((List Int) × (List (List Int)) × (List Int))) (ch_0_0 : Option Addr) (ch_0_1 : Nat) (r : (List Bool)) (h0 : s x1 = some r) (mi : Mem) (w0 : World), okL mi [(.sl ch_0_0 (x1).length ch_0_1 (RdS (Ty.prod (Ty.arr .u8 20) (Ty.prod (Ty.slice (Ty.arr .u64 4)) (Ty.slice (Ty.int .u8)))) ch_0_0 x1))] → Pre mi [] w0 → Calls Tryd.prog 12 (([(.sl ch_0_0 (x1).length ch_0_1 (RdS (Ty.prod (Ty.arr .u8 20) (Ty.prod (Ty.slice (Ty.arr .u64 4)) (Ty.slice (Ty.int .u8)))) ch_0_0 x1))] : List D).map D.val).toArray w0 (RetX mi [] (fun (ch : (Option Addr) × Nat × Nat) => ((.v (.slice ch.1 ch.2.1 ch.2.2)) : D)) (fun (ch : (Option Addr) × Nat × Nat) => [Res.row Ty.bool 4 ch.1 ch.2.1 ch.2.2 r]) w0)
def smithyref29_Of.j1 (k : Nat) (y1 : List (List Int)) : Option ((List Bool)) := (smithyref29_Set.f k y1).bind fun t1 => (some t1)
def smithyref29_Of.b1 (k : Nat) (x1 : List ((List Int) × (List (List Int)) × (List Int))) (rec1 : Int → (List (List Int)) → Option ((List Bool))) (y4 : Int) (y5 : List (List Int)) : Option ((List Bool)) := if (decide (y4 < ((x1).length : Int))) = true then (if (0 : Int) ≤ y4 ∧ y4 < ((x1).length : Int) then ((smithyref29_Bytes.f k ((gt x1 y4).1, (gt x1 y4).2.1, (gt x1 y4).2.2)).bind fun t4 => (if ((y5).length + (t4).length) * 24 ≤ 140737488355328 then (rec1 (wr .i64 (y4 + 1)) (y5 ++ t4)) else none)) else none) else (smithyref29_Of.j1 k y5)
def smithyref29_Of.l1 (k : Nat) (x1 : List ((List Int) × (List (List Int)) × (List Int))) : Nat → Int → (List (List Int)) → Option ((List Bool))
  | 0, _, _ => none
  | q + 1, y4, y5 => smithyref29_Of.b1 k x1 (smithyref29_Of.l1 k x1 q) y4 y5
def smithyref29_Of.f (k : Nat) (x1 : List ((List Int) × (List (List Int)) × (List Int))) : Option ((List Bool)) := smithyref29_Of.l1 k x1 k 0 ([] : List (List Int))
theorem smithyref29_Of.ok (k : Nat) : smithyref29_Of.Ctr (smithyref29_Of.f k) := by
  intro x1 ch_0_0 ch_0_1 r h0 mi w0 ok hm
  delta smithyref29_Of.f at h0
  refine c_enterX (n := 21) [(.sl ch_0_0 (x1).length ch_0_1 (RdS (Ty.prod (Ty.arr .u8 20) (Ty.prod (Ty.slice (Ty.arr .u64 4)) (Ty.slice (Ty.int .u8)))) ch_0_0 x1))] (l := [(0, (.sl ch_0_0 (x1).length ch_0_1 (RdS (Ty.prod (Ty.arr .u8 20) (Ty.prod (Ty.slice (Ty.arr .u64 4)) (Ty.slice (Ty.int .u8)))) ch_0_0 x1)))]) Tryd.func12 rfl rfl rfl rfl ok hm ?_
  clear ok hm
  intro b0 hb a S
  refine c_region ?_
  refine s_assign S rfl rfl ?_; clear S a; intro a S
  refine c_end ?_
  refine c_region ?_
  refine s_bldSl S (ty' := (Ty.slice (Ty.int .u8))) (ds := []) (z := ([] : List Int)) (c0 := (none, 0)) (ys := ([] : List (List Int))) (cs := []) rfl Tryd.underlying39 J36 Z36 rfl ⟨⟨Nat.le_refl _, Nat.zero_le _, RdS.nil _ _ _, RdS.mono _ _ _⟩, trivial⟩ rfl rfl rfl rfl rfl rfl ?_; clear S a; intro g1 a w S
  refine s_assign S rfl rfl ?_; clear S a; intro a S
  refine c_end ?_
  refine wp_seq_k ?_
  intro K1 hK1
  have j1 : ∀ (m : Mem) (A1 : Option Addr) (nn1 : Nat) (cp1 : Nat) (y1 : List (List Int)) (a : Act) (w : World), St 21 m b0 [(3, (.v (.slice A1 nn1 cp1)))] [Res.row (Ty.slice (Ty.int .u8)) 36 A1 nn1 cp1 y1] a w → smithyref29_Of.j1 k y1 = some r → K1 a w := by
    intro m A1 nn1 cp1 y1 a w S h0
    delta smithyref29_Of.j1 at h0
    refine hK1 a w ?_
    refine c_region ?_
    refine s_move S rfl rfl ?_; clear S a; intro a S
    replace S := S.rowfro .here
    obtain ⟨m, le1, S, hro⟩ := S
    replace S := S.slotro (u := 19) rfl hro
    replace S := S.slotro (u := 3) rfl hro
    obtain ⟨t1, et1, h1⟩ := bind_of h0; clear h0
    refine s_callR S (fun (ch : (Option Addr) × Nat × Nat) => ((.v (.slice ch.1 ch.2.1 ch.2.2)) : D)) (fun (ch : (Option Addr) × Nat × Nat) => Res.row Ty.bool 4 ch.1 ch.2.1 ch.2.2 t1) N19 rfl rfl (smithyref29_Set.ok k y1 A1 cp1 t1 et1 _ _) ?_; clear S a w; intro ch1 m le1 a w S
    refine s_assign S rfl rfl ?_; clear S a; intro a S
    refine c_end ?_
    refine wp_ret ?_
    obtain rfl := Option.some.inj h1
    exact b_ret1 (d := (.v (.slice ch1.1 ch1.2.1 ch1.2.2))) S rfl rfl fun ok => S.retX (Hx := []) hb _ _ ((ch1.1, ch1.2.1, ch1.2.2) : (Option Addr) × Nat × Nat) (.cons .here .nil) ok
  refine c_region ?_
  refine s_move S rfl rfl ?_; clear S a; intro a S
  refine s_lenS S rfl Tryd.underlying22 rfl ?_; clear S a; intro a S
  refine s_move S rfl rfl ?_; clear S a; intro a S
  refine c_end ?_
  refine wp_block ?_
  refine c_loop (fun q1 a w => ∃ (m : Mem) (y4 : Int) (A2 : Option Addr) (nn3 : Nat) (cp5 : Nat) (y5 : List (List Int)), St 21 m b0 [(8, (.v (.int .i64 y4))), (7, (.v (.int .i64 ((x1).length : Int)))), (3, (.v (.slice A2 nn3 cp5))), (0, (.sl ch_0_0 (x1).length ch_0_1 (RdS (Ty.prod (Ty.arr .u8 20) (Ty.prod (Ty.slice (Ty.arr .u64 4)) (Ty.slice (Ty.int .u8)))) ch_0_0 x1)))] [Res.row (Ty.slice (Ty.int .u8)) 36 A2 nn3 cp5 y5] a w ∧ smithyref29_Of.l1 k x1 q1 y4 y5 = some r) ?_ ?_ (k := k) ⟨_, 0, (some ⟨g1, 0, none⟩), 0, 0, ([] : List (List Int)), (S.sub ⟨rfl, rfl, rfl, rfl, trivial⟩ (.cons .here .nil)), h0⟩
  · rintro a w ⟨m, y4, A2, nn3, cp5, y5, S, h0⟩
    exact (nomatch (show (none : Option ((List Bool))) = some r from h0))
  · clear S h0
    rintro q1 a w ⟨m, y4, A2, nn3, cp5, y5, S, h0⟩
    replace h0 : smithyref29_Of.b1 k x1 (smithyref29_Of.l1 k x1 q1) y4 y5 = some r := h0
    delta smithyref29_Of.b1 at h0
    refine c_region ?_
    refine s_bin S rfl rfl rfl rfl ?_; clear S a; intro a S
    refine c_end ?_
    refine wp_seq ?_
    rcases ite_of h0 with ⟨c1, h1⟩ | ⟨c1, h1⟩ <;> clear h0
    · refine c_condT S rfl c1 ?_
      refine wp_skip ?_
      refine x_thenN ?_
      refine wp_seq ?_
      refine wp_block ?_
      refine c_region ?_
      refine s_move S rfl rfl ?_; clear S a; intro a S
      refine s_assign S rfl rfl ?_; clear S a; intro a S
      refine c_end ?_
      refine c_region' ?_
      refine s_move S rfl rfl ?_; clear S a; intro a S
      refine s_move S rfl rfl ?_; clear S a; intro a S
      refine s_move S rfl rfl ?_; clear S a; intro a S
      obtain ⟨c2, h2⟩ := chk_of h1; clear h1
      refine s_iaddrS S rfl rfl rfl Tryd.underlying22 T38 c2.1 c2.2 rfl ?_; clear S a; intro p1 a S
      refine s_ldA S (fun (c : Unit × (Option Addr × Nat) × (Option Addr × Nat)) => [.ints .u8 ((gt x1 y4).1) 20, .sl c.2.1.1 ((gt x1 y4).2.1).length c.2.1.2 (RdS (Ty.arr .u64 4) c.2.1.1 ((gt x1 y4).2.1)), .sl c.2.2.1 ((gt x1 y4).2.2).length c.2.2.2 (RdS (Ty.int .u8) c.2.2.1 ((gt x1 y4).2.2))]) rfl T38 (fun _ => rfl) rfl ?_; clear S a; intro ch6 a S
      obtain ⟨t4, et4, h3⟩ := bind_of h2; clear h2
      refine s_callR S (fun (ch : (Option Addr) × Nat × Nat) => ((.v (.slice ch.1 ch.2.1 ch.2.2)) : D)) (fun (ch : (Option Addr) × Nat × Nat) => Res.row (Ty.slice (Ty.int .u8)) 36 ch.1 ch.2.1 ch.2.2 t4) N13 rfl rfl (smithyref29_Bytes.ok k ((gt x1 y4).1, (gt x1 y4).2.1, (gt x1 y4).2.2) ch6.2.1.1 ch6.2.1.2 ch6.2.2.1 ch6.2.2.2 t4 et4 _ _) ?_; clear S a w; intro ch7 m le1 a w S
      obtain ⟨c3, h4⟩ := chk_of h3; clear h3
      refine s_app S (k2 := ch7.2.1) (ys := t4) rfl (fun _ _ => (.there .here)) rfl rfl (S.holds _ (Pull.mem .here).1).1 (Res.row.src (S.holds _ (Pull.mem .here).1)) Tryd.underlying39 J36 c3 rfl ?_; clear S a w; intro A3 cp6 a w S
      refine s_assign S rfl rfl ?_; clear S a; intro a S
      refine c_end' ?_
      refine x_blockN ?_
      refine x_thenN ?_
      refine c_region' ?_
      refine s_bin S rfl rfl rfl rfl ?_; clear S a; intro a S
      refine s_move S rfl rfl ?_; clear S a; intro a S
      refine c_end' ?_
      refine x_thenN ?_
      exact ⟨_, (wr .i64 (y4 + 1)), A3, (nn3 + ch7.2.1), cp6, (y5 ++ t4), (S.sub ⟨rfl, rfl, rfl, rfl, trivial⟩ (.cons (.there .here) .nil)), h4⟩
    · refine c_condF S rfl c1 ?_
      refine wp_exit ?_
      refine x_thenX ?_
      refine x_thenX ?_
      refine x_blockX ?_
      refine x_thenN ?_
      exact j1 _ A2 nn3 cp5 y5 a w (S.sub ⟨rfl, trivial⟩ (.cons .here .nil)) h1
/-! smithy/bloom.Has -/
abbrev bloom_Has.Ty : Type := (List Int) → (List Int) → Option Bool
def bloom_Has.Ctr (s : bloom_Has.Ty) : Prop := ∀ (x1 : List Int) (x2 : List Int) (ch_1_0 : Option Addr) (ch_1_1 : Nat) (r : Bool) (h0 : s x1 x2 = some r) (mi : Mem) (w0 : World) (G : Glob mi), okL mi [(.agg [.ints .u8 x1 256]), (.sl ch_1_0 (x2).length ch_1_1 (RdS (Ty.int .u8) ch_1_0 x2))] → Pre mi [] w0 → Calls Tryd.prog 14 (([(.agg [.ints .u8 x1 256]), (.sl ch_1_0 (x2).length ch_1_1 (RdS (Ty.int .u8) ch_1_0 x2))] : List D).map D.val).toArray w0 (RetX mi [] (fun (ch : Unit) => ((.v (.bool r)) : D)) (fun (ch : Unit) => []) w0)
def bloom_Has.j1 : Option Bool := some true
def bloom_Has.b1 (x1 : List Int) (t1 : (List Int)) (rec1 : Int → Option Bool) (y1 : Int) : Option Bool := if (decide (y1 < 3)) = true then (if (0 : Int) ≤ y1 ∧ y1 < 3 then (if (0 : Int) ≤ (wr .i64 (255 - (wr .i64 (Int.tdiv (rd t1 y1) 8)))) ∧ (wr .i64 (255 - (wr .i64 (Int.tdiv (rd t1 y1) 8)))) < 256 then (if (0 : Int) ≤ (Int.tmod (rd t1 y1) 8) then (if ((bits .and .u8 (shr (rd x1 (wr .i64 (255 - (wr .i64 (Int.tdiv (rd t1 y1) 8))))) (min (Int.toNat (Int.tmod (rd t1 y1) 8)) 8)) 1) == 0) = true then (some false) else (rec1 (wr .i64 (y1 + 1)))) else none) else none) else none) else bloom_Has.j1
def bloom_Has.l1 (x1 : List Int) (t1 : (List Int)) : Nat → Int → Option Bool
  | 0, _ => none
  | q + 1, y1 => bloom_Has.b1 x1 t1 (bloom_Has.l1 x1 t1 q) y1
def bloom_Has.f (k : Nat) (x1 : List Int) (x2 : List Int) : Option Bool := (bloom_places.f k x2).bind fun t1 => (bloom_Has.l1 x1 t1 k 0)
theorem bloom_Has.ok (k : Nat) : bloom_Has.Ctr (bloom_Has.f k) := by
  intro x1 x2 ch_1_0 ch_1_1 r h0 mi w0 G ok hm
  delta bloom_Has.f at h0
  refine c_enterX (n := 23) [(.agg [.ints .u8 x1 256]), (.sl ch_1_0 (x2).length ch_1_1 (RdS (Ty.int .u8) ch_1_0 x2))] (l := [(0, (.agg [.ints .u8 x1 256])), (1, (.sl ch_1_0 (x2).length ch_1_1 (RdS (Ty.int .u8) ch_1_0 x2)))]) Tryd.func14 rfl rfl rfl rfl ok hm ?_
  clear ok hm
  intro b0 hb a S
  refine c_region ?_
  refine s_box S rfl rfl rfl ?_; clear S a; intro g1 a w S
  refine s_assign S rfl rfl ?_; clear S a; intro a S
  refine c_end ?_
  refine wp_seq_k ?_
  intro K1 hK1
  have j1 : ∀ (m : Mem) (a : Act) (w : World), St 23 m b0 [] [] a w → bloom_Has.j1 = some r → K1 a w := by
    intro m a w S h0
    delta bloom_Has.j1 at h0
    refine hK1 a w ?_
    refine c_region ?_
    refine s_assign S rfl rfl ?_; clear S a; intro a S
    refine c_end ?_
    refine wp_ret ?_
    obtain rfl := Option.some.inj h0
    exact b_ret1 (d := (.v (.bool true))) S rfl rfl fun ok => S.retX (Hx := []) hb _ _ (() : Unit) .nil ok
  refine c_region ?_
  refine s_move S rfl rfl ?_; clear S a; intro a S
  obtain ⟨t1, et1, h1⟩ := bind_of h0; clear h0
  refine s_callP S (fun (ch : Unit) => ((.agg [.ints .i64 t1 3]) : D)) N27 rfl rfl (bloom_places.ok k x2 ch_1_0 ch_1_1 t1 et1 _ _ (G.mono (S.leB hb))) ?_; clear S a w; intro ch1 m le1 a w S
  refine s_move S rfl rfl ?_; clear S a; intro a S
  refine c_end ?_
  refine wp_block ?_
  refine c_loop (fun q1 a w => ∃ (m : Mem) (y1 : Int) (g7 : Nat), St 23 m b0 [(9, (.v (.int .i64 y1))), (8, (.agg [.ints .i64 t1 3])), (2, (.v (.pointer (some ⟨g7, 0, none⟩))))] [Res.cells g7 24 [.ints .u8 x1 256]] a w ∧ bloom_Has.l1 x1 t1 q1 y1 = some r) ?_ ?_ (k := k) ⟨_, 0, g1, (S.sub ⟨rfl, rfl, rfl, trivial⟩ (.cons .here .nil)), h1⟩
  · rintro a w ⟨m, y1, g7, S, h0⟩
    exact (nomatch (show (none : Option Bool) = some r from h0))
  · clear S h1
    rintro q1 a w ⟨m, y1, g7, S, h0⟩
    replace h0 : bloom_Has.b1 x1 t1 (bloom_Has.l1 x1 t1 q1) y1 = some r := h0
    delta bloom_Has.b1 at h0
    refine c_region ?_
    refine s_bin S rfl rfl rfl rfl ?_; clear S a; intro a S
    refine c_end ?_
    refine wp_seq ?_
    rcases ite_of h0 with ⟨c1, h1⟩ | ⟨c1, h1⟩ <;> clear h0
    · refine c_condT S rfl c1 ?_
      refine wp_skip ?_
      refine x_thenN ?_
      refine wp_seq ?_
      refine wp_block ?_
      refine c_region ?_
      obtain ⟨c2, h2⟩ := chk_of h1; clear h1
      refine s_index S rfl rfl Tryd.underlying71 T3 c2.1 c2.2 rfl ?_; clear S a; intro a S
      refine s_assign S rfl rfl ?_; clear S a; intro a S
      refine c_end ?_
      refine c_region ?_
      refine s_move S rfl rfl ?_; clear S a; intro a S
      refine s_quo S rfl rfl (by decide) rfl ?_; clear S a; intro a S
      refine s_bin S rfl rfl rfl rfl ?_; clear S a; intro a S
      obtain ⟨c3, h3⟩ := chk_of h2; clear h2
      refine s_iaddr S rfl rfl Tryd.underlying24 T5 c3.1 c3.2 (mul1 _ _) rfl ?_; clear S a; intro a S
      refine s_loadi S (i := (wr .i64 (255 - (wr .i64 (Int.tdiv (rd t1 y1) 8))))) rfl .here T5 .here rfl c3.1 c3.2 rfl ?_; clear S a; intro a S
      refine s_move S rfl rfl ?_; clear S a; intro a S
      refine s_rem S rfl rfl (by decide) rfl ?_; clear S a; intro a S
      obtain ⟨c4, h4⟩ := chk_of h3; clear h3
      refine s_shr S (e := (min (Int.toNat (Int.tmod (rd t1 y1) 8)) 8)) rfl rfl c4 rfl rfl ?_; clear S a; intro a S
      refine s_bin S rfl rfl rfl rfl ?_; clear S a; intro a S
      refine s_bin S rfl rfl rfl rfl ?_; clear S a; intro a S
      refine c_end ?_
      rcases ite_of h4 with ⟨c5, h5⟩ | ⟨c5, h5⟩ <;> clear h4
      · refine c_condT S rfl c5 ?_
        refine c_region ?_
        refine s_assign S rfl rfl ?_; clear S a; intro a S
        refine c_end ?_
        refine wp_ret ?_
        refine x_blockR ?_
        refine x_thenR ?_
        refine x_thenR ?_
        refine x_blockR ?_
        refine x_thenR ?_
        obtain rfl := Option.some.inj h5
        exact b_ret1 (d := (.v (.bool false))) S rfl rfl fun ok => S.retX (Hx := []) hb _ _ (() : Unit) .nil ok
      · refine c_condF S rfl c5 ?_
        refine wp_skip ?_
        refine x_blockN ?_
        refine x_thenN ?_
        refine c_region' ?_
        refine s_bin S rfl rfl rfl rfl ?_; clear S a; intro a S
        refine s_move S rfl rfl ?_; clear S a; intro a S
        refine c_end' ?_
        refine x_thenN ?_
        exact ⟨_, (wr .i64 (y1 + 1)), g7, (S.sub ⟨rfl, rfl, rfl, trivial⟩ (.cons .here .nil)), h5⟩
    · refine c_condF S rfl c1 ?_
      refine wp_exit ?_
      refine x_thenX ?_
      refine x_thenX ?_
      refine x_blockX ?_
      refine x_thenN ?_
      exact j1 _ a w (S.sub trivial .nil) h1
/-! smithy/smithyref29.Same -/
abbrev smithyref29_Same.Ty : Type := (List Int) → (List Bool) → Option Bool
def smithyref29_Same.Ctr (s : smithyref29_Same.Ty) : Prop := ∀ (x1 : List Int) (x2 : List Bool) (ch_1_0 : Option Addr) (ch_1_1 : Nat) (r : Bool) (h0 : s x1 x2 = some r) (mi : Mem) (w0 : World), okL mi [(.agg [.ints .u8 x1 256]), (.sl ch_1_0 (x2).length ch_1_1 (RdS Ty.bool ch_1_0 x2))] → Pre mi [] w0 → Calls Tryd.prog 15 (([(.agg [.ints .u8 x1 256]), (.sl ch_1_0 (x2).length ch_1_1 (RdS Ty.bool ch_1_0 x2))] : List D).map D.val).toArray w0 (RetX mi [] (fun (ch : Unit) => ((.v (.bool r)) : D)) (fun (ch : Unit) => []) w0)
def smithyref29_Same.j1 : Option Bool := some true
def smithyref29_Same.b1 (k : Nat) (x1 : List Int) (x2 : List Bool) (rec1 : Int → Option Bool) (y1 : Int) : Option Bool := if (decide (y1 < ((x2).length : Int))) = true then (if (0 : Int) ≤ y1 ∧ y1 < ((x2).length : Int) then ((smithyref29_Bit.f k x1 y1).bind fun t1 => (if (!(t1 == (gt x2 y1))) = true then (some false) else (rec1 (wr .i64 (y1 + 1))))) else none) else smithyref29_Same.j1
def smithyref29_Same.l1 (k : Nat) (x1 : List Int) (x2 : List Bool) : Nat → Int → Option Bool
  | 0, _ => none
  | q + 1, y1 => smithyref29_Same.b1 k x1 x2 (smithyref29_Same.l1 k x1 x2 q) y1
def smithyref29_Same.f (k : Nat) (x1 : List Int) (x2 : List Bool) : Option Bool := smithyref29_Same.l1 k x1 x2 k 0
theorem smithyref29_Same.ok (k : Nat) : smithyref29_Same.Ctr (smithyref29_Same.f k) := by
  intro x1 x2 ch_1_0 ch_1_1 r h0 mi w0 ok hm
  delta smithyref29_Same.f at h0
  refine c_enterX (n := 20) [(.agg [.ints .u8 x1 256]), (.sl ch_1_0 (x2).length ch_1_1 (RdS Ty.bool ch_1_0 x2))] (l := [(0, (.agg [.ints .u8 x1 256])), (1, (.sl ch_1_0 (x2).length ch_1_1 (RdS Ty.bool ch_1_0 x2)))]) Tryd.func15 rfl rfl rfl rfl ok hm ?_
  clear ok hm
  intro b0 hb a S
  refine c_region ?_
  refine s_box S rfl rfl rfl ?_; clear S a; intro g1 a w S
  refine s_assign S rfl rfl ?_; clear S a; intro a S
  refine c_end ?_
  refine wp_seq_k ?_
  intro K1 hK1
  have j1 : ∀ (m : Mem) (a : Act) (w : World), St 20 m b0 [] [] a w → smithyref29_Same.j1 = some r → K1 a w := by
    intro m a w S h0
    delta smithyref29_Same.j1 at h0
    refine hK1 a w ?_
    refine c_region ?_
    refine s_assign S rfl rfl ?_; clear S a; intro a S
    refine c_end ?_
    refine wp_ret ?_
    obtain rfl := Option.some.inj h0
    exact b_ret1 (d := (.v (.bool true))) S rfl rfl fun ok => S.retX (Hx := []) hb _ _ (() : Unit) .nil ok
  refine c_region ?_
  refine s_move S rfl rfl ?_; clear S a; intro a S
  refine s_lenS S rfl Tryd.underlying31 rfl ?_; clear S a; intro a S
  refine s_move S rfl rfl ?_; clear S a; intro a S
  refine c_end ?_
  refine wp_block ?_
  refine c_loop (fun q1 a w => ∃ (m : Mem) (y1 : Int) (g7 : Nat), St 20 m b0 [(8, (.v (.int .i64 y1))), (7, (.v (.int .i64 ((x2).length : Int)))), (2, (.v (.pointer (some ⟨g7, 0, none⟩)))), (1, (.sl ch_1_0 (x2).length ch_1_1 (RdS Ty.bool ch_1_0 x2)))] [Res.cells g7 24 [.ints .u8 x1 256]] a w ∧ smithyref29_Same.l1 k x1 x2 q1 y1 = some r) ?_ ?_ (k := k) ⟨_, 0, g1, (S.sub ⟨rfl, rfl, rfl, rfl, trivial⟩ (.cons .here .nil)), h0⟩
  · rintro a w ⟨m, y1, g7, S, h0⟩
    exact (nomatch (show (none : Option Bool) = some r from h0))
  · clear S h0
    rintro q1 a w ⟨m, y1, g7, S, h0⟩
    replace h0 : smithyref29_Same.b1 k x1 x2 (smithyref29_Same.l1 k x1 x2 q1) y1 = some r := h0
    delta smithyref29_Same.b1 at h0
    refine c_region ?_
    refine s_bin S rfl rfl rfl rfl ?_; clear S a; intro a S
    refine c_end ?_
    refine wp_seq ?_
    rcases ite_of h0 with ⟨c1, h1⟩ | ⟨c1, h1⟩ <;> clear h0
    · refine c_condT S rfl c1 ?_
      refine wp_skip ?_
      refine x_thenN ?_
      refine wp_seq ?_
      refine wp_block ?_
      refine c_region ?_
      refine s_move S rfl rfl ?_; clear S a; intro a S
      refine s_assign S rfl rfl ?_; clear S a; intro a S
      refine c_end ?_
      refine wp_seq (c_heldS S (.take 0 (.take 1 (.take 3 (.take 4 (.take 5 (.take 6 (.alts (.run 2 true (.take 7 .done) .nil)))))))) 8 [Res.cells g7 24 [.ints .u8 x1 256]] (.cons .here .nil) ⟨Res.stay_cells, trivial⟩ [(5, (.v (.int .i64 y1))), (2, (.v (.pointer (some ⟨g7, 0, none⟩)))), (1, (.sl ch_1_0 (x2).length ch_1_1 (RdS Ty.bool ch_1_0 x2)))] ⟨rfl, rfl, rfl, trivial⟩ (by kernel_rfl) (by kernel_rfl) ?_); clear S; intro w S CL hw le
      refine h_loada S CL hw le ⟨rfl, rfl, rfl, trivial⟩ rfl .here T24 (s' := [.ints .u8 x1 256]) rfl rfl rfl trivial ?_; clear S CL a; intro a S CL
      refine h_move S CL hw le ⟨rfl, rfl, rfl, rfl, trivial⟩ rfl rfl rfl trivial ?_; clear S CL a; intro a S CL
      refine h_move S CL hw le ⟨rfl, rfl, rfl, rfl, rfl, trivial⟩ rfl rfl rfl trivial ?_; clear S CL a; intro a S CL
      refine h_move S CL hw le ⟨rfl, rfl, rfl, rfl, rfl, rfl, trivial⟩ rfl rfl rfl trivial ?_; clear S CL a; intro a S CL
      obtain ⟨c2, h2⟩ := chk_of h1; clear h1
      refine h_iaddrS S CL hw le ⟨rfl, rfl, rfl, rfl, rfl, rfl, rfl, trivial⟩ rfl rfl rfl Tryd.underlying31 T4 c2.1 c2.2 rfl rfl trivial ?_; clear S CL a; intro p1 a S CL
      refine h_ld1 S CL hw le ⟨rfl, rfl, rfl, rfl, rfl, rfl, rfl, rfl, trivial⟩ (v := (.bool (gt x2 y1))) rfl T4 (fun _ => rfl) rfl rfl trivial ?_; clear S CL a; intro a S CL
      refine h_run' S rfl trivial ?_
      obtain ⟨t1, et1, h3⟩ := bind_of h2; clear h2
      refine s_callP S (fun (ch : Unit) => ((.v (.bool t1)) : D)) N10 rfl rfl (smithyref29_Bit.ok k x1 y1 t1 et1 _ _) ?_; clear S a; intro ch1 m le1 a w S
      replace le := le.trans le1
      replace hw := CL.again hw S (.cons .here .nil) le
      refine h_back ⟨fun _ => hw, ?_⟩
      replace CL := CL.add (t := 13) (d := (.v (.bool t1))) S rfl rfl
      refine h_neb S CL hw le ⟨rfl, rfl, rfl, rfl, rfl, rfl, rfl, rfl, rfl, rfl, trivial⟩ rfl rfl Tryd.underlying4 rfl rfl trivial ?_; clear S CL a; intro a S CL
      refine h_done ?_; clear CL hw le
      refine x_thenN ?_
      rcases ite_of h3 with ⟨c3, h4⟩ | ⟨c3, h4⟩ <;> clear h3
      · refine c_condT S rfl c3 ?_
        refine c_region ?_
        refine s_assign S rfl rfl ?_; clear S a; intro a S
        refine c_end ?_
        refine wp_ret ?_
        refine x_blockR ?_
        refine x_thenR ?_
        refine x_thenR ?_
        refine x_blockR ?_
        refine x_thenR ?_
        obtain rfl := Option.some.inj h4
        exact b_ret1 (d := (.v (.bool false))) S rfl rfl fun ok => S.retX (Hx := []) hb _ _ (() : Unit) .nil ok
      · refine c_condF S rfl c3 ?_
        refine wp_skip ?_
        refine x_blockN ?_
        refine x_thenN ?_
        refine c_region' ?_
        refine s_bin S rfl rfl rfl rfl ?_; clear S a; intro a S
        refine s_move S rfl rfl ?_; clear S a; intro a S
        refine c_end' ?_
        refine x_thenN ?_
        exact ⟨_, (wr .i64 (y1 + 1)), g7, (S.sub ⟨rfl, rfl, rfl, rfl, trivial⟩ (.cons .here .nil)), h4⟩
    · refine c_condF S rfl c1 ?_
      refine wp_exit ?_
      refine x_thenX ?_
      refine x_thenX ?_
      refine x_blockX ?_
      refine x_thenN ?_
      exact j1 _ a w (S.sub trivial .nil) h1
/-! smithy/smithylaw29.BloomOf -/
abbrev smithylaw29_BloomOf.Ty : Type := (List ((List Int) × (List (List Int)) × (List Int))) → Option Bool
def smithylaw29_BloomOf.Ctr (s : smithylaw29_BloomOf.Ty) : Prop := ∀ (x1 : List ((List Int) × (List (List Int)) × (List Int))) (ch_0_0 : Option Addr) (ch_0_1 : Nat) (r : Bool) (h0 : s x1 = some r) (mi : Mem) (w0 : World) (G : Glob mi), okL mi [(.sl ch_0_0 (x1).length ch_0_1 (RdS (Ty.prod (Ty.arr .u8 20) (Ty.prod (Ty.slice (Ty.arr .u64 4)) (Ty.slice (Ty.int .u8)))) ch_0_0 x1))] → Pre mi [] w0 → Calls Tryd.prog 4 (([(.sl ch_0_0 (x1).length ch_0_1 (RdS (Ty.prod (Ty.arr .u8 20) (Ty.prod (Ty.slice (Ty.arr .u64 4)) (Ty.slice (Ty.int .u8)))) ch_0_0 x1))] : List D).map D.val).toArray w0 (RetX mi [] (fun (ch : Unit) => ((.v (.bool r)) : D)) (fun (ch : Unit) => []) w0)
def smithylaw29_BloomOf.j2 (k : Nat) (t3 : (List Int)) (t4 : (List Bool)) (y1 : Int) : Option Bool := (smithylaw29_fixed.f k).bind fun t5 => (if t5 = true then ((smithyref29_Same.f k t3 t4).bind fun t6 => (if t6 = true then ((bloom_Count.f k t3).bind fun t7 => (some (t7 == y1))) else (some false))) else (some false))
def smithylaw29_BloomOf.j3 (y5 : Int) (rec1 : Int → Option Bool) : Option Bool := rec1 (wr .i64 (y5 + 1))
def smithylaw29_BloomOf.b2 (k : Nat) (t3 : (List Int)) (y5 : Int) (rec1 : Int → Option Bool) (t9 : (List (List Int))) (rec2 : Int → Option Bool) (y9 : Int) : Option Bool := if (decide (y9 < ((t9).length : Int))) = true then (if (0 : Int) ≤ y9 ∧ y9 < ((t9).length : Int) then ((bloom_Has.f k t3 (gt t9 y9)).bind fun t12 => (if (!t12) = true then (some false) else (rec2 (wr .i64 (y9 + 1))))) else none) else (smithylaw29_BloomOf.j3 y5 rec1)
def smithylaw29_BloomOf.l2 (k : Nat) (t3 : (List Int)) (y5 : Int) (rec1 : Int → Option Bool) (t9 : (List (List Int))) : Nat → Int → Option Bool
  | 0, _ => none
  | q + 1, y9 => smithylaw29_BloomOf.b2 k t3 y5 rec1 t9 (smithylaw29_BloomOf.l2 k t3 y5 rec1 t9 q) y9
def smithylaw29_BloomOf.b1 (k : Nat) (x1 : List ((List Int) × (List (List Int)) × (List Int))) (t3 : (List Int)) (t4 : (List Bool)) (y1 : Int) (rec1 : Int → Option Bool) (y5 : Int) : Option Bool := if (decide (y5 < ((x1).length : Int))) = true then (if (0 : Int) ≤ y5 ∧ y5 < ((x1).length : Int) then ((smithyref29_Bytes.f k ((gt x1 y5).1, (gt x1 y5).2.1, (gt x1 y5).2.2)).bind fun t9 => (smithylaw29_BloomOf.l2 k t3 y5 rec1 t9 k 0)) else none) else (smithylaw29_BloomOf.j2 k t3 t4 y1)
def smithylaw29_BloomOf.l1 (k : Nat) (x1 : List ((List Int) × (List (List Int)) × (List Int))) (t3 : (List Int)) (t4 : (List Bool)) (y1 : Int) : Nat → Int → Option Bool
  | 0, _ => none
  | q + 1, y5 => smithylaw29_BloomOf.b1 k x1 t3 t4 y1 (smithylaw29_BloomOf.l1 k x1 t3 t4 y1 q) y5
def smithylaw29_BloomOf.j1 (k : Nat) (x1 : List ((List Int) × (List (List Int)) × (List Int))) (t3 : (List Int)) (t4 : (List Bool)) (y1 : Int) : Option Bool := smithylaw29_BloomOf.l1 k x1 t3 t4 y1 k 0
def smithylaw29_BloomOf.j4 (y14 : Int) (rec3 : Int → Int → Option Bool) (y16 : Int) : Option Bool := rec3 (wr .i64 (y14 + 1)) y16
def smithylaw29_BloomOf.b3 (k : Nat) (x1 : List ((List Int) × (List (List Int)) × (List Int))) (t3 : (List Int)) (t4 : (List Bool)) (rec3 : Int → Int → Option Bool) (y14 : Int) (y15 : Int) : Option Bool := if (decide (y14 < ((t4).length : Int))) = true then (if (0 : Int) ≤ y14 ∧ y14 < ((t4).length : Int) then (if (gt t4 y14) = true then (smithylaw29_BloomOf.j4 y14 rec3 (wr .i64 (y15 + 1))) else (smithylaw29_BloomOf.j4 y14 rec3 y15)) else none) else (smithylaw29_BloomOf.j1 k x1 t3 t4 y15)
def smithylaw29_BloomOf.l3 (k : Nat) (x1 : List ((List Int) × (List (List Int)) × (List Int))) (t3 : (List Int)) (t4 : (List Bool)) : Nat → Int → Int → Option Bool
  | 0, _, _ => none
  | q + 1, y14, y15 => smithylaw29_BloomOf.b3 k x1 t3 t4 (smithylaw29_BloomOf.l3 k x1 t3 t4 q) y14 y15
def smithylaw29_BloomOf.f (k : Nat) (x1 : List ((List Int) × (List (List Int)) × (List Int))) : Option Bool := (smithylaw29_great.f k x1).bind fun t1 => (if t1 = true then ((smithylaw29_fixed.f k).bind fun t2 => (some t2)) else ((bloom_Of.f k x1).bind fun t3 => ((smithyref29_Of.f k x1).bind fun t4 => (smithylaw29_BloomOf.l3 k x1 t3 t4 k 0 0))))
theorem smithylaw29_BloomOf.ok (k : Nat) : smithylaw29_BloomOf.Ctr (smithylaw29_BloomOf.f k) := by
  intro x1 ch_0_0 ch_0_1 r h0 mi w0 G ok hm
  delta smithylaw29_BloomOf.f at h0
  refine c_enterX (n := 60) [(.sl ch_0_0 (x1).length ch_0_1 (RdS (Ty.prod (Ty.arr .u8 20) (Ty.prod (Ty.slice (Ty.arr .u64 4)) (Ty.slice (Ty.int .u8)))) ch_0_0 x1))] (l := [(0, (.sl ch_0_0 (x1).length ch_0_1 (RdS (Ty.prod (Ty.arr .u8 20) (Ty.prod (Ty.slice (Ty.arr .u64 4)) (Ty.slice (Ty.int .u8)))) ch_0_0 x1)))]) Tryd.func4 rfl rfl rfl rfl ok hm ?_
  clear ok hm
  intro b0 hb a S
  refine c_region ?_
  refine s_assign S rfl rfl ?_; clear S a; intro a S
  refine c_end ?_
  refine wp_seq ?_
  refine c_region ?_
  refine s_move S rfl rfl ?_; clear S a; intro a S
  obtain ⟨t1, et1, h1⟩ := bind_of h0; clear h0
  refine s_callP S (fun (ch : Unit) => ((.v (.bool t1)) : D)) N7 rfl rfl (smithylaw29_great.ok k x1 ch_0_0 ch_0_1 t1 et1 _ _) ?_; clear S a; intro ch1 m le1 a w S
  refine c_end ?_
  rcases ite_of h1 with ⟨c1, h2⟩ | ⟨c1, h2⟩ <;> clear h1
  · refine c_condT S rfl c1 ?_
    refine c_region ?_
    obtain ⟨t2, et2, h3⟩ := bind_of h2; clear h2
    refine s_callP S (fun (ch : Unit) => ((.v (.bool t2)) : D)) N8 rfl rfl (smithylaw29_fixed.ok k t2 et2 _ _ (G.mono (S.leB hb))) ?_; clear S a w; intro ch2 m le1 a w S
    refine s_assign S rfl rfl ?_; clear S a; intro a S
    refine c_end ?_
    refine wp_ret ?_
    refine x_thenR ?_
    obtain rfl := Option.some.inj h3
    exact b_ret1 (d := (.v (.bool t2))) S rfl rfl fun ok => S.retX (Hx := []) hb _ _ (() : Unit) .nil ok
  · refine c_condF S rfl c1 ?_
    refine wp_skip ?_
    refine x_thenN ?_
    refine c_region ?_
    refine s_move S rfl rfl ?_; clear S a; intro a S
    obtain ⟨t3, et3, h3⟩ := bind_of h2; clear h2
    refine s_callP S (fun (ch : Unit) => ((.agg [.ints .u8 t3 256]) : D)) N11 rfl rfl (bloom_Of.ok k x1 ch_0_0 ch_0_1 t3 et3 _ _ (G.mono (S.leB hb))) ?_; clear S a w; intro ch3 m le1 a w S
    refine s_alloc S Z24 rfl ⟨rfl, trivial⟩ rfl ?_; clear S a w; intro g1 a w S
    refine s_store S rfl rfl rfl (s' := [.ints .u8 t3 256]) .here T24 rfl rfl ?_; clear S w; intro w S
    refine c_end ?_
    refine c_region ?_
    refine s_move S rfl rfl ?_; clear S a; intro a S
    obtain ⟨t4, et4, h4⟩ := bind_of h3; clear h3
    refine s_callR S (fun (ch : (Option Addr) × Nat × Nat) => ((.v (.slice ch.1 ch.2.1 ch.2.2)) : D)) (fun (ch : (Option Addr) × Nat × Nat) => Res.row Ty.bool 4 ch.1 ch.2.1 ch.2.2 t4) N12 rfl rfl (smithyref29_Of.ok k x1 ch_0_0 ch_0_1 t4 et4 _ _) ?_; clear S a w; intro ch4 m le1 a w S
    refine s_assign S rfl rfl ?_; clear S a; intro a S
    refine c_end ?_
    refine c_region ?_
    refine s_assign S rfl rfl ?_; clear S a; intro a S
    refine c_end ?_
    refine wp_seq_k ?_
    intro K1 hK1
    have j1 : ∀ (m : Mem) (y1 : Int) (A1 : Option Addr) (nn1 : Nat) (cp1 : Nat) (g9 : Nat) (a : Act) (w : World), St 60 m b0 [(5, (.v (.int .i64 y1))), (4, (.v (.slice A1 nn1 cp1))), (3, (.v (.pointer (some ⟨g9, 0, none⟩)))), (0, (.sl ch_0_0 (x1).length ch_0_1 (RdS (Ty.prod (Ty.arr .u8 20) (Ty.prod (Ty.slice (Ty.arr .u64 4)) (Ty.slice (Ty.int .u8)))) ch_0_0 x1)))] [Res.row Ty.bool 4 A1 nn1 cp1 t4, Res.cells g9 24 [.ints .u8 t3 256]] a w → smithylaw29_BloomOf.j1 k x1 t3 t4 y1 = some r → K1 a w := by
      intro m y1 A1 nn1 cp1 g9 a w S h0
      delta smithylaw29_BloomOf.j1 at h0
      refine hK1 a w ?_
      refine wp_seq_k ?_
      intro K2 hK2
      have j2 : ∀ (m : Mem) (g27 : Nat) (a : Act) (w : World), St 60 m b0 [(5, (.v (.int .i64 y1))), (4, (.v (.slice A1 nn1 cp1))), (3, (.v (.pointer (some ⟨g27, 0, none⟩))))] [Res.row Ty.bool 4 A1 nn1 cp1 t4, Res.cells g27 24 [.ints .u8 t3 256]] a w → smithylaw29_BloomOf.j2 k t3 t4 y1 = some r → K2 a w := by
        intro m g27 a w S h0
        delta smithylaw29_BloomOf.j2 at h0
        refine hK2 a w ?_
        refine c_region ?_
        obtain ⟨t5, et5, h1⟩ := bind_of h0; clear h0
        refine s_callP S (fun (ch : Unit) => ((.v (.bool t5)) : D)) N8 rfl rfl (smithylaw29_fixed.ok k t5 et5 _ _ (G.mono (S.leB hb))) ?_; clear S a w; intro ch5 m le1 a w S
        refine s_move S rfl rfl ?_; clear S a; intro a S
        rcases ite_of h1 with ⟨c2, h2⟩ | ⟨c2, h2⟩ <;> clear h1
        · refine s_gT S (b := t5) rfl rfl c2 ?_
          refine s_loada S rfl (.there .here) T24 (s' := [.ints .u8 t3 256]) rfl rfl ?_; clear S a; intro a S
          refine s_gT S (b := t5) rfl rfl c2 ?_
          refine s_move S rfl rfl ?_; clear S a; intro a S
          refine s_gT S (b := t5) rfl rfl c2 ?_
          replace S := S.rowfro .here
          obtain ⟨m, le1, S, hro⟩ := S
          replace S := S.slotro (u := 51) rfl hro
          replace S := S.slotro (u := 4) rfl hro
          obtain ⟨t6, et6, h3⟩ := bind_of h2; clear h2
          refine s_callP S (fun (ch : Unit) => ((.v (.bool t6)) : D)) N15 rfl rfl (smithyref29_Same.ok k t3 t4 A1 cp1 t6 et6 _ _) ?_; clear S a w; intro ch6 m le1 a w S
          refine s_pick S (b := true) (hc_of rfl c2) rfl rfl ?_; clear S a; intro a S
          refine s_move S rfl rfl ?_; clear S a; intro a S
          rcases ite_of h3 with ⟨c3, h4⟩ | ⟨c3, h4⟩ <;> clear h3
          · refine s_gT S (b := t6) rfl rfl c3 ?_
            refine s_loada S rfl .here T24 (s' := [.ints .u8 t3 256]) rfl rfl ?_; clear S a; intro a S
            refine s_gT S (b := t6) rfl rfl c3 ?_
            obtain ⟨t7, et7, h5⟩ := bind_of h4; clear h4
            refine s_callP S (fun (ch : Unit) => ((.v (.int .i64 t7)) : D)) N16 rfl rfl (bloom_Count.ok k t3 t7 et7 _ _) ?_; clear S a w; intro ch7 m le1 a w S
            refine s_gT S (b := t6) rfl rfl c3 ?_
            refine s_move S rfl rfl ?_; clear S a; intro a S
            refine s_gT S (b := t6) rfl rfl c3 ?_
            refine s_bin S rfl rfl rfl rfl ?_; clear S a; intro a S
            refine s_pick S (b := true) (hc_of rfl c3) rfl rfl ?_; clear S a; intro a S
            refine s_assign S rfl rfl ?_; clear S a; intro a S
            refine c_end ?_
            refine wp_ret ?_
            obtain rfl := Option.some.inj h5
            exact b_ret1 (d := (.v (.bool (t7 == y1)))) S rfl rfl fun ok => S.retX (Hx := []) hb _ _ (() : Unit) .nil ok
          · refine s_gF S (b := t6) rfl rfl c3 rfl ?_; clear S a; intro a S
            refine s_gF S (b := t6) rfl rfl c3 rfl ?_; clear S a; intro a S
            refine s_gF S (b := t6) rfl rfl c3 rfl ?_; clear S a; intro a S
            refine s_gF S (b := t6) rfl rfl c3 rfl ?_; clear S a; intro a S
            refine s_pick S (b := false) (hc_of rfl c3) rfl rfl ?_; clear S a; intro a S
            refine s_assign S rfl rfl ?_; clear S a; intro a S
            refine c_end ?_
            refine wp_ret ?_
            obtain rfl := Option.some.inj h4
            exact b_ret1 (d := (.v (.bool false))) S rfl rfl fun ok => S.retX (Hx := []) hb _ _ (() : Unit) .nil ok
        · refine s_gF S (b := t5) rfl rfl c2 rfl ?_; clear S a; intro a S
          refine s_gF S (b := t5) rfl rfl c2 rfl ?_; clear S a; intro a S
          refine s_gF S (b := t5) rfl rfl c2 rfl ?_; clear S a; intro a S
          refine s_pick S (b := false) (hc_of rfl c2) rfl rfl ?_; clear S a; intro a S
          refine s_move S rfl rfl ?_; clear S a; intro a S
          refine s_gF S (b := false) rfl rfl rfl rfl ?_; clear S a; intro a S
          refine s_gF S (b := false) rfl rfl rfl rfl ?_; clear S a; intro a S
          refine s_gF S (b := false) rfl rfl rfl rfl ?_; clear S a; intro a S
          refine s_gF S (b := false) rfl rfl rfl rfl ?_; clear S a; intro a S
          refine s_pick S (b := false) (hc_of rfl rfl) rfl rfl ?_; clear S a; intro a S
          refine s_assign S rfl rfl ?_; clear S a; intro a S
          refine c_end ?_
          refine wp_ret ?_
          obtain rfl := Option.some.inj h2
          exact b_ret1 (d := (.v (.bool false))) S rfl rfl fun ok => S.retX (Hx := []) hb _ _ (() : Unit) .nil ok
      refine c_region ?_
      refine s_move S rfl rfl ?_; clear S a; intro a S
      refine s_lenS S rfl Tryd.underlying22 rfl ?_; clear S a; intro a S
      refine s_move S rfl rfl ?_; clear S a; intro a S
      refine c_end ?_
      refine wp_block ?_
      refine c_loop (fun q1 a w => ∃ (m : Mem) (y5 : Int) (g44 : Nat), St 60 m b0 [(31, (.v (.int .i64 y5))), (30, (.v (.int .i64 ((x1).length : Int)))), (29, (.sl ch_0_0 (x1).length ch_0_1 (RdS (Ty.prod (Ty.arr .u8 20) (Ty.prod (Ty.slice (Ty.arr .u64 4)) (Ty.slice (Ty.int .u8)))) ch_0_0 x1))), (5, (.v (.int .i64 y1))), (4, (.v (.slice A1 nn1 cp1))), (3, (.v (.pointer (some ⟨g44, 0, none⟩))))] [Res.row Ty.bool 4 A1 nn1 cp1 t4, Res.cells g44 24 [.ints .u8 t3 256]] a w ∧ smithylaw29_BloomOf.l1 k x1 t3 t4 y1 q1 y5 = some r) ?_ ?_ (k := k) ⟨_, 0, g9, (S.sub ⟨rfl, rfl, rfl, rfl, rfl, rfl, trivial⟩ (.cons .here (.cons .here .nil))), h0⟩
      · rintro a w ⟨m, y5, g44, S, h0⟩
        exact (nomatch (show (none : Option Bool) = some r from h0))
      · clear S h0
        rintro q1 a w ⟨m, y5, g44, S, h0⟩
        replace h0 : smithylaw29_BloomOf.b1 k x1 t3 t4 y1 (smithylaw29_BloomOf.l1 k x1 t3 t4 y1 q1) y5 = some r := h0
        delta smithylaw29_BloomOf.b1 at h0
        refine c_region ?_
        refine s_bin S rfl rfl rfl rfl ?_; clear S a; intro a S
        refine c_end ?_
        refine wp_seq ?_
        rcases ite_of h0 with ⟨c4, h1⟩ | ⟨c4, h1⟩ <;> clear h0
        · refine c_condT S rfl c4 ?_
          refine wp_skip ?_
          refine x_thenN ?_
          refine wp_seq_k ?_
          intro K3 hK3
          have j3 : ∀ (m : Mem) (g51 : Nat) (a : Act) (w : World), St 60 m b0 [(31, (.v (.int .i64 y5))), (30, (.v (.int .i64 ((x1).length : Int)))), (29, (.sl ch_0_0 (x1).length ch_0_1 (RdS (Ty.prod (Ty.arr .u8 20) (Ty.prod (Ty.slice (Ty.arr .u64 4)) (Ty.slice (Ty.int .u8)))) ch_0_0 x1))), (5, (.v (.int .i64 y1))), (4, (.v (.slice A1 nn1 cp1))), (3, (.v (.pointer (some ⟨g51, 0, none⟩))))] [Res.row Ty.bool 4 A1 nn1 cp1 t4, Res.cells g51 24 [.ints .u8 t3 256]] a w → smithylaw29_BloomOf.j3 y5 (smithylaw29_BloomOf.l1 k x1 t3 t4 y1 q1) = some r → K3 a w := by
            intro m g51 a w S h0
            delta smithylaw29_BloomOf.j3 at h0
            refine hK3 a w ?_
            refine c_region' ?_
            refine s_bin S rfl rfl rfl rfl ?_; clear S a; intro a S
            refine s_move S rfl rfl ?_; clear S a; intro a S
            refine c_end' ?_
            refine x_thenN ?_
            exact ⟨_, (wr .i64 (y5 + 1)), g51, (S.sub ⟨rfl, rfl, rfl, rfl, rfl, rfl, trivial⟩ (.cons .here (.cons .here .nil))), h0⟩
          refine wp_block ?_
          refine c_region ?_
          obtain ⟨c5, h2⟩ := chk_of h1; clear h1
          refine s_iaddrS S rfl rfl rfl Tryd.underlying22 T38 c5.1 c5.2 rfl ?_; clear S a; intro p1 a S
          refine s_ldA S (fun (c : Unit × (Option Addr × Nat) × (Option Addr × Nat)) => [.ints .u8 ((gt x1 y5).1) 20, .sl c.2.1.1 ((gt x1 y5).2.1).length c.2.1.2 (RdS (Ty.arr .u64 4) c.2.1.1 ((gt x1 y5).2.1)), .sl c.2.2.1 ((gt x1 y5).2.2).length c.2.2.2 (RdS (Ty.int .u8) c.2.2.1 ((gt x1 y5).2.2))]) rfl T38 (fun _ => rfl) rfl ?_; clear S a; intro ch8 a S
          refine s_alloc S Z38 rfl ⟨rfl, rfl, rfl, trivial⟩ rfl ?_; clear S a w; intro g52 a w S
          refine s_store S rfl rfl rfl (s' := [.ints .u8 ((gt x1 y5).1) 20, .sl ch8.2.1.1 ((gt x1 y5).2.1).length ch8.2.1.2 (RdS (Ty.arr .u64 4) ch8.2.1.1 ((gt x1 y5).2.1)), .sl ch8.2.2.1 ((gt x1 y5).2.2).length ch8.2.2.2 (RdS (Ty.int .u8) ch8.2.2.1 ((gt x1 y5).2.2))]) .here T38 rfl rfl ?_; clear S w; intro w S
          refine c_end ?_
          refine c_region ?_
          refine s_loada S rfl .here T38 (s' := [.ints .u8 ((gt x1 y5).1) 20, .sl ch8.2.1.1 ((gt x1 y5).2.1).length ch8.2.1.2 (RdS (Ty.arr .u64 4) ch8.2.1.1 ((gt x1 y5).2.1)), .sl ch8.2.2.1 ((gt x1 y5).2.2).length ch8.2.2.2 (RdS (Ty.int .u8) ch8.2.2.1 ((gt x1 y5).2.2))]) rfl rfl ?_; clear S a; intro a S
          obtain ⟨t9, et9, h3⟩ := bind_of h2; clear h2
          refine s_callR S (fun (ch : (Option Addr) × Nat × Nat) => ((.v (.slice ch.1 ch.2.1 ch.2.2)) : D)) (fun (ch : (Option Addr) × Nat × Nat) => Res.row (Ty.slice (Ty.int .u8)) 36 ch.1 ch.2.1 ch.2.2 t9) N13 rfl rfl (smithyref29_Bytes.ok k ((gt x1 y5).1, (gt x1 y5).2.1, (gt x1 y5).2.2) ch8.2.1.1 ch8.2.1.2 ch8.2.2.1 ch8.2.2.2 t9 et9 _ _) ?_; clear S a w; intro ch9 m le1 a w S
          refine s_lenO S rfl .here Tryd.underlying39 rfl ?_; clear S a; intro a S
          refine s_move S rfl rfl ?_; clear S a; intro a S
          refine c_end ?_
          refine wp_block ?_
          refine c_loop (fun q2 a w => ∃ (m : Mem) (y9 : Int) (A2 : Option Addr) (nn7 : Nat) (cp11 : Nat) (g57 : Nat), St 60 m b0 [(38, (.v (.int .i64 y9))), (37, (.v (.int .i64 ((t9).length : Int)))), (36, (.v (.slice A2 nn7 cp11))), (31, (.v (.int .i64 y5))), (30, (.v (.int .i64 ((x1).length : Int)))), (29, (.sl ch_0_0 (x1).length ch_0_1 (RdS (Ty.prod (Ty.arr .u8 20) (Ty.prod (Ty.slice (Ty.arr .u64 4)) (Ty.slice (Ty.int .u8)))) ch_0_0 x1))), (5, (.v (.int .i64 y1))), (4, (.v (.slice A1 nn1 cp1))), (3, (.v (.pointer (some ⟨g57, 0, none⟩))))] [Res.row (Ty.slice (Ty.int .u8)) 36 A2 nn7 cp11 t9, Res.row Ty.bool 4 A1 nn1 cp1 t4, Res.cells g57 24 [.ints .u8 t3 256]] a w ∧ smithylaw29_BloomOf.l2 k t3 y5 (smithylaw29_BloomOf.l1 k x1 t3 t4 y1 q1) t9 q2 y9 = some r) ?_ ?_ (k := k) ⟨_, 0, ch9.1, ch9.2.1, ch9.2.2, g44, (S.sub ⟨rfl, rfl, rfl, rfl, rfl, rfl, rfl, rfl, rfl, trivial⟩ (.cons .here (.cons (.there .here) (.cons (.there .here) .nil)))), h3⟩
          · rintro a w ⟨m, y9, A2, nn7, cp11, g57, S, h0⟩
            exact (nomatch (show (none : Option Bool) = some r from h0))
          · clear S h3
            rintro q2 a w ⟨m, y9, A2, nn7, cp11, g57, S, h0⟩
            replace h0 : smithylaw29_BloomOf.b2 k t3 y5 (smithylaw29_BloomOf.l1 k x1 t3 t4 y1 q1) t9 (smithylaw29_BloomOf.l2 k t3 y5 (smithylaw29_BloomOf.l1 k x1 t3 t4 y1 q1) t9 q2) y9 = some r := h0
            delta smithylaw29_BloomOf.b2 at h0
            refine c_region ?_
            refine s_bin S rfl rfl rfl rfl ?_; clear S a; intro a S
            refine c_end ?_
            refine wp_seq ?_
            rcases ite_of h0 with ⟨c6, h1⟩ | ⟨c6, h1⟩ <;> clear h0
            · refine c_condT S rfl c6 ?_
              refine wp_skip ?_
              refine x_thenN ?_
              refine wp_seq ?_
              refine wp_block ?_
              refine c_region ?_
              obtain ⟨c7, h2⟩ := chk_of h1; clear h1
              refine s_iaddrO S (ty' := (Ty.slice (Ty.int .u8))) rfl .here rfl Tryd.underlying39 T36 c7.1 c7.2 rfl ?_; clear S a; intro g58 a hA1 S
              refine s_ldRS S (ty' := (Ty.slice (Ty.int .u8))) (i := y9) (off := 0) (fun (c : Option Addr × Nat) => (c.1, c.2)) rfl hA1 .here T36 c7.1 c7.2 rfl (fun _ => rfl) rfl ?_; clear S a; intro A3 cp12 a S
              refine s_assign S rfl rfl ?_; clear S a; intro a S
              refine c_end ?_
              refine c_region ?_
              refine s_loada S rfl (.there (.there .here)) T24 (s' := [.ints .u8 t3 256]) rfl rfl ?_; clear S a; intro a S
              refine s_move S rfl rfl ?_; clear S a; intro a S
              obtain ⟨t12, et12, h3⟩ := bind_of h2; clear h2
              refine s_callP S (fun (ch : Unit) => ((.v (.bool t12)) : D)) N14 rfl rfl (bloom_Has.ok k t3 (gt t9 y9) A3 cp12 t12 et12 _ _ (G.mono (S.leB hb))) ?_; clear S a w; intro ch10 m le1 a w S
              refine s_not S rfl rfl ?_; clear S a; intro a S
              refine c_end ?_
              rcases ite_of h3 with ⟨c8, h4⟩ | ⟨c8, h4⟩ <;> clear h3
              · refine c_condT S rfl c8 ?_
                refine c_region ?_
                refine s_assign S rfl rfl ?_; clear S a; intro a S
                refine c_end ?_
                refine wp_ret ?_
                refine x_blockR ?_
                refine x_thenR ?_
                refine x_thenR ?_
                refine x_blockR ?_
                refine x_blockR ?_
                refine x_thenR ?_
                refine x_thenR ?_
                refine x_blockR ?_
                refine x_thenR ?_
                obtain rfl := Option.some.inj h4
                exact b_ret1 (d := (.v (.bool false))) S rfl rfl fun ok => S.retX (Hx := []) hb _ _ (() : Unit) .nil ok
              · refine c_condF S rfl c8 ?_
                refine wp_skip ?_
                refine x_blockN ?_
                refine x_thenN ?_
                refine c_region' ?_
                refine s_bin S rfl rfl rfl rfl ?_; clear S a; intro a S
                refine s_move S rfl rfl ?_; clear S a; intro a S
                refine c_end' ?_
                refine x_thenN ?_
                exact ⟨_, (wr .i64 (y9 + 1)), A2, nn7, cp11, g57, (S.sub ⟨rfl, rfl, rfl, rfl, rfl, rfl, rfl, rfl, rfl, trivial⟩ (.cons .here (.cons .here (.cons .here .nil)))), h4⟩
            · refine c_condF S rfl c6 ?_
              refine wp_exit ?_
              refine x_thenX ?_
              refine x_thenX ?_
              refine x_blockX ?_
              refine x_blockN ?_
              refine x_thenN ?_
              exact j3 _ g57 a w (S.sub ⟨rfl, rfl, rfl, rfl, rfl, rfl, trivial⟩ (.cons (.there .here) (.cons (.there .here) .nil))) h1
        · refine c_condF S rfl c4 ?_
          refine wp_exit ?_
          refine x_thenX ?_
          refine x_thenX ?_
          refine x_blockX ?_
          refine x_thenN ?_
          exact j2 _ g44 a w (S.sub ⟨rfl, rfl, rfl, trivial⟩ (.cons .here (.cons .here .nil))) h1
    refine c_region ?_
    refine s_move S rfl rfl ?_; clear S a; intro a S
    refine s_lenO S rfl .here Tryd.underlying31 rfl ?_; clear S a; intro a S
    refine s_move S rfl rfl ?_; clear S a; intro a S
    refine c_end ?_
    refine wp_block ?_
    refine c_loop (fun q3 a w => ∃ (m : Mem) (y14 : Int) (A4 : Option Addr) (nn10 : Nat) (cp15 : Nat) (y15 : Int) (g65 : Nat), St 60 m b0 [(21, (.v (.int .i64 y14))), (20, (.v (.int .i64 ((t4).length : Int)))), (19, (.v (.slice A4 nn10 cp15))), (5, (.v (.int .i64 y15))), (4, (.v (.slice A4 nn10 cp15))), (3, (.v (.pointer (some ⟨g65, 0, none⟩)))), (0, (.sl ch_0_0 (x1).length ch_0_1 (RdS (Ty.prod (Ty.arr .u8 20) (Ty.prod (Ty.slice (Ty.arr .u64 4)) (Ty.slice (Ty.int .u8)))) ch_0_0 x1)))] [Res.row Ty.bool 4 A4 nn10 cp15 t4, Res.cells g65 24 [.ints .u8 t3 256]] a w ∧ smithylaw29_BloomOf.l3 k x1 t3 t4 q3 y14 y15 = some r) ?_ ?_ (k := k) ⟨_, 0, ch4.1, ch4.2.1, ch4.2.2, 0, g1, (S.sub ⟨rfl, rfl, rfl, rfl, rfl, rfl, rfl, trivial⟩ (.cons .here (.cons .here .nil))), h4⟩
    · rintro a w ⟨m, y14, A4, nn10, cp15, y15, g65, S, h0⟩
      exact (nomatch (show (none : Option Bool) = some r from h0))
    · clear S h4
      rintro q3 a w ⟨m, y14, A4, nn10, cp15, y15, g65, S, h0⟩
      replace h0 : smithylaw29_BloomOf.b3 k x1 t3 t4 (smithylaw29_BloomOf.l3 k x1 t3 t4 q3) y14 y15 = some r := h0
      delta smithylaw29_BloomOf.b3 at h0
      refine c_region ?_
      refine s_bin S rfl rfl rfl rfl ?_; clear S a; intro a S
      refine c_end ?_
      refine wp_seq ?_
      rcases ite_of h0 with ⟨c9, h1⟩ | ⟨c9, h1⟩ <;> clear h0
      · refine c_condT S rfl c9 ?_
        refine wp_skip ?_
        refine x_thenN ?_
        refine wp_seq_k ?_
        intro K4 hK4
        have j4 : ∀ (m : Mem) (y16 : Int) (g67 : Nat) (a : Act) (w : World), St 60 m b0 [(5, (.v (.int .i64 y16))), (21, (.v (.int .i64 y14))), (20, (.v (.int .i64 ((t4).length : Int)))), (19, (.v (.slice A4 nn10 cp15))), (4, (.v (.slice A4 nn10 cp15))), (3, (.v (.pointer (some ⟨g67, 0, none⟩)))), (0, (.sl ch_0_0 (x1).length ch_0_1 (RdS (Ty.prod (Ty.arr .u8 20) (Ty.prod (Ty.slice (Ty.arr .u64 4)) (Ty.slice (Ty.int .u8)))) ch_0_0 x1)))] [Res.row Ty.bool 4 A4 nn10 cp15 t4, Res.cells g67 24 [.ints .u8 t3 256]] a w → smithylaw29_BloomOf.j4 y14 (smithylaw29_BloomOf.l3 k x1 t3 t4 q3) y16 = some r → K4 a w := by
          intro m y16 g67 a w S h0
          delta smithylaw29_BloomOf.j4 at h0
          refine hK4 a w ?_
          refine c_region' ?_
          refine s_bin S rfl rfl rfl rfl ?_; clear S a; intro a S
          refine s_move S rfl rfl ?_; clear S a; intro a S
          refine c_end' ?_
          refine x_thenN ?_
          exact ⟨_, (wr .i64 (y14 + 1)), A4, nn10, cp15, y16, g67, (S.sub ⟨rfl, rfl, rfl, rfl, rfl, rfl, rfl, trivial⟩ (.cons .here (.cons .here .nil))), h0⟩
        refine wp_block ?_
        refine c_region ?_
        obtain ⟨c10, h2⟩ := chk_of h1; clear h1
        refine s_iaddrO S (ty' := Ty.bool) rfl .here rfl Tryd.underlying31 T4 c10.1 c10.2 rfl ?_; clear S a; intro g68 a hA2 S
        refine s_ldR1 S (ty' := Ty.bool) (i := y14) (off := 0) (v := (.bool (gt t4 y14))) rfl hA2 .here T4 c10.1 c10.2 rfl (fun _ => rfl) rfl ?_; clear S a; intro a S
        refine s_assign S rfl rfl ?_; clear S a; intro a S
        refine c_end ?_
        refine c_region ?_
        refine s_move S rfl rfl ?_; clear S a; intro a S
        refine c_end ?_
        rcases ite_of h2 with ⟨c11, h3⟩ | ⟨c11, h3⟩ <;> clear h2
        · refine c_condT S rfl c11 ?_
          refine c_region' ?_
          refine s_move S rfl rfl ?_; clear S a; intro a S
          refine s_bin S rfl rfl rfl rfl ?_; clear S a; intro a S
          refine s_assign S rfl rfl ?_; clear S a; intro a S
          refine c_end' ?_
          refine x_blockN ?_
          refine x_thenN ?_
          exact j4 _ (wr .i64 (y15 + 1)) g65 a w (S.sub ⟨rfl, rfl, rfl, rfl, rfl, rfl, rfl, trivial⟩ (.cons .here (.cons .here .nil))) h3
        · refine c_condF S rfl c11 ?_
          refine wp_skip ?_
          refine x_blockN ?_
          refine x_thenN ?_
          exact j4 _ y15 g65 a w (S.sub ⟨rfl, rfl, rfl, rfl, rfl, rfl, rfl, trivial⟩ (.cons .here (.cons .here .nil))) h3
      · refine c_condF S rfl c9 ?_
        refine wp_exit ?_
        refine x_thenX ?_
        refine x_thenX ?_
        refine x_blockX ?_
        refine x_thenN ?_
        exact j1 _ y15 A4 nn10 cp15 g65 a w (S.sub ⟨rfl, rfl, rfl, rfl, trivial⟩ (.cons .here (.cons .here .nil))) h1
/-! smithy/smithylaw29.BloomHas -/
abbrev smithylaw29_BloomHas.Ty : Type := (List Int) → (List Int) → Option Bool
def smithylaw29_BloomHas.Ctr (s : smithylaw29_BloomHas.Ty) : Prop := ∀ (x1 : List Int) (x2 : List Int) (ch_1_0 : Option Addr) (ch_1_1 : Nat) (r : Bool) (h0 : s x1 x2 = some r) (mi : Mem) (w0 : World) (G : Glob mi), okL mi [(.agg [.ints .u8 x1 256]), (.sl ch_1_0 (x2).length ch_1_1 (RdS (Ty.int .u8) ch_1_0 x2))] → Pre mi [] w0 → Calls Tryd.prog 5 (([(.agg [.ints .u8 x1 256]), (.sl ch_1_0 (x2).length ch_1_1 (RdS (Ty.int .u8) ch_1_0 x2))] : List D).map D.val).toArray w0 (RetX mi [] (fun (ch : Unit) => ((.v (.bool r)) : D)) (fun (ch : Unit) => []) w0)
def smithylaw29_BloomHas.j2 (k : Nat) (x1 : List Int) (x2 : List Int) (y1 : Bool) (t3 : (List Int)) : Option Bool := (smithylaw29_fixed.f k).bind fun t5 => (if t5 = true then ((bloom_Has.f k x1 x2).bind fun t6 => (if (t6 == y1) = true then ((bloom_Has.f k t3 x2).bind fun t7 => (some t7)) else (some false))) else (some false))
def smithylaw29_BloomHas.j3 (y9 : Int) (rec1 : Int → Option Bool) (y10 : Bool) : Option Bool := if y10 = true then (some false) else (rec1 (wr .i64 (y9 + 1)))
def smithylaw29_BloomHas.b1 (k : Nat) (x1 : List Int) (x2 : List Int) (y1 : Bool) (t3 : (List Int)) (t4 : (List Bool)) (rec1 : Int → Option Bool) (y9 : Int) : Option Bool := if (decide (y9 < ((t4).length : Int))) = true then (if (0 : Int) ≤ y9 ∧ y9 < ((t4).length : Int) then ((smithyref29_Bit.f k t3 y9).bind fun t10 => (if (gt t4 y9) = true then (smithylaw29_BloomHas.j3 y9 rec1 (!(t10 == true))) else ((smithyref29_Bit.f k x1 y9).bind fun t11 => (smithylaw29_BloomHas.j3 y9 rec1 (!(t10 == t11)))))) else none) else (smithylaw29_BloomHas.j2 k x1 x2 y1 t3)
def smithylaw29_BloomHas.l1 (k : Nat) (x1 : List Int) (x2 : List Int) (y1 : Bool) (t3 : (List Int)) (t4 : (List Bool)) : Nat → Int → Option Bool
  | 0, _ => none
  | q + 1, y9 => smithylaw29_BloomHas.b1 k x1 x2 y1 t3 t4 (smithylaw29_BloomHas.l1 k x1 x2 y1 t3 t4 q) y9
def smithylaw29_BloomHas.j1 (k : Nat) (x1 : List Int) (x2 : List Int) (y1 : Bool) : Option Bool := (bloom_Add.f k x1 x2).bind fun t3 => ((smithyref29_Set.f k [x2]).bind fun t4 => (smithylaw29_BloomHas.l1 k x1 x2 y1 t3 t4 k 0))
def smithylaw29_BloomHas.j4 (y14 : Int) (rec2 : Int → Bool → Option Bool) (y16 : Bool) : Option Bool := rec2 (wr .i64 (y14 + 1)) y16
def smithylaw29_BloomHas.b2 (k : Nat) (x1 : List Int) (x2 : List Int) (t12 : (List Int)) (rec2 : Int → Bool → Option Bool) (y14 : Int) (y15 : Bool) : Option Bool := if (decide (y14 < ((t12).length : Int))) = true then (if (0 : Int) ≤ y14 ∧ y14 < ((t12).length : Int) then (if y15 = true then ((smithyref29_Bit.f k x1 (rd t12 y14)).bind fun t15 => (smithylaw29_BloomHas.j4 y14 rec2 t15)) else (smithylaw29_BloomHas.j4 y14 rec2 false)) else none) else (smithylaw29_BloomHas.j1 k x1 x2 y15)
def smithylaw29_BloomHas.l2 (k : Nat) (x1 : List Int) (x2 : List Int) (t12 : (List Int)) : Nat → Int → Bool → Option Bool
  | 0, _, _ => none
  | q + 1, y14, y15 => smithylaw29_BloomHas.b2 k x1 x2 t12 (smithylaw29_BloomHas.l2 k x1 x2 t12 q) y14 y15
def smithylaw29_BloomHas.f (k : Nat) (x1 : List Int) (x2 : List Int) : Option Bool := if (decide (1000 < ((x2).length : Int))) = true then ((smithylaw29_fixed.f k).bind fun t1 => (some t1)) else ((smithyref29_Places.f k x2).bind fun t12 => (smithylaw29_BloomHas.l2 k x1 x2 t12 k 0 true))
theorem smithylaw29_BloomHas.ok (k : Nat) : smithylaw29_BloomHas.Ctr (smithylaw29_BloomHas.f k) := by
  intro x1 x2 ch_1_0 ch_1_1 r h0 mi w0 G ok hm
  delta smithylaw29_BloomHas.f at h0
  refine c_enterX (n := 67) [(.agg [.ints .u8 x1 256]), (.sl ch_1_0 (x2).length ch_1_1 (RdS (Ty.int .u8) ch_1_0 x2))] (l := [(0, (.agg [.ints .u8 x1 256])), (1, (.sl ch_1_0 (x2).length ch_1_1 (RdS (Ty.int .u8) ch_1_0 x2)))]) Tryd.func5 rfl rfl rfl rfl ok hm ?_
  clear ok hm
  intro b0 hb a S
  refine c_region ?_
  refine s_box S rfl rfl rfl ?_; clear S a; intro g1 a w S
  refine s_assign S rfl rfl ?_; clear S a; intro a S
  refine c_end ?_
  refine wp_seq ?_
  refine c_region ?_
  refine s_move S rfl rfl ?_; clear S a; intro a S
  refine s_lenS S rfl Tryd.underlying36 rfl ?_; clear S a; intro a S
  refine s_bin S rfl rfl rfl rfl ?_; clear S a; intro a S
  refine c_end ?_
  rcases ite_of h0 with ⟨c1, h1⟩ | ⟨c1, h1⟩ <;> clear h0
  · refine c_condT S rfl c1 ?_
    refine c_region ?_
    obtain ⟨t1, et1, h2⟩ := bind_of h1; clear h1
    refine s_callP S (fun (ch : Unit) => ((.v (.bool t1)) : D)) N8 rfl rfl (smithylaw29_fixed.ok k t1 et1 _ _ (G.mono (S.leB hb))) ?_; clear S a w; intro ch1 m le1 a w S
    refine s_assign S rfl rfl ?_; clear S a; intro a S
    refine c_end ?_
    refine wp_ret ?_
    refine x_thenR ?_
    obtain rfl := Option.some.inj h2
    exact b_ret1 (d := (.v (.bool t1))) S rfl rfl fun ok => S.retX (Hx := []) hb _ _ (() : Unit) .nil ok
  · refine c_condF S rfl c1 ?_
    refine wp_skip ?_
    refine x_thenN ?_
    refine c_region ?_
    refine s_assign S rfl rfl ?_; clear S a; intro a S
    refine c_end ?_
    refine wp_seq_k ?_
    intro K1 hK1
    have j1 : ∀ (m : Mem) (y1 : Bool) (g8 : Nat) (a : Act) (w : World), St 67 m b0 [(5, (.v (.bool y1))), (2, (.v (.pointer (some ⟨g8, 0, none⟩)))), (1, (.sl ch_1_0 (x2).length ch_1_1 (RdS (Ty.int .u8) ch_1_0 x2)))] [Res.cells g8 24 [.ints .u8 x1 256]] a w → smithylaw29_BloomHas.j1 k x1 x2 y1 = some r → K1 a w := by
      intro m y1 g8 a w S h0
      delta smithylaw29_BloomHas.j1 at h0
      refine hK1 a w ?_
      refine c_region ?_
      refine s_loada S rfl .here T24 (s' := [.ints .u8 x1 256]) rfl rfl ?_; clear S a; intro a S
      refine s_move S rfl rfl ?_; clear S a; intro a S
      obtain ⟨t3, et3, h1⟩ := bind_of h0; clear h0
      refine s_callP S (fun (ch : Unit) => ((.agg [.ints .u8 t3 256]) : D)) N18 rfl rfl (bloom_Add.ok k x1 x2 ch_1_0 ch_1_1 t3 et3 _ _ (G.mono (S.leB hb))) ?_; clear S a w; intro ch2 m le1 a w S
      refine s_alloc S Z24 rfl ⟨rfl, trivial⟩ rfl ?_; clear S a w; intro g9 a w S
      refine s_store S rfl rfl rfl (s' := [.ints .u8 t3 256]) .here T24 rfl rfl ?_; clear S w; intro w S
      refine c_end ?_
      refine c_region ?_
      refine s_move S rfl rfl ?_; clear S a; intro a S
      refine s_bldSl S (ty' := (Ty.slice (Ty.int .u8))) (ds := [(0, (.sl ch_1_0 (x2).length ch_1_1 (RdS (Ty.int .u8) ch_1_0 x2)))]) (z := ([] : List Int)) (c0 := (none, 0)) (ys := [x2]) (cs := [(ch_1_0, ch_1_1)]) rfl Tryd.underlying39 J36 Z36 rfl ⟨⟨Nat.le_refl _, Nat.zero_le _, RdS.nil _ _ _, RdS.mono _ _ _⟩, trivial⟩ rfl rfl rfl rfl rfl rfl ?_; clear S a w; intro g10 a w S
      replace S := S.rowfro .here
      obtain ⟨m, le1, S, hro⟩ := S
      replace S := S.slotro (u := 33) rfl hro
      obtain ⟨t4, et4, h2⟩ := bind_of h1; clear h1
      refine s_callR S (fun (ch : (Option Addr) × Nat × Nat) => ((.v (.slice ch.1 ch.2.1 ch.2.2)) : D)) (fun (ch : (Option Addr) × Nat × Nat) => Res.row Ty.bool 4 ch.1 ch.2.1 ch.2.2 t4) N19 rfl rfl (smithyref29_Set.ok k [x2] (some ⟨g10, 0, none⟩) 1 t4 et4 _ _) ?_; clear S a w; intro ch3 m le1 a w S
      refine s_assign S rfl rfl ?_; clear S a; intro a S
      refine c_end ?_
      refine wp_seq_k ?_
      intro K2 hK2
      have j2 : ∀ (m : Mem) (g23 : Nat) (g24 : Nat) (a : Act) (w : World), St 67 m b0 [(8, (.v (.pointer (some ⟨g23, 0, none⟩)))), (5, (.v (.bool y1))), (2, (.v (.pointer (some ⟨g24, 0, none⟩)))), (1, (.sl ch_1_0 (x2).length ch_1_1 (RdS (Ty.int .u8) ch_1_0 x2)))] [Res.cells g23 24 [.ints .u8 t3 256], Res.cells g24 24 [.ints .u8 x1 256]] a w → smithylaw29_BloomHas.j2 k x1 x2 y1 t3 = some r → K2 a w := by
        intro m g23 g24 a w S h0
        delta smithylaw29_BloomHas.j2 at h0
        refine hK2 a w ?_
        refine c_region ?_
        obtain ⟨t5, et5, h1⟩ := bind_of h0; clear h0
        refine s_callP S (fun (ch : Unit) => ((.v (.bool t5)) : D)) N8 rfl rfl (smithylaw29_fixed.ok k t5 et5 _ _ (G.mono (S.leB hb))) ?_; clear S a w; intro ch4 m le1 a w S
        refine s_move S rfl rfl ?_; clear S a; intro a S
        rcases ite_of h1 with ⟨c2, h2⟩ | ⟨c2, h2⟩ <;> clear h1
        · refine s_gT S (b := t5) rfl rfl c2 ?_
          refine s_loada S rfl (.there .here) T24 (s' := [.ints .u8 x1 256]) rfl rfl ?_; clear S a; intro a S
          refine s_gT S (b := t5) rfl rfl c2 ?_
          refine s_move S rfl rfl ?_; clear S a; intro a S
          refine s_gT S (b := t5) rfl rfl c2 ?_
          obtain ⟨t6, et6, h3⟩ := bind_of h2; clear h2
          refine s_callP S (fun (ch : Unit) => ((.v (.bool t6)) : D)) N14 rfl rfl (bloom_Has.ok k x1 x2 ch_1_0 ch_1_1 t6 et6 _ _ (G.mono (S.leB hb))) ?_; clear S a w; intro ch5 m le1 a w S
          refine s_gT S (b := t5) rfl rfl c2 ?_
          refine s_move S rfl rfl ?_; clear S a; intro a S
          refine s_gT S (b := t5) rfl rfl c2 ?_
          refine s_eqb S rfl rfl Tryd.underlying4 rfl ?_; clear S a; intro a S
          refine s_pick S (b := true) (hc_of rfl c2) rfl rfl ?_; clear S a; intro a S
          refine s_move S rfl rfl ?_; clear S a; intro a S
          rcases ite_of h3 with ⟨c3, h4⟩ | ⟨c3, h4⟩ <;> clear h3
          · refine s_gT S (b := (t6 == y1)) rfl rfl c3 ?_
            refine s_loada S rfl .here T24 (s' := [.ints .u8 t3 256]) rfl rfl ?_; clear S a; intro a S
            refine s_gT S (b := (t6 == y1)) rfl rfl c3 ?_
            refine s_move S rfl rfl ?_; clear S a; intro a S
            refine s_gT S (b := (t6 == y1)) rfl rfl c3 ?_
            obtain ⟨t7, et7, h5⟩ := bind_of h4; clear h4
            refine s_callP S (fun (ch : Unit) => ((.v (.bool t7)) : D)) N14 rfl rfl (bloom_Has.ok k t3 x2 ch_1_0 ch_1_1 t7 et7 _ _ (G.mono (S.leB hb))) ?_; clear S a w; intro ch6 m le1 a w S
            refine s_pick S (b := true) (hc_of rfl c3) rfl rfl ?_; clear S a; intro a S
            refine s_assign S rfl rfl ?_; clear S a; intro a S
            refine c_end ?_
            refine wp_ret ?_
            obtain rfl := Option.some.inj h5
            exact b_ret1 (d := (.v (.bool t7))) S rfl rfl fun ok => S.retX (Hx := []) hb _ _ (() : Unit) .nil ok
          · refine s_gF S (b := (t6 == y1)) rfl rfl c3 rfl ?_; clear S a; intro a S
            refine s_gF S (b := (t6 == y1)) rfl rfl c3 rfl ?_; clear S a; intro a S
            refine s_gF S (b := (t6 == y1)) rfl rfl c3 rfl ?_; clear S a; intro a S
            refine s_pick S (b := false) (hc_of rfl c3) rfl rfl ?_; clear S a; intro a S
            refine s_assign S rfl rfl ?_; clear S a; intro a S
            refine c_end ?_
            refine wp_ret ?_
            obtain rfl := Option.some.inj h4
            exact b_ret1 (d := (.v (.bool false))) S rfl rfl fun ok => S.retX (Hx := []) hb _ _ (() : Unit) .nil ok
        · refine s_gF S (b := t5) rfl rfl c2 rfl ?_; clear S a; intro a S
          refine s_gF S (b := t5) rfl rfl c2 rfl ?_; clear S a; intro a S
          refine s_gF S (b := t5) rfl rfl c2 rfl ?_; clear S a; intro a S
          refine s_gF S (b := t5) rfl rfl c2 rfl ?_; clear S a; intro a S
          refine s_gF S (b := t5) rfl rfl c2 rfl ?_; clear S a; intro a S
          refine s_pick S (b := false) (hc_of rfl c2) rfl rfl ?_; clear S a; intro a S
          refine s_move S rfl rfl ?_; clear S a; intro a S
          refine s_gF S (b := false) rfl rfl rfl rfl ?_; clear S a; intro a S
          refine s_gF S (b := false) rfl rfl rfl rfl ?_; clear S a; intro a S
          refine s_gF S (b := false) rfl rfl rfl rfl ?_; clear S a; intro a S
          refine s_pick S (b := false) (hc_of rfl rfl) rfl rfl ?_; clear S a; intro a S
          refine s_assign S rfl rfl ?_; clear S a; intro a S
          refine c_end ?_
          refine wp_ret ?_
          obtain rfl := Option.some.inj h2
          exact b_ret1 (d := (.v (.bool false))) S rfl rfl fun ok => S.retX (Hx := []) hb _ _ (() : Unit) .nil ok
      refine c_region ?_
      refine s_move S rfl rfl ?_; clear S a; intro a S
      refine s_lenO S rfl .here Tryd.underlying31 rfl ?_; clear S a; intro a S
      refine s_move S rfl rfl ?_; clear S a; intro a S
      refine c_end ?_
      refine wp_block ?_
      refine c_loop (fun q1 a w => ∃ (m : Mem) (y9 : Int) (A1 : Option Addr) (nn1 : Nat) (cp1 : Nat) (g35 : Nat) (g36 : Nat), St 67 m b0 [(37, (.v (.int .i64 y9))), (36, (.v (.int .i64 ((t4).length : Int)))), (9, (.v (.slice A1 nn1 cp1))), (8, (.v (.pointer (some ⟨g35, 0, none⟩)))), (5, (.v (.bool y1))), (2, (.v (.pointer (some ⟨g36, 0, none⟩)))), (1, (.sl ch_1_0 (x2).length ch_1_1 (RdS (Ty.int .u8) ch_1_0 x2)))] [Res.row Ty.bool 4 A1 nn1 cp1 t4, Res.cells g35 24 [.ints .u8 t3 256], Res.cells g36 24 [.ints .u8 x1 256]] a w ∧ smithylaw29_BloomHas.l1 k x1 x2 y1 t3 t4 q1 y9 = some r) ?_ ?_ (k := k) ⟨_, 0, ch3.1, ch3.2.1, ch3.2.2, g9, g8, (S.sub ⟨rfl, rfl, rfl, rfl, rfl, rfl, rfl, trivial⟩ (.cons .here (.cons .here (.cons .here .nil)))), h2⟩
      · rintro a w ⟨m, y9, A1, nn1, cp1, g35, g36, S, h0⟩
        exact (nomatch (show (none : Option Bool) = some r from h0))
      · clear S h2
        rintro q1 a w ⟨m, y9, A1, nn1, cp1, g35, g36, S, h0⟩
        replace h0 : smithylaw29_BloomHas.b1 k x1 x2 y1 t3 t4 (smithylaw29_BloomHas.l1 k x1 x2 y1 t3 t4 q1) y9 = some r := h0
        delta smithylaw29_BloomHas.b1 at h0
        refine c_region ?_
        refine s_bin S rfl rfl rfl rfl ?_; clear S a; intro a S
        refine c_end ?_
        refine wp_seq ?_
        rcases ite_of h0 with ⟨c4, h1⟩ | ⟨c4, h1⟩ <;> clear h0
        · refine c_condT S rfl c4 ?_
          refine wp_skip ?_
          refine x_thenN ?_
          refine wp_seq ?_
          refine wp_block ?_
          refine c_region ?_
          refine s_move S rfl rfl ?_; clear S a; intro a S
          refine s_assign S rfl rfl ?_; clear S a; intro a S
          refine c_end ?_
          refine wp_seq_k ?_
          intro K3 hK3
          have j3 : ∀ (m : Mem) (y10 : Bool) (g38 : Nat) (g39 : Nat) (a : Act) (w : World), St 67 m b0 [(52, (.v (.bool y10))), (37, (.v (.int .i64 y9))), (36, (.v (.int .i64 ((t4).length : Int)))), (9, (.v (.slice A1 nn1 cp1))), (8, (.v (.pointer (some ⟨g38, 0, none⟩)))), (5, (.v (.bool y1))), (2, (.v (.pointer (some ⟨g39, 0, none⟩)))), (1, (.sl ch_1_0 (x2).length ch_1_1 (RdS (Ty.int .u8) ch_1_0 x2)))] [Res.row Ty.bool 4 A1 nn1 cp1 t4, Res.cells g38 24 [.ints .u8 t3 256], Res.cells g39 24 [.ints .u8 x1 256]] a w → smithylaw29_BloomHas.j3 y9 (smithylaw29_BloomHas.l1 k x1 x2 y1 t3 t4 q1) y10 = some r → K3 a w := by
            intro m y10 g38 g39 a w S h0
            delta smithylaw29_BloomHas.j3 at h0
            refine hK3 a w ?_
            rcases ite_of h0 with ⟨c5, h1⟩ | ⟨c5, h1⟩ <;> clear h0
            · refine c_condT S rfl c5 ?_
              refine c_region ?_
              refine s_assign S rfl rfl ?_; clear S a; intro a S
              refine c_end ?_
              refine wp_ret ?_
              refine x_blockR ?_
              refine x_thenR ?_
              refine x_thenR ?_
              refine x_blockR ?_
              refine x_thenR ?_
              obtain rfl := Option.some.inj h1
              exact b_ret1 (d := (.v (.bool false))) S rfl rfl fun ok => S.retX (Hx := []) hb _ _ (() : Unit) .nil ok
            · refine c_condF S rfl c5 ?_
              refine wp_skip ?_
              refine x_blockN ?_
              refine x_thenN ?_
              refine c_region' ?_
              refine s_bin S rfl rfl rfl rfl ?_; clear S a; intro a S
              refine s_move S rfl rfl ?_; clear S a; intro a S
              refine c_end' ?_
              refine x_thenN ?_
              exact ⟨_, (wr .i64 (y9 + 1)), A1, nn1, cp1, g38, g39, (S.sub ⟨rfl, rfl, rfl, rfl, rfl, rfl, rfl, trivial⟩ (.cons .here (.cons .here (.cons .here .nil)))), h1⟩
          refine c_heldS S (.take 0 (.take 1 (.take 3 (.take 4 (.take 5 (.take 6 (.alts (.run 2 true (.take 7 (.take 8 (.take 9 (.alts (.run 10 true (.take 11 (.take 12 .done)) .nil))))) .nil)))))))) 13 [Res.row Ty.bool 4 A1 nn1 cp1 t4, Res.cells g35 24 [.ints .u8 t3 256], Res.cells g36 24 [.ints .u8 x1 256]] (.cons .here (.cons .here (.cons .here .nil))) ⟨Res.stay_row flat_bool, Res.stay_cells, Res.stay_cells, trivial⟩ [(10, (.v (.int .i64 y9))), (9, (.v (.slice A1 nn1 cp1))), (8, (.v (.pointer (some ⟨g35, 0, none⟩)))), (2, (.v (.pointer (some ⟨g36, 0, none⟩))))] ⟨rfl, rfl, rfl, rfl, trivial⟩ (by kernel_rfl) (by kernel_rfl) ?_; clear S; intro w S CL hw le
          refine h_loada S CL hw le ⟨rfl, rfl, rfl, rfl, trivial⟩ rfl (.there .here) T24 (s' := [.ints .u8 t3 256]) rfl rfl rfl trivial ?_; clear S CL a; intro a S CL
          refine h_move S CL hw le ⟨rfl, rfl, rfl, rfl, rfl, trivial⟩ rfl rfl rfl trivial ?_; clear S CL a; intro a S CL
          refine h_move S CL hw le ⟨rfl, rfl, rfl, rfl, rfl, rfl, trivial⟩ rfl rfl rfl trivial ?_; clear S CL a; intro a S CL
          refine h_move S CL hw le ⟨rfl, rfl, rfl, rfl, rfl, rfl, rfl, trivial⟩ rfl rfl rfl trivial ?_; clear S CL a; intro a S CL
          obtain ⟨c6, h2⟩ := chk_of h1; clear h1
          refine h_iaddrO S CL hw le ⟨rfl, rfl, rfl, rfl, rfl, rfl, rfl, rfl, trivial⟩ (ty' := Ty.bool) rfl .here rfl Tryd.underlying31 T4 c6.1 c6.2 rfl rfl trivial ?_; clear S CL a; intro g40 a hA1 S CL
          refine h_ldR1 S CL hw le ⟨rfl, rfl, rfl, rfl, rfl, rfl, rfl, rfl, rfl, trivial⟩ (ty' := Ty.bool) (i := y9) (off := 0) (v := (.bool (gt t4 y9))) rfl hA1 .here T4 c6.1 c6.2 rfl (fun _ => rfl) rfl rfl trivial ?_; clear S CL a; intro a S CL
          refine h_run' S rfl trivial ?_
          obtain ⟨t10, et10, h3⟩ := bind_of h2; clear h2
          refine s_callP S (fun (ch : Unit) => ((.v (.bool t10)) : D)) N10 rfl rfl (smithyref29_Bit.ok k t3 y9 t10 et10 _ _) ?_; clear S a; intro ch7 m le1 a w S
          replace le := le.trans le1
          replace hw := CL.again hw S (.cons .here (.cons .here (.cons .here .nil))) le
          refine h_back ⟨fun _ => hw, ?_⟩
          replace CL := CL.add (t := 42) (d := (.v (.bool t10))) S rfl rfl
          refine h_move S CL hw le ⟨rfl, rfl, rfl, rfl, rfl, rfl, rfl, rfl, rfl, rfl, rfl, trivial⟩ rfl rfl rfl trivial ?_; clear S CL a; intro a S CL
          rcases ite_of h3 with ⟨c7, h4⟩ | ⟨c7, h4⟩ <;> clear h3
          · refine h_skip S CL rfl rfl rfl (ne_bool c7) rfl ?_; clear S CL a; intro a S CL
            refine h_skip S CL rfl rfl rfl (ne_bool c7) rfl ?_; clear S CL a; intro a S CL
            refine h_skipRt S rfl rfl rfl (ne_bool c7) rfl ?_; clear S a; intro a S
            replace hw := CL.again hw S (.cons .here (.cons .here (.cons .here .nil))) le
            refine h_back ⟨fun _ => hw, ?_⟩
            replace CL := CL.add (t := 50) (d := .u) S rfl rfl
            refine h_pick S CL hw le ⟨rfl, rfl, rfl, rfl, rfl, rfl, rfl, rfl, rfl, rfl, rfl, rfl, rfl, rfl, rfl, trivial⟩ (b := true) (hc_of rfl c7) rfl rfl rfl trivial ?_; clear S CL a; intro a S CL
            refine h_neb S CL hw le ⟨rfl, rfl, rfl, rfl, rfl, rfl, rfl, rfl, rfl, rfl, rfl, rfl, rfl, rfl, rfl, rfl, trivial⟩ rfl rfl Tryd.underlying4 rfl rfl trivial ?_; clear S CL a; intro a S CL
            refine h_done ?_; clear CL hw le
            refine x_thenN ?_
            exact j3 _ (!(t10 == true)) g35 g36 a w (S.sub ⟨rfl, rfl, rfl, rfl, rfl, rfl, rfl, rfl, trivial⟩ (.cons .here (.cons .here (.cons .here .nil)))) h4
          · refine h_loada S CL hw le ⟨rfl, rfl, rfl, rfl, rfl, rfl, rfl, rfl, rfl, rfl, rfl, rfl, trivial⟩ rfl (.there (.there .here)) T24 (s' := [.ints .u8 x1 256]) rfl rfl rfl ⟨_, _, rfl, rfl, c7⟩ ?_; clear S CL a; intro a S CL
            refine h_move S CL hw le ⟨rfl, rfl, rfl, rfl, rfl, rfl, rfl, rfl, rfl, rfl, rfl, rfl, rfl, trivial⟩ rfl rfl rfl ⟨_, _, rfl, rfl, c7⟩ ?_; clear S CL a; intro a S CL
            refine h_run' S rfl ⟨_, _, rfl, rfl, c7⟩ ?_
            obtain ⟨t11, et11, h5⟩ := bind_of h4; clear h4
            refine s_callP S (fun (ch : Unit) => ((.v (.bool t11)) : D)) N10 rfl rfl (smithyref29_Bit.ok k x1 y9 t11 et11 _ _) ?_; clear S a; intro ch8 m le1 a w S
            replace le := le.trans le1
            replace hw := CL.again hw S (.cons .here (.cons .here (.cons .here .nil))) le
            refine h_back ⟨fun _ => hw, ?_⟩
            replace CL := CL.add (t := 50) (d := (.v (.bool t11))) S rfl rfl
            refine h_pick S CL hw le ⟨rfl, rfl, rfl, rfl, rfl, rfl, rfl, rfl, rfl, rfl, rfl, rfl, rfl, rfl, rfl, trivial⟩ (b := false) (hc_of rfl c7) rfl rfl rfl trivial ?_; clear S CL a; intro a S CL
            refine h_neb S CL hw le ⟨rfl, rfl, rfl, rfl, rfl, rfl, rfl, rfl, rfl, rfl, rfl, rfl, rfl, rfl, rfl, rfl, trivial⟩ rfl rfl Tryd.underlying4 rfl rfl trivial ?_; clear S CL a; intro a S CL
            refine h_done ?_; clear CL hw le
            refine x_thenN ?_
            exact j3 _ (!(t10 == t11)) g35 g36 a w (S.sub ⟨rfl, rfl, rfl, rfl, rfl, rfl, rfl, rfl, trivial⟩ (.cons .here (.cons .here (.cons .here .nil)))) h5
        · refine c_condF S rfl c4 ?_
          refine wp_exit ?_
          refine x_thenX ?_
          refine x_thenX ?_
          refine x_blockX ?_
          refine x_thenN ?_
          exact j2 _ g35 g36 a w (S.sub ⟨rfl, rfl, rfl, rfl, trivial⟩ (.cons (.there .here) (.cons (.there .here) .nil))) h1
    refine c_region ?_
    refine s_move S rfl rfl ?_; clear S a; intro a S
    obtain ⟨t12, et12, h2⟩ := bind_of h1; clear h1
    refine s_callR S (fun (ch : (Option Addr) × Nat × Nat) => ((.v (.slice ch.1 ch.2.1 ch.2.2)) : D)) (fun (ch : (Option Addr) × Nat × Nat) => Res.row (Ty.int .i64) 3 ch.1 ch.2.1 ch.2.2 t12) N17 rfl rfl (smithyref29_Places.ok k x2 ch_1_0 ch_1_1 t12 et12 _ _) ?_; clear S a w; intro ch9 m le1 a w S
    refine s_lenO S rfl .here Tryd.underlying44 rfl ?_; clear S a; intro a S
    refine s_move S rfl rfl ?_; clear S a; intro a S
    refine c_end ?_
    refine wp_block ?_
    refine c_loop (fun q2 a w => ∃ (m : Mem) (y14 : Int) (A2 : Option Addr) (nn4 : Nat) (cp4 : Nat) (y15 : Bool) (g46 : Nat), St 67 m b0 [(18, (.v (.int .i64 y14))), (17, (.v (.int .i64 ((t12).length : Int)))), (16, (.v (.slice A2 nn4 cp4))), (5, (.v (.bool y15))), (2, (.v (.pointer (some ⟨g46, 0, none⟩)))), (1, (.sl ch_1_0 (x2).length ch_1_1 (RdS (Ty.int .u8) ch_1_0 x2)))] [Res.row (Ty.int .i64) 3 A2 nn4 cp4 t12, Res.cells g46 24 [.ints .u8 x1 256]] a w ∧ smithylaw29_BloomHas.l2 k x1 x2 t12 q2 y14 y15 = some r) ?_ ?_ (k := k) ⟨_, 0, ch9.1, ch9.2.1, ch9.2.2, true, g1, (S.sub ⟨rfl, rfl, rfl, rfl, rfl, rfl, trivial⟩ (.cons .here (.cons .here .nil))), h2⟩
    · rintro a w ⟨m, y14, A2, nn4, cp4, y15, g46, S, h0⟩
      exact (nomatch (show (none : Option Bool) = some r from h0))
    · clear S h2
      rintro q2 a w ⟨m, y14, A2, nn4, cp4, y15, g46, S, h0⟩
      replace h0 : smithylaw29_BloomHas.b2 k x1 x2 t12 (smithylaw29_BloomHas.l2 k x1 x2 t12 q2) y14 y15 = some r := h0
      delta smithylaw29_BloomHas.b2 at h0
      refine c_region ?_
      refine s_bin S rfl rfl rfl rfl ?_; clear S a; intro a S
      refine c_end ?_
      refine wp_seq ?_
      rcases ite_of h0 with ⟨c8, h1⟩ | ⟨c8, h1⟩ <;> clear h0
      · refine c_condT S rfl c8 ?_
        refine wp_skip ?_
        refine x_thenN ?_
        refine wp_seq_k ?_
        intro K4 hK4
        have j4 : ∀ (m : Mem) (y16 : Bool) (g48 : Nat) (a : Act) (w : World), St 67 m b0 [(5, (.v (.bool y16))), (18, (.v (.int .i64 y14))), (17, (.v (.int .i64 ((t12).length : Int)))), (16, (.v (.slice A2 nn4 cp4))), (2, (.v (.pointer (some ⟨g48, 0, none⟩)))), (1, (.sl ch_1_0 (x2).length ch_1_1 (RdS (Ty.int .u8) ch_1_0 x2)))] [Res.row (Ty.int .i64) 3 A2 nn4 cp4 t12, Res.cells g48 24 [.ints .u8 x1 256]] a w → smithylaw29_BloomHas.j4 y14 (smithylaw29_BloomHas.l2 k x1 x2 t12 q2) y16 = some r → K4 a w := by
          intro m y16 g48 a w S h0
          delta smithylaw29_BloomHas.j4 at h0
          refine hK4 a w ?_
          refine c_region' ?_
          refine s_bin S rfl rfl rfl rfl ?_; clear S a; intro a S
          refine s_move S rfl rfl ?_; clear S a; intro a S
          refine c_end' ?_
          refine x_thenN ?_
          exact ⟨_, (wr .i64 (y14 + 1)), A2, nn4, cp4, y16, g48, (S.sub ⟨rfl, rfl, rfl, rfl, rfl, rfl, trivial⟩ (.cons .here (.cons .here .nil))), h0⟩
        refine wp_block ?_
        refine c_region ?_
        obtain ⟨c9, h2⟩ := chk_of h1; clear h1
        refine s_iaddrO S (ty' := (Ty.int .i64)) rfl .here rfl Tryd.underlying44 T3 c9.1 c9.2 rfl ?_; clear S a; intro g49 a hA2 S
        refine s_ldR1 S (ty' := (Ty.int .i64)) (i := y14) (off := 0) (v := (.int .i64 (rd t12 y14))) rfl hA2 .here T3 c9.1 c9.2 rfl (fun _ => rfl) rfl ?_; clear S a; intro a S
        refine s_assign S rfl rfl ?_; clear S a; intro a S
        refine c_end ?_
        refine c_region' ?_
        refine s_move S rfl rfl ?_; clear S a; intro a S
        refine s_move S rfl rfl ?_; clear S a; intro a S
        rcases ite_of h2 with ⟨c10, h3⟩ | ⟨c10, h3⟩ <;> clear h2
        · refine s_gT S (b := y15) rfl rfl c10 ?_
          refine s_loada S rfl (.there .here) T24 (s' := [.ints .u8 x1 256]) rfl rfl ?_; clear S a; intro a S
          refine s_gT S (b := y15) rfl rfl c10 ?_
          refine s_move S rfl rfl ?_; clear S a; intro a S
          refine s_gT S (b := y15) rfl rfl c10 ?_
          obtain ⟨t15, et15, h4⟩ := bind_of h3; clear h3
          refine s_callP S (fun (ch : Unit) => ((.v (.bool t15)) : D)) N10 rfl rfl (smithyref29_Bit.ok k x1 (rd t12 y14) t15 et15 _ _) ?_; clear S a w; intro ch10 m le1 a w S
          refine s_pick S (b := true) (hc_of rfl c10) rfl rfl ?_; clear S a; intro a S
          refine s_assign S rfl rfl ?_; clear S a; intro a S
          refine c_end' ?_
          refine x_blockN ?_
          refine x_thenN ?_
          exact j4 _ t15 g46 a w (S.sub ⟨rfl, rfl, rfl, rfl, rfl, rfl, trivial⟩ (.cons .here (.cons .here .nil))) h4
        · refine s_gF S (b := y15) rfl rfl c10 rfl ?_; clear S a; intro a S
          refine s_gF S (b := y15) rfl rfl c10 rfl ?_; clear S a; intro a S
          refine s_gF S (b := y15) rfl rfl c10 rfl ?_; clear S a; intro a S
          refine s_pick S (b := false) (hc_of rfl c10) rfl rfl ?_; clear S a; intro a S
          refine s_assign S rfl rfl ?_; clear S a; intro a S
          refine c_end' ?_
          refine x_blockN ?_
          refine x_thenN ?_
          exact j4 _ false g46 a w (S.sub ⟨rfl, rfl, rfl, rfl, rfl, rfl, trivial⟩ (.cons .here (.cons .here .nil))) h3
      · refine c_condF S rfl c8 ?_
        refine wp_exit ?_
        refine x_thenX ?_
        refine x_thenX ?_
        refine x_blockX ?_
        refine x_thenN ?_
        exact j1 _ y15 g46 a w (S.sub ⟨rfl, rfl, rfl, trivial⟩ (.cons (.there .here) .nil)) h1
/-! smithy/smithyref29.Find -/
abbrev smithyref29_Find.Ty : Type := (List (((List Int) × Int × Int × Int × Int × (List Int) × (List Int) × (List Int) × (List Int) × (List Int)) × (List Int) × (List (List Int)) × (List ((List Int) × Int × Bool × Int × (List Int) × (List Int) × (List ((List Int) × (List (List Int)) × (List Int))) × (List Int))))) → (List Int) → (List (List Int)) → Option ((List ((List Int) × (List (List Int)) × (List Int))))
def smithyref29_Find.Ctr (s : smithyref29_Find.Ty) : Prop := ∀ (x1 : List (((List Int) × Int × Int × Int × Int × (List Int) × (List Int) × (List Int) × (List Int) × (List Int)) × (List Int) × (List (List Int)) × (List ((List Int) × Int × Bool × Int × (List Int) × (List Int) × (List ((List Int) × (List (List Int)) × (List Int))) × (List Int))))) (x2 : List Int) (x3 : List (List Int)) (ch_0_0 : Option Addr) (ch_0_1 : Nat) (ch_2_0 : Option Addr) (ch_2_1 : Nat) (r : (List ((List Int) × (List (List Int)) × (List Int)))) (h0 : s x1 x2 x3 = some r) (mi : Mem) (w0 : World), okL mi [(.sl ch_0_0 (x1).length ch_0_1 (RdS (Ty.prod (Ty.prod (Ty.arr .u8 32) (Ty.prod (Ty.int .u64) (Ty.prod (Ty.int .u64) (Ty.prod (Ty.int .u64) (Ty.prod (Ty.int .u64) (Ty.prod (Ty.arr .u64 4) (Ty.prod (Ty.arr .u8 20) (Ty.prod (Ty.arr .u64 4) (Ty.prod (Ty.arr .u8 32) (Ty.arr .u8 32)))))))))) (Ty.prod (Ty.arr .u8 32) (Ty.prod (Ty.slice (Ty.arr .u8 32)) (Ty.slice (Ty.prod (Ty.arr .u8 20) (Ty.prod (Ty.int .u64) (Ty.prod Ty.bool (Ty.prod (Ty.int .u64) (Ty.prod (Ty.arr .u64 4) (Ty.prod (Ty.arr .u8 20) (Ty.prod (Ty.slice (Ty.prod (Ty.arr .u8 20) (Ty.prod (Ty.slice (Ty.arr .u64 4)) (Ty.slice (Ty.int .u8))))) (Ty.slice (Ty.int .u8))))))))))))) ch_0_0 x1)), (.agg [.ints .u8 x2 20]), (.sl ch_2_0 (x3).length ch_2_1 (RdS (Ty.arr .u64 4) ch_2_0 x3))] → Pre mi [] w0 → Calls Tryd.prog 20 (([(.sl ch_0_0 (x1).length ch_0_1 (RdS (Ty.prod (Ty.prod (Ty.arr .u8 32) (Ty.prod (Ty.int .u64) (Ty.prod (Ty.int .u64) (Ty.prod (Ty.int .u64) (Ty.prod (Ty.int .u64) (Ty.prod (Ty.arr .u64 4) (Ty.prod (Ty.arr .u8 20) (Ty.prod (Ty.arr .u64 4) (Ty.prod (Ty.arr .u8 32) (Ty.arr .u8 32)))))))))) (Ty.prod (Ty.arr .u8 32) (Ty.prod (Ty.slice (Ty.arr .u8 32)) (Ty.slice (Ty.prod (Ty.arr .u8 20) (Ty.prod (Ty.int .u64) (Ty.prod Ty.bool (Ty.prod (Ty.int .u64) (Ty.prod (Ty.arr .u64 4) (Ty.prod (Ty.arr .u8 20) (Ty.prod (Ty.slice (Ty.prod (Ty.arr .u8 20) (Ty.prod (Ty.slice (Ty.arr .u64 4)) (Ty.slice (Ty.int .u8))))) (Ty.slice (Ty.int .u8))))))))))))) ch_0_0 x1)), (.agg [.ints .u8 x2 20]), (.sl ch_2_0 (x3).length ch_2_1 (RdS (Ty.arr .u64 4) ch_2_0 x3))] : List D).map D.val).toArray w0 (RetX mi [] (fun (ch : (Option Addr) × Nat × Nat) => ((.v (.slice ch.1 ch.2.1 ch.2.2)) : D)) (fun (ch : (Option Addr) × Nat × Nat) => [Res.row (Ty.prod (Ty.arr .u8 20) (Ty.prod (Ty.slice (Ty.arr .u64 4)) (Ty.slice (Ty.int .u8)))) 38 ch.1 ch.2.1 ch.2.2 r]) w0)
def smithyref29_Find.j1 (y1 : List ((List Int) × (List (List Int)) × (List Int))) : Option ((List ((List Int) × (List (List Int)) × (List Int)))) := some y1
def smithyref29_Find.j2 (y194 : Int) (rec1 : Int → (List ((List Int) × (List (List Int)) × (List Int))) → Option ((List ((List Int) × (List (List Int)) × (List Int))))) (y290 : List ((List Int) × (List (List Int)) × (List Int))) : Option ((List ((List Int) × (List (List Int)) × (List Int)))) := rec1 (wr .i64 (y194 + 1)) y290
def smithyref29_Find.j3 (y383 : Int) (rec2 : Int → (List ((List Int) × (List (List Int)) × (List Int))) → Option ((List ((List Int) × (List (List Int)) × (List Int))))) (y429 : List ((List Int) × (List (List Int)) × (List Int))) : Option ((List ((List Int) × (List (List Int)) × (List Int)))) := rec2 (wr .i64 (y383 + 1)) y429
def smithyref29_Find.j4 (y472 : Int) (rec3 : Int → (List ((List Int) × (List (List Int)) × (List Int))) → Option ((List ((List Int) × (List (List Int)) × (List Int))))) (y493 : List ((List Int) × (List (List Int)) × (List Int))) : Option ((List ((List Int) × (List (List Int)) × (List Int)))) := rec3 (wr .i64 (y472 + 1)) y493
def smithyref29_Find.j5 (x1 : List (((List Int) × Int × Int × Int × Int × (List Int) × (List Int) × (List Int) × (List Int) × (List Int)) × (List Int) × (List (List Int)) × (List ((List Int) × Int × Bool × Int × (List Int) × (List Int) × (List ((List Int) × (List (List Int)) × (List Int))) × (List Int))))) (y194 : Int) (y383 : Int) (y472 : Int) (y473 : List ((List Int) × (List (List Int)) × (List Int))) (rec3 : Int → (List ((List Int) × (List (List Int)) × (List Int))) → Option ((List ((List Int) × (List (List Int)) × (List Int))))) (y512 : Bool) : Option ((List ((List Int) × (List (List Int)) × (List Int)))) := if y512 = true then (if ((y473).length + ([((gt ((gt ((gt x1 y194).2.2.2) y383).2.2.2.2.2.2.1) y472).1, (gt ((gt ((gt x1 y194).2.2.2) y383).2.2.2.2.2.2.1) y472).2.1, (gt ((gt ((gt x1 y194).2.2.2) y383).2.2.2.2.2.2.1) y472).2.2)]).length) * 72 ≤ 140737488355328 then (smithyref29_Find.j4 y472 rec3 (y473 ++ [((gt ((gt ((gt x1 y194).2.2.2) y383).2.2.2.2.2.2.1) y472).1, (gt ((gt ((gt x1 y194).2.2.2) y383).2.2.2.2.2.2.1) y472).2.1, (gt ((gt ((gt x1 y194).2.2.2) y383).2.2.2.2.2.2.1) y472).2.2)])) else none) else (smithyref29_Find.j4 y472 rec3 y473)
def smithyref29_Find.j6 (y529 : Int) (rec4 : Int → Bool → Option ((List ((List Int) × (List (List Int)) × (List Int))))) (y537 : Bool) : Option ((List ((List Int) × (List (List Int)) × (List Int)))) := rec4 (wr .i64 (y529 + 1)) y537
def smithyref29_Find.j7 (y529 : Int) (y530 : Bool) (rec4 : Int → Bool → Option ((List ((List Int) × (List (List Int)) × (List Int))))) (y543 : Bool) : Option ((List ((List Int) × (List (List Int)) × (List Int)))) := if y530 = true then (smithyref29_Find.j6 y529 rec4 y543) else (smithyref29_Find.j6 y529 rec4 false)
def smithyref29_Find.j8 (y547 : Int) (rec5 : Int → Bool → Option ((List ((List Int) × (List (List Int)) × (List Int))))) (y549 : Bool) : Option ((List ((List Int) × (List (List Int)) × (List Int)))) := rec5 (wr .i64 (y547 + 1)) y549
def smithyref29_Find.b5 (x1 : List (((List Int) × Int × Int × Int × Int × (List Int) × (List Int) × (List Int) × (List Int) × (List Int)) × (List Int) × (List (List Int)) × (List ((List Int) × Int × Bool × Int × (List Int) × (List Int) × (List ((List Int) × (List (List Int)) × (List Int))) × (List Int))))) (x3 : List (List Int)) (y194 : Int) (y383 : Int) (y472 : Int) (y529 : Int) (y530 : Bool) (rec4 : Int → Bool → Option ((List ((List Int) × (List (List Int)) × (List Int))))) (rec5 : Int → Bool → Option ((List ((List Int) × (List (List Int)) × (List Int))))) (y547 : Int) (y548 : Bool) : Option ((List ((List Int) × (List (List Int)) × (List Int)))) := if (decide (y547 < (((gt ((gt ((gt x1 y194).2.2.2) y383).2.2.2.2.2.2.1) y472).2.1).length : Int))) = true then (if y548 = true then (smithyref29_Find.j8 y547 rec5 true) else (if (0 : Int) ≤ y547 ∧ y547 < (((gt ((gt ((gt x1 y194).2.2.2) y383).2.2.2.2.2.2.1) y472).2.1).length : Int) then (if (0 : Int) ≤ y529 ∧ y529 < ((x3).length : Int) then (smithyref29_Find.j8 y547 rec5 (decide (gt ((gt ((gt ((gt x1 y194).2.2.2) y383).2.2.2.2.2.2.1) y472).2.1) y547 = gt x3 y529))) else none) else none)) else (smithyref29_Find.j7 y529 y530 rec4 y548)
def smithyref29_Find.l5 (x1 : List (((List Int) × Int × Int × Int × Int × (List Int) × (List Int) × (List Int) × (List Int) × (List Int)) × (List Int) × (List (List Int)) × (List ((List Int) × Int × Bool × Int × (List Int) × (List Int) × (List ((List Int) × (List (List Int)) × (List Int))) × (List Int))))) (x3 : List (List Int)) (y194 : Int) (y383 : Int) (y472 : Int) (y529 : Int) (y530 : Bool) (rec4 : Int → Bool → Option ((List ((List Int) × (List (List Int)) × (List Int))))) : Nat → Int → Bool → Option ((List ((List Int) × (List (List Int)) × (List Int))))
  | 0, _, _ => none
  | q + 1, y547, y548 => smithyref29_Find.b5 x1 x3 y194 y383 y472 y529 y530 rec4 (smithyref29_Find.l5 x1 x3 y194 y383 y472 y529 y530 rec4 q) y547 y548
def smithyref29_Find.b4 (k : Nat) (x1 : List (((List Int) × Int × Int × Int × Int × (List Int) × (List Int) × (List Int) × (List Int) × (List Int)) × (List Int) × (List (List Int)) × (List ((List Int) × Int × Bool × Int × (List Int) × (List Int) × (List ((List Int) × (List (List Int)) × (List Int))) × (List Int))))) (x3 : List (List Int)) (y194 : Int) (y383 : Int) (y472 : Int) (y473 : List ((List Int) × (List (List Int)) × (List Int))) (rec3 : Int → (List ((List Int) × (List (List Int)) × (List Int))) → Option ((List ((List Int) × (List (List Int)) × (List Int))))) (rec4 : Int → Bool → Option ((List ((List Int) × (List (List Int)) × (List Int))))) (y529 : Int) (y530 : Bool) : Option ((List ((List Int) × (List (List Int)) × (List Int)))) := if (decide (y529 < ((x3).length : Int))) = true then (smithyref29_Find.l5 x1 x3 y194 y383 y472 y529 y530 rec4 k 0 false) else (smithyref29_Find.j5 x1 y194 y383 y472 y473 rec3 y530)
def smithyref29_Find.l4 (k : Nat) (x1 : List (((List Int) × Int × Int × Int × Int × (List Int) × (List Int) × (List Int) × (List Int) × (List Int)) × (List Int) × (List (List Int)) × (List ((List Int) × Int × Bool × Int × (List Int) × (List Int) × (List ((List Int) × (List (List Int)) × (List Int))) × (List Int))))) (x3 : List (List Int)) (y194 : Int) (y383 : Int) (y472 : Int) (y473 : List ((List Int) × (List (List Int)) × (List Int))) (rec3 : Int → (List ((List Int) × (List (List Int)) × (List Int))) → Option ((List ((List Int) × (List (List Int)) × (List Int))))) : Nat → Int → Bool → Option ((List ((List Int) × (List (List Int)) × (List Int))))
  | 0, _, _ => none
  | q + 1, y529, y530 => smithyref29_Find.b4 k x1 x3 y194 y383 y472 y473 rec3 (smithyref29_Find.l4 k x1 x3 y194 y383 y472 y473 rec3 q) y529 y530
def smithyref29_Find.b3 (k : Nat) (x1 : List (((List Int) × Int × Int × Int × Int × (List Int) × (List Int) × (List Int) × (List Int) × (List Int)) × (List Int) × (List (List Int)) × (List ((List Int) × Int × Bool × Int × (List Int) × (List Int) × (List ((List Int) × (List (List Int)) × (List Int))) × (List Int))))) (x2 : List Int) (x3 : List (List Int)) (y194 : Int) (y383 : Int) (rec2 : Int → (List ((List Int) × (List (List Int)) × (List Int))) → Option ((List ((List Int) × (List (List Int)) × (List Int))))) (rec3 : Int → (List ((List Int) × (List (List Int)) × (List Int))) → Option ((List ((List Int) × (List (List Int)) × (List Int))))) (y472 : Int) (y473 : List ((List Int) × (List (List Int)) × (List Int))) : Option ((List ((List Int) × (List (List Int)) × (List Int)))) := if (decide (y472 < (((gt ((gt x1 y194).2.2.2) y383).2.2.2.2.2.2.1).length : Int))) = true then (if (0 : Int) ≤ y472 ∧ y472 < (((gt ((gt x1 y194).2.2.2) y383).2.2.2.2.2.2.1).length : Int) then (smithyref29_Find.l4 k x1 x3 y194 y383 y472 y473 rec3 k 0 (decide ((gt ((gt ((gt x1 y194).2.2.2) y383).2.2.2.2.2.2.1) y472).1 = x2))) else none) else (smithyref29_Find.j3 y383 rec2 y473)
def smithyref29_Find.l3 (k : Nat) (x1 : List (((List Int) × Int × Int × Int × Int × (List Int) × (List Int) × (List Int) × (List Int) × (List Int)) × (List Int) × (List (List Int)) × (List ((List Int) × Int × Bool × Int × (List Int) × (List Int) × (List ((List Int) × (List (List Int)) × (List Int))) × (List Int))))) (x2 : List Int) (x3 : List (List Int)) (y194 : Int) (y383 : Int) (rec2 : Int → (List ((List Int) × (List (List Int)) × (List Int))) → Option ((List ((List Int) × (List (List Int)) × (List Int))))) : Nat → Int → (List ((List Int) × (List (List Int)) × (List Int))) → Option ((List ((List Int) × (List (List Int)) × (List Int))))
  | 0, _, _ => none
  | q + 1, y472, y473 => smithyref29_Find.b3 k x1 x2 x3 y194 y383 rec2 (smithyref29_Find.l3 k x1 x2 x3 y194 y383 rec2 q) y472 y473
def smithyref29_Find.b2 (k : Nat) (x1 : List (((List Int) × Int × Int × Int × Int × (List Int) × (List Int) × (List Int) × (List Int) × (List Int)) × (List Int) × (List (List Int)) × (List ((List Int) × Int × Bool × Int × (List Int) × (List Int) × (List ((List Int) × (List (List Int)) × (List Int))) × (List Int))))) (x2 : List Int) (x3 : List (List Int)) (y194 : Int) (rec1 : Int → (List ((List Int) × (List (List Int)) × (List Int))) → Option ((List ((List Int) × (List (List Int)) × (List Int))))) (rec2 : Int → (List ((List Int) × (List (List Int)) × (List Int))) → Option ((List ((List Int) × (List (List Int)) × (List Int))))) (y383 : Int) (y384 : List ((List Int) × (List (List Int)) × (List Int))) : Option ((List ((List Int) × (List (List Int)) × (List Int)))) := if (decide (y383 < (((gt x1 y194).2.2.2).length : Int))) = true then (if (0 : Int) ≤ y383 ∧ y383 < (((gt x1 y194).2.2.2).length : Int) then (smithyref29_Find.l3 k x1 x2 x3 y194 y383 rec2 k 0 y384) else none) else (smithyref29_Find.j2 y194 rec1 y384)
def smithyref29_Find.l2 (k : Nat) (x1 : List (((List Int) × Int × Int × Int × Int × (List Int) × (List Int) × (List Int) × (List Int) × (List Int)) × (List Int) × (List (List Int)) × (List ((List Int) × Int × Bool × Int × (List Int) × (List Int) × (List ((List Int) × (List (List Int)) × (List Int))) × (List Int))))) (x2 : List Int) (x3 : List (List Int)) (y194 : Int) (rec1 : Int → (List ((List Int) × (List (List Int)) × (List Int))) → Option ((List ((List Int) × (List (List Int)) × (List Int))))) : Nat → Int → (List ((List Int) × (List (List Int)) × (List Int))) → Option ((List ((List Int) × (List (List Int)) × (List Int))))
  | 0, _, _ => none
  | q + 1, y383, y384 => smithyref29_Find.b2 k x1 x2 x3 y194 rec1 (smithyref29_Find.l2 k x1 x2 x3 y194 rec1 q) y383 y384
def smithyref29_Find.b1 (k : Nat) (x1 : List (((List Int) × Int × Int × Int × Int × (List Int) × (List Int) × (List Int) × (List Int) × (List Int)) × (List Int) × (List (List Int)) × (List ((List Int) × Int × Bool × Int × (List Int) × (List Int) × (List ((List Int) × (List (List Int)) × (List Int))) × (List Int))))) (x2 : List Int) (x3 : List (List Int)) (rec1 : Int → (List ((List Int) × (List (List Int)) × (List Int))) → Option ((List ((List Int) × (List (List Int)) × (List Int))))) (y194 : Int) (y195 : List ((List Int) × (List (List Int)) × (List Int))) : Option ((List ((List Int) × (List (List Int)) × (List Int)))) := if (decide (y194 < ((x1).length : Int))) = true then (if (0 : Int) ≤ y194 ∧ y194 < ((x1).length : Int) then (smithyref29_Find.l2 k x1 x2 x3 y194 rec1 k 0 y195) else none) else (smithyref29_Find.j1 y195)
def smithyref29_Find.l1 (k : Nat) (x1 : List (((List Int) × Int × Int × Int × Int × (List Int) × (List Int) × (List Int) × (List Int) × (List Int)) × (List Int) × (List (List Int)) × (List ((List Int) × Int × Bool × Int × (List Int) × (List Int) × (List ((List Int) × (List (List Int)) × (List Int))) × (List Int))))) (x2 : List Int) (x3 : List (List Int)) : Nat → Int → (List ((List Int) × (List (List Int)) × (List Int))) → Option ((List ((List Int) × (List (List Int)) × (List Int))))
  | 0, _, _ => none
  | q + 1, y194, y195 => smithyref29_Find.b1 k x1 x2 x3 (smithyref29_Find.l1 k x1 x2 x3 q) y194 y195
def smithyref29_Find.f (k : Nat) (x1 : List (((List Int) × Int × Int × Int × Int × (List Int) × (List Int) × (List Int) × (List Int) × (List Int)) × (List Int) × (List (List Int)) × (List ((List Int) × Int × Bool × Int × (List Int) × (List Int) × (List ((List Int) × (List (List Int)) × (List Int))) × (List Int))))) (x2 : List Int) (x3 : List (List Int)) : Option ((List ((List Int) × (List (List Int)) × (List Int)))) := smithyref29_Find.l1 k x1 x2 x3 k 0 ([] : List ((List Int) × (List (List Int)) × (List Int)))
theorem smithyref29_Find.ok (k : Nat) : smithyref29_Find.Ctr (smithyref29_Find.f k) := by
  intro x1 x2 x3 ch_0_0 ch_0_1 ch_2_0 ch_2_1 r h0 mi w0 ok hm
  delta smithyref29_Find.f at h0
  refine c_enterX (n := 100) [(.sl ch_0_0 (x1).length ch_0_1 (RdS (Ty.prod (Ty.prod (Ty.arr .u8 32) (Ty.prod (Ty.int .u64) (Ty.prod (Ty.int .u64) (Ty.prod (Ty.int .u64) (Ty.prod (Ty.int .u64) (Ty.prod (Ty.arr .u64 4) (Ty.prod (Ty.arr .u8 20) (Ty.prod (Ty.arr .u64 4) (Ty.prod (Ty.arr .u8 32) (Ty.arr .u8 32)))))))))) (Ty.prod (Ty.arr .u8 32) (Ty.prod (Ty.slice (Ty.arr .u8 32)) (Ty.slice (Ty.prod (Ty.arr .u8 20) (Ty.prod (Ty.int .u64) (Ty.prod Ty.bool (Ty.prod (Ty.int .u64) (Ty.prod (Ty.arr .u64 4) (Ty.prod (Ty.arr .u8 20) (Ty.prod (Ty.slice (Ty.prod (Ty.arr .u8 20) (Ty.prod (Ty.slice (Ty.arr .u64 4)) (Ty.slice (Ty.int .u8))))) (Ty.slice (Ty.int .u8))))))))))))) ch_0_0 x1)), (.agg [.ints .u8 x2 20]), (.sl ch_2_0 (x3).length ch_2_1 (RdS (Ty.arr .u64 4) ch_2_0 x3))] (l := [(0, (.sl ch_0_0 (x1).length ch_0_1 (RdS (Ty.prod (Ty.prod (Ty.arr .u8 32) (Ty.prod (Ty.int .u64) (Ty.prod (Ty.int .u64) (Ty.prod (Ty.int .u64) (Ty.prod (Ty.int .u64) (Ty.prod (Ty.arr .u64 4) (Ty.prod (Ty.arr .u8 20) (Ty.prod (Ty.arr .u64 4) (Ty.prod (Ty.arr .u8 32) (Ty.arr .u8 32)))))))))) (Ty.prod (Ty.arr .u8 32) (Ty.prod (Ty.slice (Ty.arr .u8 32)) (Ty.slice (Ty.prod (Ty.arr .u8 20) (Ty.prod (Ty.int .u64) (Ty.prod Ty.bool (Ty.prod (Ty.int .u64) (Ty.prod (Ty.arr .u64 4) (Ty.prod (Ty.arr .u8 20) (Ty.prod (Ty.slice (Ty.prod (Ty.arr .u8 20) (Ty.prod (Ty.slice (Ty.arr .u64 4)) (Ty.slice (Ty.int .u8))))) (Ty.slice (Ty.int .u8))))))))))))) ch_0_0 x1))), (1, (.agg [.ints .u8 x2 20])), (2, (.sl ch_2_0 (x3).length ch_2_1 (RdS (Ty.arr .u64 4) ch_2_0 x3)))]) Tryd.func20 rfl rfl rfl rfl ok hm ?_
  clear ok hm
  intro b0 hb a S
  refine c_region ?_
  refine s_box S rfl rfl rfl ?_; clear S a; intro g1 a w S
  refine s_assign S rfl rfl ?_; clear S a; intro a S
  refine c_end ?_
  refine c_region ?_
  refine s_bldSl S (ty' := (Ty.prod (Ty.arr .u8 20) (Ty.prod (Ty.slice (Ty.arr .u64 4)) (Ty.slice (Ty.int .u8))))) (ds := []) (z := ([0, 0, 0, 0, 0, 0, 0, 0, 0, 0, 0, 0, 0, 0, 0, 0, 0, 0, 0, 0], ([] : List (List Int)), ([] : List Int))) (c0 := ((), (none, 0), (none, 0))) (ys := ([] : List ((List Int) × (List (List Int)) × (List Int)))) (cs := []) rfl Tryd.underlying22 J38 Z38 rfl ⟨rfl, ⟨Nat.le_refl _, Nat.zero_le _, RdS.nil _ _ _, RdS.mono _ _ _⟩, ⟨Nat.le_refl _, Nat.zero_le _, RdS.nil _ _ _, RdS.mono _ _ _⟩, trivial⟩ rfl rfl rfl rfl rfl rfl ?_; clear S a w; intro g2 a w S
  refine s_assign S rfl rfl ?_; clear S a; intro a S
  refine c_end ?_
  refine wp_seq_k ?_
  intro K1 hK1
  have j1 : ∀ (m : Mem) (A1 : Option Addr) (nn1 : Nat) (cp1 : Nat) (y1 : List ((List Int) × (List (List Int)) × (List Int))) (a : Act) (w : World), St 100 m b0 [(7, (.v (.slice A1 nn1 cp1)))] [Res.row (Ty.prod (Ty.arr .u8 20) (Ty.prod (Ty.slice (Ty.arr .u64 4)) (Ty.slice (Ty.int .u8)))) 38 A1 nn1 cp1 y1] a w → smithyref29_Find.j1 y1 = some r → K1 a w := by
    intro m A1 nn1 cp1 y1 a w S h0
    delta smithyref29_Find.j1 at h0
    refine hK1 a w ?_
    refine c_region ?_
    refine s_move S rfl rfl ?_; clear S a; intro a S
    refine s_assign S rfl rfl ?_; clear S a; intro a S
    refine c_end ?_
    refine wp_ret ?_
    obtain rfl := Option.some.inj h0
    exact b_ret1 (d := (.v (.slice A1 nn1 cp1))) S rfl rfl fun ok => S.retX (Hx := []) hb _ _ ((A1, nn1, cp1) : (Option Addr) × Nat × Nat) (.cons .here .nil) ok
  refine c_region ?_
  refine s_move S rfl rfl ?_; clear S a; intro a S
  refine s_lenS S rfl Tryd.underlying48 rfl ?_; clear S a; intro a S
  refine s_move S rfl rfl ?_; clear S a; intro a S
  refine c_end ?_
  refine wp_block ?_
  refine c_loop (fun q1 a w => ∃ (m : Mem) (y194 : Int) (A2 : Option Addr) (nn29 : Nat) (cp59 : Nat) (y195 : List ((List Int) × (List (List Int)) × (List Int))) (g344 : Nat), St 100 m b0 [(19, (.v (.int .i64 y194))), (18, (.v (.int .i64 ((x1).length : Int)))), (7, (.v (.slice A2 nn29 cp59))), (4, (.v (.pointer (some ⟨g344, 0, none⟩)))), (0, (.sl ch_0_0 (x1).length ch_0_1 (RdS (Ty.prod (Ty.prod (Ty.arr .u8 32) (Ty.prod (Ty.int .u64) (Ty.prod (Ty.int .u64) (Ty.prod (Ty.int .u64) (Ty.prod (Ty.int .u64) (Ty.prod (Ty.arr .u64 4) (Ty.prod (Ty.arr .u8 20) (Ty.prod (Ty.arr .u64 4) (Ty.prod (Ty.arr .u8 32) (Ty.arr .u8 32)))))))))) (Ty.prod (Ty.arr .u8 32) (Ty.prod (Ty.slice (Ty.arr .u8 32)) (Ty.slice (Ty.prod (Ty.arr .u8 20) (Ty.prod (Ty.int .u64) (Ty.prod Ty.bool (Ty.prod (Ty.int .u64) (Ty.prod (Ty.arr .u64 4) (Ty.prod (Ty.arr .u8 20) (Ty.prod (Ty.slice (Ty.prod (Ty.arr .u8 20) (Ty.prod (Ty.slice (Ty.arr .u64 4)) (Ty.slice (Ty.int .u8))))) (Ty.slice (Ty.int .u8))))))))))))) ch_0_0 x1))), (2, (.sl ch_2_0 (x3).length ch_2_1 (RdS (Ty.arr .u64 4) ch_2_0 x3)))] [Res.row (Ty.prod (Ty.arr .u8 20) (Ty.prod (Ty.slice (Ty.arr .u64 4)) (Ty.slice (Ty.int .u8)))) 38 A2 nn29 cp59 y195, Res.cells g344 34 [.ints .u8 x2 20]] a w ∧ smithyref29_Find.l1 k x1 x2 x3 q1 y194 y195 = some r) ?_ ?_ (k := k) ⟨_, 0, (some ⟨g2, 0, none⟩), 0, 0, ([] : List ((List Int) × (List (List Int)) × (List Int))), g1, (S.sub ⟨rfl, rfl, rfl, rfl, rfl, rfl, trivial⟩ (.cons .here (.cons .here .nil))), h0⟩
  · rintro a w ⟨m, y194, A2, nn29, cp59, y195, g344, S, h0⟩
    exact (nomatch (show (none : Option ((List ((List Int) × (List (List Int)) × (List Int))))) = some r from h0))
  · clear S h0
    rintro q1 a w ⟨m, y194, A2, nn29, cp59, y195, g344, S, h0⟩
    replace h0 : smithyref29_Find.b1 k x1 x2 x3 (smithyref29_Find.l1 k x1 x2 x3 q1) y194 y195 = some r := h0
    delta smithyref29_Find.b1 at h0
    refine c_region ?_
    refine s_bin S rfl rfl rfl rfl ?_; clear S a; intro a S
    refine c_end ?_
    refine wp_seq ?_
    rcases ite_of h0 with ⟨c1, h1⟩ | ⟨c1, h1⟩ <;> clear h0
    · refine c_condT S rfl c1 ?_
      refine wp_skip ?_
      refine x_thenN ?_
      refine wp_seq_k ?_
      intro K2 hK2
      have j2 : ∀ (m : Mem) (A3 : Option Addr) (nn42 : Nat) (cp87 : Nat) (y290 : List ((List Int) × (List (List Int)) × (List Int))) (g428 : Nat) (a : Act) (w : World), St 100 m b0 [(19, (.v (.int .i64 y194))), (18, (.v (.int .i64 ((x1).length : Int)))), (7, (.v (.slice A3 nn42 cp87))), (4, (.v (.pointer (some ⟨g428, 0, none⟩)))), (0, (.sl ch_0_0 (x1).length ch_0_1 (RdS (Ty.prod (Ty.prod (Ty.arr .u8 32) (Ty.prod (Ty.int .u64) (Ty.prod (Ty.int .u64) (Ty.prod (Ty.int .u64) (Ty.prod (Ty.int .u64) (Ty.prod (Ty.arr .u64 4) (Ty.prod (Ty.arr .u8 20) (Ty.prod (Ty.arr .u64 4) (Ty.prod (Ty.arr .u8 32) (Ty.arr .u8 32)))))))))) (Ty.prod (Ty.arr .u8 32) (Ty.prod (Ty.slice (Ty.arr .u8 32)) (Ty.slice (Ty.prod (Ty.arr .u8 20) (Ty.prod (Ty.int .u64) (Ty.prod Ty.bool (Ty.prod (Ty.int .u64) (Ty.prod (Ty.arr .u64 4) (Ty.prod (Ty.arr .u8 20) (Ty.prod (Ty.slice (Ty.prod (Ty.arr .u8 20) (Ty.prod (Ty.slice (Ty.arr .u64 4)) (Ty.slice (Ty.int .u8))))) (Ty.slice (Ty.int .u8))))))))))))) ch_0_0 x1))), (2, (.sl ch_2_0 (x3).length ch_2_1 (RdS (Ty.arr .u64 4) ch_2_0 x3)))] [Res.row (Ty.prod (Ty.arr .u8 20) (Ty.prod (Ty.slice (Ty.arr .u64 4)) (Ty.slice (Ty.int .u8)))) 38 A3 nn42 cp87 y290, Res.cells g428 34 [.ints .u8 x2 20]] a w → smithyref29_Find.j2 y194 (smithyref29_Find.l1 k x1 x2 x3 q1) y290 = some r → K2 a w := by
        intro m A3 nn42 cp87 y290 g428 a w S h0
        delta smithyref29_Find.j2 at h0
        refine hK2 a w ?_
        refine c_region' ?_
        refine s_bin S rfl rfl rfl rfl ?_; clear S a; intro a S
        refine s_move S rfl rfl ?_; clear S a; intro a S
        refine c_end' ?_
        refine x_thenN ?_
        exact ⟨_, (wr .i64 (y194 + 1)), A3, nn42, cp87, y290, g428, (S.sub ⟨rfl, rfl, rfl, rfl, rfl, rfl, trivial⟩ (.cons .here (.cons .here .nil))), h0⟩
      refine wp_block ?_
      refine c_region ?_
      refine s_move S rfl rfl ?_; clear S a; intro a S
      refine s_assign S rfl rfl ?_; clear S a; intro a S
      refine c_end ?_
      refine c_region ?_
      refine s_move S rfl rfl ?_; clear S a; intro a S
      refine s_move S rfl rfl ?_; clear S a; intro a S
      obtain ⟨c2, h2⟩ := chk_of h1; clear h1
      refine s_iaddrS S rfl rfl rfl Tryd.underlying48 T59 c2.1 c2.2 rfl ?_; clear S a; intro p1 a S
      refine s_faddrP S (tF := (Ty.slice (Ty.prod (Ty.arr .u8 20) (Ty.prod (Ty.int .u64) (Ty.prod Ty.bool (Ty.prod (Ty.int .u64) (Ty.prod (Ty.arr .u64 4) (Ty.prod (Ty.arr .u8 20) (Ty.prod (Ty.slice (Ty.prod (Ty.arr .u8 20) (Ty.prod (Ty.slice (Ty.arr .u64 4)) (Ty.slice (Ty.int .u8))))) (Ty.slice (Ty.int .u8))))))))))) (y := (gt x1 y194).2.2.2) rfl I59_3 T57 (by decide) (fun m h => (at_snd (at_snd (at_snd (at_0 h))))) rfl ?_; clear S a; intro a S
      refine s_ldS S (fun c => c) rfl T57 (fun _ => rfl) rfl ?_; clear S a; intro A4 cp88 a S
      refine s_lenS S rfl Tryd.underlying57 rfl ?_; clear S a; intro a S
      refine s_move S rfl rfl ?_; clear S a; intro a S
      refine c_end ?_
      refine wp_block ?_
      refine c_loop (fun q2 a w => ∃ (m : Mem) (y383 : Int) (A5 : Option Addr) (nn54 : Nat) (cp114 : Nat) (y384 : List ((List Int) × (List (List Int)) × (List Int))) (g511 : Nat), St 100 m b0 [(28, (.v (.int .i64 y383))), (27, (.v (.int .i64 (((gt x1 y194).2.2.2).length : Int)))), (8, (.v (.int .i64 y194))), (19, (.v (.int .i64 y194))), (18, (.v (.int .i64 ((x1).length : Int)))), (7, (.v (.slice A5 nn54 cp114))), (4, (.v (.pointer (some ⟨g511, 0, none⟩)))), (0, (.sl ch_0_0 (x1).length ch_0_1 (RdS (Ty.prod (Ty.prod (Ty.arr .u8 32) (Ty.prod (Ty.int .u64) (Ty.prod (Ty.int .u64) (Ty.prod (Ty.int .u64) (Ty.prod (Ty.int .u64) (Ty.prod (Ty.arr .u64 4) (Ty.prod (Ty.arr .u8 20) (Ty.prod (Ty.arr .u64 4) (Ty.prod (Ty.arr .u8 32) (Ty.arr .u8 32)))))))))) (Ty.prod (Ty.arr .u8 32) (Ty.prod (Ty.slice (Ty.arr .u8 32)) (Ty.slice (Ty.prod (Ty.arr .u8 20) (Ty.prod (Ty.int .u64) (Ty.prod Ty.bool (Ty.prod (Ty.int .u64) (Ty.prod (Ty.arr .u64 4) (Ty.prod (Ty.arr .u8 20) (Ty.prod (Ty.slice (Ty.prod (Ty.arr .u8 20) (Ty.prod (Ty.slice (Ty.arr .u64 4)) (Ty.slice (Ty.int .u8))))) (Ty.slice (Ty.int .u8))))))))))))) ch_0_0 x1))), (2, (.sl ch_2_0 (x3).length ch_2_1 (RdS (Ty.arr .u64 4) ch_2_0 x3)))] [Res.row (Ty.prod (Ty.arr .u8 20) (Ty.prod (Ty.slice (Ty.arr .u64 4)) (Ty.slice (Ty.int .u8)))) 38 A5 nn54 cp114 y384, Res.cells g511 34 [.ints .u8 x2 20]] a w ∧ smithyref29_Find.l2 k x1 x2 x3 y194 (smithyref29_Find.l1 k x1 x2 x3 q1) q2 y383 y384 = some r) ?_ ?_ (k := k) ⟨_, 0, A2, nn29, cp59, y195, g344, (S.sub ⟨rfl, rfl, rfl, rfl, rfl, rfl, rfl, rfl, rfl, trivial⟩ (.cons .here (.cons .here .nil))), h2⟩
      · rintro a w ⟨m, y383, A5, nn54, cp114, y384, g511, S, h0⟩
        exact (nomatch (show (none : Option ((List ((List Int) × (List (List Int)) × (List Int))))) = some r from h0))
      · clear S h2
        rintro q2 a w ⟨m, y383, A5, nn54, cp114, y384, g511, S, h0⟩
        replace h0 : smithyref29_Find.b2 k x1 x2 x3 y194 (smithyref29_Find.l1 k x1 x2 x3 q1) (smithyref29_Find.l2 k x1 x2 x3 y194 (smithyref29_Find.l1 k x1 x2 x3 q1) q2) y383 y384 = some r := h0
        delta smithyref29_Find.b2 at h0
        refine c_region ?_
        refine s_bin S rfl rfl rfl rfl ?_; clear S a; intro a S
        refine c_end ?_
        refine wp_seq ?_
        rcases ite_of h0 with ⟨c3, h1⟩ | ⟨c3, h1⟩ <;> clear h0
        · refine c_condT S rfl c3 ?_
          refine wp_skip ?_
          refine x_thenN ?_
          refine wp_seq_k ?_
          intro K3 hK3
          have j3 : ∀ (m : Mem) (A6 : Option Addr) (nn59 : Nat) (cp126 : Nat) (y429 : List ((List Int) × (List (List Int)) × (List Int))) (g551 : Nat) (a : Act) (w : World), St 100 m b0 [(28, (.v (.int .i64 y383))), (27, (.v (.int .i64 (((gt x1 y194).2.2.2).length : Int)))), (8, (.v (.int .i64 y194))), (19, (.v (.int .i64 y194))), (18, (.v (.int .i64 ((x1).length : Int)))), (7, (.v (.slice A6 nn59 cp126))), (4, (.v (.pointer (some ⟨g551, 0, none⟩)))), (0, (.sl ch_0_0 (x1).length ch_0_1 (RdS (Ty.prod (Ty.prod (Ty.arr .u8 32) (Ty.prod (Ty.int .u64) (Ty.prod (Ty.int .u64) (Ty.prod (Ty.int .u64) (Ty.prod (Ty.int .u64) (Ty.prod (Ty.arr .u64 4) (Ty.prod (Ty.arr .u8 20) (Ty.prod (Ty.arr .u64 4) (Ty.prod (Ty.arr .u8 32) (Ty.arr .u8 32)))))))))) (Ty.prod (Ty.arr .u8 32) (Ty.prod (Ty.slice (Ty.arr .u8 32)) (Ty.slice (Ty.prod (Ty.arr .u8 20) (Ty.prod (Ty.int .u64) (Ty.prod Ty.bool (Ty.prod (Ty.int .u64) (Ty.prod (Ty.arr .u64 4) (Ty.prod (Ty.arr .u8 20) (Ty.prod (Ty.slice (Ty.prod (Ty.arr .u8 20) (Ty.prod (Ty.slice (Ty.arr .u64 4)) (Ty.slice (Ty.int .u8))))) (Ty.slice (Ty.int .u8))))))))))))) ch_0_0 x1))), (2, (.sl ch_2_0 (x3).length ch_2_1 (RdS (Ty.arr .u64 4) ch_2_0 x3)))] [Res.row (Ty.prod (Ty.arr .u8 20) (Ty.prod (Ty.slice (Ty.arr .u64 4)) (Ty.slice (Ty.int .u8)))) 38 A6 nn59 cp126 y429, Res.cells g551 34 [.ints .u8 x2 20]] a w → smithyref29_Find.j3 y383 (smithyref29_Find.l2 k x1 x2 x3 y194 (smithyref29_Find.l1 k x1 x2 x3 q1) q2) y429 = some r → K3 a w := by
            intro m A6 nn59 cp126 y429 g551 a w S h0
            delta smithyref29_Find.j3 at h0
            refine hK3 a w ?_
            refine c_region' ?_
            refine s_bin S rfl rfl rfl rfl ?_; clear S a; intro a S
            refine s_move S rfl rfl ?_; clear S a; intro a S
            refine c_end' ?_
            refine x_thenN ?_
            exact ⟨_, (wr .i64 (y383 + 1)), A6, nn59, cp126, y429, g551, (S.sub ⟨rfl, rfl, rfl, rfl, rfl, rfl, rfl, rfl, rfl, trivial⟩ (.cons .here (.cons .here .nil))), h0⟩
          refine wp_block ?_
          refine c_region ?_
          refine s_move S rfl rfl ?_; clear S a; intro a S
          refine s_assign S rfl rfl ?_; clear S a; intro a S
          refine c_end ?_
          refine c_region ?_
          refine s_move S rfl rfl ?_; clear S a; intro a S
          refine s_move S rfl rfl ?_; clear S a; intro a S
          refine s_iaddrS S rfl rfl rfl Tryd.underlying48 T59 c2.1 c2.2 rfl ?_; clear S a; intro p2 a S
          refine s_faddrP S (tF := (Ty.slice (Ty.prod (Ty.arr .u8 20) (Ty.prod (Ty.int .u64) (Ty.prod Ty.bool (Ty.prod (Ty.int .u64) (Ty.prod (Ty.arr .u64 4) (Ty.prod (Ty.arr .u8 20) (Ty.prod (Ty.slice (Ty.prod (Ty.arr .u8 20) (Ty.prod (Ty.slice (Ty.arr .u64 4)) (Ty.slice (Ty.int .u8))))) (Ty.slice (Ty.int .u8))))))))))) (y := (gt x1 y194).2.2.2) rfl I59_3 T57 (by decide) (fun m h => (at_snd (at_snd (at_snd (at_0 h))))) rfl ?_; clear S a; intro a S
          refine s_ldS S (fun c => c) rfl T57 (fun _ => rfl) rfl ?_; clear S a; intro A7 cp127 a S
          refine s_move S rfl rfl ?_; clear S a; intro a S
          obtain ⟨c4, h2⟩ := chk_of h1; clear h1
          refine s_iaddrS S rfl rfl rfl Tryd.underlying57 T61 c4.1 c4.2 rfl ?_; clear S a; intro p3 a S
          refine s_faddrP S (tF := (Ty.slice (Ty.prod (Ty.arr .u8 20) (Ty.prod (Ty.slice (Ty.arr .u64 4)) (Ty.slice (Ty.int .u8)))))) (y := (gt ((gt x1 y194).2.2.2) y383).2.2.2.2.2.2.1) rfl I61_6 T22 (by decide) (fun m h => (at_fst (at_snd (at_snd (at_snd (at_snd (at_snd (at_snd (at_0 h))))))))) rfl ?_; clear S a; intro a S
          refine s_ldS S (fun c => c) rfl T22 (fun _ => rfl) rfl ?_; clear S a; intro A8 cp128 a S
          refine s_assign S rfl rfl ?_; clear S a; intro a S
          refine c_end ?_
          refine c_region ?_
          refine s_move S rfl rfl ?_; clear S a; intro a S
          refine s_lenS S rfl Tryd.underlying22 rfl ?_; clear S a; intro a S
          refine s_move S rfl rfl ?_; clear S a; intro a S
          refine c_end ?_
          refine wp_block ?_
          refine c_loop (fun q3 a w => ∃ (m : Mem) (y472 : Int) (A9 : Option Addr) (cp136 : Nat) (A10 : Option Addr) (nn63 : Nat) (cp137 : Nat) (y473 : List ((List Int) × (List (List Int)) × (List Int))) (g590 : Nat), St 100 m b0 [(42, (.v (.int .i64 y472))), (41, (.v (.int .i64 (((gt ((gt x1 y194).2.2.2) y383).2.2.2.2.2.2.1).length : Int)))), (10, (.sl A9 ((gt ((gt x1 y194).2.2.2) y383).2.2.2.2.2.2.1).length cp136 (RdS (Ty.prod (Ty.arr .u8 20) (Ty.prod (Ty.slice (Ty.arr .u64 4)) (Ty.slice (Ty.int .u8)))) A9 ((gt ((gt x1 y194).2.2.2) y383).2.2.2.2.2.2.1)))), (28, (.v (.int .i64 y383))), (27, (.v (.int .i64 (((gt x1 y194).2.2.2).length : Int)))), (8, (.v (.int .i64 y194))), (19, (.v (.int .i64 y194))), (18, (.v (.int .i64 ((x1).length : Int)))), (7, (.v (.slice A10 nn63 cp137))), (4, (.v (.pointer (some ⟨g590, 0, none⟩)))), (0, (.sl ch_0_0 (x1).length ch_0_1 (RdS (Ty.prod (Ty.prod (Ty.arr .u8 32) (Ty.prod (Ty.int .u64) (Ty.prod (Ty.int .u64) (Ty.prod (Ty.int .u64) (Ty.prod (Ty.int .u64) (Ty.prod (Ty.arr .u64 4) (Ty.prod (Ty.arr .u8 20) (Ty.prod (Ty.arr .u64 4) (Ty.prod (Ty.arr .u8 32) (Ty.arr .u8 32)))))))))) (Ty.prod (Ty.arr .u8 32) (Ty.prod (Ty.slice (Ty.arr .u8 32)) (Ty.slice (Ty.prod (Ty.arr .u8 20) (Ty.prod (Ty.int .u64) (Ty.prod Ty.bool (Ty.prod (Ty.int .u64) (Ty.prod (Ty.arr .u64 4) (Ty.prod (Ty.arr .u8 20) (Ty.prod (Ty.slice (Ty.prod (Ty.arr .u8 20) (Ty.prod (Ty.slice (Ty.arr .u64 4)) (Ty.slice (Ty.int .u8))))) (Ty.slice (Ty.int .u8))))))))))))) ch_0_0 x1))), (2, (.sl ch_2_0 (x3).length ch_2_1 (RdS (Ty.arr .u64 4) ch_2_0 x3)))] [Res.row (Ty.prod (Ty.arr .u8 20) (Ty.prod (Ty.slice (Ty.arr .u64 4)) (Ty.slice (Ty.int .u8)))) 38 A10 nn63 cp137 y473, Res.cells g590 34 [.ints .u8 x2 20]] a w ∧ smithyref29_Find.l3 k x1 x2 x3 y194 y383 (smithyref29_Find.l2 k x1 x2 x3 y194 (smithyref29_Find.l1 k x1 x2 x3 q1) q2) q3 y472 y473 = some r) ?_ ?_ (k := k) ⟨_, 0, A8, cp128, A5, nn54, cp114, y384, g511, (S.sub ⟨rfl, rfl, rfl, rfl, rfl, rfl, rfl, rfl, rfl, rfl, rfl, rfl, trivial⟩ (.cons .here (.cons .here .nil))), h2⟩
          · rintro a w ⟨m, y472, A9, cp136, A10, nn63, cp137, y473, g590, S, h0⟩
            exact (nomatch (show (none : Option ((List ((List Int) × (List (List Int)) × (List Int))))) = some r from h0))
          · clear S h2
            rintro q3 a w ⟨m, y472, A9, cp136, A10, nn63, cp137, y473, g590, S, h0⟩
            replace h0 : smithyref29_Find.b3 k x1 x2 x3 y194 y383 (smithyref29_Find.l2 k x1 x2 x3 y194 (smithyref29_Find.l1 k x1 x2 x3 q1) q2) (smithyref29_Find.l3 k x1 x2 x3 y194 y383 (smithyref29_Find.l2 k x1 x2 x3 y194 (smithyref29_Find.l1 k x1 x2 x3 q1) q2) q3) y472 y473 = some r := h0
            delta smithyref29_Find.b3 at h0
            refine c_region ?_
            refine s_bin S rfl rfl rfl rfl ?_; clear S a; intro a S
            refine c_end ?_
            refine wp_seq ?_
            rcases ite_of h0 with ⟨c5, h1⟩ | ⟨c5, h1⟩ <;> clear h0
            · refine c_condT S rfl c5 ?_
              refine wp_skip ?_
              refine x_thenN ?_
              refine wp_seq_k ?_
              intro K4 hK4
              have j4 : ∀ (m : Mem) (A11 : Option Addr) (nn64 : Nat) (cp139 : Nat) (y493 : List ((List Int) × (List (List Int)) × (List Int))) (g608 : Nat) (a : Act) (w : World), St 100 m b0 [(7, (.v (.slice A11 nn64 cp139))), (42, (.v (.int .i64 y472))), (41, (.v (.int .i64 (((gt ((gt x1 y194).2.2.2) y383).2.2.2.2.2.2.1).length : Int)))), (10, (.sl A9 ((gt ((gt x1 y194).2.2.2) y383).2.2.2.2.2.2.1).length cp136 (RdS (Ty.prod (Ty.arr .u8 20) (Ty.prod (Ty.slice (Ty.arr .u64 4)) (Ty.slice (Ty.int .u8)))) A9 ((gt ((gt x1 y194).2.2.2) y383).2.2.2.2.2.2.1)))), (28, (.v (.int .i64 y383))), (27, (.v (.int .i64 (((gt x1 y194).2.2.2).length : Int)))), (8, (.v (.int .i64 y194))), (19, (.v (.int .i64 y194))), (18, (.v (.int .i64 ((x1).length : Int)))), (4, (.v (.pointer (some ⟨g608, 0, none⟩)))), (0, (.sl ch_0_0 (x1).length ch_0_1 (RdS (Ty.prod (Ty.prod (Ty.arr .u8 32) (Ty.prod (Ty.int .u64) (Ty.prod (Ty.int .u64) (Ty.prod (Ty.int .u64) (Ty.prod (Ty.int .u64) (Ty.prod (Ty.arr .u64 4) (Ty.prod (Ty.arr .u8 20) (Ty.prod (Ty.arr .u64 4) (Ty.prod (Ty.arr .u8 32) (Ty.arr .u8 32)))))))))) (Ty.prod (Ty.arr .u8 32) (Ty.prod (Ty.slice (Ty.arr .u8 32)) (Ty.slice (Ty.prod (Ty.arr .u8 20) (Ty.prod (Ty.int .u64) (Ty.prod Ty.bool (Ty.prod (Ty.int .u64) (Ty.prod (Ty.arr .u64 4) (Ty.prod (Ty.arr .u8 20) (Ty.prod (Ty.slice (Ty.prod (Ty.arr .u8 20) (Ty.prod (Ty.slice (Ty.arr .u64 4)) (Ty.slice (Ty.int .u8))))) (Ty.slice (Ty.int .u8))))))))))))) ch_0_0 x1))), (2, (.sl ch_2_0 (x3).length ch_2_1 (RdS (Ty.arr .u64 4) ch_2_0 x3)))] [Res.row (Ty.prod (Ty.arr .u8 20) (Ty.prod (Ty.slice (Ty.arr .u64 4)) (Ty.slice (Ty.int .u8)))) 38 A11 nn64 cp139 y493, Res.cells g608 34 [.ints .u8 x2 20]] a w → smithyref29_Find.j4 y472 (smithyref29_Find.l3 k x1 x2 x3 y194 y383 (smithyref29_Find.l2 k x1 x2 x3 y194 (smithyref29_Find.l1 k x1 x2 x3 q1) q2) q3) y493 = some r → K4 a w := by
                intro m A11 nn64 cp139 y493 g608 a w S h0
                delta smithyref29_Find.j4 at h0
                refine hK4 a w ?_
                refine c_region' ?_
                refine s_bin S rfl rfl rfl rfl ?_; clear S a; intro a S
                refine s_move S rfl rfl ?_; clear S a; intro a S
                refine c_end' ?_
                refine x_thenN ?_
                exact ⟨_, (wr .i64 (y472 + 1)), A9, cp136, A11, nn64, cp139, y493, g608, (S.sub ⟨rfl, rfl, rfl, rfl, rfl, rfl, rfl, rfl, rfl, rfl, rfl, rfl, trivial⟩ (.cons .here (.cons .here .nil))), h0⟩
              refine wp_block ?_
              refine c_region ?_
              refine s_move S rfl rfl ?_; clear S a; intro a S
              refine s_assign S rfl rfl ?_; clear S a; intro a S
              refine c_end ?_
              refine wp_seq (c_heldS S (.take 0 (.take 1 (.take 2 (.take 3 (.take 4 (.take 5 (.take 6 (.take 7 .done)))))))) 8 [Res.cells g590 34 [.ints .u8 x2 20]] (.cons (.there .here) .nil) ⟨Res.stay_cells, trivial⟩ [(11, (.v (.int .i64 y472))), (10, (.sl A9 ((gt ((gt x1 y194).2.2.2) y383).2.2.2.2.2.2.1).length cp136 (RdS (Ty.prod (Ty.arr .u8 20) (Ty.prod (Ty.slice (Ty.arr .u64 4)) (Ty.slice (Ty.int .u8)))) A9 ((gt ((gt x1 y194).2.2.2) y383).2.2.2.2.2.2.1)))), (4, (.v (.pointer (some ⟨g590, 0, none⟩))))] ⟨rfl, rfl, rfl, trivial⟩ (by kernel_rfl) (by kernel_rfl) ?_); clear S; intro w S CL hw le
              refine h_move S CL hw le ⟨rfl, rfl, rfl, trivial⟩ rfl rfl rfl trivial ?_; clear S CL a; intro a S CL
              refine h_move S CL hw le ⟨rfl, rfl, rfl, rfl, trivial⟩ rfl rfl rfl trivial ?_; clear S CL a; intro a S CL
              obtain ⟨c6, h2⟩ := chk_of h1; clear h1
              refine h_iaddrS S CL hw le ⟨rfl, rfl, rfl, rfl, rfl, trivial⟩ rfl rfl rfl Tryd.underlying22 T38 c6.1 c6.2 rfl rfl trivial ?_; clear S CL a; intro p6 a S CL
              refine h_faddrP S CL hw le ⟨rfl, rfl, rfl, rfl, rfl, rfl, trivial⟩ (tF := (Ty.arr .u8 20)) (y := (gt ((gt ((gt x1 y194).2.2.2) y383).2.2.2.2.2.2.1) y472).1) rfl I38_0 T34 (by decide) (fun m h => (at_fst (at_0 h))) rfl rfl trivial ?_; clear S CL a; intro a S CL
              refine h_ldA S CL hw le ⟨rfl, rfl, rfl, rfl, rfl, rfl, rfl, trivial⟩ (fun (c : Unit) => [.ints .u8 ((gt ((gt ((gt x1 y194).2.2.2) y383).2.2.2.2.2.2.1) y472).1) 20]) rfl T34 (fun _ => rfl) rfl rfl trivial ?_; clear S CL a; intro ch1 a S CL
              refine h_loada S CL hw le ⟨rfl, rfl, rfl, rfl, rfl, rfl, rfl, rfl, trivial⟩ rfl .here T34 (s' := [.ints .u8 x2 20]) rfl rfl rfl trivial ?_; clear S CL a; intro a S CL
              refine h_eqa S CL hw le ⟨rfl, rfl, rfl, rfl, rfl, rfl, rfl, rfl, rfl, trivial⟩ rfl rfl Tryd.underlying34 Tryd.underlying5 T5 Q34 rfl rfl trivial ?_; clear S CL a; intro a S CL
              refine h_assign S CL hw le ⟨rfl, rfl, rfl, rfl, rfl, rfl, rfl, rfl, rfl, rfl, trivial⟩ rfl rfl rfl trivial ?_; clear S CL a; intro a S CL
              refine h_done ?_; clear CL hw le
              refine x_thenN ?_
              refine wp_seq_k ?_
              intro K5 hK5
              have j5 : ∀ (m : Mem) (y512 : Bool) (g624 : Nat) (a : Act) (w : World), St 100 m b0 [(12, (.v (.bool y512))), (11, (.v (.int .i64 y472))), (42, (.v (.int .i64 y472))), (41, (.v (.int .i64 (((gt ((gt x1 y194).2.2.2) y383).2.2.2.2.2.2.1).length : Int)))), (10, (.sl A9 ((gt ((gt x1 y194).2.2.2) y383).2.2.2.2.2.2.1).length cp136 (RdS (Ty.prod (Ty.arr .u8 20) (Ty.prod (Ty.slice (Ty.arr .u64 4)) (Ty.slice (Ty.int .u8)))) A9 ((gt ((gt x1 y194).2.2.2) y383).2.2.2.2.2.2.1)))), (28, (.v (.int .i64 y383))), (27, (.v (.int .i64 (((gt x1 y194).2.2.2).length : Int)))), (8, (.v (.int .i64 y194))), (19, (.v (.int .i64 y194))), (18, (.v (.int .i64 ((x1).length : Int)))), (7, (.v (.slice A10 nn63 cp137))), (4, (.v (.pointer (some ⟨g624, 0, none⟩)))), (0, (.sl ch_0_0 (x1).length ch_0_1 (RdS (Ty.prod (Ty.prod (Ty.arr .u8 32) (Ty.prod (Ty.int .u64) (Ty.prod (Ty.int .u64) (Ty.prod (Ty.int .u64) (Ty.prod (Ty.int .u64) (Ty.prod (Ty.arr .u64 4) (Ty.prod (Ty.arr .u8 20) (Ty.prod (Ty.arr .u64 4) (Ty.prod (Ty.arr .u8 32) (Ty.arr .u8 32)))))))))) (Ty.prod (Ty.arr .u8 32) (Ty.prod (Ty.slice (Ty.arr .u8 32)) (Ty.slice (Ty.prod (Ty.arr .u8 20) (Ty.prod (Ty.int .u64) (Ty.prod Ty.bool (Ty.prod (Ty.int .u64) (Ty.prod (Ty.arr .u64 4) (Ty.prod (Ty.arr .u8 20) (Ty.prod (Ty.slice (Ty.prod (Ty.arr .u8 20) (Ty.prod (Ty.slice (Ty.arr .u64 4)) (Ty.slice (Ty.int .u8))))) (Ty.slice (Ty.int .u8))))))))))))) ch_0_0 x1))), (2, (.sl ch_2_0 (x3).length ch_2_1 (RdS (Ty.arr .u64 4) ch_2_0 x3)))] [Res.row (Ty.prod (Ty.arr .u8 20) (Ty.prod (Ty.slice (Ty.arr .u64 4)) (Ty.slice (Ty.int .u8)))) 38 A10 nn63 cp137 y473, Res.cells g624 34 [.ints .u8 x2 20]] a w → smithyref29_Find.j5 x1 y194 y383 y472 y473 (smithyref29_Find.l3 k x1 x2 x3 y194 y383 (smithyref29_Find.l2 k x1 x2 x3 y194 (smithyref29_Find.l1 k x1 x2 x3 q1) q2) q3) y512 = some r → K5 a w := by
                intro m y512 g624 a w S h0
                delta smithyref29_Find.j5 at h0
                refine hK5 a w ?_
                refine c_region ?_
                refine s_move S rfl rfl ?_; clear S a; intro a S
                refine c_end ?_
                rcases ite_of h0 with ⟨c7, h1⟩ | ⟨c7, h1⟩ <;> clear h0
                · refine c_condT S rfl c7 ?_
                  refine c_region' ?_
                  refine s_move S rfl rfl ?_; clear S a; intro a S
                  refine s_move S rfl rfl ?_; clear S a; intro a S
                  refine s_move S rfl rfl ?_; clear S a; intro a S
                  refine s_iaddrS S rfl rfl rfl Tryd.underlying22 T38 c6.1 c6.2 rfl ?_; clear S a; intro p7 a S
                  refine s_ldA S (fun (c : Unit × (Option Addr × Nat) × (Option Addr × Nat)) => [.ints .u8 ((gt ((gt ((gt x1 y194).2.2.2) y383).2.2.2.2.2.2.1) y472).1) 20, .sl c.2.1.1 ((gt ((gt ((gt x1 y194).2.2.2) y383).2.2.2.2.2.2.1) y472).2.1).length c.2.1.2 (RdS (Ty.arr .u64 4) c.2.1.1 ((gt ((gt ((gt x1 y194).2.2.2) y383).2.2.2.2.2.2.1) y472).2.1)), .sl c.2.2.1 ((gt ((gt ((gt x1 y194).2.2.2) y383).2.2.2.2.2.2.1) y472).2.2).length c.2.2.2 (RdS (Ty.int .u8) c.2.2.1 ((gt ((gt ((gt x1 y194).2.2.2) y383).2.2.2.2.2.2.1) y472).2.2))]) rfl T38 (fun _ => rfl) rfl ?_; clear S a; intro ch2 a S
                  refine s_bldSl S (ty' := (Ty.prod (Ty.arr .u8 20) (Ty.prod (Ty.slice (Ty.arr .u64 4)) (Ty.slice (Ty.int .u8))))) (ds := [(0, (.agg [.ints .u8 ((gt ((gt ((gt x1 y194).2.2.2) y383).2.2.2.2.2.2.1) y472).1) 20, .sl ch2.2.1.1 ((gt ((gt ((gt x1 y194).2.2.2) y383).2.2.2.2.2.2.1) y472).2.1).length ch2.2.1.2 (RdS (Ty.arr .u64 4) ch2.2.1.1 ((gt ((gt ((gt x1 y194).2.2.2) y383).2.2.2.2.2.2.1) y472).2.1)), .sl ch2.2.2.1 ((gt ((gt ((gt x1 y194).2.2.2) y383).2.2.2.2.2.2.1) y472).2.2).length ch2.2.2.2 (RdS (Ty.int .u8) ch2.2.2.1 ((gt ((gt ((gt x1 y194).2.2.2) y383).2.2.2.2.2.2.1) y472).2.2))]))]) (z := ([0, 0, 0, 0, 0, 0, 0, 0, 0, 0, 0, 0, 0, 0, 0, 0, 0, 0, 0, 0], ([] : List (List Int)), ([] : List Int))) (c0 := ((), (none, 0), (none, 0))) (ys := [((gt ((gt ((gt x1 y194).2.2.2) y383).2.2.2.2.2.2.1) y472).1, (gt ((gt ((gt x1 y194).2.2.2) y383).2.2.2.2.2.2.1) y472).2.1, (gt ((gt ((gt x1 y194).2.2.2) y383).2.2.2.2.2.2.1) y472).2.2)]) (cs := [((), (ch2.2.1.1, ch2.2.1.2), (ch2.2.2.1, ch2.2.2.2))]) rfl Tryd.underlying22 J38 Z38 rfl ⟨rfl, ⟨Nat.le_refl _, Nat.zero_le _, RdS.nil _ _ _, RdS.mono _ _ _⟩, ⟨Nat.le_refl _, Nat.zero_le _, RdS.nil _ _ _, RdS.mono _ _ _⟩, trivial⟩ rfl rfl rfl rfl rfl rfl ?_; clear S a w; intro g625 a w S
                  obtain ⟨c8, h2⟩ := chk_of h1; clear h1
                  refine s_app S (k2 := 1) (ys := [((gt ((gt ((gt x1 y194).2.2.2) y383).2.2.2.2.2.2.1) y472).1, (gt ((gt ((gt x1 y194).2.2.2) y383).2.2.2.2.2.2.1) y472).2.1, (gt ((gt ((gt x1 y194).2.2.2) y383).2.2.2.2.2.2.1) y472).2.2)]) rfl (fun _ _ => (.there .here)) rfl rfl (S.holds _ (Pull.mem .here).1).1 (Res.row.src (S.holds _ (Pull.mem .here).1)) Tryd.underlying22 J38 c8 rfl ?_; clear S a w; intro A12 cp140 a w S
                  refine s_assign S rfl rfl ?_; clear S a; intro a S
                  refine c_end' ?_
                  refine x_blockN ?_
                  refine x_thenN ?_
                  exact j4 _ A12 (nn63 + 1) cp140 (y473 ++ [((gt ((gt ((gt x1 y194).2.2.2) y383).2.2.2.2.2.2.1) y472).1, (gt ((gt ((gt x1 y194).2.2.2) y383).2.2.2.2.2.2.1) y472).2.1, (gt ((gt ((gt x1 y194).2.2.2) y383).2.2.2.2.2.2.1) y472).2.2)]) g624 a w (S.sub ⟨rfl, rfl, rfl, rfl, rfl, rfl, rfl, rfl, rfl, rfl, rfl, rfl, trivial⟩ (.cons (.there .here) (.cons (.there .here) .nil))) h2
                · refine c_condF S rfl c7 ?_
                  refine wp_skip ?_
                  refine x_blockN ?_
                  refine x_thenN ?_
                  exact j4 _ A10 nn63 cp137 y473 g624 a w (S.sub ⟨rfl, rfl, rfl, rfl, rfl, rfl, rfl, rfl, rfl, rfl, rfl, rfl, trivial⟩ (.cons .here (.cons .here .nil))) h1
              refine c_region ?_
              refine s_move S rfl rfl ?_; clear S a; intro a S
              refine s_lenS S rfl Tryd.underlying35 rfl ?_; clear S a; intro a S
              refine s_move S rfl rfl ?_; clear S a; intro a S
              refine c_end ?_
              refine wp_block ?_
              refine c_loop (fun q4 a w => ∃ (m : Mem) (y529 : Int) (y530 : Bool) (g640 : Nat), St 100 m b0 [(54, (.v (.int .i64 y529))), (53, (.v (.int .i64 ((x3).length : Int)))), (12, (.v (.bool y530))), (11, (.v (.int .i64 y472))), (42, (.v (.int .i64 y472))), (41, (.v (.int .i64 (((gt ((gt x1 y194).2.2.2) y383).2.2.2.2.2.2.1).length : Int)))), (10, (.sl A9 ((gt ((gt x1 y194).2.2.2) y383).2.2.2.2.2.2.1).length cp136 (RdS (Ty.prod (Ty.arr .u8 20) (Ty.prod (Ty.slice (Ty.arr .u64 4)) (Ty.slice (Ty.int .u8)))) A9 ((gt ((gt x1 y194).2.2.2) y383).2.2.2.2.2.2.1)))), (28, (.v (.int .i64 y383))), (27, (.v (.int .i64 (((gt x1 y194).2.2.2).length : Int)))), (8, (.v (.int .i64 y194))), (19, (.v (.int .i64 y194))), (18, (.v (.int .i64 ((x1).length : Int)))), (7, (.v (.slice A10 nn63 cp137))), (4, (.v (.pointer (some ⟨g640, 0, none⟩)))), (0, (.sl ch_0_0 (x1).length ch_0_1 (RdS (Ty.prod (Ty.prod (Ty.arr .u8 32) (Ty.prod (Ty.int .u64) (Ty.prod (Ty.int .u64) (Ty.prod (Ty.int .u64) (Ty.prod (Ty.int .u64) (Ty.prod (Ty.arr .u64 4) (Ty.prod (Ty.arr .u8 20) (Ty.prod (Ty.arr .u64 4) (Ty.prod (Ty.arr .u8 32) (Ty.arr .u8 32)))))))))) (Ty.prod (Ty.arr .u8 32) (Ty.prod (Ty.slice (Ty.arr .u8 32)) (Ty.slice (Ty.prod (Ty.arr .u8 20) (Ty.prod (Ty.int .u64) (Ty.prod Ty.bool (Ty.prod (Ty.int .u64) (Ty.prod (Ty.arr .u64 4) (Ty.prod (Ty.arr .u8 20) (Ty.prod (Ty.slice (Ty.prod (Ty.arr .u8 20) (Ty.prod (Ty.slice (Ty.arr .u64 4)) (Ty.slice (Ty.int .u8))))) (Ty.slice (Ty.int .u8))))))))))))) ch_0_0 x1))), (2, (.sl ch_2_0 (x3).length ch_2_1 (RdS (Ty.arr .u64 4) ch_2_0 x3)))] [Res.row (Ty.prod (Ty.arr .u8 20) (Ty.prod (Ty.slice (Ty.arr .u64 4)) (Ty.slice (Ty.int .u8)))) 38 A10 nn63 cp137 y473, Res.cells g640 34 [.ints .u8 x2 20]] a w ∧ smithyref29_Find.l4 k x1 x3 y194 y383 y472 y473 (smithyref29_Find.l3 k x1 x2 x3 y194 y383 (smithyref29_Find.l2 k x1 x2 x3 y194 (smithyref29_Find.l1 k x1 x2 x3 q1) q2) q3) q4 y529 y530 = some r) ?_ ?_ (k := k) ⟨_, 0, (decide ((gt ((gt ((gt x1 y194).2.2.2) y383).2.2.2.2.2.2.1) y472).1 = x2)), g590, (S.sub ⟨rfl, rfl, rfl, rfl, rfl, rfl, rfl, rfl, rfl, rfl, rfl, rfl, rfl, rfl, rfl, rfl, trivial⟩ (.cons .here (.cons .here .nil))), h2⟩
              · rintro a w ⟨m, y529, y530, g640, S, h0⟩
                exact (nomatch (show (none : Option ((List ((List Int) × (List (List Int)) × (List Int))))) = some r from h0))
              · clear S h2
                rintro q4 a w ⟨m, y529, y530, g640, S, h0⟩
                replace h0 : smithyref29_Find.b4 k x1 x3 y194 y383 y472 y473 (smithyref29_Find.l3 k x1 x2 x3 y194 y383 (smithyref29_Find.l2 k x1 x2 x3 y194 (smithyref29_Find.l1 k x1 x2 x3 q1) q2) q3) (smithyref29_Find.l4 k x1 x3 y194 y383 y472 y473 (smithyref29_Find.l3 k x1 x2 x3 y194 y383 (smithyref29_Find.l2 k x1 x2 x3 y194 (smithyref29_Find.l1 k x1 x2 x3 q1) q2) q3) q4) y529 y530 = some r := h0
                delta smithyref29_Find.b4 at h0
                refine c_region ?_
                refine s_bin S rfl rfl rfl rfl ?_; clear S a; intro a S
                refine c_end ?_
                refine wp_seq ?_
                rcases ite_of h0 with ⟨c9, h1⟩ | ⟨c9, h1⟩ <;> clear h0
                · refine c_condT S rfl c9 ?_
                  refine wp_skip ?_
                  refine x_thenN ?_
                  refine wp_seq_k ?_
                  intro K6 hK6
                  have j6 : ∀ (m : Mem) (y537 : Bool) (g646 : Nat) (a : Act) (w : World), St 100 m b0 [(12, (.v (.bool y537))), (54, (.v (.int .i64 y529))), (53, (.v (.int .i64 ((x3).length : Int)))), (11, (.v (.int .i64 y472))), (42, (.v (.int .i64 y472))), (41, (.v (.int .i64 (((gt ((gt x1 y194).2.2.2) y383).2.2.2.2.2.2.1).length : Int)))), (10, (.sl A9 ((gt ((gt x1 y194).2.2.2) y383).2.2.2.2.2.2.1).length cp136 (RdS (Ty.prod (Ty.arr .u8 20) (Ty.prod (Ty.slice (Ty.arr .u64 4)) (Ty.slice (Ty.int .u8)))) A9 ((gt ((gt x1 y194).2.2.2) y383).2.2.2.2.2.2.1)))), (28, (.v (.int .i64 y383))), (27, (.v (.int .i64 (((gt x1 y194).2.2.2).length : Int)))), (8, (.v (.int .i64 y194))), (19, (.v (.int .i64 y194))), (18, (.v (.int .i64 ((x1).length : Int)))), (7, (.v (.slice A10 nn63 cp137))), (4, (.v (.pointer (some ⟨g646, 0, none⟩)))), (0, (.sl ch_0_0 (x1).length ch_0_1 (RdS (Ty.prod (Ty.prod (Ty.arr .u8 32) (Ty.prod (Ty.int .u64) (Ty.prod (Ty.int .u64) (Ty.prod (Ty.int .u64) (Ty.prod (Ty.int .u64) (Ty.prod (Ty.arr .u64 4) (Ty.prod (Ty.arr .u8 20) (Ty.prod (Ty.arr .u64 4) (Ty.prod (Ty.arr .u8 32) (Ty.arr .u8 32)))))))))) (Ty.prod (Ty.arr .u8 32) (Ty.prod (Ty.slice (Ty.arr .u8 32)) (Ty.slice (Ty.prod (Ty.arr .u8 20) (Ty.prod (Ty.int .u64) (Ty.prod Ty.bool (Ty.prod (Ty.int .u64) (Ty.prod (Ty.arr .u64 4) (Ty.prod (Ty.arr .u8 20) (Ty.prod (Ty.slice (Ty.prod (Ty.arr .u8 20) (Ty.prod (Ty.slice (Ty.arr .u64 4)) (Ty.slice (Ty.int .u8))))) (Ty.slice (Ty.int .u8))))))))))))) ch_0_0 x1))), (2, (.sl ch_2_0 (x3).length ch_2_1 (RdS (Ty.arr .u64 4) ch_2_0 x3)))] [Res.row (Ty.prod (Ty.arr .u8 20) (Ty.prod (Ty.slice (Ty.arr .u64 4)) (Ty.slice (Ty.int .u8)))) 38 A10 nn63 cp137 y473, Res.cells g646 34 [.ints .u8 x2 20]] a w → smithyref29_Find.j6 y529 (smithyref29_Find.l4 k x1 x3 y194 y383 y472 y473 (smithyref29_Find.l3 k x1 x2 x3 y194 y383 (smithyref29_Find.l2 k x1 x2 x3 y194 (smithyref29_Find.l1 k x1 x2 x3 q1) q2) q3) q4) y537 = some r → K6 a w := by
                    intro m y537 g646 a w S h0
                    delta smithyref29_Find.j6 at h0
                    refine hK6 a w ?_
                    refine c_region' ?_
                    refine s_bin S rfl rfl rfl rfl ?_; clear S a; intro a S
                    refine s_move S rfl rfl ?_; clear S a; intro a S
                    refine c_end' ?_
                    refine x_thenN ?_
                    exact ⟨_, (wr .i64 (y529 + 1)), y537, g646, (S.sub ⟨rfl, rfl, rfl, rfl, rfl, rfl, rfl, rfl, rfl, rfl, rfl, rfl, rfl, rfl, rfl, rfl, trivial⟩ (.cons .here (.cons .here .nil))), h0⟩
                  refine wp_block ?_
                  refine c_region ?_
                  refine s_move S rfl rfl ?_; clear S a; intro a S
                  refine s_assign S rfl rfl ?_; clear S a; intro a S
                  refine c_end ?_
                  refine c_region ?_
                  refine s_assign S rfl rfl ?_; clear S a; intro a S
                  refine c_end ?_
                  refine wp_seq_k ?_
                  intro K7 hK7
                  have j7 : ∀ (m : Mem) (y543 : Bool) (g651 : Nat) (a : Act) (w : World), St 100 m b0 [(14, (.v (.bool y543))), (54, (.v (.int .i64 y529))), (53, (.v (.int .i64 ((x3).length : Int)))), (12, (.v (.bool y530))), (11, (.v (.int .i64 y472))), (42, (.v (.int .i64 y472))), (41, (.v (.int .i64 (((gt ((gt x1 y194).2.2.2) y383).2.2.2.2.2.2.1).length : Int)))), (10, (.sl A9 ((gt ((gt x1 y194).2.2.2) y383).2.2.2.2.2.2.1).length cp136 (RdS (Ty.prod (Ty.arr .u8 20) (Ty.prod (Ty.slice (Ty.arr .u64 4)) (Ty.slice (Ty.int .u8)))) A9 ((gt ((gt x1 y194).2.2.2) y383).2.2.2.2.2.2.1)))), (28, (.v (.int .i64 y383))), (27, (.v (.int .i64 (((gt x1 y194).2.2.2).length : Int)))), (8, (.v (.int .i64 y194))), (19, (.v (.int .i64 y194))), (18, (.v (.int .i64 ((x1).length : Int)))), (7, (.v (.slice A10 nn63 cp137))), (4, (.v (.pointer (some ⟨g651, 0, none⟩)))), (0, (.sl ch_0_0 (x1).length ch_0_1 (RdS (Ty.prod (Ty.prod (Ty.arr .u8 32) (Ty.prod (Ty.int .u64) (Ty.prod (Ty.int .u64) (Ty.prod (Ty.int .u64) (Ty.prod (Ty.int .u64) (Ty.prod (Ty.arr .u64 4) (Ty.prod (Ty.arr .u8 20) (Ty.prod (Ty.arr .u64 4) (Ty.prod (Ty.arr .u8 32) (Ty.arr .u8 32)))))))))) (Ty.prod (Ty.arr .u8 32) (Ty.prod (Ty.slice (Ty.arr .u8 32)) (Ty.slice (Ty.prod (Ty.arr .u8 20) (Ty.prod (Ty.int .u64) (Ty.prod Ty.bool (Ty.prod (Ty.int .u64) (Ty.prod (Ty.arr .u64 4) (Ty.prod (Ty.arr .u8 20) (Ty.prod (Ty.slice (Ty.prod (Ty.arr .u8 20) (Ty.prod (Ty.slice (Ty.arr .u64 4)) (Ty.slice (Ty.int .u8))))) (Ty.slice (Ty.int .u8))))))))))))) ch_0_0 x1))), (2, (.sl ch_2_0 (x3).length ch_2_1 (RdS (Ty.arr .u64 4) ch_2_0 x3)))] [Res.row (Ty.prod (Ty.arr .u8 20) (Ty.prod (Ty.slice (Ty.arr .u64 4)) (Ty.slice (Ty.int .u8)))) 38 A10 nn63 cp137 y473, Res.cells g651 34 [.ints .u8 x2 20]] a w → smithyref29_Find.j7 y529 y530 (smithyref29_Find.l4 k x1 x3 y194 y383 y472 y473 (smithyref29_Find.l3 k x1 x2 x3 y194 y383 (smithyref29_Find.l2 k x1 x2 x3 y194 (smithyref29_Find.l1 k x1 x2 x3 q1) q2) q3) q4) y543 = some r → K7 a w := by
                    intro m y543 g651 a w S h0
                    delta smithyref29_Find.j7 at h0
                    refine hK7 a w ?_
                    refine c_region' ?_
                    refine s_move S rfl rfl ?_; clear S a; intro a S
                    refine s_move S rfl rfl ?_; clear S a; intro a S
                    rcases ite_of h0 with ⟨c10, h1⟩ | ⟨c10, h1⟩ <;> clear h0
                    · refine s_gT S (b := y530) rfl rfl c10 ?_
                      refine s_move S rfl rfl ?_; clear S a; intro a S
                      refine s_pick S (b := true) (hc_of rfl c10) rfl rfl ?_; clear S a; intro a S
                      refine s_assign S rfl rfl ?_; clear S a; intro a S
                      refine c_end' ?_
                      refine x_blockN ?_
                      refine x_thenN ?_
                      exact j6 _ y543 g651 a w (S.sub ⟨rfl, rfl, rfl, rfl, rfl, rfl, rfl, rfl, rfl, rfl, rfl, rfl, rfl, rfl, rfl, rfl, trivial⟩ (.cons .here (.cons .here .nil))) h1
                    · refine s_gF S (b := y530) rfl rfl c10 rfl ?_; clear S a; intro a S
                      refine s_pick S (b := false) (hc_of rfl c10) rfl rfl ?_; clear S a; intro a S
                      refine s_assign S rfl rfl ?_; clear S a; intro a S
                      refine c_end' ?_
                      refine x_blockN ?_
                      refine x_thenN ?_
                      exact j6 _ false g651 a w (S.sub ⟨rfl, rfl, rfl, rfl, rfl, rfl, rfl, rfl, rfl, rfl, rfl, rfl, rfl, rfl, rfl, rfl, trivial⟩ (.cons .here (.cons .here .nil))) h1
                  refine c_region ?_
                  refine s_move S rfl rfl ?_; clear S a; intro a S
                  refine s_move S rfl rfl ?_; clear S a; intro a S
                  refine s_iaddrS S rfl rfl rfl Tryd.underlying22 T38 c6.1 c6.2 rfl ?_; clear S a; intro p8 a S
                  refine s_faddrP S (tF := (Ty.slice (Ty.arr .u64 4))) (y := (gt ((gt ((gt x1 y194).2.2.2) y383).2.2.2.2.2.2.1) y472).2.1) rfl I38_1 T35 (by decide) (fun m h => (at_fst (at_snd (at_0 h)))) rfl ?_; clear S a; intro a S
                  refine s_ldS S (fun c => c) rfl T35 (fun _ => rfl) rfl ?_; clear S a; intro A13 cp141 a S
                  refine s_lenS S rfl Tryd.underlying35 rfl ?_; clear S a; intro a S
                  refine s_move S rfl rfl ?_; clear S a; intro a S
                  refine c_end ?_
                  refine wp_block ?_
                  refine c_loop (fun q5 a w => ∃ (m : Mem) (y547 : Int) (y548 : Bool) (g655 : Nat), St 100 m b0 [(63, (.v (.int .i64 y547))), (62, (.v (.int .i64 (((gt ((gt ((gt x1 y194).2.2.2) y383).2.2.2.2.2.2.1) y472).2.1).length : Int)))), (14, (.v (.bool y548))), (13, (.v (.int .i64 y529))), (54, (.v (.int .i64 y529))), (53, (.v (.int .i64 ((x3).length : Int)))), (12, (.v (.bool y530))), (11, (.v (.int .i64 y472))), (42, (.v (.int .i64 y472))), (41, (.v (.int .i64 (((gt ((gt x1 y194).2.2.2) y383).2.2.2.2.2.2.1).length : Int)))), (10, (.sl A9 ((gt ((gt x1 y194).2.2.2) y383).2.2.2.2.2.2.1).length cp136 (RdS (Ty.prod (Ty.arr .u8 20) (Ty.prod (Ty.slice (Ty.arr .u64 4)) (Ty.slice (Ty.int .u8)))) A9 ((gt ((gt x1 y194).2.2.2) y383).2.2.2.2.2.2.1)))), (28, (.v (.int .i64 y383))), (27, (.v (.int .i64 (((gt x1 y194).2.2.2).length : Int)))), (8, (.v (.int .i64 y194))), (19, (.v (.int .i64 y194))), (18, (.v (.int .i64 ((x1).length : Int)))), (7, (.v (.slice A10 nn63 cp137))), (4, (.v (.pointer (some ⟨g655, 0, none⟩)))), (0, (.sl ch_0_0 (x1).length ch_0_1 (RdS (Ty.prod (Ty.prod (Ty.arr .u8 32) (Ty.prod (Ty.int .u64) (Ty.prod (Ty.int .u64) (Ty.prod (Ty.int .u64) (Ty.prod (Ty.int .u64) (Ty.prod (Ty.arr .u64 4) (Ty.prod (Ty.arr .u8 20) (Ty.prod (Ty.arr .u64 4) (Ty.prod (Ty.arr .u8 32) (Ty.arr .u8 32)))))))))) (Ty.prod (Ty.arr .u8 32) (Ty.prod (Ty.slice (Ty.arr .u8 32)) (Ty.slice (Ty.prod (Ty.arr .u8 20) (Ty.prod (Ty.int .u64) (Ty.prod Ty.bool (Ty.prod (Ty.int .u64) (Ty.prod (Ty.arr .u64 4) (Ty.prod (Ty.arr .u8 20) (Ty.prod (Ty.slice (Ty.prod (Ty.arr .u8 20) (Ty.prod (Ty.slice (Ty.arr .u64 4)) (Ty.slice (Ty.int .u8))))) (Ty.slice (Ty.int .u8))))))))))))) ch_0_0 x1))), (2, (.sl ch_2_0 (x3).length ch_2_1 (RdS (Ty.arr .u64 4) ch_2_0 x3)))] [Res.row (Ty.prod (Ty.arr .u8 20) (Ty.prod (Ty.slice (Ty.arr .u64 4)) (Ty.slice (Ty.int .u8)))) 38 A10 nn63 cp137 y473, Res.cells g655 34 [.ints .u8 x2 20]] a w ∧ smithyref29_Find.l5 x1 x3 y194 y383 y472 y529 y530 (smithyref29_Find.l4 k x1 x3 y194 y383 y472 y473 (smithyref29_Find.l3 k x1 x2 x3 y194 y383 (smithyref29_Find.l2 k x1 x2 x3 y194 (smithyref29_Find.l1 k x1 x2 x3 q1) q2) q3) q4) q5 y547 y548 = some r) ?_ ?_ (k := k) ⟨_, 0, false, g640, (S.sub ⟨rfl, rfl, rfl, rfl, rfl, rfl, rfl, rfl, rfl, rfl, rfl, rfl, rfl, rfl, rfl, rfl, rfl, rfl, rfl, rfl, trivial⟩ (.cons .here (.cons .here .nil))), h1⟩
                  · rintro a w ⟨m, y547, y548, g655, S, h0⟩
                    exact (nomatch (show (none : Option ((List ((List Int) × (List (List Int)) × (List Int))))) = some r from h0))
                  · clear S h1
                    rintro q5 a w ⟨m, y547, y548, g655, S, h0⟩
                    replace h0 : smithyref29_Find.b5 x1 x3 y194 y383 y472 y529 y530 (smithyref29_Find.l4 k x1 x3 y194 y383 y472 y473 (smithyref29_Find.l3 k x1 x2 x3 y194 y383 (smithyref29_Find.l2 k x1 x2 x3 y194 (smithyref29_Find.l1 k x1 x2 x3 q1) q2) q3) q4) (smithyref29_Find.l5 x1 x3 y194 y383 y472 y529 y530 (smithyref29_Find.l4 k x1 x3 y194 y383 y472 y473 (smithyref29_Find.l3 k x1 x2 x3 y194 y383 (smithyref29_Find.l2 k x1 x2 x3 y194 (smithyref29_Find.l1 k x1 x2 x3 q1) q2) q3) q4) q5) y547 y548 = some r := h0
                    delta smithyref29_Find.b5 at h0
                    refine c_region ?_
                    refine s_bin S rfl rfl rfl rfl ?_; clear S a; intro a S
                    refine c_end ?_
                    refine wp_seq ?_
                    rcases ite_of h0 with ⟨c11, h1⟩ | ⟨c11, h1⟩ <;> clear h0
                    · refine c_condT S rfl c11 ?_
                      refine wp_skip ?_
                      refine x_thenN ?_
                      refine wp_seq_k ?_
                      intro K8 hK8
                      have j8 : ∀ (m : Mem) (y549 : Bool) (g656 : Nat) (a : Act) (w : World), St 100 m b0 [(14, (.v (.bool y549))), (63, (.v (.int .i64 y547))), (62, (.v (.int .i64 (((gt ((gt ((gt x1 y194).2.2.2) y383).2.2.2.2.2.2.1) y472).2.1).length : Int)))), (13, (.v (.int .i64 y529))), (54, (.v (.int .i64 y529))), (53, (.v (.int .i64 ((x3).length : Int)))), (12, (.v (.bool y530))), (11, (.v (.int .i64 y472))), (42, (.v (.int .i64 y472))), (41, (.v (.int .i64 (((gt ((gt x1 y194).2.2.2) y383).2.2.2.2.2.2.1).length : Int)))), (10, (.sl A9 ((gt ((gt x1 y194).2.2.2) y383).2.2.2.2.2.2.1).length cp136 (RdS (Ty.prod (Ty.arr .u8 20) (Ty.prod (Ty.slice (Ty.arr .u64 4)) (Ty.slice (Ty.int .u8)))) A9 ((gt ((gt x1 y194).2.2.2) y383).2.2.2.2.2.2.1)))), (28, (.v (.int .i64 y383))), (27, (.v (.int .i64 (((gt x1 y194).2.2.2).length : Int)))), (8, (.v (.int .i64 y194))), (19, (.v (.int .i64 y194))), (18, (.v (.int .i64 ((x1).length : Int)))), (7, (.v (.slice A10 nn63 cp137))), (4, (.v (.pointer (some ⟨g656, 0, none⟩)))), (0, (.sl ch_0_0 (x1).length ch_0_1 (RdS (Ty.prod (Ty.prod (Ty.arr .u8 32) (Ty.prod (Ty.int .u64) (Ty.prod (Ty.int .u64) (Ty.prod (Ty.int .u64) (Ty.prod (Ty.int .u64) (Ty.prod (Ty.arr .u64 4) (Ty.prod (Ty.arr .u8 20) (Ty.prod (Ty.arr .u64 4) (Ty.prod (Ty.arr .u8 32) (Ty.arr .u8 32)))))))))) (Ty.prod (Ty.arr .u8 32) (Ty.prod (Ty.slice (Ty.arr .u8 32)) (Ty.slice (Ty.prod (Ty.arr .u8 20) (Ty.prod (Ty.int .u64) (Ty.prod Ty.bool (Ty.prod (Ty.int .u64) (Ty.prod (Ty.arr .u64 4) (Ty.prod (Ty.arr .u8 20) (Ty.prod (Ty.slice (Ty.prod (Ty.arr .u8 20) (Ty.prod (Ty.slice (Ty.arr .u64 4)) (Ty.slice (Ty.int .u8))))) (Ty.slice (Ty.int .u8))))))))))))) ch_0_0 x1))), (2, (.sl ch_2_0 (x3).length ch_2_1 (RdS (Ty.arr .u64 4) ch_2_0 x3)))] [Res.row (Ty.prod (Ty.arr .u8 20) (Ty.prod (Ty.slice (Ty.arr .u64 4)) (Ty.slice (Ty.int .u8)))) 38 A10 nn63 cp137 y473, Res.cells g656 34 [.ints .u8 x2 20]] a w → smithyref29_Find.j8 y547 (smithyref29_Find.l5 x1 x3 y194 y383 y472 y529 y530 (smithyref29_Find.l4 k x1 x3 y194 y383 y472 y473 (smithyref29_Find.l3 k x1 x2 x3 y194 y383 (smithyref29_Find.l2 k x1 x2 x3 y194 (smithyref29_Find.l1 k x1 x2 x3 q1) q2) q3) q4) q5) y549 = some r → K8 a w := by
                        intro m y549 g656 a w S h0
                        delta smithyref29_Find.j8 at h0
                        refine hK8 a w ?_
                        refine c_region' ?_
                        refine s_bin S rfl rfl rfl rfl ?_; clear S a; intro a S
                        refine s_move S rfl rfl ?_; clear S a; intro a S
                        refine c_end' ?_
                        refine x_thenN ?_
                        exact ⟨_, (wr .i64 (y547 + 1)), y549, g656, (S.sub ⟨rfl, rfl, rfl, rfl, rfl, rfl, rfl, rfl, rfl, rfl, rfl, rfl, rfl, rfl, rfl, rfl, rfl, rfl, rfl, rfl, trivial⟩ (.cons .here (.cons .here .nil))), h0⟩
                      refine wp_block ?_
                      refine c_region ?_
                      refine s_move S rfl rfl ?_; clear S a; intro a S
                      refine s_assign S rfl rfl ?_; clear S a; intro a S
                      refine c_end ?_
                      refine c_heldS S (.alts (.run 0 true (.take 1 (.take 2 (.take 3 (.take 4 (.take 5 (.take 6 (.take 7 (.take 8 (.take 9 (.take 10 (.take 11 (.take 12 (.take 13 (.take 14 (.take 15 (.take 16 .done)))))))))))))))) .nil)) 17 [Res.cells g655 34 [.ints .u8 x2 20]] (.cons (.there .here) .nil) ⟨Res.stay_cells, trivial⟩ [(15, (.v (.int .i64 y547))), (13, (.v (.int .i64 y529))), (11, (.v (.int .i64 y472))), (10, (.sl A9 ((gt ((gt x1 y194).2.2.2) y383).2.2.2.2.2.2.1).length cp136 (RdS (Ty.prod (Ty.arr .u8 20) (Ty.prod (Ty.slice (Ty.arr .u64 4)) (Ty.slice (Ty.int .u8)))) A9 ((gt ((gt x1 y194).2.2.2) y383).2.2.2.2.2.2.1)))), (2, (.sl ch_2_0 (x3).length ch_2_1 (RdS (Ty.arr .u64 4) ch_2_0 x3)))] ⟨rfl, rfl, rfl, rfl, rfl, trivial⟩ (by kernel_rfl) (by kernel_rfl) ?_; clear S; intro w S CL hw le
                      refine h_run' S rfl trivial ?_
                      refine s_move S rfl rfl ?_; clear S a; intro a S
                      replace hw := CL.again hw S (.cons (.there .here) .nil) le
                      refine h_back ⟨fun _ => hw, ?_⟩
                      replace CL := CL.add (t := 66) (d := (.v (.bool y548))) S rfl rfl
                      refine h_move S CL hw le ⟨rfl, rfl, rfl, rfl, rfl, rfl, trivial⟩ rfl rfl rfl trivial ?_; clear S CL a; intro a S CL
                      rcases ite_of h1 with ⟨c12, h2⟩ | ⟨c12, h2⟩ <;> clear h1
                      · refine h_skip S CL rfl rfl rfl (ne_bool c12) rfl ?_; clear S CL a; intro a S CL
                        refine h_skip S CL rfl rfl rfl (ne_bool c12) rfl ?_; clear S CL a; intro a S CL
                        refine h_skip S CL rfl rfl rfl (ne_bool c12) rfl ?_; clear S CL a; intro a S CL
                        refine h_skip S CL rfl rfl rfl (ne_bool c12) rfl ?_; clear S CL a; intro a S CL
                        refine h_skip S CL rfl rfl rfl (ne_bool c12) rfl ?_; clear S CL a; intro a S CL
                        refine h_skip S CL rfl rfl rfl (ne_bool c12) rfl ?_; clear S CL a; intro a S CL
                        refine h_skip S CL rfl rfl rfl (ne_bool c12) rfl ?_; clear S CL a; intro a S CL
                        refine h_skip S CL rfl rfl rfl (ne_bool c12) rfl ?_; clear S CL a; intro a S CL
                        refine h_skip S CL rfl rfl rfl (ne_bool c12) rfl ?_; clear S CL a; intro a S CL
                        refine h_skip S CL rfl rfl rfl (ne_bool c12) rfl ?_; clear S CL a; intro a S CL
                        refine h_skip S CL rfl rfl rfl (ne_bool c12) rfl ?_; clear S CL a; intro a S CL
                        refine h_skip S CL rfl rfl rfl (ne_bool c12) rfl ?_; clear S CL a; intro a S CL
                        refine h_skip S CL rfl rfl rfl (ne_bool c12) rfl ?_; clear S CL a; intro a S CL
                        refine h_pick S CL hw le ⟨rfl, rfl, rfl, rfl, rfl, rfl, rfl, rfl, rfl, rfl, rfl, rfl, rfl, rfl, rfl, rfl, rfl, rfl, rfl, rfl, trivial⟩ (b := true) (hc_of rfl c12) rfl rfl rfl trivial ?_; clear S CL a; intro a S CL
                        refine h_assign S CL hw le ⟨rfl, rfl, rfl, rfl, rfl, rfl, rfl, rfl, rfl, rfl, rfl, rfl, rfl, rfl, rfl, rfl, rfl, rfl, rfl, rfl, rfl, trivial⟩ rfl rfl rfl trivial ?_; clear S CL a; intro a S CL
                        refine h_done ?_; clear CL hw le
                        refine x_blockN ?_
                        refine x_thenN ?_
                        exact j8 _ true g655 a w (S.sub ⟨rfl, rfl, rfl, rfl, rfl, rfl, rfl, rfl, rfl, rfl, rfl, rfl, rfl, rfl, rfl, rfl, rfl, rfl, rfl, rfl, trivial⟩ (.cons .here (.cons .here .nil))) h2
                      · refine h_move S CL hw le ⟨rfl, rfl, rfl, rfl, rfl, rfl, rfl, trivial⟩ rfl rfl rfl ⟨_, _, rfl, rfl, c12⟩ ?_; clear S CL a; intro a S CL
                        refine h_move S CL hw le ⟨rfl, rfl, rfl, rfl, rfl, rfl, rfl, rfl, trivial⟩ rfl rfl rfl ⟨_, _, rfl, rfl, c12⟩ ?_; clear S CL a; intro a S CL
                        refine h_iaddrS S CL hw le ⟨rfl, rfl, rfl, rfl, rfl, rfl, rfl, rfl, rfl, trivial⟩ rfl rfl rfl Tryd.underlying22 T38 c6.1 c6.2 rfl rfl ⟨_, _, rfl, rfl, c12⟩ ?_; clear S CL a; intro p15 a S CL
                        refine h_faddrP S CL hw le ⟨rfl, rfl, rfl, rfl, rfl, rfl, rfl, rfl, rfl, rfl, trivial⟩ (tF := (Ty.slice (Ty.arr .u64 4))) (y := (gt ((gt ((gt x1 y194).2.2.2) y383).2.2.2.2.2.2.1) y472).2.1) rfl I38_1 T35 (by decide) (fun m h => (at_fst (at_snd (at_0 h)))) rfl rfl ⟨_, _, rfl, rfl, c12⟩ ?_; clear S CL a; intro a S CL
                        refine h_ldS S CL hw le ⟨rfl, rfl, rfl, rfl, rfl, rfl, rfl, rfl, rfl, rfl, rfl, trivial⟩ (fun c => c) rfl T35 (fun _ => rfl) rfl rfl ⟨_, _, rfl, rfl, c12⟩ ?_; clear S CL a; intro A14 cp144 a S CL
                        refine h_move S CL hw le ⟨rfl, rfl, rfl, rfl, rfl, rfl, rfl, rfl, rfl, rfl, rfl, rfl, trivial⟩ rfl rfl rfl ⟨_, _, rfl, rfl, c12⟩ ?_; clear S CL a; intro a S CL
                        obtain ⟨c13, h3⟩ := chk_of h2; clear h2
                        refine h_iaddrS S CL hw le ⟨rfl, rfl, rfl, rfl, rfl, rfl, rfl, rfl, rfl, rfl, rfl, rfl, rfl, trivial⟩ rfl rfl rfl Tryd.underlying35 T53 c13.1 c13.2 rfl rfl ⟨_, _, rfl, rfl, c12⟩ ?_; clear S CL a; intro p16 a S CL
                        refine h_ldA S CL hw le ⟨rfl, rfl, rfl, rfl, rfl, rfl, rfl, rfl, rfl, rfl, rfl, rfl, rfl, rfl, trivial⟩ (fun (c : Unit) => [.ints .u64 (gt ((gt ((gt ((gt x1 y194).2.2.2) y383).2.2.2.2.2.2.1) y472).2.1) y547) 4]) rfl T53 (fun _ => rfl) rfl rfl ⟨_, _, rfl, rfl, c12⟩ ?_; clear S CL a; intro ch3 a S CL
                        refine h_move S CL hw le ⟨rfl, rfl, rfl, rfl, rfl, rfl, rfl, rfl, rfl, rfl, rfl, rfl, rfl, rfl, rfl, trivial⟩ rfl rfl rfl ⟨_, _, rfl, rfl, c12⟩ ?_; clear S CL a; intro a S CL
                        refine h_move S CL hw le ⟨rfl, rfl, rfl, rfl, rfl, rfl, rfl, rfl, rfl, rfl, rfl, rfl, rfl, rfl, rfl, rfl, trivial⟩ rfl rfl rfl ⟨_, _, rfl, rfl, c12⟩ ?_; clear S CL a; intro a S CL
                        obtain ⟨c14, h4⟩ := chk_of h3; clear h3
                        refine h_iaddrS S CL hw le ⟨rfl, rfl, rfl, rfl, rfl, rfl, rfl, rfl, rfl, rfl, rfl, rfl, rfl, rfl, rfl, rfl, rfl, trivial⟩ rfl rfl rfl Tryd.underlying35 T53 c14.1 c14.2 rfl rfl ⟨_, _, rfl, rfl, c12⟩ ?_; clear S CL a; intro p17 a S CL
                        refine h_ldA S CL hw le ⟨rfl, rfl, rfl, rfl, rfl, rfl, rfl, rfl, rfl, rfl, rfl, rfl, rfl, rfl, rfl, rfl, rfl, rfl, trivial⟩ (fun (c : Unit) => [.ints .u64 (gt x3 y529) 4]) rfl T53 (fun _ => rfl) rfl rfl ⟨_, _, rfl, rfl, c12⟩ ?_; clear S CL a; intro ch4 a S CL
                        refine h_eqa S CL hw le ⟨rfl, rfl, rfl, rfl, rfl, rfl, rfl, rfl, rfl, rfl, rfl, rfl, rfl, rfl, rfl, rfl, rfl, rfl, rfl, trivial⟩ rfl rfl Tryd.underlying53 Tryd.underlying51 T51 Q53 rfl rfl ⟨_, _, rfl, rfl, c12⟩ ?_; clear S CL a; intro a S CL
                        refine h_pick S CL hw le ⟨rfl, rfl, rfl, rfl, rfl, rfl, rfl, rfl, rfl, rfl, rfl, rfl, rfl, rfl, rfl, rfl, rfl, rfl, rfl, rfl, trivial⟩ (b := false) (hc_of rfl c12) rfl rfl rfl trivial ?_; clear S CL a; intro a S CL
                        refine h_assign S CL hw le ⟨rfl, rfl, rfl, rfl, rfl, rfl, rfl, rfl, rfl, rfl, rfl, rfl, rfl, rfl, rfl, rfl, rfl, rfl, rfl, rfl, rfl, trivial⟩ rfl rfl rfl trivial ?_; clear S CL a; intro a S CL
                        refine h_done ?_; clear CL hw le
                        refine x_blockN ?_
                        refine x_thenN ?_
                        exact j8 _ (decide (gt ((gt ((gt ((gt x1 y194).2.2.2) y383).2.2.2.2.2.2.1) y472).2.1) y547 = gt x3 y529)) g655 a w (S.sub ⟨rfl, rfl, rfl, rfl, rfl, rfl, rfl, rfl, rfl, rfl, rfl, rfl, rfl, rfl, rfl, rfl, rfl, rfl, rfl, rfl, trivial⟩ (.cons .here (.cons .here .nil))) h4
                    · refine c_condF S rfl c11 ?_
                      refine wp_exit ?_
                      refine x_thenX ?_
                      refine x_thenX ?_
                      refine x_blockX ?_
                      refine x_thenN ?_
                      exact j7 _ y548 g655 a w (S.sub ⟨rfl, rfl, rfl, rfl, rfl, rfl, rfl, rfl, rfl, rfl, rfl, rfl, rfl, rfl, rfl, rfl, rfl, trivial⟩ (.cons .here (.cons .here .nil))) h1
                · refine c_condF S rfl c9 ?_
                  refine wp_exit ?_
                  refine x_thenX ?_
                  refine x_thenX ?_
                  refine x_blockX ?_
                  refine x_thenN ?_
                  exact j5 _ y530 g640 a w (S.sub ⟨rfl, rfl, rfl, rfl, rfl, rfl, rfl, rfl, rfl, rfl, rfl, rfl, rfl, rfl, trivial⟩ (.cons .here (.cons .here .nil))) h1
            · refine c_condF S rfl c5 ?_
              refine wp_exit ?_
              refine x_thenX ?_
              refine x_thenX ?_
              refine x_blockX ?_
              refine x_blockN ?_
              refine x_thenN ?_
              exact j3 _ A10 nn63 cp137 y473 g590 a w (S.sub ⟨rfl, rfl, rfl, rfl, rfl, rfl, rfl, rfl, rfl, trivial⟩ (.cons .here (.cons .here .nil))) h1
        · refine c_condF S rfl c3 ?_
          refine wp_exit ?_
          refine x_thenX ?_
          refine x_thenX ?_
          refine x_blockX ?_
          refine x_blockN ?_
          refine x_thenN ?_
          exact j2 _ A5 nn54 cp114 y384 g511 a w (S.sub ⟨rfl, rfl, rfl, rfl, rfl, rfl, trivial⟩ (.cons .here (.cons .here .nil))) h1
    · refine c_condF S rfl c1 ?_
      refine wp_exit ?_
      refine x_thenX ?_
      refine x_thenX ?_
      refine x_blockX ?_
      refine x_thenN ?_
      exact j1 _ A2 nn29 cp59 y195 a w (S.sub ⟨rfl, trivial⟩ (.cons .here .nil)) h1
/-! smithy/bloom.may -/
abbrev bloom_may.Ty : Type := (List Int) → (List Int) → (List (List Int)) → Option Bool
def bloom_may.Ctr (s : bloom_may.Ty) : Prop := ∀ (x1 : List Int) (x2 : List Int) (x3 : List (List Int)) (ch_2_0 : Option Addr) (ch_2_1 : Nat) (r : Bool) (h0 : s x1 x2 x3 = some r) (mi : Mem) (w0 : World) (G : Glob mi), okL mi [(.agg [.ints .u8 x1 256]), (.agg [.ints .u8 x2 20]), (.sl ch_2_0 (x3).length ch_2_1 (RdS (Ty.arr .u64 4) ch_2_0 x3))] → Pre mi [] w0 → Calls Tryd.prog 30 (([(.agg [.ints .u8 x1 256]), (.agg [.ints .u8 x2 20]), (.sl ch_2_0 (x3).length ch_2_1 (RdS (Ty.arr .u64 4) ch_2_0 x3))] : List D).map D.val).toArray w0 (RetX mi [] (fun (ch : Unit) => ((.v (.bool r)) : D)) (fun (ch : Unit) => []) w0)
def bloom_may.j1 (k : Nat) (x1 : List Int) (x2 : List Int) : Option Bool := (bloom_Has.f k x1 (((x2).drop 0).take 20)).bind fun t1 => (some t1)
def bloom_may.b1 (k : Nat) (x1 : List Int) (x2 : List Int) (x3 : List (List Int)) (rec1 : Int → Option Bool) (y1 : Int) : Option Bool := if (decide (y1 < ((x3).length : Int))) = true then (if (0 : Int) ≤ y1 ∧ y1 < ((x3).length : Int) then ((word_Bytes.f k (gt x3 y1)).bind fun t6 => ((bloom_Has.f k x1 (((t6).drop 0).take 32)).bind fun t7 => (if (!t7) = true then (some false) else (rec1 (wr .i64 (y1 + 1)))))) else none) else (bloom_may.j1 k x1 x2)
def bloom_may.l1 (k : Nat) (x1 : List Int) (x2 : List Int) (x3 : List (List Int)) : Nat → Int → Option Bool
  | 0, _ => none
  | q + 1, y1 => bloom_may.b1 k x1 x2 x3 (bloom_may.l1 k x1 x2 x3 q) y1
def bloom_may.f (k : Nat) (x1 : List Int) (x2 : List Int) (x3 : List (List Int)) : Option Bool := bloom_may.l1 k x1 x2 x3 k 0
theorem bloom_may.ok (k : Nat) : bloom_may.Ctr (bloom_may.f k) := by
  intro x1 x2 x3 ch_2_0 ch_2_1 r h0 mi w0 G ok hm
  delta bloom_may.f at h0
  refine c_enterX (n := 26) [(.agg [.ints .u8 x1 256]), (.agg [.ints .u8 x2 20]), (.sl ch_2_0 (x3).length ch_2_1 (RdS (Ty.arr .u64 4) ch_2_0 x3))] (l := [(0, (.agg [.ints .u8 x1 256])), (1, (.agg [.ints .u8 x2 20])), (2, (.sl ch_2_0 (x3).length ch_2_1 (RdS (Ty.arr .u64 4) ch_2_0 x3)))]) Tryd.func30 rfl rfl rfl rfl ok hm ?_
  clear ok hm
  intro b0 hb a S
  refine c_region ?_
  refine s_box S rfl rfl rfl ?_; clear S a; intro g1 a w S
  refine s_box S rfl rfl rfl ?_; clear S a w; intro g2 a w S
  refine s_assign S rfl rfl ?_; clear S a; intro a S
  refine c_end ?_
  refine wp_seq_k ?_
  intro K1 hK1
  have j1 : ∀ (m : Mem) (g13 : Nat) (g14 : Nat) (a : Act) (w : World), St 26 m b0 [(4, (.v (.pointer (some ⟨g13, 0, none⟩)))), (3, (.v (.pointer (some ⟨g14, 0, none⟩))))] [Res.cells g13 34 [.ints .u8 x2 20], Res.cells g14 24 [.ints .u8 x1 256]] a w → bloom_may.j1 k x1 x2 = some r → K1 a w := by
    intro m g13 g14 a w S h0
    delta bloom_may.j1 at h0
    refine hK1 a w ?_
    replace S := S.freeze .here
    obtain ⟨m, le1, S⟩ := S
    refine wp_seq (c_heldS S (.take 0 (.take 1 (.alts (.run 2 true (.take 3 .done) .nil)))) 4 [Res.fro g13 34 [.ints .u8 x2 20], Res.cells g14 24 [.ints .u8 x1 256]] (.cons .here (.cons .here .nil)) ⟨Res.stay_fro, Res.stay_cells, trivial⟩ [(4, (.v (.pointer (some ⟨g13, 0, none⟩)))), (3, (.v (.pointer (some ⟨g14, 0, none⟩))))] ⟨rfl, rfl, trivial⟩ (by kernel_rfl) (by kernel_rfl) ?_); clear S; intro w S CL hw le
    refine h_loada S CL hw le ⟨rfl, rfl, trivial⟩ rfl (.there .here) T24 (s' := [.ints .u8 x1 256]) rfl rfl rfl trivial ?_; clear S CL a; intro a S CL
    refine h_sliceA S CL hw le ⟨rfl, rfl, rfl, trivial⟩ (i := 0) (j := 20) (o' := 0) (len := 20) (cap := 20) rfl Tryd.underlying34 T5 (.inl ⟨rfl, rfl⟩) (.inl ⟨rfl, rfl⟩) (by decide) rfl rfl rfl rfl rfl trivial ?_; clear S CL a; intro a S CL
    refine h_run' S rfl trivial ?_
    replace S := (S.slup' (u := 24) (lo := 0) (c := 20) (ys := ((x2).drop 0).take 20) rfl (Pull.mem .here).1 .here (.inl rfl) (by decide) (by decide) rfl).2
    replace CL := CL.drop (lq' := [(23, (.agg [.ints .u8 x1 256])), (4, (.v (.pointer (some ⟨g13, 0, none⟩)))), (3, (.v (.pointer (some ⟨g14, 0, none⟩))))]) ⟨rfl, rfl, rfl, trivial⟩
    obtain ⟨t1, et1, h1⟩ := bind_of h0; clear h0
    refine s_callP S (fun (ch : Unit) => ((.v (.bool t1)) : D)) N14 rfl rfl (bloom_Has.ok k x1 (((x2).drop 0).take 20) (some ⟨g13, 0, none⟩) 20 t1 et1 _ _ (G.mono (S.leB hb))) ?_; clear S a; intro ch1 m le1 a w S
    replace le := le.trans le1
    replace hw := CL.again hw S (.cons .here (.cons .here .nil)) le
    refine h_back ⟨fun _ => hw, ?_⟩
    replace CL := CL.add (t := 25) (d := (.v (.bool t1))) S rfl rfl
    refine h_assign S CL hw le ⟨rfl, rfl, rfl, rfl, trivial⟩ rfl rfl rfl trivial ?_; clear S CL a; intro a S CL
    refine h_done ?_; clear CL hw le
    refine x_thenN ?_
    refine wp_ret ?_
    obtain rfl := Option.some.inj h1
    exact b_ret1 (d := (.v (.bool t1))) S rfl rfl fun ok => S.retX (Hx := []) hb _ _ (() : Unit) .nil ok
  refine c_region ?_
  refine s_move S rfl rfl ?_; clear S a; intro a S
  refine s_lenS S rfl Tryd.underlying35 rfl ?_; clear S a; intro a S
  refine s_move S rfl rfl ?_; clear S a; intro a S
  refine c_end ?_
  refine wp_block ?_
  refine c_loop (fun q1 a w => ∃ (m : Mem) (y1 : Int) (g23 : Nat) (g24 : Nat), St 26 m b0 [(12, (.v (.int .i64 y1))), (11, (.v (.int .i64 ((x3).length : Int)))), (10, (.sl ch_2_0 (x3).length ch_2_1 (RdS (Ty.arr .u64 4) ch_2_0 x3))), (4, (.v (.pointer (some ⟨g23, 0, none⟩)))), (3, (.v (.pointer (some ⟨g24, 0, none⟩))))] [Res.cells g23 34 [.ints .u8 x2 20], Res.cells g24 24 [.ints .u8 x1 256]] a w ∧ bloom_may.l1 k x1 x2 x3 q1 y1 = some r) ?_ ?_ (k := k) ⟨_, 0, g2, g1, (S.sub ⟨rfl, rfl, rfl, rfl, rfl, trivial⟩ (.cons .here (.cons .here .nil))), h0⟩
  · rintro a w ⟨m, y1, g23, g24, S, h0⟩
    exact (nomatch (show (none : Option Bool) = some r from h0))
  · clear S h0
    rintro q1 a w ⟨m, y1, g23, g24, S, h0⟩
    replace h0 : bloom_may.b1 k x1 x2 x3 (bloom_may.l1 k x1 x2 x3 q1) y1 = some r := h0
    delta bloom_may.b1 at h0
    refine c_region ?_
    refine s_bin S rfl rfl rfl rfl ?_; clear S a; intro a S
    refine c_end ?_
    refine wp_seq ?_
    rcases ite_of h0 with ⟨c1, h1⟩ | ⟨c1, h1⟩ <;> clear h0
    · refine c_condT S rfl c1 ?_
      refine wp_skip ?_
      refine x_thenN ?_
      refine wp_seq ?_
      refine wp_block ?_
      refine c_region ?_
      obtain ⟨c2, h2⟩ := chk_of h1; clear h1
      refine s_iaddrS S rfl rfl rfl Tryd.underlying35 T53 c2.1 c2.2 rfl ?_; clear S a; intro p1 a S
      refine s_ldA S (fun (c : Unit) => [.ints .u64 (gt x3 y1) 4]) rfl T53 (fun _ => rfl) rfl ?_; clear S a; intro ch2 a S
      refine s_alloc S Z53 rfl ⟨rfl, trivial⟩ rfl ?_; clear S a w; intro g25 a w S
      refine s_store S rfl rfl rfl (s' := [.ints .u64 (gt x3 y1) 4]) .here T53 rfl rfl ?_; clear S w; intro w S
      refine c_end ?_
      refine c_region ?_
      refine s_loada S rfl .here T53 (s' := [.ints .u64 (gt x3 y1) 4]) rfl rfl ?_; clear S a; intro a S
      obtain ⟨t6, et6, h3⟩ := bind_of h2; clear h2
      refine s_callP S (fun (ch : Unit) => ((.agg [.ints .u8 t6 32]) : D)) N24 rfl rfl (word_Bytes.ok k (gt x3 y1) t6 et6 _ _) ?_; clear S a w; intro ch3 m le1 a w S
      refine s_alloc S Z49 rfl ⟨rfl, trivial⟩ rfl ?_; clear S a w; intro g26 a w S
      refine s_store S rfl rfl rfl (s' := [.ints .u8 t6 32]) .here T49 rfl rfl ?_; clear S w; intro w S
      refine c_end ?_
      replace S := S.freeze .here
      obtain ⟨m, le1, S⟩ := S
      refine wp_seq (c_heldS S (.take 0 (.take 1 (.alts (.run 2 true (.take 3 .done) .nil)))) 4 [Res.fro g26 49 [.ints .u8 t6 32], Res.cells g25 53 [.ints .u64 (gt x3 y1) 4], Res.cells g23 34 [.ints .u8 x2 20], Res.cells g24 24 [.ints .u8 x1 256]] (.cons .here (.cons .here (.cons .here (.cons .here .nil)))) ⟨Res.stay_fro, Res.stay_cells, Res.stay_cells, Res.stay_cells, trivial⟩ [(9, (.v (.pointer (some ⟨g26, 0, none⟩)))), (3, (.v (.pointer (some ⟨g24, 0, none⟩))))] ⟨rfl, rfl, trivial⟩ (by kernel_rfl) (by kernel_rfl) ?_); clear S; intro w S CL hw le
      refine h_loada S CL hw le ⟨rfl, rfl, trivial⟩ rfl (.there (.there (.there .here))) T24 (s' := [.ints .u8 x1 256]) rfl rfl rfl trivial ?_; clear S CL a; intro a S CL
      refine h_sliceA S CL hw le ⟨rfl, rfl, rfl, trivial⟩ (i := 0) (j := 32) (o' := 0) (len := 32) (cap := 32) rfl Tryd.underlying49 T5 (.inl ⟨rfl, rfl⟩) (.inl ⟨rfl, rfl⟩) (by decide) rfl rfl rfl rfl rfl trivial ?_; clear S CL a; intro a S CL
      refine h_run' S rfl trivial ?_
      replace S := (S.slup' (u := 19) (lo := 0) (c := 32) (ys := ((t6).drop 0).take 32) rfl (Pull.mem .here).1 .here (.inl rfl) (by decide) (by decide) rfl).2
      replace CL := CL.drop (lq' := [(18, (.agg [.ints .u8 x1 256])), (9, (.v (.pointer (some ⟨g26, 0, none⟩)))), (3, (.v (.pointer (some ⟨g24, 0, none⟩))))]) ⟨rfl, rfl, rfl, trivial⟩
      obtain ⟨t7, et7, h4⟩ := bind_of h3; clear h3
      refine s_callP S (fun (ch : Unit) => ((.v (.bool t7)) : D)) N14 rfl rfl (bloom_Has.ok k x1 (((t6).drop 0).take 32) (some ⟨g26, 0, none⟩) 32 t7 et7 _ _ (G.mono (S.leB hb))) ?_; clear S a; intro ch4 m le1 a w S
      replace le := le.trans le1
      replace hw := CL.again hw S (.cons .here (.cons .here (.cons .here (.cons .here .nil)))) le
      refine h_back ⟨fun _ => hw, ?_⟩
      replace CL := CL.add (t := 20) (d := (.v (.bool t7))) S rfl rfl
      refine h_not S CL hw le ⟨rfl, rfl, rfl, rfl, trivial⟩ rfl rfl rfl trivial ?_; clear S CL a; intro a S CL
      refine h_done ?_; clear CL hw le
      refine x_thenN ?_
      rcases ite_of h4 with ⟨c3, h5⟩ | ⟨c3, h5⟩ <;> clear h4
      · refine c_condT S rfl c3 ?_
        refine c_region ?_
        refine s_assign S rfl rfl ?_; clear S a; intro a S
        refine c_end ?_
        refine wp_ret ?_
        refine x_blockR ?_
        refine x_thenR ?_
        refine x_thenR ?_
        refine x_blockR ?_
        refine x_thenR ?_
        obtain rfl := Option.some.inj h5
        exact b_ret1 (d := (.v (.bool false))) S rfl rfl fun ok => S.retX (Hx := []) hb _ _ (() : Unit) .nil ok
      · refine c_condF S rfl c3 ?_
        refine wp_skip ?_
        refine x_blockN ?_
        refine x_thenN ?_
        refine c_region' ?_
        refine s_bin S rfl rfl rfl rfl ?_; clear S a; intro a S
        refine s_move S rfl rfl ?_; clear S a; intro a S
        refine c_end' ?_
        refine x_thenN ?_
        exact ⟨_, (wr .i64 (y1 + 1)), g23, g24, (S.sub ⟨rfl, rfl, rfl, rfl, rfl, trivial⟩ (.cons (.there (.there .here)) (.cons (.there (.there .here)) .nil))), h5⟩
    · refine c_condF S rfl c1 ?_
      refine wp_exit ?_
      refine x_thenX ?_
      refine x_thenX ?_
      refine x_blockX ?_
      refine x_thenN ?_
      exact j1 _ g23 g24 a w (S.sub ⟨rfl, rfl, trivial⟩ (.cons .here (.cons .here .nil))) h1
/-! slices.Index[[]smithy/api.Word,smithy/api.Word] -/
abbrev api_Word_n40.Ty : Type := (List (List Int)) → (List Int) → Option Int
def api_Word_n40.Ctr (s : api_Word_n40.Ty) : Prop := ∀ (x1 : List (List Int)) (x2 : List Int) (ch_0_0 : Option Addr) (ch_0_1 : Nat) (r : Int) (h0 : s x1 x2 = some r) (mi : Mem) (w0 : World), okL mi [(.sl ch_0_0 (x1).length ch_0_1 (RdS (Ty.arr .u64 4) ch_0_0 x1)), (.agg [.ints .u64 x2 4])] → Pre mi [] w0 → Calls Tryd.prog 40 (([(.sl ch_0_0 (x1).length ch_0_1 (RdS (Ty.arr .u64 4) ch_0_0 x1)), (.agg [.ints .u64 x2 4])] : List D).map D.val).toArray w0 (RetX mi [] (fun (ch : Unit) => ((.v (.int .i64 r)) : D)) (fun (ch : Unit) => []) w0)
def api_Word_n40.j1 : Option Int := some (-1)
def api_Word_n40.b1 (x1 : List (List Int)) (x2 : List Int) (rec1 : Int → Option Int) (y1 : Int) : Option Int := if (decide (y1 < ((x1).length : Int))) = true then (if (0 : Int) ≤ y1 ∧ y1 < ((x1).length : Int) then (if (decide (x2 = gt x1 y1)) = true then (some y1) else (rec1 (wr .i64 (y1 + 1)))) else none) else api_Word_n40.j1
def api_Word_n40.l1 (x1 : List (List Int)) (x2 : List Int) : Nat → Int → Option Int
  | 0, _ => none
  | q + 1, y1 => api_Word_n40.b1 x1 x2 (api_Word_n40.l1 x1 x2 q) y1
def api_Word_n40.f (k : Nat) (x1 : List (List Int)) (x2 : List Int) : Option Int := api_Word_n40.l1 x1 x2 k 0
theorem api_Word_n40.ok (k : Nat) : api_Word_n40.Ctr (api_Word_n40.f k) := by
  intro x1 x2 ch_0_0 ch_0_1 r h0 mi w0 ok hm
  delta api_Word_n40.f at h0
  refine c_enterX (n := 19) [(.sl ch_0_0 (x1).length ch_0_1 (RdS (Ty.arr .u64 4) ch_0_0 x1)), (.agg [.ints .u64 x2 4])] (l := [(0, (.sl ch_0_0 (x1).length ch_0_1 (RdS (Ty.arr .u64 4) ch_0_0 x1))), (1, (.agg [.ints .u64 x2 4]))]) Tryd.func40 rfl rfl rfl rfl ok hm ?_
  clear ok hm
  intro b0 hb a S
  refine c_region ?_
  refine s_box S rfl rfl rfl ?_; clear S a; intro g1 a w S
  refine s_assign S rfl rfl ?_; clear S a; intro a S
  refine c_end ?_
  refine wp_seq_k ?_
  intro K1 hK1
  have j1 : ∀ (m : Mem) (a : Act) (w : World), St 19 m b0 [] [] a w → api_Word_n40.j1 = some r → K1 a w := by
    intro m a w S h0
    delta api_Word_n40.j1 at h0
    refine hK1 a w ?_
    refine c_region ?_
    refine s_assign S rfl rfl ?_; clear S a; intro a S
    refine c_end ?_
    refine wp_ret ?_
    obtain rfl := Option.some.inj h0
    exact b_ret1 (d := (.v (.int .i64 (-1)))) S rfl rfl fun ok => S.retX (Hx := []) hb _ _ (() : Unit) .nil ok
  refine c_region ?_
  refine s_move S rfl rfl ?_; clear S a; intro a S
  refine s_lenS S rfl Tryd.underlying35 rfl ?_; clear S a; intro a S
  refine s_move S rfl rfl ?_; clear S a; intro a S
  refine c_end ?_
  refine wp_block ?_
  refine c_loop (fun q1 a w => ∃ (m : Mem) (y1 : Int) (g7 : Nat), St 19 m b0 [(8, (.v (.int .i64 y1))), (7, (.v (.int .i64 ((x1).length : Int)))), (3, (.v (.pointer (some ⟨g7, 0, none⟩)))), (0, (.sl ch_0_0 (x1).length ch_0_1 (RdS (Ty.arr .u64 4) ch_0_0 x1)))] [Res.cells g7 53 [.ints .u64 x2 4]] a w ∧ api_Word_n40.l1 x1 x2 q1 y1 = some r) ?_ ?_ (k := k) ⟨_, 0, g1, (S.sub ⟨rfl, rfl, rfl, rfl, trivial⟩ (.cons .here .nil)), h0⟩
  · rintro a w ⟨m, y1, g7, S, h0⟩
    exact (nomatch (show (none : Option Int) = some r from h0))
  · clear S h0
    rintro q1 a w ⟨m, y1, g7, S, h0⟩
    replace h0 : api_Word_n40.b1 x1 x2 (api_Word_n40.l1 x1 x2 q1) y1 = some r := h0
    delta api_Word_n40.b1 at h0
    refine c_region ?_
    refine s_bin S rfl rfl rfl rfl ?_; clear S a; intro a S
    refine c_end ?_
    refine wp_seq ?_
    rcases ite_of h0 with ⟨c1, h1⟩ | ⟨c1, h1⟩ <;> clear h0
    · refine c_condT S rfl c1 ?_
      refine wp_skip ?_
      refine x_thenN ?_
      refine wp_seq ?_
      refine wp_block ?_
      refine c_region ?_
      refine s_move S rfl rfl ?_; clear S a; intro a S
      refine s_assign S rfl rfl ?_; clear S a; intro a S
      refine c_end ?_
      refine wp_seq (c_heldS S (.take 0 (.take 1 (.take 2 (.take 3 (.take 4 (.take 5 .done)))))) 6 [Res.cells g7 53 [.ints .u64 x2 4]] (.cons .here .nil) ⟨Res.stay_cells, trivial⟩ [(5, (.v (.int .i64 y1))), (3, (.v (.pointer (some ⟨g7, 0, none⟩)))), (0, (.sl ch_0_0 (x1).length ch_0_1 (RdS (Ty.arr .u64 4) ch_0_0 x1)))] ⟨rfl, rfl, rfl, trivial⟩ (by kernel_rfl) (by kernel_rfl) ?_); clear S; intro w S CL hw le
      refine h_loada S CL hw le ⟨rfl, rfl, rfl, trivial⟩ rfl .here T53 (s' := [.ints .u64 x2 4]) rfl rfl rfl trivial ?_; clear S CL a; intro a S CL
      refine h_move S CL hw le ⟨rfl, rfl, rfl, rfl, trivial⟩ rfl rfl rfl trivial ?_; clear S CL a; intro a S CL
      refine h_move S CL hw le ⟨rfl, rfl, rfl, rfl, rfl, trivial⟩ rfl rfl rfl trivial ?_; clear S CL a; intro a S CL
      obtain ⟨c2, h2⟩ := chk_of h1; clear h1
      refine h_iaddrS S CL hw le ⟨rfl, rfl, rfl, rfl, rfl, rfl, trivial⟩ rfl rfl rfl Tryd.underlying35 T53 c2.1 c2.2 rfl rfl trivial ?_; clear S CL a; intro p1 a S CL
      refine h_ldA S CL hw le ⟨rfl, rfl, rfl, rfl, rfl, rfl, rfl, trivial⟩ (fun (c : Unit) => [.ints .u64 (gt x1 y1) 4]) rfl T53 (fun _ => rfl) rfl rfl trivial ?_; clear S CL a; intro ch1 a S CL
      refine h_eqa S CL hw le ⟨rfl, rfl, rfl, rfl, rfl, rfl, rfl, rfl, trivial⟩ rfl rfl Tryd.underlying53 Tryd.underlying51 T51 Q53 rfl rfl trivial ?_; clear S CL a; intro a S CL
      refine h_done ?_; clear CL hw le
      refine x_thenN ?_
      rcases ite_of h2 with ⟨c3, h3⟩ | ⟨c3, h3⟩ <;> clear h2
      · refine c_condT S rfl c3 ?_
        refine c_region ?_
        refine s_move S rfl rfl ?_; clear S a; intro a S
        refine s_assign S rfl rfl ?_; clear S a; intro a S
        refine c_end ?_
        refine wp_ret ?_
        refine x_blockR ?_
        refine x_thenR ?_
        refine x_thenR ?_
        refine x_blockR ?_
        refine x_thenR ?_
        obtain rfl := Option.some.inj h3
        exact b_ret1 (d := (.v (.int .i64 y1))) S rfl rfl fun ok => S.retX (Hx := []) hb _ _ (() : Unit) .nil ok
      · refine c_condF S rfl c3 ?_
        refine wp_skip ?_
        refine x_blockN ?_
        refine x_thenN ?_
        refine c_region' ?_
        refine s_bin S rfl rfl rfl rfl ?_; clear S a; intro a S
        refine s_move S rfl rfl ?_; clear S a; intro a S
        refine c_end' ?_
        refine x_thenN ?_
        exact ⟨_, (wr .i64 (y1 + 1)), g7, (S.sub ⟨rfl, rfl, rfl, rfl, trivial⟩ (.cons .here .nil)), h3⟩
    · refine c_condF S rfl c1 ?_
      refine wp_exit ?_
      refine x_thenX ?_
      refine x_thenX ?_
      refine x_blockX ?_
      refine x_thenN ?_
      exact j1 _ a w (S.sub trivial .nil) h1
/-! slices.Contains[[]smithy/api.Word,smithy/api.Word] -/
abbrev api_Word_n36.Ty : Type := (List (List Int)) → (List Int) → Option Bool
def api_Word_n36.Ctr (s : api_Word_n36.Ty) : Prop := ∀ (x1 : List (List Int)) (x2 : List Int) (ch_0_0 : Option Addr) (ch_0_1 : Nat) (r : Bool) (h0 : s x1 x2 = some r) (mi : Mem) (w0 : World), okL mi [(.sl ch_0_0 (x1).length ch_0_1 (RdS (Ty.arr .u64 4) ch_0_0 x1)), (.agg [.ints .u64 x2 4])] → Pre mi [] w0 → Calls Tryd.prog 36 (([(.sl ch_0_0 (x1).length ch_0_1 (RdS (Ty.arr .u64 4) ch_0_0 x1)), (.agg [.ints .u64 x2 4])] : List D).map D.val).toArray w0 (RetX mi [] (fun (ch : Unit) => ((.v (.bool r)) : D)) (fun (ch : Unit) => []) w0)
def api_Word_n36.f (k : Nat) (x1 : List (List Int)) (x2 : List Int) : Option Bool := (api_Word_n40.f k x1 x2).bind fun t1 => (some (decide (0 ≤ t1)))
theorem api_Word_n36.ok (k : Nat) : api_Word_n36.Ctr (api_Word_n36.f k) := by
  intro x1 x2 ch_0_0 ch_0_1 r h0 mi w0 ok hm
  delta api_Word_n36.f at h0
  refine c_enterX (n := 9) [(.sl ch_0_0 (x1).length ch_0_1 (RdS (Ty.arr .u64 4) ch_0_0 x1)), (.agg [.ints .u64 x2 4])] (l := [(0, (.sl ch_0_0 (x1).length ch_0_1 (RdS (Ty.arr .u64 4) ch_0_0 x1))), (1, (.agg [.ints .u64 x2 4]))]) Tryd.func36 rfl rfl rfl rfl ok hm ?_
  clear ok hm
  intro b0 hb a S
  refine c_region ?_
  refine s_box S rfl rfl rfl ?_; clear S a; intro g1 a w S
  refine s_assign S rfl rfl ?_; clear S a; intro a S
  refine c_end ?_
  refine c_region ?_
  refine s_move S rfl rfl ?_; clear S a; intro a S
  refine s_loada S rfl .here T53 (s' := [.ints .u64 x2 4]) rfl rfl ?_; clear S a; intro a S
  obtain ⟨t1, et1, h1⟩ := bind_of h0; clear h0
  refine s_callP S (fun (ch : Unit) => ((.v (.int .i64 t1)) : D)) N40 rfl rfl (api_Word_n40.ok k x1 x2 ch_0_0 ch_0_1 t1 et1 _ _) ?_; clear S a w; intro ch1 m le1 a w S
  refine s_bin S rfl rfl rfl rfl ?_; clear S a; intro a S
  refine s_assign S rfl rfl ?_; clear S a; intro a S
  refine c_end ?_
  refine wp_ret ?_
  obtain rfl := Option.some.inj h1
  exact b_ret1 (d := (.v (.bool (decide (0 ≤ t1))))) S rfl rfl fun ok => S.retX (Hx := []) hb _ _ (() : Unit) .nil ok
/-! smithy/bloom.fits -/
abbrev bloom_fits.Ty : Type := ((List Int) × (List (List Int)) × (List Int)) → (List Int) → (List (List Int)) → Option Bool
def bloom_fits.Ctr (s : bloom_fits.Ty) : Prop := ∀ (x1 : (List Int) × (List (List Int)) × (List Int)) (x2 : List Int) (x3 : List (List Int)) (ch_0_0 : Option Addr) (ch_0_1 : Nat) (ch_0_2 : Option Addr) (ch_0_3 : Nat) (ch_2_0 : Option Addr) (ch_2_1 : Nat) (r : Bool) (h0 : s x1 x2 x3 = some r) (mi : Mem) (w0 : World), okL mi [(.agg [.ints .u8 x1.1 20, .sl ch_0_0 (x1.2.1).length ch_0_1 (RdS (Ty.arr .u64 4) ch_0_0 x1.2.1), .sl ch_0_2 (x1.2.2).length ch_0_3 (RdS (Ty.int .u8) ch_0_2 x1.2.2)]), (.agg [.ints .u8 x2 20]), (.sl ch_2_0 (x3).length ch_2_1 (RdS (Ty.arr .u64 4) ch_2_0 x3))] → Pre mi [] w0 → Calls Tryd.prog 31 (([(.agg [.ints .u8 x1.1 20, .sl ch_0_0 (x1.2.1).length ch_0_1 (RdS (Ty.arr .u64 4) ch_0_0 x1.2.1), .sl ch_0_2 (x1.2.2).length ch_0_3 (RdS (Ty.int .u8) ch_0_2 x1.2.2)]), (.agg [.ints .u8 x2 20]), (.sl ch_2_0 (x3).length ch_2_1 (RdS (Ty.arr .u64 4) ch_2_0 x3))] : List D).map D.val).toArray w0 (RetX mi [] (fun (ch : Unit) => ((.v (.bool r)) : D)) (fun (ch : Unit) => []) w0)
def bloom_fits.j1 (x1 : (List Int) × (List (List Int)) × (List Int)) (x2 : List Int) : Option Bool := some (decide (x1.1 = x2))
def bloom_fits.b1 (k : Nat) (x1 : (List Int) × (List (List Int)) × (List Int)) (x2 : List Int) (x3 : List (List Int)) (rec1 : Int → Option Bool) (y1 : Int) : Option Bool := if (decide (y1 < ((x3).length : Int))) = true then (if (0 : Int) ≤ y1 ∧ y1 < ((x3).length : Int) then ((api_Word_n36.f k x1.2.1 (gt x3 y1)).bind fun t1 => (if (!t1) = true then (some false) else (rec1 (wr .i64 (y1 + 1))))) else none) else (bloom_fits.j1 x1 x2)
def bloom_fits.l1 (k : Nat) (x1 : (List Int) × (List (List Int)) × (List Int)) (x2 : List Int) (x3 : List (List Int)) : Nat → Int → Option Bool
  | 0, _ => none
  | q + 1, y1 => bloom_fits.b1 k x1 x2 x3 (bloom_fits.l1 k x1 x2 x3 q) y1
def bloom_fits.f (k : Nat) (x1 : (List Int) × (List (List Int)) × (List Int)) (x2 : List Int) (x3 : List (List Int)) : Option Bool := bloom_fits.l1 k x1 x2 x3 k 0
theorem bloom_fits.ok (k : Nat) : bloom_fits.Ctr (bloom_fits.f k) := by
  intro x1 x2 x3 ch_0_0 ch_0_1 ch_0_2 ch_0_3 ch_2_0 ch_2_1 r h0 mi w0 ok hm
  delta bloom_fits.f at h0
  refine c_enterX (n := 25) [(.agg [.ints .u8 x1.1 20, .sl ch_0_0 (x1.2.1).length ch_0_1 (RdS (Ty.arr .u64 4) ch_0_0 x1.2.1), .sl ch_0_2 (x1.2.2).length ch_0_3 (RdS (Ty.int .u8) ch_0_2 x1.2.2)]), (.agg [.ints .u8 x2 20]), (.sl ch_2_0 (x3).length ch_2_1 (RdS (Ty.arr .u64 4) ch_2_0 x3))] (l := [(0, (.agg [.ints .u8 x1.1 20, .sl ch_0_0 (x1.2.1).length ch_0_1 (RdS (Ty.arr .u64 4) ch_0_0 x1.2.1), .sl ch_0_2 (x1.2.2).length ch_0_3 (RdS (Ty.int .u8) ch_0_2 x1.2.2)])), (1, (.agg [.ints .u8 x2 20])), (2, (.sl ch_2_0 (x3).length ch_2_1 (RdS (Ty.arr .u64 4) ch_2_0 x3)))]) Tryd.func31 rfl rfl rfl rfl ok hm ?_
  clear ok hm
  intro b0 hb a S
  refine c_region ?_
  refine s_box S rfl rfl rfl ?_; clear S a; intro g1 a w S
  refine s_box S rfl rfl rfl ?_; clear S a w; intro g2 a w S
  refine s_assign S rfl rfl ?_; clear S a; intro a S
  refine c_end ?_
  refine wp_seq_k ?_
  intro K1 hK1
  have j1 : ∀ (m : Mem) (g11 : Nat) (g12 : Nat) (a : Act) (w : World), St 25 m b0 [(4, (.v (.pointer (some ⟨g11, 0, none⟩)))), (3, (.v (.pointer (some ⟨g12, 0, none⟩))))] [Res.cells g11 34 [.ints .u8 x2 20], Res.cells g12 38 [.ints .u8 x1.1 20, .sl ch_0_0 (x1.2.1).length ch_0_1 (RdS (Ty.arr .u64 4) ch_0_0 x1.2.1), .sl ch_0_2 (x1.2.2).length ch_0_3 (RdS (Ty.int .u8) ch_0_2 x1.2.2)]] a w → bloom_fits.j1 x1 x2 = some r → K1 a w := by
    intro m g11 g12 a w S h0
    delta bloom_fits.j1 at h0
    refine hK1 a w ?_
    refine c_region ?_
    refine s_fieldAddr S rfl I38_0 T34 (by decide) rfl rfl ?_; clear S a; intro a S
    refine s_loada S rfl (.there .here) T34 (s' := [.ints .u8 x1.1 20]) rfl rfl ?_; clear S a; intro a S
    refine s_loada S rfl .here T34 (s' := [.ints .u8 x2 20]) rfl rfl ?_; clear S a; intro a S
    refine s_eqa S rfl rfl Tryd.underlying34 Tryd.underlying5 T5 Q34 rfl ?_; clear S a; intro a S
    refine s_assign S rfl rfl ?_; clear S a; intro a S
    refine c_end ?_
    refine wp_ret ?_
    obtain rfl := Option.some.inj h0
    exact b_ret1 (d := (.v (.bool (decide (x1.1 = x2))))) S rfl rfl fun ok => S.retX (Hx := []) hb _ _ (() : Unit) .nil ok
  refine c_region ?_
  refine s_move S rfl rfl ?_; clear S a; intro a S
  refine s_lenS S rfl Tryd.underlying35 rfl ?_; clear S a; intro a S
  refine s_move S rfl rfl ?_; clear S a; intro a S
  refine c_end ?_
  refine wp_block ?_
  refine c_loop (fun q1 a w => ∃ (m : Mem) (y1 : Int) (g19 : Nat) (g20 : Nat), St 25 m b0 [(11, (.v (.int .i64 y1))), (10, (.v (.int .i64 ((x3).length : Int)))), (9, (.sl ch_2_0 (x3).length ch_2_1 (RdS (Ty.arr .u64 4) ch_2_0 x3))), (4, (.v (.pointer (some ⟨g19, 0, none⟩)))), (3, (.v (.pointer (some ⟨g20, 0, none⟩))))] [Res.cells g19 34 [.ints .u8 x2 20], Res.cells g20 38 [.ints .u8 x1.1 20, .sl ch_0_0 (x1.2.1).length ch_0_1 (RdS (Ty.arr .u64 4) ch_0_0 x1.2.1), .sl ch_0_2 (x1.2.2).length ch_0_3 (RdS (Ty.int .u8) ch_0_2 x1.2.2)]] a w ∧ bloom_fits.l1 k x1 x2 x3 q1 y1 = some r) ?_ ?_ (k := k) ⟨_, 0, g2, g1, (S.sub ⟨rfl, rfl, rfl, rfl, rfl, trivial⟩ (.cons .here (.cons .here .nil))), h0⟩
  · rintro a w ⟨m, y1, g19, g20, S, h0⟩
    exact (nomatch (show (none : Option Bool) = some r from h0))
  · clear S h0
    rintro q1 a w ⟨m, y1, g19, g20, S, h0⟩
    replace h0 : bloom_fits.b1 k x1 x2 x3 (bloom_fits.l1 k x1 x2 x3 q1) y1 = some r := h0
    delta bloom_fits.b1 at h0
    refine c_region ?_
    refine s_bin S rfl rfl rfl rfl ?_; clear S a; intro a S
    refine c_end ?_
    refine wp_seq ?_
    rcases ite_of h0 with ⟨c1, h1⟩ | ⟨c1, h1⟩ <;> clear h0
    · refine c_condT S rfl c1 ?_
      refine wp_skip ?_
      refine x_thenN ?_
      refine wp_seq ?_
      refine wp_block ?_
      refine c_region ?_
      obtain ⟨c2, h2⟩ := chk_of h1; clear h1
      refine s_iaddrS S rfl rfl rfl Tryd.underlying35 T53 c2.1 c2.2 rfl ?_; clear S a; intro p1 a S
      refine s_ldA S (fun (c : Unit) => [.ints .u64 (gt x3 y1) 4]) rfl T53 (fun _ => rfl) rfl ?_; clear S a; intro ch1 a S
      refine s_alloc S Z53 rfl ⟨rfl, trivial⟩ rfl ?_; clear S a w; intro g21 a w S
      refine s_store S rfl rfl rfl (s' := [.ints .u64 (gt x3 y1) 4]) .here T53 rfl rfl ?_; clear S w; intro w S
      refine c_end ?_
      refine c_region ?_
      refine s_fieldAddr S rfl I38_1 T35 (by decide) rfl rfl ?_; clear S a; intro a S
      refine s_loadSl S rfl (.there (.there .here)) T35 (A := ch_0_0) (len := (x1.2.1).length) (cap := ch_0_1) rfl rfl ?_; clear S a; intro a S
      refine s_loada S rfl .here T53 (s' := [.ints .u64 (gt x3 y1) 4]) rfl rfl ?_; clear S a; intro a S
      obtain ⟨t1, et1, h3⟩ := bind_of h2; clear h2
      refine s_callP S (fun (ch : Unit) => ((.v (.bool t1)) : D)) N36 rfl rfl (api_Word_n36.ok k x1.2.1 (gt x3 y1) ch_0_0 ch_0_1 t1 et1 _ _) ?_; clear S a w; intro ch2 m le1 a w S
      refine s_not S rfl rfl ?_; clear S a; intro a S
      refine c_end ?_
      rcases ite_of h3 with ⟨c3, h4⟩ | ⟨c3, h4⟩ <;> clear h3
      · refine c_condT S rfl c3 ?_
        refine c_region ?_
        refine s_assign S rfl rfl ?_; clear S a; intro a S
        refine c_end ?_
        refine wp_ret ?_
        refine x_blockR ?_
        refine x_thenR ?_
        refine x_thenR ?_
        refine x_blockR ?_
        refine x_thenR ?_
        obtain rfl := Option.some.inj h4
        exact b_ret1 (d := (.v (.bool false))) S rfl rfl fun ok => S.retX (Hx := []) hb _ _ (() : Unit) .nil ok
      · refine c_condF S rfl c3 ?_
        refine wp_skip ?_
        refine x_blockN ?_
        refine x_thenN ?_
        refine c_region' ?_
        refine s_bin S rfl rfl rfl rfl ?_; clear S a; intro a S
        refine s_move S rfl rfl ?_; clear S a; intro a S
        refine c_end' ?_
        refine x_thenN ?_
        exact ⟨_, (wr .i64 (y1 + 1)), g19, g20, (S.sub ⟨rfl, rfl, rfl, rfl, rfl, trivial⟩ (.cons (.there .here) (.cons (.there .here) .nil))), h4⟩
    · refine c_condF S rfl c1 ?_
      refine wp_exit ?_
      refine x_thenX ?_
      refine x_thenX ?_
      refine x_blockX ?_
      refine x_thenN ?_
      exact j1 _ g19 g20 a w (S.sub ⟨rfl, rfl, trivial⟩ (.cons .here (.cons .here .nil))) h1
/-! slices.Clone[[]smithy/api.Word,smithy/api.Word] -/
abbrev api_Word_n32.Ty : Type := (List (List Int)) → Option ((List (List Int)))
def api_Word_n32.Ctr (s : api_Word_n32.Ty) : Prop := ∀ (x1 : List (List Int)) (ch_0_0 : Option Addr) (ch_0_1 : Nat) (r : (List (List Int))) (h0 : s x1 = some r) (mi : Mem) (w0 : World), okL mi [(.sl ch_0_0 (x1).length ch_0_1 (RdS (Ty.arr .u64 4) ch_0_0 x1))] → Pre mi [] w0 → Calls Tryd.prog 32 (([(.sl ch_0_0 (x1).length ch_0_1 (RdS (Ty.arr .u64 4) ch_0_0 x1))] : List D).map D.val).toArray w0 (RetX mi [] (fun (ch : (Option Addr) × Nat × Nat) => ((.v (.slice ch.1 ch.2.1 ch.2.2)) : D)) (fun (ch : (Option Addr) × Nat × Nat) => [Res.row (Ty.arr .u64 4) 53 ch.1 ch.2.1 ch.2.2 r]) w0)
def api_Word_n32.f (x1 : List (List Int)) : Option ((List (List Int))) := if ((([] : List (List Int))).length + (x1).length) * 32 ≤ 140737488355328 then (some (([] : List (List Int)) ++ x1)) else none
theorem api_Word_n32.ok : api_Word_n32.Ctr (api_Word_n32.f) := by
  intro x1 ch_0_0 ch_0_1 r h0 mi w0 ok hm
  delta api_Word_n32.f at h0
  refine c_enterX (n := 8) [(.sl ch_0_0 (x1).length ch_0_1 (RdS (Ty.arr .u64 4) ch_0_0 x1))] (l := [(0, (.sl ch_0_0 (x1).length ch_0_1 (RdS (Ty.arr .u64 4) ch_0_0 x1)))]) Tryd.func32 rfl rfl rfl rfl ok hm ?_
  clear ok hm
  intro b0 hb a S
  refine c_region ?_
  refine s_assign S rfl rfl ?_; clear S a; intro a S
  refine c_end ?_
  refine wp_seq ?_
  refine c_region ?_
  refine s_move S rfl rfl ?_; clear S a; intro a S
  refine s_eqnil S (b := (ch_0_0).isNone) (d := (.sl ch_0_0 (x1).length ch_0_1 (RdS (Ty.arr .u64 4) ch_0_0 x1))) rfl rfl Tryd.underlying35 rfl rfl rfl ?_; clear S a; intro a S
  refine c_end ?_
  cases hc : (ch_0_0).isNone
  · refine c_condF S rfl hc ?_
    refine wp_skip ?_
    refine x_thenN ?_
    refine c_region ?_
    refine s_bldSl S (ty' := (Ty.arr .u64 4)) (ds := []) (z := [0, 0, 0, 0]) (c0 := ()) (ys := ([] : List (List Int))) (cs := []) rfl Tryd.underlying35 J53 Z53 rfl ⟨rfl, trivial⟩ rfl rfl rfl rfl rfl rfl ?_; clear S a; intro g1 a w S
    refine s_move S rfl rfl ?_; clear S a; intro a S
    obtain ⟨c1, h1⟩ := chk_of h0; clear h0
    refine s_app S (k2 := ((x1).length)) (ys := x1) rfl (fun _ _ => .here) rfl rfl rfl (RdS.src (S.get 6 (.sl ch_0_0 (x1).length ch_0_1 (RdS (Ty.arr .u64 4) ch_0_0 x1)) rfl).2.2.2.1 (by decide) S.frz) Tryd.underlying35 J53 c1 rfl ?_; clear S a w; intro A1 cp1 a w S
    refine s_assign S rfl rfl ?_; clear S a; intro a S
    refine c_end ?_
    refine wp_ret ?_
    obtain rfl := Option.some.inj h1
    exact b_ret1 (d := (.v (.slice A1 (0 + ((x1).length)) cp1))) S rfl rfl fun ok => S.retX (Hx := []) hb _ _ ((A1, 0 + ((x1).length), cp1) : (Option Addr) × Nat × Nat) (.cons .here .nil) ok
  · have hxs : x1 = [] := rd_nil hc (S.get 3 (.sl ch_0_0 (x1).length ch_0_1 (RdS (Ty.arr .u64 4) ch_0_0 x1)) rfl).2.2.2.1
    have h1 : (some ([] : List (List Int))) = some r := by simpa [hxs] using h0
    clear h0
    refine c_condT S rfl hc ?_
    refine c_region ?_
    refine s_assign S rfl rfl ?_; clear S a; intro a S
    refine c_end ?_
    refine wp_ret ?_
    refine x_thenR ?_
    replace S := S.nilrow (Ty.arr .u64 4) 53
    replace S := S.slot (u := 2) (d' := (.v (.slice none 0 0))) rfl rfl (S.get 2 (.v (.slice none 0 0)) rfl).2
    obtain rfl := Option.some.inj h1
    exact b_ret1 (d := (.v (.slice none 0 0))) S rfl rfl fun ok => S.retX (Hx := []) hb _ _ ((none, 0, 0) : (Option Addr) × Nat × Nat) (.cons .here .nil) ok
/-! slices.Clone[[]byte,byte] -/
abbrev slices_Clone_byte_byte.Ty : Type := (List Int) → Option ((List Int))
def slices_Clone_byte_byte.Ctr (s : slices_Clone_byte_byte.Ty) : Prop := ∀ (x1 : List Int) (ch_0_0 : Option Addr) (ch_0_1 : Nat) (r : (List Int)) (h0 : s x1 = some r) (mi : Mem) (w0 : World), okL mi [(.sl ch_0_0 (x1).length ch_0_1 (RdS (Ty.int .u8) ch_0_0 x1))] → Pre mi [] w0 → Calls Tryd.prog 33 (([(.sl ch_0_0 (x1).length ch_0_1 (RdS (Ty.int .u8) ch_0_0 x1))] : List D).map D.val).toArray w0 (RetX mi [] (fun (ch : (Option Addr) × Nat × Nat) => ((.v (.slice ch.1 ch.2.1 ch.2.2)) : D)) (fun (ch : (Option Addr) × Nat × Nat) => [Res.row (Ty.int .u8) 5 ch.1 ch.2.1 ch.2.2 r]) w0)
def slices_Clone_byte_byte.f (x1 : List Int) : Option ((List Int)) := if ((([] : List Int)).length + (x1).length) * 1 ≤ 140737488355328 then (some (([] : List Int) ++ x1)) else none
theorem slices_Clone_byte_byte.ok : slices_Clone_byte_byte.Ctr (slices_Clone_byte_byte.f) := by
  intro x1 ch_0_0 ch_0_1 r h0 mi w0 ok hm
  delta slices_Clone_byte_byte.f at h0
  refine c_enterX (n := 8) [(.sl ch_0_0 (x1).length ch_0_1 (RdS (Ty.int .u8) ch_0_0 x1))] (l := [(0, (.sl ch_0_0 (x1).length ch_0_1 (RdS (Ty.int .u8) ch_0_0 x1)))]) Tryd.func33 rfl rfl rfl rfl ok hm ?_
  clear ok hm
  intro b0 hb a S
  refine c_region ?_
  refine s_assign S rfl rfl ?_; clear S a; intro a S
  refine c_end ?_
  refine wp_seq ?_
  refine c_region ?_
  refine s_move S rfl rfl ?_; clear S a; intro a S
  refine s_eqnil S (b := (ch_0_0).isNone) (d := (.sl ch_0_0 (x1).length ch_0_1 (RdS (Ty.int .u8) ch_0_0 x1))) rfl rfl Tryd.underlying36 rfl rfl rfl ?_; clear S a; intro a S
  refine c_end ?_
  cases hc : (ch_0_0).isNone
  · refine c_condF S rfl hc ?_
    refine wp_skip ?_
    refine x_thenN ?_
    refine c_region ?_
    refine s_bldSl S (ty' := (Ty.int .u8)) (ds := []) (z := 0) (c0 := ()) (ys := ([] : List Int)) (cs := []) rfl Tryd.underlying36 J5 Z5 rfl ⟨rfl, trivial⟩ rfl rfl rfl rfl rfl rfl ?_; clear S a; intro g1 a w S
    refine s_move S rfl rfl ?_; clear S a; intro a S
    obtain ⟨c1, h1⟩ := chk_of h0; clear h0
    refine s_app S (k2 := ((x1).length)) (ys := x1) rfl (fun _ _ => .here) rfl rfl rfl (RdS.src (S.get 6 (.sl ch_0_0 (x1).length ch_0_1 (RdS (Ty.int .u8) ch_0_0 x1)) rfl).2.2.2.1 (by decide) S.frz) Tryd.underlying36 J5 c1 rfl ?_; clear S a w; intro A1 cp1 a w S
    refine s_assign S rfl rfl ?_; clear S a; intro a S
    refine c_end ?_
    refine wp_ret ?_
    obtain rfl := Option.some.inj h1
    exact b_ret1 (d := (.v (.slice A1 (0 + ((x1).length)) cp1))) S rfl rfl fun ok => S.retX (Hx := []) hb _ _ ((A1, 0 + ((x1).length), cp1) : (Option Addr) × Nat × Nat) (.cons .here .nil) ok
  · have hxs : x1 = [] := rd_nil hc (S.get 3 (.sl ch_0_0 (x1).length ch_0_1 (RdS (Ty.int .u8) ch_0_0 x1)) rfl).2.2.2.1
    have h1 : (some ([] : List Int)) = some r := by simpa [hxs] using h0
    clear h0
    refine c_condT S rfl hc ?_
    refine c_region ?_
    refine s_assign S rfl rfl ?_; clear S a; intro a S
    refine c_end ?_
    refine wp_ret ?_
    refine x_thenR ?_
    replace S := S.nilrow (Ty.int .u8) 5
    replace S := S.slot (u := 2) (d' := (.v (.slice none 0 0))) rfl rfl (S.get 2 (.v (.slice none 0 0)) rfl).2
    obtain rfl := Option.some.inj h1
    exact b_ret1 (d := (.v (.slice none 0 0))) S rfl rfl fun ok => S.retX (Hx := []) hb _ _ ((none, 0, 0) : (Option Addr) × Nat × Nat) (.cons .here .nil) ok
end GW
