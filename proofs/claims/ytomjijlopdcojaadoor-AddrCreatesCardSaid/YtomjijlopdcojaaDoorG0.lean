/-
  Printed by a program of these sessions (wip/gw/gx.py): for each Go function a Lean function with the same answers, and the walk that shows it.
-/
import Derived.Test.YtomjijlopdcojaaDoorProg
import Derived.Test.YtomjijlopdcojaaDoorGC
set_option linter.unusedVariables false
set_option maxRecDepth 10000
namespace GW
open Go Go.RowKit Go.Proofs
/-! (*smithy/rlp.writer).item -/
abbrev rlp_writer_item.Ty : Type := ((List (Bool × (List Int) × Int)) × Int) → Int → Option ((List Int) × ((List (Bool × (List Int) × Int)) × Int))
def rlp_writer_item.Ctr (s : rlp_writer_item.Ty) : Prop := ∀ (x1 : (List (Bool × (List Int) × Int)) × Int) (x2 : Int) (ch_0_0 : Nat) (ch_0_1 : Option Addr) (ch_0_2 : Nat) (r : (List Int) × ((List (Bool × (List Int) × Int)) × Int)) (h0 : s x1 x2 = some r) (mi : Mem) (w0 : World), okL mi [(.v (.pointer (some ⟨ch_0_0, 0, none⟩))), (.v (.int .i64 x2))] → Pre mi [Res.cells ch_0_0 70 [.sl ch_0_1 (x1.1).length ch_0_2 (RdS (Ty.prod Ty.bool (Ty.prod (Ty.slice (Ty.int .u8)) (Ty.int .i64))) ch_0_1 x1.1), .one (.int .i64 x1.2)]] w0 → Calls Tryd.prog 41 (([(.v (.pointer (some ⟨ch_0_0, 0, none⟩))), (.v (.int .i64 x2))] : List D).map D.val).toArray w0 (RetX mi [Res.cells ch_0_0 70 [.sl ch_0_1 (x1.1).length ch_0_2 (RdS (Ty.prod Ty.bool (Ty.prod (Ty.slice (Ty.int .u8)) (Ty.int .i64))) ch_0_1 x1.1), .one (.int .i64 x1.2)]] (fun (ch : (Option Addr) × Nat × (Option Addr) × Nat) => ((.sl ch.1 (r.1).length ch.2.1 (RdS (Ty.int .u8) ch.1 r.1)) : D)) (fun (ch : (Option Addr) × Nat × (Option Addr) × Nat) => [Res.cells ch_0_0 70 [.sl ch.2.2.1 (r.2.1).length ch.2.2.2 (RdS (Ty.prod Ty.bool (Ty.prod (Ty.slice (Ty.int .u8)) (Ty.int .i64))) ch.2.2.1 r.2.1), .one (.int .i64 r.2.2)]]) w0)
def rlp_writer_item.j4 (k : Nat) (x1 : (List (Bool × (List Int) × Int)) × Int) (y15 : List Int) (y16 : List (Bool × (List Int) × Int)) (y17 : Int) : Option ((List Int) × ((List (Bool × (List Int) × Int)) × Int)) := if (decide (((y16).length : Int) < (wr .i64 (((x1.1.drop (Int.toNat 1)).length : Int) - ((gt x1.1 0).2.2))))) = true then ((rlp_writer_fail.f (y16, y17) 2).bind fun t5 => (some (t5.1, (t5.2.1, t5.2.2)))) else ((rlp_head.f k ((y15).length : Int) 64).bind fun t6 => (if ((t6).length + (y15).length) * 1 ≤ 140737488355328 then (some (t6 ++ y15, (y16, y17))) else none))
def rlp_writer_item.j5 (k : Nat) (self0 : rlp_writer_item.Ty) (x1 : (List (Bool × (List Int) × Int)) × Int) (x2 : Int) (y23 : List Int) (y24 : List (Bool × (List Int) × Int)) (y25 : Int) (rec1 : (List Int) → (List (Bool × (List Int) × Int)) → Int → Option ((List Int) × ((List (Bool × (List Int) × Int)) × Int))) (y26 : Bool) : Option ((List Int) × ((List (Bool × (List Int) × Int)) × Int)) := if y26 = true then ((self0 (y24, y25) (wr .i64 (x2 + 1))).bind fun t9 => (if ((y23).length + (t9.1).length) * 1 ≤ 140737488355328 then (if (decide (1048576 < ((y23 ++ t9.1).length : Int))) = true then ((rlp_writer_fail.f (t9.2.1, t9.2.2) 4).bind fun t10 => (some (t10.1, (t10.2.1, t10.2.2)))) else (rec1 (y23 ++ t9.1) t9.2.1 t9.2.2)) else none)) else (rlp_writer_item.j4 k x1 y23 y24 y25)
def rlp_writer_item.b1 (k : Nat) (self0 : rlp_writer_item.Ty) (x1 : (List (Bool × (List Int) × Int)) × Int) (x2 : Int) (rec1 : (List Int) → (List (Bool × (List Int) × Int)) → Int → Option ((List Int) × ((List (Bool × (List Int) × Int)) × Int))) (y23 : List Int) (y24 : List (Bool × (List Int) × Int)) (y25 : Int) : Option ((List Int) × ((List (Bool × (List Int) × Int)) × Int)) := if (decide ((wr .i64 (((x1.1.drop (Int.toNat 1)).length : Int) - ((gt x1.1 0).2.2))) < ((y24).length : Int))) = true then (rlp_writer_item.j5 k self0 x1 x2 y23 y24 y25 rec1 (y25 == 0)) else (rlp_writer_item.j5 k self0 x1 x2 y23 y24 y25 rec1 false)
def rlp_writer_item.l1 (k : Nat) (self0 : rlp_writer_item.Ty) (x1 : (List (Bool × (List Int) × Int)) × Int) (x2 : Int) : Nat → (List Int) → (List (Bool × (List Int) × Int)) → Int → Option ((List Int) × ((List (Bool × (List Int) × Int)) × Int))
  | 0, _, _, _ => none
  | q + 1, y23, y24, y25 => rlp_writer_item.b1 k self0 x1 x2 (rlp_writer_item.l1 k self0 x1 x2 q) y23 y24 y25
def rlp_writer_item.j3 (k : Nat) (self0 : rlp_writer_item.Ty) (x1 : (List (Bool × (List Int) × Int)) × Int) (x2 : Int) (y5 : Bool) : Option ((List Int) × ((List (Bool × (List Int) × Int)) × Int)) := if y5 = true then (if (0 : Int) ≤ 0 ∧ 0 < (((gt x1.1 0).2.1).length : Int) then (some ([rd ((gt x1.1 0).2.1) 0], (x1.1.drop (Int.toNat 1), x1.2))) else none) else (if (!((gt x1.1 0).1)) = true then ((rlp_head.f k (((gt x1.1 0).2.1).length : Int) 0).bind fun t3 => (if ((t3).length + ((gt x1.1 0).2.1).length) * 1 ≤ 140737488355328 then (some (t3 ++ ((gt x1.1 0).2.1), (x1.1.drop (Int.toNat 1), x1.2))) else none)) else (if (x2 == 64) = true then ((rlp_writer_fail.f (x1.1.drop (Int.toNat 1), x1.2) 4).bind fun t4 => (some (t4.1, (t4.2.1, t4.2.2)))) else (rlp_writer_item.l1 k self0 x1 x2 k ([] : List Int) (x1.1.drop (Int.toNat 1)) x1.2)))
def rlp_writer_item.j2 (k : Nat) (self0 : rlp_writer_item.Ty) (x1 : (List (Bool × (List Int) × Int)) × Int) (x2 : Int) (y4 : Bool) : Option ((List Int) × ((List (Bool × (List Int) × Int)) × Int)) := if y4 = true then ((rlp_writer_fail.f (x1.1.drop (Int.toNat 1), x1.2) 2).bind fun t2 => (some (t2.1, (t2.2.1, t2.2.2)))) else (if (!((gt x1.1 0).1)) = true then (if ((((gt x1.1 0).2.1).length : Int) == 1) = true then (if (0 : Int) ≤ 0 ∧ 0 < (((gt x1.1 0).2.1).length : Int) then (rlp_writer_item.j3 k self0 x1 x2 (decide ((rd ((gt x1.1 0).2.1) 0) < 128))) else none) else (rlp_writer_item.j3 k self0 x1 x2 false)) else (rlp_writer_item.j3 k self0 x1 x2 false))
def rlp_writer_item.j7 (k : Nat) (self0 : rlp_writer_item.Ty) (x1 : (List (Bool × (List Int) × Int)) × Int) (x2 : Int) (y28 : Bool) : Option ((List Int) × ((List (Bool × (List Int) × Int)) × Int)) := if y28 = true then (rlp_writer_item.j2 k self0 x1 x2 y28) else (if (decide (((gt x1.1 0).2.2) < 0)) = true then (rlp_writer_item.j2 k self0 x1 x2 true) else (rlp_writer_item.j2 k self0 x1 x2 (decide (((x1.1.drop (Int.toNat 1)).length : Int) < ((gt x1.1 0).2.2)))))
def rlp_writer_item.j6 (k : Nat) (self0 : rlp_writer_item.Ty) (x1 : (List (Bool × (List Int) × Int)) × Int) (x2 : Int) (y27 : Bool) : Option ((List Int) × ((List (Bool × (List Int) × Int)) × Int)) := if y27 = true then (rlp_writer_item.j2 k self0 x1 x2 y27) else (if ((gt x1.1 0).1) = true then (rlp_writer_item.j7 k self0 x1 x2 (decide (0 < (((gt x1.1 0).2.1).length : Int)))) else (rlp_writer_item.j7 k self0 x1 x2 false))
def rlp_writer_item.j1 (k : Nat) (self0 : rlp_writer_item.Ty) (x1 : (List (Bool × (List Int) × Int)) × Int) (x2 : Int) (y1 : Bool) : Option ((List Int) × ((List (Bool × (List Int) × Int)) × Int)) := if y1 = true then ((rlp_writer_fail.f (x1.1, x1.2) 2).bind fun t1 => (some (t1.1, (t1.2.1, t1.2.2)))) else (if (0 : Int) ≤ 0 ∧ 0 < ((x1.1).length : Int) then (if (0 : Int) ≤ 1 ∧ (1 : Int) ≤ ((x1.1).length : Int) ∧ ((x1.1).length : Int) ≤ ((x1.1).length : Int) then (if (!((gt x1.1 0).1)) = true then (rlp_writer_item.j6 k self0 x1 x2 (((gt x1.1 0).2.2) != 0)) else (rlp_writer_item.j6 k self0 x1 x2 false)) else none) else none)
def rlp_writer_item.body (self0 : rlp_writer_item.Ty) (k : Nat) (x1 : (List (Bool × (List Int) × Int)) × Int) (x2 : Int) : Option ((List Int) × ((List (Bool × (List Int) × Int)) × Int)) := if (x1.2 != 0) = true then (rlp_writer_item.j1 k self0 x1 x2 true) else (rlp_writer_item.j1 k self0 x1 x2 (((x1.1).length : Int) == 0))
theorem rlp_writer_item.okb (self0 : rlp_writer_item.Ty) (c_0 : rlp_writer_item.Ctr self0) (k : Nat) : rlp_writer_item.Ctr (rlp_writer_item.body self0 k) := by
  intro x1 x2 ch_0_0 ch_0_1 ch_0_2 r h0 mi w0 ok hm
  delta rlp_writer_item.body at h0
  refine c_enterX (n := 154) [(.v (.pointer (some ⟨ch_0_0, 0, none⟩))), (.v (.int .i64 x2))] (l := [(0, (.v (.pointer (some ⟨ch_0_0, 0, none⟩)))), (1, (.v (.int .i64 x2)))]) Tryd.func41 rfl rfl rfl rfl ok hm ?_
  clear ok hm
  intro b0 hb a S
  refine c_region ?_
  refine s_assign S rfl rfl ?_; clear S a; intro a S
  refine c_end ?_
  refine wp_seq ?_
  refine wp_seq_k ?_
  intro K1 hK1
  have j1 : ∀ (m : Mem) (y1 : Bool) (a : Act) (w : World), St 154 m b0 [(20, (.v (.bool y1))), (0, (.v (.pointer (some ⟨ch_0_0, 0, none⟩)))), (1, (.v (.int .i64 x2)))] [Res.cells ch_0_0 70 [.sl ch_0_1 (x1.1).length ch_0_2 (RdS (Ty.prod Ty.bool (Ty.prod (Ty.slice (Ty.int .u8)) (Ty.int .i64))) ch_0_1 x1.1), .one (.int .i64 x1.2)]] a w → rlp_writer_item.j1 k self0 x1 x2 y1 = some r → K1 a w := by
    intro m y1 a w S h0
    delta rlp_writer_item.j1 at h0
    refine hK1 a w ?_
    rcases ite_of h0 with ⟨c1, h1⟩ | ⟨c1, h1⟩ <;> clear h0
    · refine c_condT S rfl c1 ?_
      refine c_region ?_
      refine s_move S rfl rfl ?_; clear S a; intro a S
      obtain ⟨t1, et1, h2⟩ := bind_of h1; clear h1
      refine s_callX S (ds' := [(.v (.pointer (some ⟨ch_0_0, 0, none⟩))), (.v (.int .i64 2))]) (ds := [(.v (.pointer (some ⟨ch_0_0, 0, none⟩))), (.v (.int .i64 2))]) [Res.cells ch_0_0 70 [.sl ch_0_1 (x1.1).length ch_0_2 (RdS (Ty.prod Ty.bool (Ty.prod (Ty.slice (Ty.int .u8)) (Ty.int .i64))) ch_0_1 x1.1), .one (.int .i64 x1.2)]] [] (fun (ch : (Option Addr) × Nat × (Option Addr) × Nat) => ((.sl ch.1 (t1.1).length ch.2.1 (RdS (Ty.int .u8) ch.1 t1.1)) : D)) (fun (ch : (Option Addr) × Nat × (Option Addr) × Nat) => [Res.cells ch_0_0 70 [.sl ch.2.2.1 (t1.2.1).length ch.2.2.2 (RdS (Ty.prod Ty.bool (Ty.prod (Ty.slice (Ty.int .u8)) (Ty.int .i64))) ch.2.2.1 t1.2.1), .one (.int .i64 t1.2.2)]]) (fun (ch : (Option Addr) × Nat × (Option Addr) × Nat) => [Res.cells ch_0_0 70 [.sl ch.2.2.1 (t1.2.1).length ch.2.2.2 (RdS (Ty.prod Ty.bool (Ty.prod (Ty.slice (Ty.int .u8)) (Ty.int .i64))) ch.2.2.1 t1.2.1), .one (.int .i64 t1.2.2)]]) (fun _ => rfl) N46 rfl rfl (fun ok => ok) (.cons .here .nil) rfl (rlp_writer_fail.ok (x1.1, x1.2) 2 ch_0_0 ch_0_1 ch_0_2 t1 et1 _ _) ?_; clear S a w; intro ch1 m le1 a w S
      refine s_assign S rfl rfl ?_; clear S a; intro a S
      refine c_end ?_
      refine wp_ret ?_
      refine x_thenR ?_
      obtain rfl := Option.some.inj h2
      exact b_ret1 (d := (.sl ch1.1 (t1.1).length ch1.2.1 (RdS (Ty.int .u8) ch1.1 t1.1))) S rfl rfl fun ok => S.retX (Hx := []) hb _ _ ((ch1.1, ch1.2.1, ch1.2.2.1, ch1.2.2.2) : (Option Addr) × Nat × (Option Addr) × Nat) (.cons .here .nil) ok
    · refine c_condF S rfl c1 ?_
      refine wp_skip ?_
      refine x_thenN ?_
      refine c_region ?_
      refine s_move S rfl rfl ?_; clear S a; intro a S
      refine s_nilchk S rfl rfl ?_; clear S a; intro a S
      refine s_fieldAddr S rfl I70_0 T58 (by decide) rfl rfl ?_; clear S a; intro a S
      refine s_loadSl S rfl .here T58 (A := ch_0_1) (len := (x1.1).length) (cap := ch_0_2) rfl rfl ?_; clear S a; intro a S
      obtain ⟨c2, h2⟩ := chk_of h1; clear h1
      refine s_iaddrS S rfl rfl rfl Tryd.underlying58 T55 c2.1 c2.2 rfl ?_; clear S a; intro p1 a S
      refine s_ldA S (fun (c : Unit × (Option Addr × Nat) × Unit) => [.one (.bool ((gt x1.1 0).1)), .sl c.2.1.1 ((gt x1.1 0).2.1).length c.2.1.2 (RdS (Ty.int .u8) c.2.1.1 ((gt x1.1 0).2.1)), .one (.int .i64 ((gt x1.1 0).2.2))]) rfl T55 (fun _ => rfl) rfl ?_; clear S a; intro ch2 a S
      refine s_alloc S Z55 rfl ⟨rfl, rfl, rfl, trivial⟩ rfl ?_; clear S a w; intro g1 a w S
      refine s_store S rfl rfl rfl (s' := [.one (.bool ((gt x1.1 0).1)), .sl ch2.2.1.1 ((gt x1.1 0).2.1).length ch2.2.1.2 (RdS (Ty.int .u8) ch2.2.1.1 ((gt x1.1 0).2.1)), .one (.int .i64 ((gt x1.1 0).2.2))]) .here T55 rfl rfl ?_; clear S w; intro w S
      refine c_end ?_
      refine c_region ?_
      refine s_move S rfl rfl ?_; clear S a; intro a S
      refine s_move S rfl rfl ?_; clear S a; intro a S
      refine s_nilchk S rfl rfl ?_; clear S a; intro a S
      refine s_fieldAddr S rfl I70_0 T58 (by decide) rfl rfl ?_; clear S a; intro a S
      refine s_loadSl S rfl (.there .here) T58 (A := ch_0_1) (len := (x1.1).length) (cap := ch_0_2) rfl rfl ?_; clear S a; intro a S
      obtain ⟨c3, h3⟩ := chk_of h2; clear h2
      refine s_cutS S (i := 1) (j := ((x1.1).length : Int)) (ys := x1.1.drop (Int.toNat 1)) rfl rfl Tryd.underlying58 T55 (.inr ⟨_, _, rfl, rfl⟩) (.inl ⟨rfl, rfl⟩) c3 rfl (by simp) ?_; clear S a; intro A1 cp1 a S
      refine s_nilchk S rfl rfl ?_; clear S a; intro a S
      refine s_fieldAddr S rfl I70_0 T58 (by decide) rfl rfl ?_; clear S a; intro a S
      refine s_store S rfl rfl rfl (s' := [.sl A1 (x1.1.drop (Int.toNat 1)).length cp1 (RdS (Ty.prod Ty.bool (Ty.prod (Ty.slice (Ty.int .u8)) (Ty.int .i64))) A1 (x1.1.drop (Int.toNat 1))), .one (.int .i64 x1.2)]) (.there .here) T58 rfl rfl ?_; clear S w; intro w S
      refine c_end ?_
      refine wp_seq ?_
      refine wp_block ?_
      refine wp_seq_k ?_
      intro K2 hK2
      have j2 : ∀ (m : Mem) (y4 : Bool) (g4 : Nat) (A2 : Option Addr) (cp4 : Nat) (A3 : Option Addr) (cp5 : Nat) (a : Act) (w : World), St 154 m b0 [(37, (.v (.bool y4))), (5, (.v (.pointer (some ⟨g4, 0, none⟩)))), (0, (.v (.pointer (some ⟨ch_0_0, 0, none⟩)))), (1, (.v (.int .i64 x2)))] [Res.cells g4 55 [.one (.bool ((gt x1.1 0).1)), .sl A3 ((gt x1.1 0).2.1).length cp5 (RdS (Ty.int .u8) A3 ((gt x1.1 0).2.1)), .one (.int .i64 ((gt x1.1 0).2.2))], Res.cells ch_0_0 70 [.sl A2 (x1.1.drop (Int.toNat 1)).length cp4 (RdS (Ty.prod Ty.bool (Ty.prod (Ty.slice (Ty.int .u8)) (Ty.int .i64))) A2 (x1.1.drop (Int.toNat 1))), .one (.int .i64 x1.2)]] a w → rlp_writer_item.j2 k self0 x1 x2 y4 = some r → K2 a w := by
        intro m y4 g4 A2 cp4 A3 cp5 a w S h0
        delta rlp_writer_item.j2 at h0
        refine hK2 a w ?_
        rcases ite_of h0 with ⟨c4, h1⟩ | ⟨c4, h1⟩ <;> clear h0
        · refine c_condT S rfl c4 ?_
          refine c_region ?_
          refine s_move S rfl rfl ?_; clear S a; intro a S
          obtain ⟨t2, et2, h2⟩ := bind_of h1; clear h1
          refine s_callX S (ds' := [(.v (.pointer (some ⟨ch_0_0, 0, none⟩))), (.v (.int .i64 2))]) (ds := [(.v (.pointer (some ⟨ch_0_0, 0, none⟩))), (.v (.int .i64 2))]) [Res.cells ch_0_0 70 [.sl A2 (x1.1.drop (Int.toNat 1)).length cp4 (RdS (Ty.prod Ty.bool (Ty.prod (Ty.slice (Ty.int .u8)) (Ty.int .i64))) A2 (x1.1.drop (Int.toNat 1))), .one (.int .i64 x1.2)]] [Res.cells g4 55 [.one (.bool ((gt x1.1 0).1)), .sl A3 ((gt x1.1 0).2.1).length cp5 (RdS (Ty.int .u8) A3 ((gt x1.1 0).2.1)), .one (.int .i64 ((gt x1.1 0).2.2))]] (fun (ch : (Option Addr) × Nat × (Option Addr) × Nat) => ((.sl ch.1 (t2.1).length ch.2.1 (RdS (Ty.int .u8) ch.1 t2.1)) : D)) (fun (ch : (Option Addr) × Nat × (Option Addr) × Nat) => [Res.cells ch_0_0 70 [.sl ch.2.2.1 (t2.2.1).length ch.2.2.2 (RdS (Ty.prod Ty.bool (Ty.prod (Ty.slice (Ty.int .u8)) (Ty.int .i64))) ch.2.2.1 t2.2.1), .one (.int .i64 t2.2.2)]]) (fun (ch : (Option Addr) × Nat × (Option Addr) × Nat) => [Res.cells ch_0_0 70 [.sl ch.2.2.1 (t2.2.1).length ch.2.2.2 (RdS (Ty.prod Ty.bool (Ty.prod (Ty.slice (Ty.int .u8)) (Ty.int .i64))) ch.2.2.1 t2.2.1), .one (.int .i64 t2.2.2)], Res.cells g4 55 [.one (.bool ((gt x1.1 0).1)), .sl A3 ((gt x1.1 0).2.1).length cp5 (RdS (Ty.int .u8) A3 ((gt x1.1 0).2.1)), .one (.int .i64 ((gt x1.1 0).2.2))]]) (fun _ => rfl) N46 rfl rfl (fun ok => ok) (.cons (.there .here) (.cons .here .nil)) rfl (rlp_writer_fail.ok (x1.1.drop (Int.toNat 1), x1.2) 2 ch_0_0 A2 cp4 t2 et2 _ _) ?_; clear S a w; intro ch3 m le1 a w S
          refine s_assign S rfl rfl ?_; clear S a; intro a S
          refine c_end ?_
          refine wp_ret ?_
          refine x_blockR ?_
          refine x_thenR ?_
          obtain rfl := Option.some.inj h2
          exact b_ret1 (d := (.sl ch3.1 (t2.1).length ch3.2.1 (RdS (Ty.int .u8) ch3.1 t2.1))) S rfl rfl fun ok => S.retX (Hx := []) hb _ _ ((ch3.1, ch3.2.1, ch3.2.2.1, ch3.2.2.2) : (Option Addr) × Nat × (Option Addr) × Nat) (.cons .here .nil) ok
        · refine c_condF S rfl c4 ?_
          refine wp_seq_k ?_
          intro K3 hK3
          have j3 : ∀ (m : Mem) (y5 : Bool) (g5 : Nat) (a : Act) (w : World), St 154 m b0 [(69, (.v (.bool y5))), (5, (.v (.pointer (some ⟨g5, 0, none⟩)))), (0, (.v (.pointer (some ⟨ch_0_0, 0, none⟩)))), (1, (.v (.int .i64 x2)))] [Res.cells g5 55 [.one (.bool ((gt x1.1 0).1)), .sl A3 ((gt x1.1 0).2.1).length cp5 (RdS (Ty.int .u8) A3 ((gt x1.1 0).2.1)), .one (.int .i64 ((gt x1.1 0).2.2))], Res.cells ch_0_0 70 [.sl A2 (x1.1.drop (Int.toNat 1)).length cp4 (RdS (Ty.prod Ty.bool (Ty.prod (Ty.slice (Ty.int .u8)) (Ty.int .i64))) A2 (x1.1.drop (Int.toNat 1))), .one (.int .i64 x1.2)]] a w → rlp_writer_item.j3 k self0 x1 x2 y5 = some r → K3 a w := by
            intro m y5 g5 a w S h0
            delta rlp_writer_item.j3 at h0
            refine hK3 a w ?_
            rcases ite_of h0 with ⟨c5, h1⟩ | ⟨c5, h1⟩ <;> clear h0
            · refine c_condT S rfl c5 ?_
              refine c_region ?_
              refine s_fieldAddr S rfl I55_1 T27 (by decide) rfl rfl ?_; clear S a; intro a S
              refine s_loadSl S rfl .here T27 (A := A3) (len := ((gt x1.1 0).2.1).length) (cap := cp5) rfl rfl ?_; clear S a; intro a S
              obtain ⟨c6, h2⟩ := chk_of h1; clear h1
              refine s_iaddrS S rfl rfl rfl Tryd.underlying27 T5 c6.1 c6.2 rfl ?_; clear S a; intro p3 a S
              refine s_ld1 S (v := (.int .u8 (rd ((gt x1.1 0).2.1) 0))) rfl T5 (fun _ => rfl) rfl ?_; clear S a; intro a S
              refine s_bldSl S (ty' := (Ty.int .u8)) (ds := [(0, (.v (.int .u8 (rd ((gt x1.1 0).2.1) 0))))]) (z := 0) (c0 := ()) (ys := [rd ((gt x1.1 0).2.1) 0]) (cs := [()]) rfl Tryd.underlying27 J5 Z5 rfl ⟨rfl, trivial⟩ rfl rfl rfl rfl rfl rfl ?_; clear S a w; intro g6 a w S
              refine s_assign S rfl rfl ?_; clear S a; intro a S
              refine c_end ?_
              refine wp_ret ?_
              refine x_blockR ?_
              refine x_thenR ?_
              replace S := S.rowfro .here
              obtain ⟨m, le1, S, hro⟩ := S
              replace S := S.slotro (u := 4) rfl hro
              replace S := S.slotro (u := 90) rfl hro
              obtain rfl := Option.some.inj h2
              exact b_ret1 (d := (.sl (some ⟨g6, 0, none⟩) ([rd ((gt x1.1 0).2.1) 0]).length 1 (RdS (Ty.int .u8) (some ⟨g6, 0, none⟩) [rd ((gt x1.1 0).2.1) 0]))) S rfl rfl fun ok => S.retX (Hx := []) hb _ _ (((some ⟨g6, 0, none⟩), 1, A2, cp4) : (Option Addr) × Nat × (Option Addr) × Nat) (.cons (.there .here) .nil) ok
            · refine c_condF S rfl c5 ?_
              refine c_region ?_
              refine s_fieldAddr S rfl I55_0 T4 (by decide) rfl rfl ?_; clear S a; intro a S
              refine s_load1 S rfl .here T4 (v := (.bool ((gt x1.1 0).1))) rfl rfl ?_; clear S a; intro a S
              refine s_not S rfl rfl ?_; clear S a; intro a S
              refine s_assign S rfl rfl ?_; clear S a; intro a S
              refine c_end ?_
              rcases ite_of h1 with ⟨c7, h2⟩ | ⟨c7, h2⟩ <;> clear h1
              · refine c_condT S rfl c7 ?_
                refine wp_seq (c_heldS S (.take 0 (.take 1 (.take 2 (.take 4 (.take 5 (.alts (.run 3 true (.alts (.run 6 true (.take 7 .done) .nil)) .nil))))))) 8 [Res.cells g5 55 [.one (.bool ((gt x1.1 0).1)), .sl A3 ((gt x1.1 0).2.1).length cp5 (RdS (Ty.int .u8) A3 ((gt x1.1 0).2.1)), .one (.int .i64 ((gt x1.1 0).2.2))], Res.cells ch_0_0 70 [.sl A2 (x1.1.drop (Int.toNat 1)).length cp4 (RdS (Ty.prod Ty.bool (Ty.prod (Ty.slice (Ty.int .u8)) (Ty.int .i64))) A2 (x1.1.drop (Int.toNat 1))), .one (.int .i64 x1.2)]] (.cons .here (.cons .here .nil)) ⟨Res.stay_cells, Res.stay_cells, trivial⟩ [(5, (.v (.pointer (some ⟨g5, 0, none⟩))))] ⟨rfl, trivial⟩ (by kernel_rfl) (by kernel_rfl) ?_); clear S; intro w S CL hw le
                refine h_fieldAddr S CL hw le ⟨rfl, trivial⟩ rfl I55_1 T27 (by decide) rfl rfl rfl trivial ?_; clear S CL a; intro a S CL
                refine h_loadSl S CL hw le ⟨rfl, rfl, trivial⟩ rfl .here T27 (A := A3) (len := ((gt x1.1 0).2.1).length) (cap := cp5) rfl rfl rfl trivial ?_; clear S CL a; intro a S CL
                refine h_lenS S CL hw le ⟨rfl, rfl, rfl, trivial⟩ rfl Tryd.underlying27 rfl rfl trivial ?_; clear S CL a; intro a S CL
                refine h_fieldAddr S CL hw le ⟨rfl, rfl, rfl, rfl, trivial⟩ rfl I55_1 T27 (by decide) rfl rfl rfl trivial ?_; clear S CL a; intro a S CL
                refine h_loadSl S CL hw le ⟨rfl, rfl, rfl, rfl, rfl, trivial⟩ rfl .here T27 (A := A3) (len := ((gt x1.1 0).2.1).length) (cap := cp5) rfl rfl rfl trivial ?_; clear S CL a; intro a S CL
                refine h_run' S rfl trivial ?_
                obtain ⟨t3, et3, h3⟩ := bind_of h2; clear h2
                refine s_callX S (ds' := [(.v (.int .i64 (((gt x1.1 0).2.1).length : Int))), (.v (.int .u8 0))]) (ds := [(.v (.int .i64 (((gt x1.1 0).2.1).length : Int))), (.v (.int .u8 0))]) [] [Res.cells g5 55 [.one (.bool ((gt x1.1 0).1)), .sl A3 ((gt x1.1 0).2.1).length cp5 (RdS (Ty.int .u8) A3 ((gt x1.1 0).2.1)), .one (.int .i64 ((gt x1.1 0).2.2))], Res.cells ch_0_0 70 [.sl A2 (x1.1.drop (Int.toNat 1)).length cp4 (RdS (Ty.prod Ty.bool (Ty.prod (Ty.slice (Ty.int .u8)) (Ty.int .i64))) A2 (x1.1.drop (Int.toNat 1))), .one (.int .i64 x1.2)]] (fun (ch : (Option Addr) × Nat × Nat) => ((.v (.slice ch.1 ch.2.1 ch.2.2)) : D)) (fun (ch : (Option Addr) × Nat × Nat) => [Res.row (Ty.int .u8) 5 ch.1 ch.2.1 ch.2.2 t3]) (fun (ch : (Option Addr) × Nat × Nat) => [Res.row (Ty.int .u8) 5 ch.1 ch.2.1 ch.2.2 t3, Res.cells g5 55 [.one (.bool ((gt x1.1 0).1)), .sl A3 ((gt x1.1 0).2.1).length cp5 (RdS (Ty.int .u8) A3 ((gt x1.1 0).2.1)), .one (.int .i64 ((gt x1.1 0).2.2))], Res.cells ch_0_0 70 [.sl A2 (x1.1.drop (Int.toNat 1)).length cp4 (RdS (Ty.prod Ty.bool (Ty.prod (Ty.slice (Ty.int .u8)) (Ty.int .i64))) A2 (x1.1.drop (Int.toNat 1))), .one (.int .i64 x1.2)]]) (fun _ => rfl) N47 rfl rfl (fun ok => ok) (.cons .here (.cons .here .nil)) rfl (rlp_head.ok k (((gt x1.1 0).2.1).length : Int) 0 t3 et3 _ _) ?_; clear S a; intro ch4 m le1 a w S
                replace le := le.trans le1
                replace hw := CL.again hw S (.cons (.there .here) (.cons (.there .here) .nil)) le
                refine h_back ⟨fun _ => hw, ?_⟩
                refine h_run' S rfl trivial ?_
                obtain ⟨c8, h4⟩ := chk_of h3; clear h3
                refine s_app S (k2 := (((gt x1.1 0).2.1).length)) (ys := ((gt x1.1 0).2.1)) rfl (fun _ _ => .here) rfl rfl rfl (RdS.src (S.get 100 (.sl A3 ((gt x1.1 0).2.1).length cp5 (RdS (Ty.int .u8) A3 ((gt x1.1 0).2.1))) rfl).2.2.2.1 (by decide) S.frz) Tryd.underlying27 J5 c8 rfl ?_; clear S a; intro A4 cp6 a w S
                replace hw := CL.again hw S (.cons (.there .here) (.cons (.there .here) .nil)) le
                refine h_back ⟨fun _ => hw, ?_⟩
                replace CL := CL.add (t := 101) (d := (.v (.slice A4 (ch4.2.1 + (((gt x1.1 0).2.1).length)) cp6))) S rfl rfl
                refine h_assign S CL hw le ⟨rfl, rfl, rfl, rfl, rfl, rfl, rfl, trivial⟩ rfl rfl rfl trivial ?_; clear S CL a; intro a S CL
                refine h_done ?_; clear CL hw le
                refine x_thenN ?_
                refine wp_ret ?_
                refine x_blockR ?_
                refine x_thenR ?_
                replace S := S.rowfro .here
                obtain ⟨m, le1, S, hro⟩ := S
                replace S := S.slotro (u := 4) rfl hro
                replace S := S.slotro (u := 101) rfl hro
                obtain rfl := Option.some.inj h4
                exact b_ret1 (d := (.sl A4 (t3 ++ ((gt x1.1 0).2.1)).length cp6 (RdS (Ty.int .u8) A4 (t3 ++ ((gt x1.1 0).2.1))))) S rfl rfl fun ok => S.retX (Hx := []) hb _ _ ((A4, cp6, A2, cp4) : (Option Addr) × Nat × (Option Addr) × Nat) (.cons (.there .here) .nil) ok
              · refine c_condF S rfl c7 ?_
                refine c_region ?_
                refine s_move S rfl rfl ?_; clear S a; intro a S
                refine s_bin S rfl rfl rfl rfl ?_; clear S a; intro a S
                refine s_assign S rfl rfl ?_; clear S a; intro a S
                refine c_end ?_
                rcases ite_of h2 with ⟨c9, h3⟩ | ⟨c9, h3⟩ <;> clear h2
                · refine c_condT S rfl c9 ?_
                  refine c_region ?_
                  refine s_move S rfl rfl ?_; clear S a; intro a S
                  obtain ⟨t4, et4, h4⟩ := bind_of h3; clear h3
                  refine s_callX S (ds' := [(.v (.pointer (some ⟨ch_0_0, 0, none⟩))), (.v (.int .i64 4))]) (ds := [(.v (.pointer (some ⟨ch_0_0, 0, none⟩))), (.v (.int .i64 4))]) [Res.cells ch_0_0 70 [.sl A2 (x1.1.drop (Int.toNat 1)).length cp4 (RdS (Ty.prod Ty.bool (Ty.prod (Ty.slice (Ty.int .u8)) (Ty.int .i64))) A2 (x1.1.drop (Int.toNat 1))), .one (.int .i64 x1.2)]] [Res.cells g5 55 [.one (.bool ((gt x1.1 0).1)), .sl A3 ((gt x1.1 0).2.1).length cp5 (RdS (Ty.int .u8) A3 ((gt x1.1 0).2.1)), .one (.int .i64 ((gt x1.1 0).2.2))]] (fun (ch : (Option Addr) × Nat × (Option Addr) × Nat) => ((.sl ch.1 (t4.1).length ch.2.1 (RdS (Ty.int .u8) ch.1 t4.1)) : D)) (fun (ch : (Option Addr) × Nat × (Option Addr) × Nat) => [Res.cells ch_0_0 70 [.sl ch.2.2.1 (t4.2.1).length ch.2.2.2 (RdS (Ty.prod Ty.bool (Ty.prod (Ty.slice (Ty.int .u8)) (Ty.int .i64))) ch.2.2.1 t4.2.1), .one (.int .i64 t4.2.2)]]) (fun (ch : (Option Addr) × Nat × (Option Addr) × Nat) => [Res.cells ch_0_0 70 [.sl ch.2.2.1 (t4.2.1).length ch.2.2.2 (RdS (Ty.prod Ty.bool (Ty.prod (Ty.slice (Ty.int .u8)) (Ty.int .i64))) ch.2.2.1 t4.2.1), .one (.int .i64 t4.2.2)], Res.cells g5 55 [.one (.bool ((gt x1.1 0).1)), .sl A3 ((gt x1.1 0).2.1).length cp5 (RdS (Ty.int .u8) A3 ((gt x1.1 0).2.1)), .one (.int .i64 ((gt x1.1 0).2.2))]]) (fun _ => rfl) N46 rfl rfl (fun ok => ok) (.cons (.there .here) (.cons .here .nil)) rfl (rlp_writer_fail.ok (x1.1.drop (Int.toNat 1), x1.2) 4 ch_0_0 A2 cp4 t4 et4 _ _) ?_; clear S a w; intro ch5 m le1 a w S
                  refine s_assign S rfl rfl ?_; clear S a; intro a S
                  refine c_end ?_
                  refine wp_ret ?_
                  refine x_blockR ?_
                  refine x_thenR ?_
                  obtain rfl := Option.some.inj h4
                  exact b_ret1 (d := (.sl ch5.1 (t4.1).length ch5.2.1 (RdS (Ty.int .u8) ch5.1 t4.1))) S rfl rfl fun ok => S.retX (Hx := []) hb _ _ ((ch5.1, ch5.2.1, ch5.2.2.1, ch5.2.2.2) : (Option Addr) × Nat × (Option Addr) × Nat) (.cons .here .nil) ok
                · refine c_condF S rfl c9 ?_
                  refine wp_skip ?_
                  refine x_blockN ?_
                  refine x_thenN ?_
                  refine wp_seq (c_heldS S (.take 0 (.take 1 (.take 2 (.take 3 (.take 4 (.take 5 (.take 6 (.take 7 (.take 8 .done))))))))) 9 [Res.cells g5 55 [.one (.bool ((gt x1.1 0).1)), .sl A3 ((gt x1.1 0).2.1).length cp5 (RdS (Ty.int .u8) A3 ((gt x1.1 0).2.1)), .one (.int .i64 ((gt x1.1 0).2.2))], Res.cells ch_0_0 70 [.sl A2 (x1.1.drop (Int.toNat 1)).length cp4 (RdS (Ty.prod Ty.bool (Ty.prod (Ty.slice (Ty.int .u8)) (Ty.int .i64))) A2 (x1.1.drop (Int.toNat 1))), .one (.int .i64 x1.2)]] (.cons .here (.cons .here .nil)) ⟨Res.stay_cells, Res.stay_cells, trivial⟩ [(5, (.v (.pointer (some ⟨g5, 0, none⟩)))), (0, (.v (.pointer (some ⟨ch_0_0, 0, none⟩))))] ⟨rfl, rfl, trivial⟩ (by kernel_rfl) (by kernel_rfl) ?_); clear S; intro w S CL hw le
                  refine h_move S CL hw le ⟨rfl, rfl, trivial⟩ rfl rfl rfl trivial ?_; clear S CL a; intro a S CL
                  refine h_nilchk S CL hw le ⟨rfl, rfl, rfl, trivial⟩ rfl rfl rfl rfl trivial ?_; clear S CL a; intro a S CL
                  refine h_fieldAddr S CL hw le ⟨rfl, rfl, rfl, rfl, trivial⟩ rfl I70_0 T58 (by decide) rfl rfl rfl trivial ?_; clear S CL a; intro a S CL
                  refine h_loadSl S CL hw le ⟨rfl, rfl, rfl, rfl, rfl, trivial⟩ rfl (.there .here) T58 (A := A2) (len := (x1.1.drop (Int.toNat 1)).length) (cap := cp4) rfl rfl rfl trivial ?_; clear S CL a; intro a S CL
                  refine h_lenS S CL hw le ⟨rfl, rfl, rfl, rfl, rfl, rfl, trivial⟩ rfl Tryd.underlying58 rfl rfl trivial ?_; clear S CL a; intro a S CL
                  refine h_fieldAddr S CL hw le ⟨rfl, rfl, rfl, rfl, rfl, rfl, rfl, trivial⟩ rfl I55_2 T3 (by decide) rfl rfl rfl trivial ?_; clear S CL a; intro a S CL
                  refine h_load1 S CL hw le ⟨rfl, rfl, rfl, rfl, rfl, rfl, rfl, rfl, trivial⟩ rfl .here T3 (v := (.int .i64 ((gt x1.1 0).2.2))) rfl rfl rfl trivial ?_; clear S CL a; intro a S CL
                  refine h_bin S CL hw le ⟨rfl, rfl, rfl, rfl, rfl, rfl, rfl, rfl, rfl, trivial⟩ rfl rfl rfl rfl rfl trivial ?_; clear S CL a; intro a S CL
                  refine h_assign S CL hw le ⟨rfl, rfl, rfl, rfl, rfl, rfl, rfl, rfl, rfl, rfl, trivial⟩ rfl rfl rfl trivial ?_; clear S CL a; intro a S CL
                  refine h_done ?_; clear CL hw le
                  refine x_thenN ?_
                  refine c_region ?_
                  refine s_assign S rfl rfl ?_; clear S a; intro a S
                  refine c_end ?_
                  refine wp_seq_k ?_
                  intro K4 hK4
                  have j4 : ∀ (m : Mem) (A5 : Option Addr) (nn1 : Nat) (cp13 : Nat) (y15 : List Int) (A6 : Option Addr) (cp14 : Nat) (y16 : List (Bool × (List Int) × Int)) (y17 : Int) (a : Act) (w : World), St 154 m b0 [(7, (.v (.slice A5 nn1 cp13))), (6, (.v (.int .i64 (wr .i64 (((x1.1.drop (Int.toNat 1)).length : Int) - ((gt x1.1 0).2.2)))))), (0, (.v (.pointer (some ⟨ch_0_0, 0, none⟩))))] [Res.row (Ty.int .u8) 5 A5 nn1 cp13 y15, Res.cells ch_0_0 70 [.sl A6 (y16).length cp14 (RdS (Ty.prod Ty.bool (Ty.prod (Ty.slice (Ty.int .u8)) (Ty.int .i64))) A6 y16), .one (.int .i64 y17)]] a w → rlp_writer_item.j4 k x1 y15 y16 y17 = some r → K4 a w := by
                    intro m A5 nn1 cp13 y15 A6 cp14 y16 y17 a w S h0
                    delta rlp_writer_item.j4 at h0
                    refine hK4 a w ?_
                    refine wp_seq ?_
                    refine c_region ?_
                    refine s_move S rfl rfl ?_; clear S a; intro a S
                    refine s_nilchk S rfl rfl ?_; clear S a; intro a S
                    refine s_fieldAddr S rfl I70_0 T58 (by decide) rfl rfl ?_; clear S a; intro a S
                    refine s_loadSl S rfl (.there .here) T58 (A := A6) (len := (y16).length) (cap := cp14) rfl rfl ?_; clear S a; intro a S
                    refine s_lenS S rfl Tryd.underlying58 rfl ?_; clear S a; intro a S
                    refine s_move S rfl rfl ?_; clear S a; intro a S
                    refine s_bin S rfl rfl rfl rfl ?_; clear S a; intro a S
                    refine c_end ?_
                    rcases ite_of h0 with ⟨c10, h1⟩ | ⟨c10, h1⟩ <;> clear h0
                    · refine c_condT S rfl c10 ?_
                      refine c_region ?_
                      refine s_move S rfl rfl ?_; clear S a; intro a S
                      obtain ⟨t5, et5, h2⟩ := bind_of h1; clear h1
                      refine s_callX S (ds' := [(.v (.pointer (some ⟨ch_0_0, 0, none⟩))), (.v (.int .i64 2))]) (ds := [(.v (.pointer (some ⟨ch_0_0, 0, none⟩))), (.v (.int .i64 2))]) [Res.cells ch_0_0 70 [.sl A6 (y16).length cp14 (RdS (Ty.prod Ty.bool (Ty.prod (Ty.slice (Ty.int .u8)) (Ty.int .i64))) A6 y16), .one (.int .i64 y17)]] [Res.row (Ty.int .u8) 5 A5 nn1 cp13 y15] (fun (ch : (Option Addr) × Nat × (Option Addr) × Nat) => ((.sl ch.1 (t5.1).length ch.2.1 (RdS (Ty.int .u8) ch.1 t5.1)) : D)) (fun (ch : (Option Addr) × Nat × (Option Addr) × Nat) => [Res.cells ch_0_0 70 [.sl ch.2.2.1 (t5.2.1).length ch.2.2.2 (RdS (Ty.prod Ty.bool (Ty.prod (Ty.slice (Ty.int .u8)) (Ty.int .i64))) ch.2.2.1 t5.2.1), .one (.int .i64 t5.2.2)]]) (fun (ch : (Option Addr) × Nat × (Option Addr) × Nat) => [Res.cells ch_0_0 70 [.sl ch.2.2.1 (t5.2.1).length ch.2.2.2 (RdS (Ty.prod Ty.bool (Ty.prod (Ty.slice (Ty.int .u8)) (Ty.int .i64))) ch.2.2.1 t5.2.1), .one (.int .i64 t5.2.2)], Res.row (Ty.int .u8) 5 A5 nn1 cp13 y15]) (fun _ => rfl) N46 rfl rfl (fun ok => ok) (.cons (.there .here) (.cons .here .nil)) rfl (rlp_writer_fail.ok (y16, y17) 2 ch_0_0 A6 cp14 t5 et5 _ _) ?_; clear S a w; intro ch6 m le1 a w S
                      refine s_assign S rfl rfl ?_; clear S a; intro a S
                      refine c_end ?_
                      refine wp_ret ?_
                      refine x_thenR ?_
                      obtain rfl := Option.some.inj h2
                      exact b_ret1 (d := (.sl ch6.1 (t5.1).length ch6.2.1 (RdS (Ty.int .u8) ch6.1 t5.1))) S rfl rfl fun ok => S.retX (Hx := []) hb _ _ ((ch6.1, ch6.2.1, ch6.2.2.1, ch6.2.2.2) : (Option Addr) × Nat × (Option Addr) × Nat) (.cons .here .nil) ok
                    · refine c_condF S rfl c10 ?_
                      refine wp_skip ?_
                      refine x_thenN ?_
                      refine c_region ?_
                      refine s_move S rfl rfl ?_; clear S a; intro a S
                      refine s_lenO S rfl .here Tryd.underlying27 rfl ?_; clear S a; intro a S
                      obtain ⟨t6, et6, h2⟩ := bind_of h1; clear h1
                      refine s_callX S (ds' := [(.v (.int .i64 ((y15).length : Int))), (.v (.int .u8 64))]) (ds := [(.v (.int .i64 ((y15).length : Int))), (.v (.int .u8 64))]) [] [Res.row (Ty.int .u8) 5 A5 nn1 cp13 y15, Res.cells ch_0_0 70 [.sl A6 (y16).length cp14 (RdS (Ty.prod Ty.bool (Ty.prod (Ty.slice (Ty.int .u8)) (Ty.int .i64))) A6 y16), .one (.int .i64 y17)]] (fun (ch : (Option Addr) × Nat × Nat) => ((.v (.slice ch.1 ch.2.1 ch.2.2)) : D)) (fun (ch : (Option Addr) × Nat × Nat) => [Res.row (Ty.int .u8) 5 ch.1 ch.2.1 ch.2.2 t6]) (fun (ch : (Option Addr) × Nat × Nat) => [Res.row (Ty.int .u8) 5 ch.1 ch.2.1 ch.2.2 t6, Res.row (Ty.int .u8) 5 A5 nn1 cp13 y15, Res.cells ch_0_0 70 [.sl A6 (y16).length cp14 (RdS (Ty.prod Ty.bool (Ty.prod (Ty.slice (Ty.int .u8)) (Ty.int .i64))) A6 y16), .one (.int .i64 y17)]]) (fun _ => rfl) N47 rfl rfl (fun ok => ok) (.cons .here (.cons .here .nil)) rfl (rlp_head.ok k ((y15).length : Int) 64 t6 et6 _ _) ?_; clear S a w; intro ch7 m le1 a w S
                      refine s_move S rfl rfl ?_; clear S a; intro a S
                      obtain ⟨c11, h3⟩ := chk_of h2; clear h2
                      refine s_app S (k2 := nn1) (ys := y15) rfl (fun _ _ => .here) rfl rfl (S.holds _ (Pull.mem (.there .here)).1).1 (Res.row.src (S.holds _ (Pull.mem (.there .here)).1)) Tryd.underlying27 J5 c11 rfl ?_; clear S a w; intro A7 cp15 a w S
                      refine s_assign S rfl rfl ?_; clear S a; intro a S
                      refine c_end ?_
                      refine wp_ret ?_
                      replace S := S.rowfro .here
                      obtain ⟨m, le1, S, hro⟩ := S
                      replace S := S.slotro (u := 4) rfl hro
                      replace S := S.slotro (u := 153) rfl hro
                      obtain rfl := Option.some.inj h3
                      exact b_ret1 (d := (.sl A7 (t6 ++ y15).length cp15 (RdS (Ty.int .u8) A7 (t6 ++ y15)))) S rfl rfl fun ok => S.retX (Hx := []) hb _ _ ((A7, cp15, A6, cp14) : (Option Addr) × Nat × (Option Addr) × Nat) (.cons (.there .here) .nil) ok
                  refine wp_block ?_
                  replace S := S.nilrow (Ty.int .u8) 5
                  refine c_loop (fun q1 a w => ∃ (m : Mem) (A8 : Option Addr) (nn3 : Nat) (cp20 : Nat) (y23 : List Int) (A9 : Option Addr) (cp21 : Nat) (y24 : List (Bool × (List Int) × Int)) (y25 : Int), St 154 m b0 [(7, (.v (.slice A8 nn3 cp20))), (6, (.v (.int .i64 (wr .i64 (((x1.1.drop (Int.toNat 1)).length : Int) - ((gt x1.1 0).2.2)))))), (0, (.v (.pointer (some ⟨ch_0_0, 0, none⟩)))), (1, (.v (.int .i64 x2)))] [Res.row (Ty.int .u8) 5 A8 nn3 cp20 y23, Res.cells ch_0_0 70 [.sl A9 (y24).length cp21 (RdS (Ty.prod Ty.bool (Ty.prod (Ty.slice (Ty.int .u8)) (Ty.int .i64))) A9 y24), .one (.int .i64 y25)]] a w ∧ rlp_writer_item.l1 k self0 x1 x2 q1 y23 y24 y25 = some r) ?_ ?_ (k := k) ⟨_, none, 0, 0, ([] : List Int), A2, cp4, (x1.1.drop (Int.toNat 1)), x1.2, (S.sub ⟨rfl, rfl, rfl, rfl, trivial⟩ (.cons .here (.cons (.there .here) .nil))), h3⟩
                  · rintro a w ⟨m, A8, nn3, cp20, y23, A9, cp21, y24, y25, S, h0⟩
                    exact (nomatch (show (none : Option ((List Int) × ((List (Bool × (List Int) × Int)) × Int))) = some r from h0))
                  · clear S h3
                    rintro q1 a w ⟨m, A8, nn3, cp20, y23, A9, cp21, y24, y25, S, h0⟩
                    replace h0 : rlp_writer_item.b1 k self0 x1 x2 (rlp_writer_item.l1 k self0 x1 x2 q1) y23 y24 y25 = some r := h0
                    delta rlp_writer_item.b1 at h0
                    refine wp_seq ?_
                    refine wp_seq_k ?_
                    intro K5 hK5
                    have j5 : ∀ (m : Mem) (y26 : Bool) (a : Act) (w : World), St 154 m b0 [(128, (.v (.bool y26))), (7, (.v (.slice A8 nn3 cp20))), (6, (.v (.int .i64 (wr .i64 (((x1.1.drop (Int.toNat 1)).length : Int) - ((gt x1.1 0).2.2)))))), (0, (.v (.pointer (some ⟨ch_0_0, 0, none⟩)))), (1, (.v (.int .i64 x2)))] [Res.row (Ty.int .u8) 5 A8 nn3 cp20 y23, Res.cells ch_0_0 70 [.sl A9 (y24).length cp21 (RdS (Ty.prod Ty.bool (Ty.prod (Ty.slice (Ty.int .u8)) (Ty.int .i64))) A9 y24), .one (.int .i64 y25)]] a w → rlp_writer_item.j5 k self0 x1 x2 y23 y24 y25 (rlp_writer_item.l1 k self0 x1 x2 q1) y26 = some r → K5 a w := by
                      intro m y26 a w S h0
                      delta rlp_writer_item.j5 at h0
                      refine hK5 a w ?_
                      rcases ite_of h0 with ⟨c12, h1⟩ | ⟨c12, h1⟩ <;> clear h0
                      · refine c_condT S rfl c12 ?_
                        refine wp_skip ?_
                        refine x_thenN ?_
                        refine wp_block ?_
                        refine c_region ?_
                        refine s_move S rfl rfl ?_; clear S a; intro a S
                        refine s_move S rfl rfl ?_; clear S a; intro a S
                        refine s_move S rfl rfl ?_; clear S a; intro a S
                        refine s_bin S rfl rfl rfl rfl ?_; clear S a; intro a S
                        obtain ⟨t9, et9, h2⟩ := bind_of h1; clear h1
                        refine s_callX S (ds' := [(.v (.pointer (some ⟨ch_0_0, 0, none⟩))), (.v (.int .i64 (wr .i64 (x2 + 1))))]) (ds := [(.v (.pointer (some ⟨ch_0_0, 0, none⟩))), (.v (.int .i64 (wr .i64 (x2 + 1))))]) [Res.cells ch_0_0 70 [.sl A9 (y24).length cp21 (RdS (Ty.prod Ty.bool (Ty.prod (Ty.slice (Ty.int .u8)) (Ty.int .i64))) A9 y24), .one (.int .i64 y25)]] [Res.row (Ty.int .u8) 5 A8 nn3 cp20 y23] (fun (ch : (Option Addr) × Nat × (Option Addr) × Nat) => ((.sl ch.1 (t9.1).length ch.2.1 (RdS (Ty.int .u8) ch.1 t9.1)) : D)) (fun (ch : (Option Addr) × Nat × (Option Addr) × Nat) => [Res.cells ch_0_0 70 [.sl ch.2.2.1 (t9.2.1).length ch.2.2.2 (RdS (Ty.prod Ty.bool (Ty.prod (Ty.slice (Ty.int .u8)) (Ty.int .i64))) ch.2.2.1 t9.2.1), .one (.int .i64 t9.2.2)]]) (fun (ch : (Option Addr) × Nat × (Option Addr) × Nat) => [Res.cells ch_0_0 70 [.sl ch.2.2.1 (t9.2.1).length ch.2.2.2 (RdS (Ty.prod Ty.bool (Ty.prod (Ty.slice (Ty.int .u8)) (Ty.int .i64))) ch.2.2.1 t9.2.1), .one (.int .i64 t9.2.2)], Res.row (Ty.int .u8) 5 A8 nn3 cp20 y23]) (fun _ => rfl) N41 rfl rfl (fun ok => ok) (.cons (.there .here) (.cons .here .nil)) rfl (c_0 (y24, y25) (wr .i64 (x2 + 1)) ch_0_0 A9 cp21 t9 et9 _ _) ?_; clear S a w; intro ch10 m le1 a w S
                        obtain ⟨c13, h3⟩ := chk_of h2; clear h2
                        refine s_app S (k2 := ((t9.1).length)) (ys := t9.1) rfl (fun _ _ => (.there .here)) rfl rfl rfl (RdS.src (S.get 133 (.sl ch10.1 (t9.1).length ch10.2.1 (RdS (Ty.int .u8) ch10.1 t9.1)) rfl).2.2.2.1 (by decide) S.frz) Tryd.underlying27 J5 c13 rfl ?_; clear S a w; intro A10 cp22 a w S
                        refine s_assign S rfl rfl ?_; clear S a; intro a S
                        refine c_end ?_
                        refine c_region ?_
                        refine s_move S rfl rfl ?_; clear S a; intro a S
                        refine s_lenO S rfl (.there .here) Tryd.underlying27 rfl ?_; clear S a; intro a S
                        refine s_bin S rfl rfl rfl rfl ?_; clear S a; intro a S
                        refine c_end ?_
                        rcases ite_of h3 with ⟨c14, h4⟩ | ⟨c14, h4⟩ <;> clear h3
                        · refine c_condT S rfl c14 ?_
                          refine c_region ?_
                          refine s_move S rfl rfl ?_; clear S a; intro a S
                          obtain ⟨t10, et10, h5⟩ := bind_of h4; clear h4
                          refine s_callX S (ds' := [(.v (.pointer (some ⟨ch_0_0, 0, none⟩))), (.v (.int .i64 4))]) (ds := [(.v (.pointer (some ⟨ch_0_0, 0, none⟩))), (.v (.int .i64 4))]) [Res.cells ch_0_0 70 [.sl ch10.2.2.1 (t9.2.1).length ch10.2.2.2 (RdS (Ty.prod Ty.bool (Ty.prod (Ty.slice (Ty.int .u8)) (Ty.int .i64))) ch10.2.2.1 t9.2.1), .one (.int .i64 t9.2.2)]] [Res.row (Ty.int .u8) 5 A10 (nn3 + ((t9.1).length)) cp22 (y23 ++ t9.1)] (fun (ch : (Option Addr) × Nat × (Option Addr) × Nat) => ((.sl ch.1 (t10.1).length ch.2.1 (RdS (Ty.int .u8) ch.1 t10.1)) : D)) (fun (ch : (Option Addr) × Nat × (Option Addr) × Nat) => [Res.cells ch_0_0 70 [.sl ch.2.2.1 (t10.2.1).length ch.2.2.2 (RdS (Ty.prod Ty.bool (Ty.prod (Ty.slice (Ty.int .u8)) (Ty.int .i64))) ch.2.2.1 t10.2.1), .one (.int .i64 t10.2.2)]]) (fun (ch : (Option Addr) × Nat × (Option Addr) × Nat) => [Res.cells ch_0_0 70 [.sl ch.2.2.1 (t10.2.1).length ch.2.2.2 (RdS (Ty.prod Ty.bool (Ty.prod (Ty.slice (Ty.int .u8)) (Ty.int .i64))) ch.2.2.1 t10.2.1), .one (.int .i64 t10.2.2)], Res.row (Ty.int .u8) 5 A10 (nn3 + ((t9.1).length)) cp22 (y23 ++ t9.1)]) (fun _ => rfl) N46 rfl rfl (fun ok => ok) (.cons .here (.cons .here .nil)) rfl (rlp_writer_fail.ok (t9.2.1, t9.2.2) 4 ch_0_0 ch10.2.2.1 ch10.2.2.2 t10 et10 _ _) ?_; clear S a w; intro ch11 m le1 a w S
                          refine s_assign S rfl rfl ?_; clear S a; intro a S
                          refine c_end ?_
                          refine wp_ret ?_
                          refine x_blockR ?_
                          refine x_thenR ?_
                          refine x_blockR ?_
                          refine x_thenR ?_
                          obtain rfl := Option.some.inj h5
                          exact b_ret1 (d := (.sl ch11.1 (t10.1).length ch11.2.1 (RdS (Ty.int .u8) ch11.1 t10.1))) S rfl rfl fun ok => S.retX (Hx := []) hb _ _ ((ch11.1, ch11.2.1, ch11.2.2.1, ch11.2.2.2) : (Option Addr) × Nat × (Option Addr) × Nat) (.cons .here .nil) ok
                        · refine c_condF S rfl c14 ?_
                          refine wp_skip ?_
                          refine x_blockN ?_
                          refine x_thenN ?_
                          exact ⟨_, A10, (nn3 + ((t9.1).length)), cp22, (y23 ++ t9.1), ch10.2.2.1, ch10.2.2.2, t9.2.1, t9.2.2, (S.sub ⟨rfl, rfl, rfl, rfl, trivial⟩ (.cons (.there .here) (.cons .here .nil))), h4⟩
                      · refine c_condF S rfl c12 ?_
                        refine wp_exit ?_
                        refine x_thenX ?_
                        refine x_thenX ?_
                        refine x_blockX ?_
                        refine x_thenN ?_
                        exact j4 _ A8 nn3 cp20 y23 A9 cp21 y24 y25 a w (S.sub ⟨rfl, rfl, rfl, trivial⟩ (.cons .here (.cons .here .nil))) h1
                    refine c_region' ?_
                    refine s_move S rfl rfl ?_; clear S a; intro a S
                    refine s_nilchk S rfl rfl ?_; clear S a; intro a S
                    refine s_fieldAddr S rfl I70_0 T58 (by decide) rfl rfl ?_; clear S a; intro a S
                    refine s_loadSl S rfl (.there .here) T58 (A := A9) (len := (y24).length) (cap := cp21) rfl rfl ?_; clear S a; intro a S
                    refine s_lenS S rfl Tryd.underlying58 rfl ?_; clear S a; intro a S
                    refine s_move S rfl rfl ?_; clear S a; intro a S
                    refine s_bin S rfl rfl rfl rfl ?_; clear S a; intro a S
                    refine s_move S rfl rfl ?_; clear S a; intro a S
                    rcases ite_of h0 with ⟨c15, h1⟩ | ⟨c15, h1⟩ <;> clear h0
                    · refine s_gT S (b := (decide ((wr .i64 (((x1.1.drop (Int.toNat 1)).length : Int) - ((gt x1.1 0).2.2))) < ((y24).length : Int)))) rfl rfl c15 ?_
                      refine s_move S rfl rfl ?_; clear S a; intro a S
                      refine s_gT S (b := (decide ((wr .i64 (((x1.1.drop (Int.toNat 1)).length : Int) - ((gt x1.1 0).2.2))) < ((y24).length : Int)))) rfl rfl c15 ?_
                      refine s_nilchk S rfl rfl ?_; clear S a; intro a S
                      refine s_gT S (b := (decide ((wr .i64 (((x1.1.drop (Int.toNat 1)).length : Int) - ((gt x1.1 0).2.2))) < ((y24).length : Int)))) rfl rfl c15 ?_
                      refine s_fieldAddr S rfl I70_1 T59 (by decide) rfl rfl ?_; clear S a; intro a S
                      refine s_gT S (b := (decide ((wr .i64 (((x1.1.drop (Int.toNat 1)).length : Int) - ((gt x1.1 0).2.2))) < ((y24).length : Int)))) rfl rfl c15 ?_
                      refine s_load1 S rfl (.there .here) T59 (v := (.int .i64 y25)) rfl rfl ?_; clear S a; intro a S
                      refine s_gT S (b := (decide ((wr .i64 (((x1.1.drop (Int.toNat 1)).length : Int) - ((gt x1.1 0).2.2))) < ((y24).length : Int)))) rfl rfl c15 ?_
                      refine s_bin S rfl rfl rfl rfl ?_; clear S a; intro a S
                      refine s_pick S (b := true) (hc_of rfl c15) rfl rfl ?_; clear S a; intro a S
                      refine c_end' ?_
                      refine x_thenN ?_
                      exact j5 _ (y25 == 0) a w (S.sub ⟨rfl, rfl, rfl, rfl, rfl, trivial⟩ (.cons .here (.cons .here .nil))) h1
                    · refine s_gF S (b := (decide ((wr .i64 (((x1.1.drop (Int.toNat 1)).length : Int) - ((gt x1.1 0).2.2))) < ((y24).length : Int)))) rfl rfl c15 rfl ?_; clear S a; intro a S
                      refine s_gF S (b := (decide ((wr .i64 (((x1.1.drop (Int.toNat 1)).length : Int) - ((gt x1.1 0).2.2))) < ((y24).length : Int)))) rfl rfl c15 rfl ?_; clear S a; intro a S
                      refine s_gF S (b := (decide ((wr .i64 (((x1.1.drop (Int.toNat 1)).length : Int) - ((gt x1.1 0).2.2))) < ((y24).length : Int)))) rfl rfl c15 rfl ?_; clear S a; intro a S
                      refine s_gF S (b := (decide ((wr .i64 (((x1.1.drop (Int.toNat 1)).length : Int) - ((gt x1.1 0).2.2))) < ((y24).length : Int)))) rfl rfl c15 rfl ?_; clear S a; intro a S
                      refine s_gF S (b := (decide ((wr .i64 (((x1.1.drop (Int.toNat 1)).length : Int) - ((gt x1.1 0).2.2))) < ((y24).length : Int)))) rfl rfl c15 rfl ?_; clear S a; intro a S
                      refine s_pick S (b := false) (hc_of rfl c15) rfl rfl ?_; clear S a; intro a S
                      refine c_end' ?_
                      refine x_thenN ?_
                      exact j5 _ false a w (S.sub ⟨rfl, rfl, rfl, rfl, rfl, trivial⟩ (.cons .here (.cons .here .nil))) h1
          refine c_region' ?_
          refine s_fieldAddr S rfl I55_0 T4 (by decide) rfl rfl ?_; clear S a; intro a S
          refine s_load1 S rfl .here T4 (v := (.bool ((gt x1.1 0).1))) rfl rfl ?_; clear S a; intro a S
          refine s_not S rfl rfl ?_; clear S a; intro a S
          refine s_move S rfl rfl ?_; clear S a; intro a S
          rcases ite_of h1 with ⟨c16, h2⟩ | ⟨c16, h2⟩ <;> clear h1
          · refine s_gT S (b := (!((gt x1.1 0).1))) rfl rfl c16 ?_
            refine s_fieldAddr S rfl I55_1 T27 (by decide) rfl rfl ?_; clear S a; intro a S
            refine s_gT S (b := (!((gt x1.1 0).1))) rfl rfl c16 ?_
            refine s_loadSl S rfl .here T27 (A := A3) (len := ((gt x1.1 0).2.1).length) (cap := cp5) rfl rfl ?_; clear S a; intro a S
            refine s_gT S (b := (!((gt x1.1 0).1))) rfl rfl c16 ?_
            refine s_lenS S rfl Tryd.underlying27 rfl ?_; clear S a; intro a S
            refine s_gT S (b := (!((gt x1.1 0).1))) rfl rfl c16 ?_
            refine s_bin S rfl rfl rfl rfl ?_; clear S a; intro a S
            refine s_pick S (b := true) (hc_of rfl c16) rfl rfl ?_; clear S a; intro a S
            refine s_move S rfl rfl ?_; clear S a; intro a S
            rcases ite_of h2 with ⟨c17, h3⟩ | ⟨c17, h3⟩ <;> clear h2
            · refine s_gT S (b := ((((gt x1.1 0).2.1).length : Int) == 1)) rfl rfl c17 ?_
              refine s_fieldAddr S rfl I55_1 T27 (by decide) rfl rfl ?_; clear S a; intro a S
              refine s_gT S (b := ((((gt x1.1 0).2.1).length : Int) == 1)) rfl rfl c17 ?_
              refine s_loadSl S rfl .here T27 (A := A3) (len := ((gt x1.1 0).2.1).length) (cap := cp5) rfl rfl ?_; clear S a; intro a S
              refine s_gT S (b := ((((gt x1.1 0).2.1).length : Int) == 1)) rfl rfl c17 ?_
              obtain ⟨c18, h4⟩ := chk_of h3; clear h3
              refine s_iaddrS S rfl rfl rfl Tryd.underlying27 T5 c18.1 c18.2 rfl ?_; clear S a; intro p4 a S
              refine s_gT S (b := ((((gt x1.1 0).2.1).length : Int) == 1)) rfl rfl c17 ?_
              refine s_ld1 S (v := (.int .u8 (rd ((gt x1.1 0).2.1) 0))) rfl T5 (fun _ => rfl) rfl ?_; clear S a; intro a S
              refine s_gT S (b := ((((gt x1.1 0).2.1).length : Int) == 1)) rfl rfl c17 ?_
              refine s_bin S rfl rfl rfl rfl ?_; clear S a; intro a S
              refine s_pick S (b := true) (hc_of rfl c17) rfl rfl ?_; clear S a; intro a S
              refine s_assign S rfl rfl ?_; clear S a; intro a S
              refine c_end' ?_
              refine x_thenN ?_
              exact j3 _ (decide ((rd ((gt x1.1 0).2.1) 0) < 128)) g4 a w (S.sub ⟨rfl, rfl, rfl, rfl, trivial⟩ (.cons .here (.cons .here .nil))) h4
            · refine s_gF S (b := ((((gt x1.1 0).2.1).length : Int) == 1)) rfl rfl c17 rfl ?_; clear S a; intro a S
              refine s_gF S (b := ((((gt x1.1 0).2.1).length : Int) == 1)) rfl rfl c17 rfl ?_; clear S a; intro a S
              refine s_gF S (b := ((((gt x1.1 0).2.1).length : Int) == 1)) rfl rfl c17 rfl ?_; clear S a; intro a S
              refine s_gF S (b := ((((gt x1.1 0).2.1).length : Int) == 1)) rfl rfl c17 rfl ?_; clear S a; intro a S
              refine s_gF S (b := ((((gt x1.1 0).2.1).length : Int) == 1)) rfl rfl c17 rfl ?_; clear S a; intro a S
              refine s_pick S (b := false) (hc_of rfl c17) rfl rfl ?_; clear S a; intro a S
              refine s_assign S rfl rfl ?_; clear S a; intro a S
              refine c_end' ?_
              refine x_thenN ?_
              exact j3 _ false g4 a w (S.sub ⟨rfl, rfl, rfl, rfl, trivial⟩ (.cons .here (.cons .here .nil))) h3
          · refine s_gF S (b := (!((gt x1.1 0).1))) rfl rfl c16 rfl ?_; clear S a; intro a S
            refine s_gF S (b := (!((gt x1.1 0).1))) rfl rfl c16 rfl ?_; clear S a; intro a S
            refine s_gF S (b := (!((gt x1.1 0).1))) rfl rfl c16 rfl ?_; clear S a; intro a S
            refine s_gF S (b := (!((gt x1.1 0).1))) rfl rfl c16 rfl ?_; clear S a; intro a S
            refine s_pick S (b := false) (hc_of rfl c16) rfl rfl ?_; clear S a; intro a S
            refine s_move S rfl rfl ?_; clear S a; intro a S
            refine s_gF S (b := false) rfl rfl rfl rfl ?_; clear S a; intro a S
            refine s_gF S (b := false) rfl rfl rfl rfl ?_; clear S a; intro a S
            refine s_gF S (b := false) rfl rfl rfl rfl ?_; clear S a; intro a S
            refine s_gF S (b := false) rfl rfl rfl rfl ?_; clear S a; intro a S
            refine s_gF S (b := false) rfl rfl rfl rfl ?_; clear S a; intro a S
            refine s_pick S (b := false) (hc_of rfl rfl) rfl rfl ?_; clear S a; intro a S
            refine s_assign S rfl rfl ?_; clear S a; intro a S
            refine c_end' ?_
            refine x_thenN ?_
            exact j3 _ false g4 a w (S.sub ⟨rfl, rfl, rfl, rfl, trivial⟩ (.cons .here (.cons .here .nil))) h2
      refine wp_seq_k ?_
      intro K6 hK6
      have j6 : ∀ (m : Mem) (y27 : Bool) (g7 : Nat) (A11 : Option Addr) (cp23 : Nat) (A12 : Option Addr) (cp24 : Nat) (a : Act) (w : World), St 154 m b0 [(37, (.v (.bool y27))), (5, (.v (.pointer (some ⟨g7, 0, none⟩)))), (0, (.v (.pointer (some ⟨ch_0_0, 0, none⟩)))), (1, (.v (.int .i64 x2)))] [Res.cells g7 55 [.one (.bool ((gt x1.1 0).1)), .sl A12 ((gt x1.1 0).2.1).length cp24 (RdS (Ty.int .u8) A12 ((gt x1.1 0).2.1)), .one (.int .i64 ((gt x1.1 0).2.2))], Res.cells ch_0_0 70 [.sl A11 (x1.1.drop (Int.toNat 1)).length cp23 (RdS (Ty.prod Ty.bool (Ty.prod (Ty.slice (Ty.int .u8)) (Ty.int .i64))) A11 (x1.1.drop (Int.toNat 1))), .one (.int .i64 x1.2)]] a w → rlp_writer_item.j6 k self0 x1 x2 y27 = some r → K6 a w := by
        intro m y27 g7 A11 cp23 A12 cp24 a w S h0
        delta rlp_writer_item.j6 at h0
        refine hK6 a w ?_
        rcases ite_of h0 with ⟨c19, h1⟩ | ⟨c19, h1⟩ <;> clear h0
        · refine c_condT S rfl c19 ?_
          refine wp_skip ?_
          refine x_thenN ?_
          exact j2 _ y27 g7 A11 cp23 A12 cp24 a w (S.sub ⟨rfl, rfl, rfl, rfl, trivial⟩ (.cons .here (.cons .here .nil))) h1
        · refine c_condF S rfl c19 ?_
          refine wp_seq_k ?_
          intro K7 hK7
          have j7 : ∀ (m : Mem) (y28 : Bool) (g8 : Nat) (a : Act) (w : World), St 154 m b0 [(37, (.v (.bool y28))), (5, (.v (.pointer (some ⟨g8, 0, none⟩)))), (0, (.v (.pointer (some ⟨ch_0_0, 0, none⟩)))), (1, (.v (.int .i64 x2)))] [Res.cells g8 55 [.one (.bool ((gt x1.1 0).1)), .sl A12 ((gt x1.1 0).2.1).length cp24 (RdS (Ty.int .u8) A12 ((gt x1.1 0).2.1)), .one (.int .i64 ((gt x1.1 0).2.2))], Res.cells ch_0_0 70 [.sl A11 (x1.1.drop (Int.toNat 1)).length cp23 (RdS (Ty.prod Ty.bool (Ty.prod (Ty.slice (Ty.int .u8)) (Ty.int .i64))) A11 (x1.1.drop (Int.toNat 1))), .one (.int .i64 x1.2)]] a w → rlp_writer_item.j7 k self0 x1 x2 y28 = some r → K7 a w := by
            intro m y28 g8 a w S h0
            delta rlp_writer_item.j7 at h0
            refine hK7 a w ?_
            rcases ite_of h0 with ⟨c20, h1⟩ | ⟨c20, h1⟩ <;> clear h0
            · refine c_condT S rfl c20 ?_
              refine wp_skip ?_
              refine x_thenN ?_
              exact j2 _ y28 g8 A11 cp23 A12 cp24 a w (S.sub ⟨rfl, rfl, rfl, rfl, trivial⟩ (.cons .here (.cons .here .nil))) h1
            · refine c_condF S rfl c20 ?_
              refine c_heldS S (.take 0 (.take 1 (.take 2 (.take 3 (.take 4 (.take 5 (.take 6 (.take 7 (.take 8 (.take 9 (.take 10 (.take 11 (.take 12 (.take 13 .done)))))))))))))) 14 [Res.cells g8 55 [.one (.bool ((gt x1.1 0).1)), .sl A12 ((gt x1.1 0).2.1).length cp24 (RdS (Ty.int .u8) A12 ((gt x1.1 0).2.1)), .one (.int .i64 ((gt x1.1 0).2.2))], Res.cells ch_0_0 70 [.sl A11 (x1.1.drop (Int.toNat 1)).length cp23 (RdS (Ty.prod Ty.bool (Ty.prod (Ty.slice (Ty.int .u8)) (Ty.int .i64))) A11 (x1.1.drop (Int.toNat 1))), .one (.int .i64 x1.2)]] (.cons .here (.cons .here .nil)) ⟨Res.stay_cells, Res.stay_cells, trivial⟩ [(5, (.v (.pointer (some ⟨g8, 0, none⟩)))), (0, (.v (.pointer (some ⟨ch_0_0, 0, none⟩))))] ⟨rfl, rfl, trivial⟩ (by kernel_rfl) (by kernel_rfl) ?_; clear S; intro w S CL hw le
              refine h_fieldAddr S CL hw le ⟨rfl, rfl, trivial⟩ rfl I55_2 T3 (by decide) rfl rfl rfl trivial ?_; clear S CL a; intro a S CL
              refine h_load1 S CL hw le ⟨rfl, rfl, rfl, trivial⟩ rfl .here T3 (v := (.int .i64 ((gt x1.1 0).2.2))) rfl rfl rfl trivial ?_; clear S CL a; intro a S CL
              refine h_bin S CL hw le ⟨rfl, rfl, rfl, rfl, trivial⟩ rfl rfl rfl rfl rfl trivial ?_; clear S CL a; intro a S CL
              refine h_move S CL hw le ⟨rfl, rfl, rfl, rfl, rfl, trivial⟩ rfl rfl rfl trivial ?_; clear S CL a; intro a S CL
              rcases ite_of h1 with ⟨c21, h2⟩ | ⟨c21, h2⟩ <;> clear h1
              · refine h_skip S CL rfl rfl rfl (ne_bool c21) rfl ?_; clear S CL a; intro a S CL
                refine h_skip S CL rfl rfl rfl (ne_bool c21) rfl ?_; clear S CL a; intro a S CL
                refine h_skip S CL rfl rfl rfl (ne_bool c21) rfl ?_; clear S CL a; intro a S CL
                refine h_skip S CL rfl rfl rfl (ne_bool c21) rfl ?_; clear S CL a; intro a S CL
                refine h_skip S CL rfl rfl rfl (ne_bool c21) rfl ?_; clear S CL a; intro a S CL
                refine h_skip S CL rfl rfl rfl (ne_bool c21) rfl ?_; clear S CL a; intro a S CL
                refine h_skip S CL rfl rfl rfl (ne_bool c21) rfl ?_; clear S CL a; intro a S CL
                refine h_skip S CL rfl rfl rfl (ne_bool c21) rfl ?_; clear S CL a; intro a S CL
                refine h_pick S CL hw le ⟨rfl, rfl, rfl, rfl, rfl, rfl, rfl, rfl, rfl, rfl, rfl, rfl, rfl, rfl, trivial⟩ (b := true) (hc_of rfl c21) rfl rfl rfl trivial ?_; clear S CL a; intro a S CL
                refine h_assign S CL hw le ⟨rfl, rfl, rfl, rfl, rfl, rfl, rfl, rfl, rfl, rfl, rfl, rfl, rfl, rfl, rfl, trivial⟩ rfl rfl rfl trivial ?_; clear S CL a; intro a S CL
                refine h_done ?_; clear CL hw le
                refine x_thenN ?_
                exact j2 _ true g8 A11 cp23 A12 cp24 a w (S.sub ⟨rfl, rfl, rfl, rfl, trivial⟩ (.cons .here (.cons .here .nil))) h2
              · refine h_fieldAddr S CL hw le ⟨rfl, rfl, rfl, rfl, rfl, rfl, trivial⟩ rfl I55_2 T3 (by decide) rfl rfl rfl ⟨_, _, rfl, rfl, c21⟩ ?_; clear S CL a; intro a S CL
                refine h_load1 S CL hw le ⟨rfl, rfl, rfl, rfl, rfl, rfl, rfl, trivial⟩ rfl .here T3 (v := (.int .i64 ((gt x1.1 0).2.2))) rfl rfl rfl ⟨_, _, rfl, rfl, c21⟩ ?_; clear S CL a; intro a S CL
                refine h_move S CL hw le ⟨rfl, rfl, rfl, rfl, rfl, rfl, rfl, rfl, trivial⟩ rfl rfl rfl ⟨_, _, rfl, rfl, c21⟩ ?_; clear S CL a; intro a S CL
                refine h_nilchk S CL hw le ⟨rfl, rfl, rfl, rfl, rfl, rfl, rfl, rfl, rfl, trivial⟩ rfl rfl rfl rfl ⟨_, _, rfl, rfl, c21⟩ ?_; clear S CL a; intro a S CL
                refine h_fieldAddr S CL hw le ⟨rfl, rfl, rfl, rfl, rfl, rfl, rfl, rfl, rfl, rfl, trivial⟩ rfl I70_0 T58 (by decide) rfl rfl rfl ⟨_, _, rfl, rfl, c21⟩ ?_; clear S CL a; intro a S CL
                refine h_loadSl S CL hw le ⟨rfl, rfl, rfl, rfl, rfl, rfl, rfl, rfl, rfl, rfl, rfl, trivial⟩ rfl (.there .here) T58 (A := A11) (len := (x1.1.drop (Int.toNat 1)).length) (cap := cp23) rfl rfl rfl ⟨_, _, rfl, rfl, c21⟩ ?_; clear S CL a; intro a S CL
                refine h_lenS S CL hw le ⟨rfl, rfl, rfl, rfl, rfl, rfl, rfl, rfl, rfl, rfl, rfl, rfl, trivial⟩ rfl Tryd.underlying58 rfl rfl ⟨_, _, rfl, rfl, c21⟩ ?_; clear S CL a; intro a S CL
                refine h_bin S CL hw le ⟨rfl, rfl, rfl, rfl, rfl, rfl, rfl, rfl, rfl, rfl, rfl, rfl, rfl, trivial⟩ rfl rfl rfl rfl rfl ⟨_, _, rfl, rfl, c21⟩ ?_; clear S CL a; intro a S CL
                refine h_pick S CL hw le ⟨rfl, rfl, rfl, rfl, rfl, rfl, rfl, rfl, rfl, rfl, rfl, rfl, rfl, rfl, trivial⟩ (b := false) (hc_of rfl c21) rfl rfl rfl trivial ?_; clear S CL a; intro a S CL
                refine h_assign S CL hw le ⟨rfl, rfl, rfl, rfl, rfl, rfl, rfl, rfl, rfl, rfl, rfl, rfl, rfl, rfl, rfl, trivial⟩ rfl rfl rfl trivial ?_; clear S CL a; intro a S CL
                refine h_done ?_; clear CL hw le
                refine x_thenN ?_
                exact j2 _ (decide (((x1.1.drop (Int.toNat 1)).length : Int) < ((gt x1.1 0).2.2))) g8 A11 cp23 A12 cp24 a w (S.sub ⟨rfl, rfl, rfl, rfl, trivial⟩ (.cons .here (.cons .here .nil))) h2
          refine c_region' ?_
          refine s_fieldAddr S rfl I55_0 T4 (by decide) rfl rfl ?_; clear S a; intro a S
          refine s_load1 S rfl .here T4 (v := (.bool ((gt x1.1 0).1))) rfl rfl ?_; clear S a; intro a S
          refine s_move S rfl rfl ?_; clear S a; intro a S
          rcases ite_of h1 with ⟨c22, h2⟩ | ⟨c22, h2⟩ <;> clear h1
          · refine s_gT S (b := ((gt x1.1 0).1)) rfl rfl c22 ?_
            refine s_fieldAddr S rfl I55_1 T27 (by decide) rfl rfl ?_; clear S a; intro a S
            refine s_gT S (b := ((gt x1.1 0).1)) rfl rfl c22 ?_
            refine s_loadSl S rfl .here T27 (A := A12) (len := ((gt x1.1 0).2.1).length) (cap := cp24) rfl rfl ?_; clear S a; intro a S
            refine s_gT S (b := ((gt x1.1 0).1)) rfl rfl c22 ?_
            refine s_lenS S rfl Tryd.underlying27 rfl ?_; clear S a; intro a S
            refine s_gT S (b := ((gt x1.1 0).1)) rfl rfl c22 ?_
            refine s_bin S rfl rfl rfl rfl ?_; clear S a; intro a S
            refine s_pick S (b := true) (hc_of rfl c22) rfl rfl ?_; clear S a; intro a S
            refine s_assign S rfl rfl ?_; clear S a; intro a S
            refine c_end' ?_
            refine x_thenN ?_
            exact j7 _ (decide (0 < (((gt x1.1 0).2.1).length : Int))) g7 a w (S.sub ⟨rfl, rfl, rfl, rfl, trivial⟩ (.cons .here (.cons .here .nil))) h2
          · refine s_gF S (b := ((gt x1.1 0).1)) rfl rfl c22 rfl ?_; clear S a; intro a S
            refine s_gF S (b := ((gt x1.1 0).1)) rfl rfl c22 rfl ?_; clear S a; intro a S
            refine s_gF S (b := ((gt x1.1 0).1)) rfl rfl c22 rfl ?_; clear S a; intro a S
            refine s_gF S (b := ((gt x1.1 0).1)) rfl rfl c22 rfl ?_; clear S a; intro a S
            refine s_pick S (b := false) (hc_of rfl c22) rfl rfl ?_; clear S a; intro a S
            refine s_assign S rfl rfl ?_; clear S a; intro a S
            refine c_end' ?_
            refine x_thenN ?_
            exact j7 _ false g7 a w (S.sub ⟨rfl, rfl, rfl, rfl, trivial⟩ (.cons .here (.cons .here .nil))) h2
      refine c_region' ?_
      refine s_fieldAddr S rfl I55_0 T4 (by decide) rfl rfl ?_; clear S a; intro a S
      refine s_load1 S rfl .here T4 (v := (.bool ((gt x1.1 0).1))) rfl rfl ?_; clear S a; intro a S
      refine s_not S rfl rfl ?_; clear S a; intro a S
      refine s_move S rfl rfl ?_; clear S a; intro a S
      rcases ite_of h3 with ⟨c23, h4⟩ | ⟨c23, h4⟩ <;> clear h3
      · refine s_gT S (b := (!((gt x1.1 0).1))) rfl rfl c23 ?_
        refine s_fieldAddr S rfl I55_2 T3 (by decide) rfl rfl ?_; clear S a; intro a S
        refine s_gT S (b := (!((gt x1.1 0).1))) rfl rfl c23 ?_
        refine s_load1 S rfl .here T3 (v := (.int .i64 ((gt x1.1 0).2.2))) rfl rfl ?_; clear S a; intro a S
        refine s_gT S (b := (!((gt x1.1 0).1))) rfl rfl c23 ?_
        refine s_bin S rfl rfl rfl rfl ?_; clear S a; intro a S
        refine s_pick S (b := true) (hc_of rfl c23) rfl rfl ?_; clear S a; intro a S
        refine s_assign S rfl rfl ?_; clear S a; intro a S
        refine c_end' ?_
        refine x_thenN ?_
        exact j6 _ (((gt x1.1 0).2.2) != 0) g1 A1 cp1 ch2.2.1.1 ch2.2.1.2 a w (S.sub ⟨rfl, rfl, rfl, rfl, trivial⟩ (.cons .here (.cons .here .nil))) h4
      · refine s_gF S (b := (!((gt x1.1 0).1))) rfl rfl c23 rfl ?_; clear S a; intro a S
        refine s_gF S (b := (!((gt x1.1 0).1))) rfl rfl c23 rfl ?_; clear S a; intro a S
        refine s_gF S (b := (!((gt x1.1 0).1))) rfl rfl c23 rfl ?_; clear S a; intro a S
        refine s_pick S (b := false) (hc_of rfl c23) rfl rfl ?_; clear S a; intro a S
        refine s_assign S rfl rfl ?_; clear S a; intro a S
        refine c_end' ?_
        refine x_thenN ?_
        exact j6 _ false g1 A1 cp1 ch2.2.1.1 ch2.2.1.2 a w (S.sub ⟨rfl, rfl, rfl, rfl, trivial⟩ (.cons .here (.cons .here .nil))) h4
  refine c_region' ?_
  refine s_move S rfl rfl ?_; clear S a; intro a S
  refine s_nilchk S rfl rfl ?_; clear S a; intro a S
  refine s_fieldAddr S rfl I70_1 T59 (by decide) rfl rfl ?_; clear S a; intro a S
  refine s_load1 S rfl .here T59 (v := (.int .i64 x1.2)) rfl rfl ?_; clear S a; intro a S
  refine s_bin S rfl rfl rfl rfl ?_; clear S a; intro a S
  refine s_move S rfl rfl ?_; clear S a; intro a S
  rcases ite_of h0 with ⟨c24, h1⟩ | ⟨c24, h1⟩ <;> clear h0
  · refine s_gF S (b := (x1.2 != 0)) rfl rfl c24 rfl ?_; clear S a; intro a S
    refine s_gF S (b := (x1.2 != 0)) rfl rfl c24 rfl ?_; clear S a; intro a S
    refine s_gF S (b := (x1.2 != 0)) rfl rfl c24 rfl ?_; clear S a; intro a S
    refine s_gF S (b := (x1.2 != 0)) rfl rfl c24 rfl ?_; clear S a; intro a S
    refine s_gF S (b := (x1.2 != 0)) rfl rfl c24 rfl ?_; clear S a; intro a S
    refine s_gF S (b := (x1.2 != 0)) rfl rfl c24 rfl ?_; clear S a; intro a S
    refine s_pick S (b := true) (hc_of rfl c24) rfl rfl ?_; clear S a; intro a S
    refine c_end' ?_
    refine x_thenN ?_
    exact j1 _ true a w0 (S.sub ⟨rfl, rfl, rfl, trivial⟩ (.cons .here .nil)) h1
  · refine s_gT S (b := (x1.2 != 0)) rfl rfl c24 ?_
    refine s_move S rfl rfl ?_; clear S a; intro a S
    refine s_gT S (b := (x1.2 != 0)) rfl rfl c24 ?_
    refine s_nilchk S rfl rfl ?_; clear S a; intro a S
    refine s_gT S (b := (x1.2 != 0)) rfl rfl c24 ?_
    refine s_fieldAddr S rfl I70_0 T58 (by decide) rfl rfl ?_; clear S a; intro a S
    refine s_gT S (b := (x1.2 != 0)) rfl rfl c24 ?_
    refine s_loadSl S rfl .here T58 (A := ch_0_1) (len := (x1.1).length) (cap := ch_0_2) rfl rfl ?_; clear S a; intro a S
    refine s_gT S (b := (x1.2 != 0)) rfl rfl c24 ?_
    refine s_lenS S rfl Tryd.underlying58 rfl ?_; clear S a; intro a S
    refine s_gT S (b := (x1.2 != 0)) rfl rfl c24 ?_
    refine s_bin S rfl rfl rfl rfl ?_; clear S a; intro a S
    refine s_pick S (b := false) (hc_of rfl c24) rfl rfl ?_; clear S a; intro a S
    refine c_end' ?_
    refine x_thenN ?_
    exact j1 _ (((x1.1).length : Int) == 0) a w0 (S.sub ⟨rfl, rfl, rfl, trivial⟩ (.cons .here .nil)) h1
def rlp_writer_item.f : Nat → rlp_writer_item.Ty
  | 0 => fun _ _ => none
  | k + 1 => rlp_writer_item.body (rlp_writer_item.f k) k
theorem rlp_writer_item.f_succ (k : Nat) : rlp_writer_item.f (k + 1) = rlp_writer_item.body (rlp_writer_item.f k) k := rfl
theorem rlp_writer_item.oks : ∀ k : Nat, rlp_writer_item.Ctr (rlp_writer_item.f k)
  | 0 => fun _ _ _ _ _ r h0 => (nomatch (show (none : Option ((List Int) × ((List (Bool × (List Int) × Int)) × Int))) = some r from h0))
  | k + 1 => by
    have ih := rlp_writer_item.oks k
    exact rlp_writer_item.okb (rlp_writer_item.f k) ih k
theorem rlp_writer_item.ok (k : Nat) : rlp_writer_item.Ctr (rlp_writer_item.f k) := (rlp_writer_item.oks k)
/-! smithy/rlp.Encode -/
abbrev rlp_Encode.Ty : Type := (List (Bool × (List Int) × Int)) → Option ((List Int) × Int)
def rlp_Encode.Ctr (s : rlp_Encode.Ty) : Prop := ∀ (x1 : List (Bool × (List Int) × Int)) (ch_0_0 : Option Addr) (ch_0_1 : Nat) (r : (List Int) × Int) (h0 : s x1 = some r) (mi : Mem) (w0 : World), okL mi [(.sl ch_0_0 (x1).length ch_0_1 (RdS (Ty.prod Ty.bool (Ty.prod (Ty.slice (Ty.int .u8)) (Ty.int .i64))) ch_0_0 x1))] → Pre mi [] w0 → Calls Tryd.prog 34 (([(.sl ch_0_0 (x1).length ch_0_1 (RdS (Ty.prod Ty.bool (Ty.prod (Ty.slice (Ty.int .u8)) (Ty.int .i64))) ch_0_0 x1))] : List D).map D.val).toArray w0 (RetX mi [] (fun (ch : (Option Addr) × Nat) => ((.tup [(false, [.sl ch.1 (r.1).length ch.2 (RdS (Ty.int .u8) ch.1 r.1)]), (false, [.one (.int .i64 r.2)])]) : D)) (fun (ch : (Option Addr) × Nat) => []) w0)
def rlp_Encode.f (k : Nat) (x1 : List (Bool × (List Int) × Int)) : Option ((List Int) × Int) := (rlp_one.f k x1).bind fun t1 => (if (!t1) = true then (some (([] : List Int), 2)) else ((rlp_writer_item.f k (x1, 0) 0).bind fun t2 => (if (t2.2.2 != 0) = true then (some (([] : List Int), t2.2.2)) else (if (decide (1048576 < ((t2.1).length : Int))) = true then (some (([] : List Int), 4)) else (some (t2.1, 0))))))
theorem rlp_Encode.ok (k : Nat) : rlp_Encode.Ctr (rlp_Encode.f k) := by
  intro x1 ch_0_0 ch_0_1 r h0 mi w0 ok hm
  delta rlp_Encode.f at h0
  refine c_enterX (n := 29) [(.sl ch_0_0 (x1).length ch_0_1 (RdS (Ty.prod Ty.bool (Ty.prod (Ty.slice (Ty.int .u8)) (Ty.int .i64))) ch_0_0 x1))] (l := [(0, (.sl ch_0_0 (x1).length ch_0_1 (RdS (Ty.prod Ty.bool (Ty.prod (Ty.slice (Ty.int .u8)) (Ty.int .i64))) ch_0_0 x1)))]) Tryd.func34 rfl rfl rfl rfl ok hm ?_
  clear ok hm
  intro b0 hb a S
  refine c_region ?_
  refine s_assign S rfl rfl ?_; clear S a; intro a S
  refine s_assign S rfl rfl ?_; clear S a; intro a S
  refine c_end ?_
  refine wp_seq ?_
  refine c_region ?_
  refine s_move S rfl rfl ?_; clear S a; intro a S
  obtain ⟨t1, et1, h1⟩ := bind_of h0; clear h0
  refine s_callX S (ds' := [(.sl ch_0_0 (x1).length ch_0_1 (RdS (Ty.prod Ty.bool (Ty.prod (Ty.slice (Ty.int .u8)) (Ty.int .i64))) ch_0_0 x1))]) (ds := [(.sl ch_0_0 (x1).length ch_0_1 (RdS (Ty.prod Ty.bool (Ty.prod (Ty.slice (Ty.int .u8)) (Ty.int .i64))) ch_0_0 x1))]) [] [] (fun (ch : Unit) => ((.v (.bool t1)) : D)) (fun (ch : Unit) => []) (fun (ch : Unit) => []) (fun _ => rfl) N40 rfl rfl (fun ok => ok) .nil rfl (rlp_one.ok k x1 ch_0_0 ch_0_1 t1 et1 _ _) ?_; clear S a; intro ch1 m le1 a w S
  refine s_not S rfl rfl ?_; clear S a; intro a S
  refine c_end ?_
  rcases ite_of h1 with ⟨c1, h2⟩ | ⟨c1, h2⟩ <;> clear h1
  · refine c_condT S rfl c1 ?_
    refine c_region ?_
    refine s_assign S rfl rfl ?_; clear S a; intro a S
    refine s_assign S rfl rfl ?_; clear S a; intro a S
    refine c_end ?_
    refine wp_ret ?_
    refine x_thenR ?_
    replace S := S.slot (u := 2) (d' := (.sl none (([] : List Int)).length 0 (RdS (Ty.int .u8) none ([] : List Int)))) rfl rfl ok_nil
    obtain rfl := Option.some.inj h2
    exact b_ret2 (d1 := (.sl none (([] : List Int)).length 0 (RdS (Ty.int .u8) none ([] : List Int)))) (d2 := (.v (.int .i64 2))) S rfl rfl rfl fun ok1 ok2 => S.retX (Hx := []) hb _ _ ((none, 0) : (Option Addr) × Nat) .nil ⟨⟨ok1, trivial⟩, ⟨ok2, trivial⟩, trivial⟩
  · refine c_condF S rfl c1 ?_
    refine wp_skip ?_
    refine x_thenN ?_
    refine c_region ?_
    refine s_move S rfl rfl ?_; clear S a; intro a S
    refine s_bldS S (ds := [(0, (.sl ch_0_0 (x1).length ch_0_1 (RdS (Ty.prod Ty.bool (Ty.prod (Ty.slice (Ty.int .u8)) (Ty.int .i64))) ch_0_0 x1)))]) (zs := [.one (.slice none 0 0), .one (.int .i64 0)]) (s' := [.sl ch_0_0 (x1).length ch_0_1 (RdS (Ty.prod Ty.bool (Ty.prod (Ty.slice (Ty.int .u8)) (Ty.int .i64))) ch_0_0 x1), .one (.int .i64 0)]) rfl Tryd.underlying70 P70 Z70 ⟨rfl, rfl, trivial⟩ rfl rfl ?_; clear S a; intro a S
    refine s_box S rfl rfl rfl ?_; clear S a w; intro g1 a w S
    refine s_assign S rfl rfl ?_; clear S a; intro a S
    refine c_end ?_
    refine c_region ?_
    refine s_move S rfl rfl ?_; clear S a; intro a S
    obtain ⟨t2, et2, h3⟩ := bind_of h2; clear h2
    refine s_callX S (ds' := [(.v (.pointer (some ⟨g1, 0, none⟩))), (.v (.int .i64 0))]) (ds := [(.v (.pointer (some ⟨g1, 0, none⟩))), (.v (.int .i64 0))]) [Res.cells g1 70 [.sl ch_0_0 (x1).length ch_0_1 (RdS (Ty.prod Ty.bool (Ty.prod (Ty.slice (Ty.int .u8)) (Ty.int .i64))) ch_0_0 x1), .one (.int .i64 0)]] [] (fun (ch : (Option Addr) × Nat × (Option Addr) × Nat) => ((.sl ch.1 (t2.1).length ch.2.1 (RdS (Ty.int .u8) ch.1 t2.1)) : D)) (fun (ch : (Option Addr) × Nat × (Option Addr) × Nat) => [Res.cells g1 70 [.sl ch.2.2.1 (t2.2.1).length ch.2.2.2 (RdS (Ty.prod Ty.bool (Ty.prod (Ty.slice (Ty.int .u8)) (Ty.int .i64))) ch.2.2.1 t2.2.1), .one (.int .i64 t2.2.2)]]) (fun (ch : (Option Addr) × Nat × (Option Addr) × Nat) => [Res.cells g1 70 [.sl ch.2.2.1 (t2.2.1).length ch.2.2.2 (RdS (Ty.prod Ty.bool (Ty.prod (Ty.slice (Ty.int .u8)) (Ty.int .i64))) ch.2.2.1 t2.2.1), .one (.int .i64 t2.2.2)]]) (fun _ => rfl) N41 rfl rfl (fun ok => ok) (.cons .here .nil) rfl (rlp_writer_item.ok k (x1, 0) 0 g1 ch_0_0 ch_0_1 t2 et2 _ _) ?_; clear S a w; intro ch2 m le1 a w S
    refine s_assign S rfl rfl ?_; clear S a; intro a S
    refine c_end ?_
    refine wp_seq ?_
    refine wp_block ?_
    refine c_region ?_
    refine s_move S rfl rfl ?_; clear S a; intro a S
    refine s_nilchk S rfl rfl ?_; clear S a; intro a S
    refine s_fieldAddr S rfl I70_1 T59 (by decide) rfl rfl ?_; clear S a; intro a S
    refine s_load1 S rfl .here T59 (v := (.int .i64 t2.2.2)) rfl rfl ?_; clear S a; intro a S
    refine s_bin S rfl rfl rfl rfl ?_; clear S a; intro a S
    refine s_assign S rfl rfl ?_; clear S a; intro a S
    refine c_end ?_
    rcases ite_of h3 with ⟨c2, h4⟩ | ⟨c2, h4⟩ <;> clear h3
    · refine c_condT S rfl c2 ?_
      refine wp_seq (c_heldS S (.take 0 (.take 1 (.take 2 (.take 3 (.take 4 (.take 5 .done)))))) 6 [Res.cells g1 70 [.sl ch2.2.2.1 (t2.2.1).length ch2.2.2.2 (RdS (Ty.prod Ty.bool (Ty.prod (Ty.slice (Ty.int .u8)) (Ty.int .i64))) ch2.2.2.1 t2.2.1), .one (.int .i64 t2.2.2)]] (.cons .here .nil) ⟨Res.stay_cells, trivial⟩ [(4, (.v (.pointer (some ⟨g1, 0, none⟩))))] ⟨rfl, trivial⟩ (by kernel_rfl) (by kernel_rfl) ?_); clear S; intro w S CL hw le
      refine h_move S CL hw le ⟨rfl, trivial⟩ rfl rfl rfl trivial ?_; clear S CL a; intro a S CL
      refine h_nilchk S CL hw le ⟨rfl, rfl, trivial⟩ rfl rfl rfl rfl trivial ?_; clear S CL a; intro a S CL
      refine h_fieldAddr S CL hw le ⟨rfl, rfl, rfl, trivial⟩ rfl I70_1 T59 (by decide) rfl rfl rfl trivial ?_; clear S CL a; intro a S CL
      refine h_load1 S CL hw le ⟨rfl, rfl, rfl, rfl, trivial⟩ rfl .here T59 (v := (.int .i64 t2.2.2)) rfl rfl rfl trivial ?_; clear S CL a; intro a S CL
      refine h_assign S CL hw le ⟨rfl, rfl, rfl, rfl, rfl, trivial⟩ rfl rfl rfl trivial ?_; clear S CL a; intro a S CL
      refine h_assign S CL hw le ⟨rfl, rfl, rfl, rfl, rfl, rfl, trivial⟩ rfl rfl rfl trivial ?_; clear S CL a; intro a S CL
      refine h_done ?_; clear CL hw le
      refine x_thenN ?_
      refine wp_ret ?_
      refine x_blockR ?_
      refine x_thenR ?_
      replace S := S.slot (u := 2) (d' := (.sl none (([] : List Int)).length 0 (RdS (Ty.int .u8) none ([] : List Int)))) rfl rfl ok_nil
      obtain rfl := Option.some.inj h4
      exact b_ret2 (d1 := (.sl none (([] : List Int)).length 0 (RdS (Ty.int .u8) none ([] : List Int)))) (d2 := (.v (.int .i64 t2.2.2))) S rfl rfl rfl fun ok1 ok2 => S.retX (Hx := []) hb _ _ ((none, 0) : (Option Addr) × Nat) .nil ⟨⟨ok1, trivial⟩, ⟨ok2, trivial⟩, trivial⟩
    · refine c_condF S rfl c2 ?_
      refine c_region ?_
      refine s_move S rfl rfl ?_; clear S a; intro a S
      refine s_lenS S rfl Tryd.underlying27 rfl ?_; clear S a; intro a S
      refine s_bin S rfl rfl rfl rfl ?_; clear S a; intro a S
      refine s_assign S rfl rfl ?_; clear S a; intro a S
      refine c_end ?_
      rcases ite_of h4 with ⟨c3, h5⟩ | ⟨c3, h5⟩ <;> clear h4
      · refine c_condT S rfl c3 ?_
        refine c_region ?_
        refine s_assign S rfl rfl ?_; clear S a; intro a S
        refine s_assign S rfl rfl ?_; clear S a; intro a S
        refine c_end ?_
        refine wp_ret ?_
        refine x_blockR ?_
        refine x_thenR ?_
        replace S := S.slot (u := 2) (d' := (.sl none (([] : List Int)).length 0 (RdS (Ty.int .u8) none ([] : List Int)))) rfl rfl ok_nil
        obtain rfl := Option.some.inj h5
        exact b_ret2 (d1 := (.sl none (([] : List Int)).length 0 (RdS (Ty.int .u8) none ([] : List Int)))) (d2 := (.v (.int .i64 4))) S rfl rfl rfl fun ok1 ok2 => S.retX (Hx := []) hb _ _ ((none, 0) : (Option Addr) × Nat) .nil ⟨⟨ok1, trivial⟩, ⟨ok2, trivial⟩, trivial⟩
      · refine c_condF S rfl c3 ?_
        refine wp_skip ?_
        refine x_blockN ?_
        refine x_thenN ?_
        refine c_region ?_
        refine s_move S rfl rfl ?_; clear S a; intro a S
        refine s_assign S rfl rfl ?_; clear S a; intro a S
        refine s_assign S rfl rfl ?_; clear S a; intro a S
        refine c_end ?_
        refine wp_ret ?_
        obtain rfl := Option.some.inj h5
        exact b_ret2 (d1 := (.sl ch2.1 (t2.1).length ch2.2.1 (RdS (Ty.int .u8) ch2.1 t2.1))) (d2 := (.v (.int .i64 0))) S rfl rfl rfl fun ok1 ok2 => S.retX (Hx := []) hb _ _ ((ch2.1, ch2.2.1) : (Option Addr) × Nat) .nil ⟨⟨ok1, trivial⟩, ⟨ok2, trivial⟩, trivial⟩
/-! smithy/addr.Create -/
abbrev addr_Create.Ty : Type := (List Int) → Int → Option ((List Int))
def addr_Create.Ctr (s : addr_Create.Ty) : Prop := ∀ (x1 : List Int) (x2 : Int) (r : (List Int)) (h0 : s x1 x2 = some r) (mi : Mem) (w0 : World) (G : Glob mi), okL mi [(.agg [.ints .u8 x1 20]), (.v (.int .u64 x2))] → Pre mi [] w0 → Calls Tryd.prog 18 (([(.agg [.ints .u8 x1 20]), (.v (.int .u64 x2))] : List D).map D.val).toArray w0 (RetX mi [] (fun (ch : Unit) => ((.agg [.ints .u8 r 20]) : D)) (fun (ch : Unit) => []) w0)
def addr_Create.j1 (k : Nat) (y1 : List (Bool × (List Int) × Int)) : Option ((List Int)) := (rlp_Encode.f k y1).bind fun t1 => ((keccak_Word.f k t1.1).bind fun t2 => ((addr_Of.f k t2).bind fun t3 => (some t3)))
def addr_Create.f (k : Nat) (x1 : List Int) (x2 : Int) : Option ((List Int)) := (word_Of.f x2).bind fun t4 => ((rlp_Number.f k t4).bind fun t5 => (addr_Create.j1 k [(true, ([] : List Int), 2), (false, ((x1).drop 0).take 20, 0), (false, t5, 0)]))
theorem addr_Create.ok (k : Nat) : addr_Create.Ctr (addr_Create.f k) := by
  intro x1 x2 r h0 mi w0 G ok hm
  delta addr_Create.f at h0
  refine c_enterX (n := 24) [(.agg [.ints .u8 x1 20]), (.v (.int .u64 x2))] (l := [(0, (.agg [.ints .u8 x1 20])), (1, (.v (.int .u64 x2)))]) Tryd.func18 rfl rfl rfl rfl ok hm ?_
  clear ok hm
  intro b0 hb a S
  refine c_region ?_
  refine s_box S rfl rfl rfl ?_; clear S a; intro g1 a w S
  refine s_alloc S Z23 rfl ⟨rfl, trivial⟩ rfl ?_; clear S a w; intro g2 a w S
  refine c_end ?_
  refine wp_seq_k ?_
  intro K1 hK1
  have j1 : ∀ (m : Mem) (A1 : Option Addr) (y1 : List (Bool × (List Int) × Int)) (g4 : Nat) (a : Act) (w : World), St 24 m b0 [(5, (.v (.slice A1 3 3))), (4, (.v (.pointer (some ⟨g4, 0, none⟩))))] [Res.row (Ty.prod Ty.bool (Ty.prod (Ty.slice (Ty.int .u8)) (Ty.int .i64))) 55 A1 3 3 y1, Res.cells g4 23 [.ints .u8 [0, 0, 0, 0, 0, 0, 0, 0, 0, 0, 0, 0, 0, 0, 0, 0, 0, 0, 0, 0] 20]] a w → addr_Create.j1 k y1 = some r → K1 a w := by
    intro m A1 y1 g4 a w S h0
    delta addr_Create.j1 at h0
    refine hK1 a w ?_
    refine c_region ?_
    refine s_move S rfl rfl ?_; clear S a; intro a S
    replace S := S.rowfro .here
    obtain ⟨m, le1, S, hro⟩ := S
    replace S := S.slotro (u := 17) rfl hro
    replace S := S.slotro (u := 5) rfl hro
    obtain ⟨t1, et1, h1⟩ := bind_of h0; clear h0
    refine s_callX S (ds' := [(.sl A1 (y1).length 3 (RdS (Ty.prod Ty.bool (Ty.prod (Ty.slice (Ty.int .u8)) (Ty.int .i64))) A1 y1))]) (ds := [(.sl A1 (y1).length 3 (RdS (Ty.prod Ty.bool (Ty.prod (Ty.slice (Ty.int .u8)) (Ty.int .i64))) A1 y1))]) [] [Res.cells g4 23 [.ints .u8 [0, 0, 0, 0, 0, 0, 0, 0, 0, 0, 0, 0, 0, 0, 0, 0, 0, 0, 0, 0] 20]] (fun (ch : (Option Addr) × Nat) => ((.tup [(false, [.sl ch.1 (t1.1).length ch.2 (RdS (Ty.int .u8) ch.1 t1.1)]), (false, [.one (.int .i64 t1.2)])]) : D)) (fun (ch : (Option Addr) × Nat) => []) (fun (ch : (Option Addr) × Nat) => [Res.cells g4 23 [.ints .u8 [0, 0, 0, 0, 0, 0, 0, 0, 0, 0, 0, 0, 0, 0, 0, 0, 0, 0, 0, 0] 20]]) (fun _ => rfl) N34 rfl rfl (fun ok => ok) (.cons .here .nil) rfl (rlp_Encode.ok k y1 A1 3 t1 et1 _ _) ?_; clear S a w; intro ch1 m le1 a w S
    refine s_move S rfl rfl ?_; clear S a; intro a S
    refine s_extract S rfl rfl rfl rfl ?_; clear S a; intro a S
    refine s_extract S rfl rfl rfl rfl ?_; clear S a; intro a S
    refine s_assign S rfl rfl ?_; clear S a; intro a S
    refine s_assign S rfl rfl ?_; clear S a; intro a S
    refine c_end ?_
    refine c_region ?_
    refine s_move S rfl rfl ?_; clear S a; intro a S
    obtain ⟨t2, et2, h2⟩ := bind_of h1; clear h1
    refine s_callX S (ds' := [(.sl ch1.1 (t1.1).length ch1.2 (RdS (Ty.int .u8) ch1.1 t1.1))]) (ds := [(.sl ch1.1 (t1.1).length ch1.2 (RdS (Ty.int .u8) ch1.1 t1.1))]) [] [Res.cells g4 23 [.ints .u8 [0, 0, 0, 0, 0, 0, 0, 0, 0, 0, 0, 0, 0, 0, 0, 0, 0, 0, 0, 0] 20]] (fun (ch : Unit) => ((.agg [.ints .u64 t2 4]) : D)) (fun (ch : Unit) => []) (fun (ch : Unit) => [Res.cells g4 23 [.ints .u8 [0, 0, 0, 0, 0, 0, 0, 0, 0, 0, 0, 0, 0, 0, 0, 0, 0, 0, 0, 0] 20]]) (fun _ => rfl) N22 rfl rfl (fun ok => ok) (.cons .here .nil) rfl (keccak_Word.ok k t1.1 ch1.1 ch1.2 t2 et2 _ _ (G.mono (S.leB hb))) ?_; clear S a w; intro ch2 m le1 a w S
    obtain ⟨t3, et3, h3⟩ := bind_of h2; clear h2
    refine s_callX S (ds' := [(.agg [.ints .u64 t2 4])]) (ds := [(.agg [.ints .u64 t2 4])]) [] [Res.cells g4 23 [.ints .u8 [0, 0, 0, 0, 0, 0, 0, 0, 0, 0, 0, 0, 0, 0, 0, 0, 0, 0, 0, 0] 20]] (fun (ch : Unit) => ((.agg [.ints .u8 t3 20]) : D)) (fun (ch : Unit) => []) (fun (ch : Unit) => [Res.cells g4 23 [.ints .u8 [0, 0, 0, 0, 0, 0, 0, 0, 0, 0, 0, 0, 0, 0, 0, 0, 0, 0, 0, 0] 20]]) (fun _ => rfl) N12 rfl rfl (fun ok => ok) (.cons .here .nil) rfl (addr_Of.ok k t2 t3 et3 _ _) ?_; clear S a w; intro ch3 m le1 a w S
    refine s_store S rfl rfl rfl (s' := [.ints .u8 t3 20]) .here T23 rfl rfl ?_; clear S w; intro w S
    refine c_end ?_
    refine wp_ret ?_
    obtain rfl := Option.some.inj h3
    exact b_ret1 (d := (.agg [.ints .u8 t3 20])) S rfl (resD_cell rfl .here T23 rfl rfl) fun ok => S.retX (Hx := []) hb _ _ (() : Unit) .nil ok
  refine c_heldS S (.take 0 (.take 1 (.take 3 (.alts (.run 2 true (.alts (.run 4 true (.alts (.run 5 true (.take 6 (.alts (.run 7 true (.take 8 .done) .nil))) .nil)) .nil)) (.run 4 true (.alts (.run 2 true (.alts (.run 5 true (.take 6 (.alts (.run 7 true (.take 8 .done) .nil))) .nil)) (.run 5 true (.take 6 (.alts (.run 2 true (.alts (.run 7 true (.take 8 .done) .nil)) .nil))) .nil))) .nil)))))) 9 [Res.cells g2 23 [.ints .u8 [0, 0, 0, 0, 0, 0, 0, 0, 0, 0, 0, 0, 0, 0, 0, 0, 0, 0, 0, 0] 20]] (.cons .here .nil) ⟨Res.stay_cells, trivial⟩ [(2, (.v (.pointer (some ⟨g1, 0, none⟩)))), (1, (.v (.int .u64 x2)))] ⟨rfl, rfl, trivial⟩ (by kernel_rfl) (by kernel_rfl) ?_; clear S; intro w S CL hw le
  refine h_bldS S CL hw le ⟨rfl, rfl, trivial⟩ (ds := [(0, (.v (.bool true))), (2, (.v (.int .i64 2)))]) (zs := [.one (.bool false), .one (.slice none 0 0), .one (.int .i64 0)]) (s' := [.one (.bool true), .one (.slice none 0 0), .one (.int .i64 2)]) rfl Tryd.underlying55 P55 Z55 ⟨rfl, rfl, rfl, trivial⟩ rfl rfl rfl trivial ?_; clear S CL a; intro a S CL
  refine h_sliceA S CL hw le ⟨rfl, rfl, rfl, trivial⟩ (i := 0) (j := 20) (o' := 0) (len := 20) (cap := 20) rfl Tryd.underlying23 T5 (.inl ⟨rfl, rfl⟩) (.inl ⟨rfl, rfl⟩) (by decide) rfl rfl rfl rfl rfl trivial ?_; clear S CL a; intro a S CL
  refine h_move S CL hw le ⟨rfl, rfl, rfl, rfl, trivial⟩ rfl rfl rfl trivial ?_; clear S CL a; intro a S CL
  obtain ⟨t4, et4, h1⟩ := bind_of h0; clear h0
  obtain ⟨t5, et5, h2⟩ := bind_of h1; clear h1
  refine h_alts ?_
  refine h_runO S rfl trivial ?_ ?_
  · replace S := S.freeze (.there .here)
    obtain ⟨m, le1, S⟩ := S
    replace le := le.trans le1
    replace S := (S.slup' (u := 9) (lo := 0) (c := 20) (ys := ((x1).drop 0).take 20) rfl (Pull.mem (.there .here)).1 .here (.inl rfl) (by decide) (by decide) rfl).2
    replace CL := CL.drop (lq' := [(11, (.v (.int .u64 x2))), (8, (.agg [.one (.bool true), .one (.slice none 0 0), .one (.int .i64 2)])), (2, (.v (.pointer (some ⟨g1, 0, none⟩)))), (1, (.v (.int .u64 x2)))]) ⟨rfl, rfl, rfl, rfl, trivial⟩
    refine s_bldS S (ds := [(1, (.sl (some ⟨g1, 0, none⟩) (((x1).drop 0).take 20).length 20 (RdS (Ty.int .u8) (some ⟨g1, 0, none⟩) (((x1).drop 0).take 20))))]) (zs := [.one (.bool false), .one (.slice none 0 0), .one (.int .i64 0)]) (s' := [.one (.bool false), .sl (some ⟨g1, 0, none⟩) (((x1).drop 0).take 20).length 20 (RdS (Ty.int .u8) (some ⟨g1, 0, none⟩) (((x1).drop 0).take 20)), .one (.int .i64 0)]) rfl Tryd.underlying55 P55 Z55 ⟨rfl, rfl, rfl, trivial⟩ rfl rfl ?_; clear S a; intro a S
    replace hw := CL.again hw S (.cons .here .nil) le
    refine h_back ⟨fun _ => hw, ?_⟩
    refine h_run' S rfl trivial ?_
    refine s_callX S (ds' := [(.v (.int .u64 x2))]) (ds := [(.v (.int .u64 x2))]) [] [Res.cells g2 23 [.ints .u8 [0, 0, 0, 0, 0, 0, 0, 0, 0, 0, 0, 0, 0, 0, 0, 0, 0, 0, 0, 0] 20], Res.fro g1 23 [.ints .u8 x1 20]] (fun (ch : Unit) => ((.agg [.ints .u64 t4 4]) : D)) (fun (ch : Unit) => []) (fun (ch : Unit) => [Res.cells g2 23 [.ints .u8 [0, 0, 0, 0, 0, 0, 0, 0, 0, 0, 0, 0, 0, 0, 0, 0, 0, 0, 0, 0] 20], Res.fro g1 23 [.ints .u8 x1 20]]) (fun _ => rfl) N33 rfl rfl (fun ok => ok) (.cons .here (.cons .here .nil)) rfl (word_Of.ok x2 t4 et4 _ _) ?_; clear S a; intro ch4 m le1 a w S
    replace le := le.trans le1
    replace hw := CL.again hw S (.cons .here .nil) le
    refine h_back ⟨fun _ => hw, ?_⟩
    refine h_run' S rfl trivial ?_
    refine s_callX S (ds' := [(.agg [.ints .u64 t4 4])]) (ds := [(.agg [.ints .u64 t4 4])]) [] [Res.cells g2 23 [.ints .u8 [0, 0, 0, 0, 0, 0, 0, 0, 0, 0, 0, 0, 0, 0, 0, 0, 0, 0, 0, 0] 20], Res.fro g1 23 [.ints .u8 x1 20]] (fun (ch : (Option Addr) × Nat × Nat) => ((.v (.slice ch.1 ch.2.1 ch.2.2)) : D)) (fun (ch : (Option Addr) × Nat × Nat) => [Res.row (Ty.int .u8) 5 ch.1 ch.2.1 ch.2.2 t5]) (fun (ch : (Option Addr) × Nat × Nat) => [Res.row (Ty.int .u8) 5 ch.1 ch.2.1 ch.2.2 t5, Res.cells g2 23 [.ints .u8 [0, 0, 0, 0, 0, 0, 0, 0, 0, 0, 0, 0, 0, 0, 0, 0, 0, 0, 0, 0] 20], Res.fro g1 23 [.ints .u8 x1 20]]) (fun _ => rfl) N32 rfl rfl (fun ok => ok) (.cons .here (.cons .here .nil)) rfl (rlp_Number.ok k t4 t5 et5 _ _) ?_; clear S a; intro ch5 m le1 a w S
    replace le := le.trans le1
    replace hw := CL.again hw S (.cons (.there .here) .nil) le
    refine h_back ⟨fun _ => hw, ?_⟩
    replace CL := CL.add (t := 13) (d := (.v (.slice ch5.1 ch5.2.1 ch5.2.2))) S rfl rfl
    refine h_bldS S CL hw le ⟨rfl, rfl, rfl, rfl, rfl, trivial⟩ (ds := [(1, (.v (.slice ch5.1 ch5.2.1 ch5.2.2)))]) (zs := [.one (.bool false), .one (.slice none 0 0), .one (.int .i64 0)]) (s' := [.one (.bool false), .one (.slice ch5.1 ch5.2.1 ch5.2.2), .one (.int .i64 0)]) rfl Tryd.underlying55 P55 Z55 ⟨rfl, rfl, rfl, trivial⟩ rfl rfl rfl trivial ?_; clear S CL a; intro a S CL
    refine h_run' S rfl trivial ?_
    replace S := S.slot (u := 8) (d' := (.agg [.one (.bool true), .sl none (([] : List Int)).length 0 (RdS (Ty.int .u8) none ([] : List Int)), .one (.int .i64 2)])) rfl rfl (by have h := (S.get 8 (.agg [.one (.bool true), .one (.slice none 0 0), .one (.int .i64 2)]) rfl).2; exact ⟨h.1, ok_nil, h.2.2.1, trivial⟩)
    replace CL := CL.drop (lq' := [(14, (.agg [.one (.bool false), .one (.slice ch5.1 ch5.2.1 ch5.2.2), .one (.int .i64 0)])), (13, (.v (.slice ch5.1 ch5.2.1 ch5.2.2))), (11, (.v (.int .u64 x2))), (2, (.v (.pointer (some ⟨g1, 0, none⟩)))), (1, (.v (.int .u64 x2)))]) ⟨rfl, rfl, rfl, rfl, rfl, trivial⟩
    replace S := S.rowfro .here
    obtain ⟨m, le1, S, hro⟩ := S
    replace le := le.trans le1
    replace S := S.slot (u := 14) (d' := (.agg [.one (.bool false), .sl ch5.1 (t5).length ch5.2.2 (RdS (Ty.int .u8) ch5.1 t5), .one (.int .i64 0)])) rfl (by simp [D.val, cellsOf, Seg.cells, hro.2.1]) (by have h := (S.get 14 (.agg [.one (.bool false), .one (.slice ch5.1 ch5.2.1 ch5.2.2), .one (.int .i64 0)]) rfl).2; exact ⟨h.1, ⟨by have := hro.2.2.1; omega, hro.2.2.2, hro.1, RdS.mono _ _ _⟩, h.2.2.1, trivial⟩)
    replace S := S.slotro (u := 13) rfl hro
    replace CL := CL.drop (lq' := [(11, (.v (.int .u64 x2))), (2, (.v (.pointer (some ⟨g1, 0, none⟩)))), (1, (.v (.int .u64 x2)))]) ⟨rfl, rfl, rfl, trivial⟩
    refine s_bldSl S (ty' := (Ty.prod Ty.bool (Ty.prod (Ty.slice (Ty.int .u8)) (Ty.int .i64)))) (ds := [(0, (.agg [.one (.bool true), .sl none (([] : List Int)).length 0 (RdS (Ty.int .u8) none ([] : List Int)), .one (.int .i64 2)])), (1, (.agg [.one (.bool false), .sl (some ⟨g1, 0, none⟩) (((x1).drop 0).take 20).length 20 (RdS (Ty.int .u8) (some ⟨g1, 0, none⟩) (((x1).drop 0).take 20)), .one (.int .i64 0)])), (2, (.agg [.one (.bool false), .sl ch5.1 (t5).length ch5.2.2 (RdS (Ty.int .u8) ch5.1 t5), .one (.int .i64 0)]))]) (z := (false, ([] : List Int), 0)) (c0 := ((), (none, 0), ())) (ys := [(true, ([] : List Int), 2), (false, ((x1).drop 0).take 20, 0), (false, t5, 0)]) (cs := [((), (none, 0), ()), ((), ((some ⟨g1, 0, none⟩), 20), ()), ((), (ch5.1, ch5.2.2), ())]) rfl Tryd.underlying58 J55 Z55 rfl ⟨rfl, ⟨Nat.le_refl _, Nat.zero_le _, RdS.nil _ _ _, RdS.mono _ _ _⟩, rfl, trivial⟩ rfl rfl rfl rfl rfl rfl ?_; clear S a; intro g5 a w S
    replace hw := CL.again hw S (.cons (.there .here) .nil) le
    refine h_back ⟨fun _ => hw, ?_⟩
    replace CL := CL.add (t := 15) (d := (.v (.slice (some ⟨g5, 0, none⟩) 3 3))) S rfl rfl
    refine h_assign S CL hw le ⟨rfl, rfl, rfl, rfl, trivial⟩ rfl rfl rfl trivial ?_; clear S CL a; intro a S CL
    refine h_done ?_; clear CL hw le
    refine x_thenN ?_
    exact j1 _ (some ⟨g5, 0, none⟩) [(true, ([] : List Int), 2), (false, ((x1).drop 0).take 20, 0), (false, t5, 0)] g2 a w (S.sub ⟨rfl, rfl, trivial⟩ (.cons .here (.cons .here .nil))) h2
  refine h_runO S rfl trivial ?_ ?_
  · refine s_callX S (ds' := [(.v (.int .u64 x2))]) (ds := [(.v (.int .u64 x2))]) [] [Res.cells g2 23 [.ints .u8 [0, 0, 0, 0, 0, 0, 0, 0, 0, 0, 0, 0, 0, 0, 0, 0, 0, 0, 0, 0] 20], Res.cells g1 23 [.ints .u8 x1 20]] (fun (ch : Unit) => ((.agg [.ints .u64 t4 4]) : D)) (fun (ch : Unit) => []) (fun (ch : Unit) => [Res.cells g2 23 [.ints .u8 [0, 0, 0, 0, 0, 0, 0, 0, 0, 0, 0, 0, 0, 0, 0, 0, 0, 0, 0, 0] 20], Res.cells g1 23 [.ints .u8 x1 20]]) (fun _ => rfl) N33 rfl rfl (fun ok => ok) (.cons .here (.cons .here .nil)) rfl (word_Of.ok x2 t4 et4 _ _) ?_; clear S a; intro ch4 m le1 a w S
    replace le := le.trans le1
    replace hw := CL.again hw S (.cons .here .nil) le
    refine h_back ⟨fun _ => hw, ?_⟩
    refine h_alts ?_
    refine h_runO S rfl trivial ?_ ?_
    · replace S := S.freeze (.there .here)
      obtain ⟨m, le1, S⟩ := S
      replace le := le.trans le1
      replace S := (S.slup' (u := 9) (lo := 0) (c := 20) (ys := ((x1).drop 0).take 20) rfl (Pull.mem (.there .here)).1 .here (.inl rfl) (by decide) (by decide) rfl).2
      replace CL := CL.drop (lq' := [(11, (.v (.int .u64 x2))), (8, (.agg [.one (.bool true), .one (.slice none 0 0), .one (.int .i64 2)])), (2, (.v (.pointer (some ⟨g1, 0, none⟩)))), (1, (.v (.int .u64 x2)))]) ⟨rfl, rfl, rfl, rfl, trivial⟩
      refine s_bldS S (ds := [(1, (.sl (some ⟨g1, 0, none⟩) (((x1).drop 0).take 20).length 20 (RdS (Ty.int .u8) (some ⟨g1, 0, none⟩) (((x1).drop 0).take 20))))]) (zs := [.one (.bool false), .one (.slice none 0 0), .one (.int .i64 0)]) (s' := [.one (.bool false), .sl (some ⟨g1, 0, none⟩) (((x1).drop 0).take 20).length 20 (RdS (Ty.int .u8) (some ⟨g1, 0, none⟩) (((x1).drop 0).take 20)), .one (.int .i64 0)]) rfl Tryd.underlying55 P55 Z55 ⟨rfl, rfl, rfl, trivial⟩ rfl rfl ?_; clear S a; intro a S
      replace hw := CL.again hw S (.cons .here .nil) le
      refine h_back ⟨fun _ => hw, ?_⟩
      refine h_run' S rfl trivial ?_
      refine s_callX S (ds' := [(.agg [.ints .u64 t4 4])]) (ds := [(.agg [.ints .u64 t4 4])]) [] [Res.cells g2 23 [.ints .u8 [0, 0, 0, 0, 0, 0, 0, 0, 0, 0, 0, 0, 0, 0, 0, 0, 0, 0, 0, 0] 20], Res.fro g1 23 [.ints .u8 x1 20]] (fun (ch : (Option Addr) × Nat × Nat) => ((.v (.slice ch.1 ch.2.1 ch.2.2)) : D)) (fun (ch : (Option Addr) × Nat × Nat) => [Res.row (Ty.int .u8) 5 ch.1 ch.2.1 ch.2.2 t5]) (fun (ch : (Option Addr) × Nat × Nat) => [Res.row (Ty.int .u8) 5 ch.1 ch.2.1 ch.2.2 t5, Res.cells g2 23 [.ints .u8 [0, 0, 0, 0, 0, 0, 0, 0, 0, 0, 0, 0, 0, 0, 0, 0, 0, 0, 0, 0] 20], Res.fro g1 23 [.ints .u8 x1 20]]) (fun _ => rfl) N32 rfl rfl (fun ok => ok) (.cons .here (.cons .here .nil)) rfl (rlp_Number.ok k t4 t5 et5 _ _) ?_; clear S a; intro ch5 m le1 a w S
      replace le := le.trans le1
      replace hw := CL.again hw S (.cons (.there .here) .nil) le
      refine h_back ⟨fun _ => hw, ?_⟩
      replace CL := CL.add (t := 13) (d := (.v (.slice ch5.1 ch5.2.1 ch5.2.2))) S rfl rfl
      refine h_bldS S CL hw le ⟨rfl, rfl, rfl, rfl, rfl, trivial⟩ (ds := [(1, (.v (.slice ch5.1 ch5.2.1 ch5.2.2)))]) (zs := [.one (.bool false), .one (.slice none 0 0), .one (.int .i64 0)]) (s' := [.one (.bool false), .one (.slice ch5.1 ch5.2.1 ch5.2.2), .one (.int .i64 0)]) rfl Tryd.underlying55 P55 Z55 ⟨rfl, rfl, rfl, trivial⟩ rfl rfl rfl trivial ?_; clear S CL a; intro a S CL
      refine h_run' S rfl trivial ?_
      replace S := S.slot (u := 8) (d' := (.agg [.one (.bool true), .sl none (([] : List Int)).length 0 (RdS (Ty.int .u8) none ([] : List Int)), .one (.int .i64 2)])) rfl rfl (by have h := (S.get 8 (.agg [.one (.bool true), .one (.slice none 0 0), .one (.int .i64 2)]) rfl).2; exact ⟨h.1, ok_nil, h.2.2.1, trivial⟩)
      replace CL := CL.drop (lq' := [(14, (.agg [.one (.bool false), .one (.slice ch5.1 ch5.2.1 ch5.2.2), .one (.int .i64 0)])), (13, (.v (.slice ch5.1 ch5.2.1 ch5.2.2))), (11, (.v (.int .u64 x2))), (2, (.v (.pointer (some ⟨g1, 0, none⟩)))), (1, (.v (.int .u64 x2)))]) ⟨rfl, rfl, rfl, rfl, rfl, trivial⟩
      replace S := S.rowfro .here
      obtain ⟨m, le1, S, hro⟩ := S
      replace le := le.trans le1
      replace S := S.slot (u := 14) (d' := (.agg [.one (.bool false), .sl ch5.1 (t5).length ch5.2.2 (RdS (Ty.int .u8) ch5.1 t5), .one (.int .i64 0)])) rfl (by simp [D.val, cellsOf, Seg.cells, hro.2.1]) (by have h := (S.get 14 (.agg [.one (.bool false), .one (.slice ch5.1 ch5.2.1 ch5.2.2), .one (.int .i64 0)]) rfl).2; exact ⟨h.1, ⟨by have := hro.2.2.1; omega, hro.2.2.2, hro.1, RdS.mono _ _ _⟩, h.2.2.1, trivial⟩)
      replace S := S.slotro (u := 13) rfl hro
      replace CL := CL.drop (lq' := [(11, (.v (.int .u64 x2))), (2, (.v (.pointer (some ⟨g1, 0, none⟩)))), (1, (.v (.int .u64 x2)))]) ⟨rfl, rfl, rfl, trivial⟩
      refine s_bldSl S (ty' := (Ty.prod Ty.bool (Ty.prod (Ty.slice (Ty.int .u8)) (Ty.int .i64)))) (ds := [(0, (.agg [.one (.bool true), .sl none (([] : List Int)).length 0 (RdS (Ty.int .u8) none ([] : List Int)), .one (.int .i64 2)])), (1, (.agg [.one (.bool false), .sl (some ⟨g1, 0, none⟩) (((x1).drop 0).take 20).length 20 (RdS (Ty.int .u8) (some ⟨g1, 0, none⟩) (((x1).drop 0).take 20)), .one (.int .i64 0)])), (2, (.agg [.one (.bool false), .sl ch5.1 (t5).length ch5.2.2 (RdS (Ty.int .u8) ch5.1 t5), .one (.int .i64 0)]))]) (z := (false, ([] : List Int), 0)) (c0 := ((), (none, 0), ())) (ys := [(true, ([] : List Int), 2), (false, ((x1).drop 0).take 20, 0), (false, t5, 0)]) (cs := [((), (none, 0), ()), ((), ((some ⟨g1, 0, none⟩), 20), ()), ((), (ch5.1, ch5.2.2), ())]) rfl Tryd.underlying58 J55 Z55 rfl ⟨rfl, ⟨Nat.le_refl _, Nat.zero_le _, RdS.nil _ _ _, RdS.mono _ _ _⟩, rfl, trivial⟩ rfl rfl rfl rfl rfl rfl ?_; clear S a; intro g5 a w S
      replace hw := CL.again hw S (.cons (.there .here) .nil) le
      refine h_back ⟨fun _ => hw, ?_⟩
      replace CL := CL.add (t := 15) (d := (.v (.slice (some ⟨g5, 0, none⟩) 3 3))) S rfl rfl
      refine h_assign S CL hw le ⟨rfl, rfl, rfl, rfl, trivial⟩ rfl rfl rfl trivial ?_; clear S CL a; intro a S CL
      refine h_done ?_; clear CL hw le
      refine x_thenN ?_
      exact j1 _ (some ⟨g5, 0, none⟩) [(true, ([] : List Int), 2), (false, ((x1).drop 0).take 20, 0), (false, t5, 0)] g2 a w (S.sub ⟨rfl, rfl, trivial⟩ (.cons .here (.cons .here .nil))) h2
    refine h_runO S rfl trivial ?_ ?_
    · refine s_callX S (ds' := [(.agg [.ints .u64 t4 4])]) (ds := [(.agg [.ints .u64 t4 4])]) [] [Res.cells g2 23 [.ints .u8 [0, 0, 0, 0, 0, 0, 0, 0, 0, 0, 0, 0, 0, 0, 0, 0, 0, 0, 0, 0] 20], Res.cells g1 23 [.ints .u8 x1 20]] (fun (ch : (Option Addr) × Nat × Nat) => ((.v (.slice ch.1 ch.2.1 ch.2.2)) : D)) (fun (ch : (Option Addr) × Nat × Nat) => [Res.row (Ty.int .u8) 5 ch.1 ch.2.1 ch.2.2 t5]) (fun (ch : (Option Addr) × Nat × Nat) => [Res.row (Ty.int .u8) 5 ch.1 ch.2.1 ch.2.2 t5, Res.cells g2 23 [.ints .u8 [0, 0, 0, 0, 0, 0, 0, 0, 0, 0, 0, 0, 0, 0, 0, 0, 0, 0, 0, 0] 20], Res.cells g1 23 [.ints .u8 x1 20]]) (fun _ => rfl) N32 rfl rfl (fun ok => ok) (.cons .here (.cons .here .nil)) rfl (rlp_Number.ok k t4 t5 et5 _ _) ?_; clear S a; intro ch5 m le1 a w S
      replace le := le.trans le1
      replace hw := CL.again hw S (.cons (.there .here) .nil) le
      refine h_back ⟨fun _ => hw, ?_⟩
      replace CL := CL.add (t := 13) (d := (.v (.slice ch5.1 ch5.2.1 ch5.2.2))) S rfl rfl
      refine h_bldS S CL hw le ⟨rfl, rfl, rfl, rfl, rfl, rfl, trivial⟩ (ds := [(1, (.v (.slice ch5.1 ch5.2.1 ch5.2.2)))]) (zs := [.one (.bool false), .one (.slice none 0 0), .one (.int .i64 0)]) (s' := [.one (.bool false), .one (.slice ch5.1 ch5.2.1 ch5.2.2), .one (.int .i64 0)]) rfl Tryd.underlying55 P55 Z55 ⟨rfl, rfl, rfl, trivial⟩ rfl rfl rfl trivial ?_; clear S CL a; intro a S CL
      refine h_run' S rfl trivial ?_
      replace S := S.freeze (.there (.there .here))
      obtain ⟨m, le1, S⟩ := S
      replace le := le.trans le1
      replace S := (S.slup' (u := 9) (lo := 0) (c := 20) (ys := ((x1).drop 0).take 20) rfl (Pull.mem (.there (.there .here))).1 .here (.inl rfl) (by decide) (by decide) rfl).2
      replace CL := CL.drop (lq' := [(14, (.agg [.one (.bool false), .one (.slice ch5.1 ch5.2.1 ch5.2.2), .one (.int .i64 0)])), (13, (.v (.slice ch5.1 ch5.2.1 ch5.2.2))), (11, (.v (.int .u64 x2))), (8, (.agg [.one (.bool true), .one (.slice none 0 0), .one (.int .i64 2)])), (2, (.v (.pointer (some ⟨g1, 0, none⟩)))), (1, (.v (.int .u64 x2)))]) ⟨rfl, rfl, rfl, rfl, rfl, rfl, trivial⟩
      refine s_bldS S (ds := [(1, (.sl (some ⟨g1, 0, none⟩) (((x1).drop 0).take 20).length 20 (RdS (Ty.int .u8) (some ⟨g1, 0, none⟩) (((x1).drop 0).take 20))))]) (zs := [.one (.bool false), .one (.slice none 0 0), .one (.int .i64 0)]) (s' := [.one (.bool false), .sl (some ⟨g1, 0, none⟩) (((x1).drop 0).take 20).length 20 (RdS (Ty.int .u8) (some ⟨g1, 0, none⟩) (((x1).drop 0).take 20)), .one (.int .i64 0)]) rfl Tryd.underlying55 P55 Z55 ⟨rfl, rfl, rfl, trivial⟩ rfl rfl ?_; clear S a; intro a S
      replace hw := CL.again hw S (.cons (.there .here) .nil) le
      refine h_back ⟨fun _ => hw, ?_⟩
      refine h_run' S rfl trivial ?_
      replace S := S.slot (u := 8) (d' := (.agg [.one (.bool true), .sl none (([] : List Int)).length 0 (RdS (Ty.int .u8) none ([] : List Int)), .one (.int .i64 2)])) rfl rfl (by have h := (S.get 8 (.agg [.one (.bool true), .one (.slice none 0 0), .one (.int .i64 2)]) rfl).2; exact ⟨h.1, ok_nil, h.2.2.1, trivial⟩)
      replace CL := CL.drop (lq' := [(14, (.agg [.one (.bool false), .one (.slice ch5.1 ch5.2.1 ch5.2.2), .one (.int .i64 0)])), (13, (.v (.slice ch5.1 ch5.2.1 ch5.2.2))), (11, (.v (.int .u64 x2))), (2, (.v (.pointer (some ⟨g1, 0, none⟩)))), (1, (.v (.int .u64 x2)))]) ⟨rfl, rfl, rfl, rfl, rfl, trivial⟩
      replace S := S.rowfro .here
      obtain ⟨m, le1, S, hro⟩ := S
      replace le := le.trans le1
      replace S := S.slot (u := 14) (d' := (.agg [.one (.bool false), .sl ch5.1 (t5).length ch5.2.2 (RdS (Ty.int .u8) ch5.1 t5), .one (.int .i64 0)])) rfl (by simp [D.val, cellsOf, Seg.cells, hro.2.1]) (by have h := (S.get 14 (.agg [.one (.bool false), .one (.slice ch5.1 ch5.2.1 ch5.2.2), .one (.int .i64 0)]) rfl).2; exact ⟨h.1, ⟨by have := hro.2.2.1; omega, hro.2.2.2, hro.1, RdS.mono _ _ _⟩, h.2.2.1, trivial⟩)
      replace S := S.slotro (u := 13) rfl hro
      replace CL := CL.drop (lq' := [(11, (.v (.int .u64 x2))), (2, (.v (.pointer (some ⟨g1, 0, none⟩)))), (1, (.v (.int .u64 x2)))]) ⟨rfl, rfl, rfl, trivial⟩
      refine s_bldSl S (ty' := (Ty.prod Ty.bool (Ty.prod (Ty.slice (Ty.int .u8)) (Ty.int .i64)))) (ds := [(0, (.agg [.one (.bool true), .sl none (([] : List Int)).length 0 (RdS (Ty.int .u8) none ([] : List Int)), .one (.int .i64 2)])), (1, (.agg [.one (.bool false), .sl (some ⟨g1, 0, none⟩) (((x1).drop 0).take 20).length 20 (RdS (Ty.int .u8) (some ⟨g1, 0, none⟩) (((x1).drop 0).take 20)), .one (.int .i64 0)])), (2, (.agg [.one (.bool false), .sl ch5.1 (t5).length ch5.2.2 (RdS (Ty.int .u8) ch5.1 t5), .one (.int .i64 0)]))]) (z := (false, ([] : List Int), 0)) (c0 := ((), (none, 0), ())) (ys := [(true, ([] : List Int), 2), (false, ((x1).drop 0).take 20, 0), (false, t5, 0)]) (cs := [((), (none, 0), ()), ((), ((some ⟨g1, 0, none⟩), 20), ()), ((), (ch5.1, ch5.2.2), ())]) rfl Tryd.underlying58 J55 Z55 rfl ⟨rfl, ⟨Nat.le_refl _, Nat.zero_le _, RdS.nil _ _ _, RdS.mono _ _ _⟩, rfl, trivial⟩ rfl rfl rfl rfl rfl rfl ?_; clear S a; intro g5 a w S
      replace hw := CL.again hw S (.cons (.there .here) .nil) le
      refine h_back ⟨fun _ => hw, ?_⟩
      replace CL := CL.add (t := 15) (d := (.v (.slice (some ⟨g5, 0, none⟩) 3 3))) S rfl rfl
      refine h_assign S CL hw le ⟨rfl, rfl, rfl, rfl, trivial⟩ rfl rfl rfl trivial ?_; clear S CL a; intro a S CL
      refine h_done ?_; clear CL hw le
      refine x_thenN ?_
      exact j1 _ (some ⟨g5, 0, none⟩) [(true, ([] : List Int), 2), (false, ((x1).drop 0).take 20, 0), (false, t5, 0)] g2 a w (S.sub ⟨rfl, rfl, trivial⟩ (.cons .here (.cons .here .nil))) h2
    exact h_nil
  exact h_nil
/-! smithy/smithyref07.Number -/
abbrev smithyref07_Number.Ty : Type := (List Int) → Option ((List Int))
def smithyref07_Number.Ctr (s : smithyref07_Number.Ty) : Prop := ∀ (x1 : List Int) (r : (List Int)) (h0 : s x1 = some r) (mi : Mem) (w0 : World), okL mi [(.agg [.ints .u64 x1 4])] → Pre mi [] w0 → Calls Tryd.prog 35 (([(.agg [.ints .u64 x1 4])] : List D).map D.val).toArray w0 (RetX mi [] (fun (ch : (Option Addr) × Nat × Nat) => ((.v (.slice ch.1 ch.2.1 ch.2.2)) : D)) (fun (ch : (Option Addr) × Nat × Nat) => [Res.row (Ty.int .u8) 5 ch.1 ch.2.1 ch.2.2 r]) w0)
def smithyref07_Number.j1 (t2 : (List Int)) (y1 : Int) : Option ((List Int)) := if (0 : Int) ≤ y1 ∧ (y1 : Int) ≤ 32 ∧ 32 ≤ ((32 : Nat) : Int) then (if ((([] : List Int)).length + (((t2).drop (Int.toNat y1)).take (Int.toNat 32 - Int.toNat y1)).length) * 1 ≤ 140737488355328 then (some (([] : List Int) ++ (((t2).drop (Int.toNat y1)).take (Int.toNat 32 - Int.toNat y1)))) else none) else none
def smithyref07_Number.j2 (t2 : (List Int)) (y4 : Int) (rec1 : Int → Option ((List Int))) (y5 : Bool) : Option ((List Int)) := if y5 = true then (rec1 (wr .i64 (y4 + 1))) else (smithyref07_Number.j1 t2 y4)
def smithyref07_Number.b1 (t2 : (List Int)) (rec1 : Int → Option ((List Int))) (y4 : Int) : Option ((List Int)) := if (decide (y4 < 32)) = true then (if (0 : Int) ≤ y4 ∧ y4 < 32 then (smithyref07_Number.j2 t2 y4 rec1 ((rd t2 y4) == 0)) else none) else (smithyref07_Number.j2 t2 y4 rec1 false)
def smithyref07_Number.l1 (t2 : (List Int)) : Nat → Int → Option ((List Int))
  | 0, _ => none
  | q + 1, y4 => smithyref07_Number.b1 t2 (smithyref07_Number.l1 t2 q) y4
def smithyref07_Number.f (k : Nat) (x1 : List Int) : Option ((List Int)) := (smithyref01_Of.f k x1).bind fun t1 => ((smithyref01_D_Bytes.f k t1).bind fun t2 => (smithyref07_Number.l1 t2 k 0))
theorem smithyref07_Number.ok (k : Nat) : smithyref07_Number.Ctr (smithyref07_Number.f k) := by
  intro x1 r h0 mi w0 ok hm
  delta smithyref07_Number.f at h0
  refine c_enterX (n := 25) [(.agg [.ints .u64 x1 4])] (l := [(0, (.agg [.ints .u64 x1 4]))]) Tryd.func35 rfl rfl rfl rfl ok hm ?_
  clear ok hm
  intro b0 hb a S
  refine c_region ?_
  refine s_box S rfl rfl rfl ?_; clear S a; intro g1 a w S
  refine s_assign S rfl rfl ?_; clear S a; intro a S
  refine c_end ?_
  refine c_region ?_
  refine s_loada S rfl .here T26 (s' := [.ints .u64 x1 4]) rfl rfl ?_; clear S a; intro a S
  obtain ⟨t1, et1, h1⟩ := bind_of h0; clear h0
  refine s_callX S (ds' := [(.agg [.ints .u64 x1 4])]) (ds := [(.agg [.ints .u64 x1 4])]) [] [Res.cells g1 26 [.ints .u64 x1 4]] (fun (ch : Unit) => ((.agg [.ints .i64 t1 32]) : D)) (fun (ch : Unit) => []) (fun (ch : Unit) => [Res.cells g1 26 [.ints .u64 x1 4]]) (fun _ => rfl) N24 rfl rfl (fun ok => ok) (.cons .here .nil) rfl (smithyref01_Of.ok k x1 t1 et1 _ _) ?_; clear S a w; intro ch1 m le1 a w S
  obtain ⟨t2, et2, h2⟩ := bind_of h1; clear h1
  refine s_callX S (ds' := [(.agg [.ints .i64 t1 32])]) (ds := [(.agg [.ints .i64 t1 32])]) [] [Res.cells g1 26 [.ints .u64 x1 4]] (fun (ch : Unit) => ((.agg [.ints .u8 t2 32]) : D)) (fun (ch : Unit) => []) (fun (ch : Unit) => [Res.cells g1 26 [.ints .u64 x1 4]]) (fun _ => rfl) N25 rfl rfl (fun ok => ok) (.cons .here .nil) rfl (smithyref01_D_Bytes.ok k t1 t2 et2 _ _) ?_; clear S a w; intro ch2 m le1 a w S
  refine s_alloc S Z39 rfl ⟨rfl, trivial⟩ rfl ?_; clear S a w; intro g2 a w S
  refine s_store S rfl rfl rfl (s' := [.ints .u8 t2 32]) .here T39 rfl rfl ?_; clear S w; intro w S
  refine c_end ?_
  refine c_region ?_
  refine s_assign S rfl rfl ?_; clear S a; intro a S
  refine c_end ?_
  refine wp_seq_k ?_
  intro K1 hK1
  have j1 : ∀ (m : Mem) (y1 : Int) (g8 : Nat) (a : Act) (w : World), St 25 m b0 [(4, (.v (.int .i64 y1))), (3, (.v (.pointer (some ⟨g8, 0, none⟩))))] [Res.cells g8 39 [.ints .u8 t2 32]] a w → smithyref07_Number.j1 t2 y1 = some r → K1 a w := by
    intro m y1 g8 a w S h0
    delta smithyref07_Number.j1 at h0
    refine hK1 a w ?_
    refine c_region ?_
    refine s_bldSl S (ty' := (Ty.int .u8)) (ds := []) (z := 0) (c0 := ()) (ys := ([] : List Int)) (cs := []) rfl Tryd.underlying27 J5 Z5 rfl ⟨rfl, trivial⟩ rfl rfl rfl rfl rfl rfl ?_; clear S a w; intro g9 a w S
    refine s_assign S rfl rfl ?_; clear S a; intro a S
    refine c_end ?_
    refine c_region ?_
    refine s_move S rfl rfl ?_; clear S a; intro a S
    refine s_move S rfl rfl ?_; clear S a; intro a S
    obtain ⟨c1, h1⟩ := chk_of h0; clear h0
    refine s_sliceA S (i := y1) (j := 32) (o' := if 32 = Int.toNat y1 then 0 else 0 + Int.toNat y1 * 1) (len := Int.toNat 32 - Int.toNat y1) (cap := 32 - Int.toNat y1) rfl Tryd.underlying39 T5 (.inr ⟨_, _, rfl, rfl⟩) (.inl ⟨rfl, rfl⟩) c1 rfl rfl rfl rfl ?_; clear S a; intro a S
    replace S := S.freeze (.there .here)
    obtain ⟨m, le1, S⟩ := S
    replace S := (S.slup' (u := 22) (lo := Int.toNat y1) (c := 32) (ys := ((t2).drop (Int.toNat y1)).take (Int.toNat 32 - Int.toNat y1)) rfl (Pull.mem (.there .here)).1 .here (ho_if c1) (hl_if c1) (hcap_if c1 rfl) rfl).2
    obtain ⟨c2, h2⟩ := chk_of h1; clear h1
    refine s_app S (k2 := ((((t2).drop (Int.toNat y1)).take (Int.toNat 32 - Int.toNat y1)).length)) (ys := (((t2).drop (Int.toNat y1)).take (Int.toNat 32 - Int.toNat y1))) rfl (fun _ _ => .here) rfl rfl rfl (RdS.src (S.get 22 (.sl (some ⟨g8, if 32 = Int.toNat y1 then 0 else 0 + Int.toNat y1 * 1, none⟩) (((t2).drop (Int.toNat y1)).take (Int.toNat 32 - Int.toNat y1)).length (32 - Int.toNat y1) (RdS (Ty.int .u8) (some ⟨g8, if 32 = Int.toNat y1 then 0 else 0 + Int.toNat y1 * 1, none⟩) (((t2).drop (Int.toNat y1)).take (Int.toNat 32 - Int.toNat y1)))) rfl).2.2.2.1 (by decide) S.frz) Tryd.underlying27 J5 c2 rfl ?_; clear S a w; intro A1 cp1 a w S
    refine s_assign S rfl rfl ?_; clear S a; intro a S
    refine c_end ?_
    refine c_region ?_
    refine s_move S rfl rfl ?_; clear S a; intro a S
    refine s_assign S rfl rfl ?_; clear S a; intro a S
    refine c_end ?_
    refine wp_ret ?_
    obtain rfl := Option.some.inj h2
    exact b_ret1 (d := (.v (.slice A1 (0 + ((((t2).drop (Int.toNat y1)).take (Int.toNat 32 - Int.toNat y1)).length)) cp1))) S rfl rfl fun ok => S.retX (Hx := []) hb _ _ ((A1, 0 + ((((t2).drop (Int.toNat y1)).take (Int.toNat 32 - Int.toNat y1)).length), cp1) : (Option Addr) × Nat × Nat) (.cons .here .nil) ok
  refine wp_block ?_
  refine c_loop (fun q1 a w => ∃ (m : Mem) (y4 : Int) (g13 : Nat), St 25 m b0 [(4, (.v (.int .i64 y4))), (3, (.v (.pointer (some ⟨g13, 0, none⟩))))] [Res.cells g13 39 [.ints .u8 t2 32]] a w ∧ smithyref07_Number.l1 t2 q1 y4 = some r) ?_ ?_ (k := k) ⟨_, 0, g2, (S.sub ⟨rfl, rfl, trivial⟩ (.cons .here .nil)), h2⟩
  · rintro a w ⟨m, y4, g13, S, h0⟩
    exact (nomatch (show (none : Option ((List Int))) = some r from h0))
  · clear S h2
    rintro q1 a w ⟨m, y4, g13, S, h0⟩
    replace h0 : smithyref07_Number.b1 t2 (smithyref07_Number.l1 t2 q1) y4 = some r := h0
    delta smithyref07_Number.b1 at h0
    refine wp_seq ?_
    refine wp_seq_k ?_
    intro K2 hK2
    have j2 : ∀ (m : Mem) (y5 : Bool) (g14 : Nat) (a : Act) (w : World), St 25 m b0 [(16, (.v (.bool y5))), (4, (.v (.int .i64 y4))), (3, (.v (.pointer (some ⟨g14, 0, none⟩))))] [Res.cells g14 39 [.ints .u8 t2 32]] a w → smithyref07_Number.j2 t2 y4 (smithyref07_Number.l1 t2 q1) y5 = some r → K2 a w := by
      intro m y5 g14 a w S h0
      delta smithyref07_Number.j2 at h0
      refine hK2 a w ?_
      rcases ite_of h0 with ⟨c3, h1⟩ | ⟨c3, h1⟩ <;> clear h0
      · refine c_condT S rfl c3 ?_
        refine wp_skip ?_
        refine x_thenN ?_
        refine wp_block ?_
        refine c_region' ?_
        refine s_move S rfl rfl ?_; clear S a; intro a S
        refine s_bin S rfl rfl rfl rfl ?_; clear S a; intro a S
        refine s_assign S rfl rfl ?_; clear S a; intro a S
        refine c_end' ?_
        refine x_blockN ?_
        refine x_thenN ?_
        exact ⟨_, (wr .i64 (y4 + 1)), g14, (S.sub ⟨rfl, rfl, trivial⟩ (.cons .here .nil)), h1⟩
      · refine c_condF S rfl c3 ?_
        refine wp_exit ?_
        refine x_thenX ?_
        refine x_thenX ?_
        refine x_blockX ?_
        refine x_thenN ?_
        exact j1 _ y4 g14 a w (S.sub ⟨rfl, rfl, trivial⟩ (.cons .here .nil)) h1
    refine c_region' ?_
    refine s_move S rfl rfl ?_; clear S a; intro a S
    refine s_bin S rfl rfl rfl rfl ?_; clear S a; intro a S
    refine s_move S rfl rfl ?_; clear S a; intro a S
    rcases ite_of h0 with ⟨c4, h1⟩ | ⟨c4, h1⟩ <;> clear h0
    · refine s_gT S (b := (decide (y4 < 32))) rfl rfl c4 ?_
      refine s_move S rfl rfl ?_; clear S a; intro a S
      refine s_gT S (b := (decide (y4 < 32))) rfl rfl c4 ?_
      obtain ⟨c5, h2⟩ := chk_of h1; clear h1
      refine s_iaddr S rfl rfl Tryd.underlying39 T5 c5.1 c5.2 (mul1 _ _) rfl ?_; clear S a; intro a S
      refine s_gT S (b := (decide (y4 < 32))) rfl rfl c4 ?_
      refine s_loadi S (i := y4) rfl .here T5 .here rfl c5.1 c5.2 rfl ?_; clear S a; intro a S
      refine s_gT S (b := (decide (y4 < 32))) rfl rfl c4 ?_
      refine s_bin S rfl rfl rfl rfl ?_; clear S a; intro a S
      refine s_pick S (b := true) (hc_of rfl c4) rfl rfl ?_; clear S a; intro a S
      refine c_end' ?_
      refine x_thenN ?_
      exact j2 _ ((rd t2 y4) == 0) g13 a w (S.sub ⟨rfl, rfl, rfl, trivial⟩ (.cons .here .nil)) h2
    · refine s_gF S (b := (decide (y4 < 32))) rfl rfl c4 rfl ?_; clear S a; intro a S
      refine s_gF S (b := (decide (y4 < 32))) rfl rfl c4 rfl ?_; clear S a; intro a S
      refine s_gF S (b := (decide (y4 < 32))) rfl rfl c4 rfl ?_; clear S a; intro a S
      refine s_gF S (b := (decide (y4 < 32))) rfl rfl c4 rfl ?_; clear S a; intro a S
      refine s_pick S (b := false) (hc_of rfl c4) rfl rfl ?_; clear S a; intro a S
      refine c_end' ?_
      refine x_thenN ?_
      exact j2 _ false g13 a w (S.sub ⟨rfl, rfl, rfl, trivial⟩ (.cons .here .nil)) h1
/-! smithy/smithyref08.Create -/
abbrev smithyref08_Create.Ty : Type := (List Int) → Int → Option ((List Int))
def smithyref08_Create.Ctr (s : smithyref08_Create.Ty) : Prop := ∀ (x1 : List Int) (x2 : Int) (r : (List Int)) (h0 : s x1 x2 = some r) (mi : Mem) (w0 : World), okL mi [(.agg [.ints .u8 x1 20]), (.v (.int .u64 x2))] → Pre mi [] w0 → Calls Tryd.prog 19 (([(.agg [.ints .u8 x1 20]), (.v (.int .u64 x2))] : List D).map D.val).toArray w0 (RetX mi [] (fun (ch : Unit) => ((.agg [.ints .u8 r 20]) : D)) (fun (ch : Unit) => []) w0)
def smithyref08_Create.j1 (k : Nat) (y1 : List Int) : Option ((List Int)) := if (([wr .u8 (wr .i64 (192 + ((y1).length : Int)))]).length + (y1).length) * 1 ≤ 140737488355328 then ((smithyref05_Sum.f k ([wr .u8 (wr .i64 (192 + ((y1).length : Int)))] ++ y1)).bind fun t2 => ((smithyref08_last.f k t2).bind fun t3 => (some t3))) else none
def smithyref08_Create.j2 (k : Nat) (x1 : List Int) (t1 : (List Int)) (y2 : Bool) : Option ((List Int)) := if y2 = true then (if (0 : Int) ≤ 0 ∧ 0 < ((t1).length : Int) then (if (([148] ++ (((x1).drop 0).take 20)).length + ([rd t1 0]).length) * 1 ≤ 140737488355328 then (smithyref08_Create.j1 k (([148] ++ (((x1).drop 0).take 20)) ++ [rd t1 0])) else none) else none) else (if (([148] ++ (((x1).drop 0).take 20)).length + ([wr .u8 (wr .i64 (128 + ((t1).length : Int)))]).length) * 1 ≤ 140737488355328 then (if ((([148] ++ (((x1).drop 0).take 20)) ++ [wr .u8 (wr .i64 (128 + ((t1).length : Int)))]).length + (t1).length) * 1 ≤ 140737488355328 then (smithyref08_Create.j1 k ((([148] ++ (((x1).drop 0).take 20)) ++ [wr .u8 (wr .i64 (128 + ((t1).length : Int)))]) ++ t1)) else none) else none)
def smithyref08_Create.f (k : Nat) (x1 : List Int) (x2 : Int) : Option ((List Int)) := (smithyref07_Number.f k [x2, 0, 0, 0]).bind fun t1 => (if (([148]).length + (((x1).drop 0).take 20).length) * 1 ≤ 140737488355328 then (if (((t1).length : Int) == 1) = true then (if (0 : Int) ≤ 0 ∧ 0 < ((t1).length : Int) then (smithyref08_Create.j2 k x1 t1 (decide ((rd t1 0) < 128))) else none) else (smithyref08_Create.j2 k x1 t1 false)) else none)
theorem smithyref08_Create.ok (k : Nat) : smithyref08_Create.Ctr (smithyref08_Create.f k) := by
  intro x1 x2 r h0 mi w0 ok hm
  delta smithyref08_Create.f at h0
  refine c_enterX (n := 51) [(.agg [.ints .u8 x1 20]), (.v (.int .u64 x2))] (l := [(0, (.agg [.ints .u8 x1 20])), (1, (.v (.int .u64 x2)))]) Tryd.func19 rfl rfl rfl rfl ok hm ?_
  clear ok hm
  intro b0 hb a S
  refine c_region ?_
  refine s_box S rfl rfl rfl ?_; clear S a; intro g1 a w S
  refine s_alloc S Z23 rfl ⟨rfl, trivial⟩ rfl ?_; clear S a w; intro g2 a w S
  refine c_end ?_
  refine c_region ?_
  refine s_move S rfl rfl ?_; clear S a; intro a S
  refine s_build S (ds := [(0, (.v (.int .u64 x2)))]) (dv := (.agg [.ints .u64 [x2, 0, 0, 0] 4])) rfl (fun _ => by kernel_rfl) ⟨rfl, trivial⟩ rfl ?_; clear S a; intro a S
  obtain ⟨t1, et1, h1⟩ := bind_of h0; clear h0
  refine s_callX S (ds' := [(.agg [.ints .u64 [x2, 0, 0, 0] 4])]) (ds := [(.agg [.ints .u64 [x2, 0, 0, 0] 4])]) [] [Res.cells g2 23 [.ints .u8 [0, 0, 0, 0, 0, 0, 0, 0, 0, 0, 0, 0, 0, 0, 0, 0, 0, 0, 0, 0] 20], Res.cells g1 23 [.ints .u8 x1 20]] (fun (ch : (Option Addr) × Nat × Nat) => ((.v (.slice ch.1 ch.2.1 ch.2.2)) : D)) (fun (ch : (Option Addr) × Nat × Nat) => [Res.row (Ty.int .u8) 5 ch.1 ch.2.1 ch.2.2 t1]) (fun (ch : (Option Addr) × Nat × Nat) => [Res.row (Ty.int .u8) 5 ch.1 ch.2.1 ch.2.2 t1, Res.cells g2 23 [.ints .u8 [0, 0, 0, 0, 0, 0, 0, 0, 0, 0, 0, 0, 0, 0, 0, 0, 0, 0, 0, 0] 20], Res.cells g1 23 [.ints .u8 x1 20]]) (fun _ => rfl) N35 rfl rfl (fun ok => ok) (.cons .here (.cons .here .nil)) rfl (smithyref07_Number.ok k [x2, 0, 0, 0] t1 et1 _ _) ?_; clear S a w; intro ch1 m le1 a w S
  refine s_assign S rfl rfl ?_; clear S a; intro a S
  refine c_end ?_
  refine c_region ?_
  refine s_bldSl S (ty' := (Ty.int .u8)) (ds := [(0, (.v (.int .u8 148)))]) (z := 0) (c0 := ()) (ys := [148]) (cs := [()]) rfl Tryd.underlying27 J5 Z5 rfl ⟨rfl, trivial⟩ rfl rfl rfl rfl rfl rfl ?_; clear S a w; intro g3 a w S
  refine s_assign S rfl rfl ?_; clear S a; intro a S
  refine c_end ?_
  refine c_region ?_
  refine s_move S rfl rfl ?_; clear S a; intro a S
  refine s_sliceA S (i := 0) (j := 20) (o' := 0) (len := 20) (cap := 20) rfl Tryd.underlying23 T5 (.inl ⟨rfl, rfl⟩) (.inl ⟨rfl, rfl⟩) (by decide) rfl rfl rfl rfl ?_; clear S a; intro a S
  replace S := S.freeze (.there (.there (.there .here)))
  obtain ⟨m, le1, S⟩ := S
  replace S := (S.slup' (u := 13) (lo := 0) (c := 20) (ys := ((x1).drop 0).take 20) rfl (Pull.mem (.there (.there (.there .here)))).1 .here (.inl rfl) (by decide) (by decide) rfl).2
  obtain ⟨c1, h2⟩ := chk_of h1; clear h1
  refine s_app S (k2 := ((((x1).drop 0).take 20).length)) (ys := (((x1).drop 0).take 20)) rfl (fun _ _ => .here) rfl rfl rfl (RdS.src (S.get 13 (.sl (some ⟨g1, 0, none⟩) (((x1).drop 0).take 20).length 20 (RdS (Ty.int .u8) (some ⟨g1, 0, none⟩) (((x1).drop 0).take 20))) rfl).2.2.2.1 (by decide) S.frz) Tryd.underlying27 J5 c1 rfl ?_; clear S a w; intro A1 cp1 a w S
  refine s_assign S rfl rfl ?_; clear S a; intro a S
  refine c_end ?_
  refine wp_seq_k ?_
  intro K1 hK1
  have j1 : ∀ (m : Mem) (A2 : Option Addr) (nn1 : Nat) (cp7 : Nat) (y1 : List Int) (g9 : Nat) (a : Act) (w : World), St 51 m b0 [(6, (.v (.slice A2 nn1 cp7))), (4, (.v (.pointer (some ⟨g9, 0, none⟩))))] [Res.row (Ty.int .u8) 5 A2 nn1 cp7 y1, Res.cells g9 23 [.ints .u8 [0, 0, 0, 0, 0, 0, 0, 0, 0, 0, 0, 0, 0, 0, 0, 0, 0, 0, 0, 0] 20]] a w → smithyref08_Create.j1 k y1 = some r → K1 a w := by
    intro m A2 nn1 cp7 y1 g9 a w S h0
    delta smithyref08_Create.j1 at h0
    refine hK1 a w ?_
    refine c_region ?_
    refine s_move S rfl rfl ?_; clear S a; intro a S
    refine s_lenO S rfl .here Tryd.underlying27 rfl ?_; clear S a; intro a S
    refine s_bin S rfl rfl rfl rfl ?_; clear S a; intro a S
    refine s_conv S rfl rfl Tryd.underlying5 rfl ?_; clear S a; intro a S
    refine s_bldSl S (ty' := (Ty.int .u8)) (ds := [(0, (.v (.int .u8 (wr .u8 (wr .i64 (192 + ((y1).length : Int)))))))]) (z := 0) (c0 := ()) (ys := [wr .u8 (wr .i64 (192 + ((y1).length : Int)))]) (cs := [()]) rfl Tryd.underlying27 J5 Z5 rfl ⟨rfl, trivial⟩ rfl rfl rfl rfl rfl rfl ?_; clear S a w; intro g10 a w S
    refine s_assign S rfl rfl ?_; clear S a; intro a S
    refine c_end ?_
    refine c_region ?_
    refine s_move S rfl rfl ?_; clear S a; intro a S
    refine s_move S rfl rfl ?_; clear S a; intro a S
    obtain ⟨c2, h1⟩ := chk_of h0; clear h0
    refine s_app S (k2 := nn1) (ys := y1) rfl (fun _ _ => .here) rfl rfl (S.holds _ (Pull.mem (.there .here)).1).1 (Res.row.src (S.holds _ (Pull.mem (.there .here)).1)) Tryd.underlying27 J5 c2 rfl ?_; clear S a w; intro A3 cp8 a w S
    refine s_assign S rfl rfl ?_; clear S a; intro a S
    refine c_end ?_
    refine c_region ?_
    refine s_move S rfl rfl ?_; clear S a; intro a S
    replace S := S.rowfro .here
    obtain ⟨m, le1, S, hro⟩ := S
    replace S := S.slotro (u := 48) rfl hro
    replace S := S.slotro (u := 7) rfl hro
    replace S := S.slotro (u := 47) rfl hro
    obtain ⟨t2, et2, h2⟩ := bind_of h1; clear h1
    refine s_callX S (ds' := [(.sl A3 ([wr .u8 (wr .i64 (192 + ((y1).length : Int)))] ++ y1).length cp8 (RdS (Ty.int .u8) A3 ([wr .u8 (wr .i64 (192 + ((y1).length : Int)))] ++ y1)))]) (ds := [(.sl A3 ([wr .u8 (wr .i64 (192 + ((y1).length : Int)))] ++ y1).length cp8 (RdS (Ty.int .u8) A3 ([wr .u8 (wr .i64 (192 + ((y1).length : Int)))] ++ y1)))]) [] [Res.row (Ty.int .u8) 5 A2 nn1 cp7 y1, Res.cells g9 23 [.ints .u8 [0, 0, 0, 0, 0, 0, 0, 0, 0, 0, 0, 0, 0, 0, 0, 0, 0, 0, 0, 0] 20]] (fun (ch : Unit) => ((.agg [.ints .u8 t2 32]) : D)) (fun (ch : Unit) => []) (fun (ch : Unit) => [Res.row (Ty.int .u8) 5 A2 nn1 cp7 y1, Res.cells g9 23 [.ints .u8 [0, 0, 0, 0, 0, 0, 0, 0, 0, 0, 0, 0, 0, 0, 0, 0, 0, 0, 0, 0] 20]]) (fun _ => rfl) N23 rfl rfl (fun ok => ok) (.cons .here (.cons .here .nil)) rfl (smithyref05_Sum.ok k ([wr .u8 (wr .i64 (192 + ((y1).length : Int)))] ++ y1) A3 cp8 t2 et2 _ _) ?_; clear S a w; intro ch2 m le1 a w S
    obtain ⟨t3, et3, h3⟩ := bind_of h2; clear h2
    refine s_callX S (ds' := [(.agg [.ints .u8 t2 32])]) (ds := [(.agg [.ints .u8 t2 32])]) [] [Res.row (Ty.int .u8) 5 A2 nn1 cp7 y1, Res.cells g9 23 [.ints .u8 [0, 0, 0, 0, 0, 0, 0, 0, 0, 0, 0, 0, 0, 0, 0, 0, 0, 0, 0, 0] 20]] (fun (ch : Unit) => ((.agg [.ints .u8 t3 20]) : D)) (fun (ch : Unit) => []) (fun (ch : Unit) => [Res.row (Ty.int .u8) 5 A2 nn1 cp7 y1, Res.cells g9 23 [.ints .u8 [0, 0, 0, 0, 0, 0, 0, 0, 0, 0, 0, 0, 0, 0, 0, 0, 0, 0, 0, 0] 20]]) (fun _ => rfl) N26 rfl rfl (fun ok => ok) (.cons .here (.cons .here .nil)) rfl (smithyref08_last.ok k t2 t3 et3 _ _) ?_; clear S a w; intro ch3 m le1 a w S
    refine s_store S rfl rfl rfl (s' := [.ints .u8 t3 20]) (.there .here) T23 rfl rfl ?_; clear S w; intro w S
    refine c_end ?_
    refine wp_ret ?_
    obtain rfl := Option.some.inj h3
    exact b_ret1 (d := (.agg [.ints .u8 t3 20])) S rfl (resD_cell rfl (.there .here) T23 rfl rfl) fun ok => S.retX (Hx := []) hb _ _ (() : Unit) .nil ok
  refine wp_seq_k ?_
  intro K2 hK2
  have j2 : ∀ (m : Mem) (y2 : Bool) (A4 : Option Addr) (cp9 : Nat) (A5 : Option Addr) (nn2 : Nat) (cp10 : Nat) (g12 : Nat) (a : Act) (w : World), St 51 m b0 [(23, (.v (.bool y2))), (6, (.v (.slice A4 (1 + ((((x1).drop 0).take 20).length)) cp9))), (5, (.v (.slice A5 nn2 cp10))), (4, (.v (.pointer (some ⟨g12, 0, none⟩))))] [Res.row (Ty.int .u8) 5 A4 (1 + ((((x1).drop 0).take 20).length)) cp9 ([148] ++ (((x1).drop 0).take 20)), Res.row (Ty.int .u8) 5 A5 nn2 cp10 t1, Res.cells g12 23 [.ints .u8 [0, 0, 0, 0, 0, 0, 0, 0, 0, 0, 0, 0, 0, 0, 0, 0, 0, 0, 0, 0] 20]] a w → smithyref08_Create.j2 k x1 t1 y2 = some r → K2 a w := by
    intro m y2 A4 cp9 A5 nn2 cp10 g12 a w S h0
    delta smithyref08_Create.j2 at h0
    refine hK2 a w ?_
    rcases ite_of h0 with ⟨c3, h1⟩ | ⟨c3, h1⟩ <;> clear h0
    · refine c_condT S rfl c3 ?_
      refine c_region' ?_
      refine s_move S rfl rfl ?_; clear S a; intro a S
      refine s_move S rfl rfl ?_; clear S a; intro a S
      obtain ⟨c4, h2⟩ := chk_of h1; clear h1
      refine s_iaddrO S (ty' := (Ty.int .u8)) rfl (.there .here) rfl Tryd.underlying27 T5 c4.1 c4.2 rfl ?_; clear S a; intro g13 a hA1 S
      refine s_ldR1 S (ty' := (Ty.int .u8)) (i := 0) (off := 0) (v := (.int .u8 (rd t1 0))) rfl hA1 (.there .here) T5 c4.1 c4.2 rfl (fun _ => rfl) rfl ?_; clear S a; intro a S
      refine s_bldSl S (ty' := (Ty.int .u8)) (ds := [(0, (.v (.int .u8 (rd t1 0))))]) (z := 0) (c0 := ()) (ys := [rd t1 0]) (cs := [()]) rfl Tryd.underlying27 J5 Z5 rfl ⟨rfl, trivial⟩ rfl rfl rfl rfl rfl rfl ?_; clear S a w; intro g14 a w S
      obtain ⟨c5, h3⟩ := chk_of h2; clear h2
      refine s_app S (k2 := 1) (ys := [rd t1 0]) rfl (fun _ _ => (.there .here)) rfl rfl (S.holds _ (Pull.mem .here).1).1 (Res.row.src (S.holds _ (Pull.mem .here).1)) Tryd.underlying27 J5 c5 rfl ?_; clear S a w; intro A6 cp11 a w S
      refine s_assign S rfl rfl ?_; clear S a; intro a S
      refine c_end' ?_
      refine x_thenN ?_
      exact j1 _ A6 ((1 + ((((x1).drop 0).take 20).length)) + 1) cp11 (([148] ++ (((x1).drop 0).take 20)) ++ [rd t1 0]) g12 a w (S.sub ⟨rfl, rfl, trivial⟩ (.cons (.there .here) (.cons (.there (.there .here)) .nil))) h3
    · refine c_condF S rfl c3 ?_
      refine c_region ?_
      refine s_move S rfl rfl ?_; clear S a; intro a S
      refine s_move S rfl rfl ?_; clear S a; intro a S
      refine s_lenO S rfl (.there .here) Tryd.underlying27 rfl ?_; clear S a; intro a S
      refine s_bin S rfl rfl rfl rfl ?_; clear S a; intro a S
      refine s_conv S rfl rfl Tryd.underlying5 rfl ?_; clear S a; intro a S
      refine s_bldSl S (ty' := (Ty.int .u8)) (ds := [(0, (.v (.int .u8 (wr .u8 (wr .i64 (128 + ((t1).length : Int)))))))]) (z := 0) (c0 := ()) (ys := [wr .u8 (wr .i64 (128 + ((t1).length : Int)))]) (cs := [()]) rfl Tryd.underlying27 J5 Z5 rfl ⟨rfl, trivial⟩ rfl rfl rfl rfl rfl rfl ?_; clear S a w; intro g15 a w S
      obtain ⟨c6, h2⟩ := chk_of h1; clear h1
      refine s_app S (k2 := 1) (ys := [wr .u8 (wr .i64 (128 + ((t1).length : Int)))]) rfl (fun _ _ => (.there .here)) rfl rfl (S.holds _ (Pull.mem .here).1).1 (Res.row.src (S.holds _ (Pull.mem .here).1)) Tryd.underlying27 J5 c6 rfl ?_; clear S a w; intro A7 cp12 a w S
      refine s_assign S rfl rfl ?_; clear S a; intro a S
      refine c_end ?_
      refine c_region' ?_
      refine s_move S rfl rfl ?_; clear S a; intro a S
      refine s_move S rfl rfl ?_; clear S a; intro a S
      obtain ⟨c7, h3⟩ := chk_of h2; clear h2
      refine s_app S (k2 := nn2) (ys := t1) rfl (fun _ _ => (.there .here)) rfl rfl (S.holds _ (Pull.mem (.there (.there .here))).1).1 (Res.row.src (S.holds _ (Pull.mem (.there (.there .here))).1)) Tryd.underlying27 J5 c7 rfl ?_; clear S a w; intro A8 cp13 a w S
      refine s_assign S rfl rfl ?_; clear S a; intro a S
      refine c_end' ?_
      refine x_thenN ?_
      exact j1 _ A8 (((1 + ((((x1).drop 0).take 20).length)) + 1) + nn2) cp13 ((([148] ++ (((x1).drop 0).take 20)) ++ [wr .u8 (wr .i64 (128 + ((t1).length : Int)))]) ++ t1) g12 a w (S.sub ⟨rfl, rfl, trivial⟩ (.cons (.there .here) (.cons (.there (.there .here)) .nil))) h3
  refine c_region' ?_
  refine s_move S rfl rfl ?_; clear S a; intro a S
  refine s_lenO S rfl (.there .here) Tryd.underlying27 rfl ?_; clear S a; intro a S
  refine s_bin S rfl rfl rfl rfl ?_; clear S a; intro a S
  refine s_move S rfl rfl ?_; clear S a; intro a S
  rcases ite_of h2 with ⟨c8, h3⟩ | ⟨c8, h3⟩ <;> clear h2
  · refine s_gT S (b := (((t1).length : Int) == 1)) rfl rfl c8 ?_
    refine s_move S rfl rfl ?_; clear S a; intro a S
    refine s_gT S (b := (((t1).length : Int) == 1)) rfl rfl c8 ?_
    obtain ⟨c9, h4⟩ := chk_of h3; clear h3
    refine s_iaddrO S (ty' := (Ty.int .u8)) rfl (.there .here) rfl Tryd.underlying27 T5 c9.1 c9.2 rfl ?_; clear S a; intro g16 a hA2 S
    refine s_gT S (b := (((t1).length : Int) == 1)) rfl rfl c8 ?_
    refine s_ldR1 S (ty' := (Ty.int .u8)) (i := 0) (off := 0) (v := (.int .u8 (rd t1 0))) rfl hA2 (.there .here) T5 c9.1 c9.2 rfl (fun _ => rfl) rfl ?_; clear S a; intro a S
    refine s_gT S (b := (((t1).length : Int) == 1)) rfl rfl c8 ?_
    refine s_bin S rfl rfl rfl rfl ?_; clear S a; intro a S
    refine s_pick S (b := true) (hc_of rfl c8) rfl rfl ?_; clear S a; intro a S
    refine c_end' ?_
    refine x_thenN ?_
    exact j2 _ (decide ((rd t1 0) < 128)) A1 cp1 ch1.1 ch1.2.1 ch1.2.2 g2 a w (S.sub ⟨rfl, rfl, rfl, rfl, trivial⟩ (.cons .here (.cons .here (.cons .here .nil)))) h4
  · refine s_gF S (b := (((t1).length : Int) == 1)) rfl rfl c8 rfl ?_; clear S a; intro a S
    refine s_gF S (b := (((t1).length : Int) == 1)) rfl rfl c8 rfl ?_; clear S a; intro a S
    refine s_gF S (b := (((t1).length : Int) == 1)) rfl rfl c8 rfl ?_; clear S a; intro a S
    refine s_gF S (b := (((t1).length : Int) == 1)) rfl rfl c8 rfl ?_; clear S a; intro a S
    refine s_pick S (b := false) (hc_of rfl c8) rfl rfl ?_; clear S a; intro a S
    refine c_end' ?_
    refine x_thenN ?_
    exact j2 _ false A1 cp1 ch1.1 ch1.2.1 ch1.2.2 g2 a w (S.sub ⟨rfl, rfl, rfl, rfl, trivial⟩ (.cons .here (.cons .here (.cons .here .nil)))) h3
/-! smithy/smithylaw08.AddrCreates -/
abbrev smithylaw08_AddrCreates.Ty : Type := (List Int) → Int → Option Bool
def smithylaw08_AddrCreates.Ctr (s : smithylaw08_AddrCreates.Ty) : Prop := ∀ (x1 : List Int) (x2 : Int) (r : Bool) (h0 : s x1 x2 = some r) (mi : Mem) (w0 : World) (G : Glob mi), okL mi [(.agg [.ints .u8 x1 20]), (.v (.int .u64 x2))] → Pre mi [] w0 → Calls Tryd.prog 6 (([(.agg [.ints .u8 x1 20]), (.v (.int .u64 x2))] : List D).map D.val).toArray w0 (RetX mi [] (fun (ch : Unit) => ((.v (.bool r)) : D)) (fun (ch : Unit) => []) w0)
def smithylaw08_AddrCreates.f (k : Nat) (x1 : List Int) (x2 : Int) : Option Bool := (smithylaw08_fixed.f k).bind fun t1 => (if t1 = true then ((addr_Create.f k x1 x2).bind fun t2 => ((smithyref08_Create.f k x1 x2).bind fun t3 => (some (decide (t2 = t3))))) else (some false))
theorem smithylaw08_AddrCreates.ok (k : Nat) : smithylaw08_AddrCreates.Ctr (smithylaw08_AddrCreates.f k) := by
  intro x1 x2 r h0 mi w0 G ok hm
  delta smithylaw08_AddrCreates.f at h0
  refine c_enterX (n := 15) [(.agg [.ints .u8 x1 20]), (.v (.int .u64 x2))] (l := [(0, (.agg [.ints .u8 x1 20])), (1, (.v (.int .u64 x2)))]) Tryd.func6 rfl rfl rfl rfl ok hm ?_
  clear ok hm
  intro b0 hb a S
  refine c_region ?_
  refine s_box S rfl rfl rfl ?_; clear S a; intro g1 a w S
  refine s_assign S rfl rfl ?_; clear S a; intro a S
  refine c_end ?_
  refine wp_seq (c_heldS S (.alts (.run 0 true (.take 1 (.take 2 (.take 3 (.take 5 (.take 6 (.alts (.run 4 true (.alts (.run 7 true (.take 8 (.take 9 (.take 10 .done))) .nil)) .nil))))))) .nil)) 11 [Res.cells g1 23 [.ints .u8 x1 20]] (.cons .here .nil) ⟨Res.stay_cells, trivial⟩ [(2, (.v (.pointer (some ⟨g1, 0, none⟩)))), (1, (.v (.int .u64 x2)))] ⟨rfl, rfl, trivial⟩ (by kernel_rfl) (by kernel_rfl) ?_); clear S; intro w S CL hw le
  refine h_run' S rfl trivial ?_
  obtain ⟨t1, et1, h1⟩ := bind_of h0; clear h0
  refine s_callX S (ds' := []) (ds := []) [] [Res.cells g1 23 [.ints .u8 x1 20]] (fun (ch : Unit) => ((.v (.bool t1)) : D)) (fun (ch : Unit) => []) (fun (ch : Unit) => [Res.cells g1 23 [.ints .u8 x1 20]]) (fun _ => rfl) N7 rfl rfl (fun ok => ok) (.cons .here .nil) rfl (smithylaw08_fixed.ok k t1 et1 _ _ (G.mono (S.leB hb))) ?_; clear S a; intro ch1 m le1 a w S
  replace le := le.trans le1
  replace hw := CL.again hw S (.cons .here .nil) le
  refine h_back ⟨fun _ => hw, ?_⟩
  replace CL := CL.add (t := 5) (d := (.v (.bool t1))) S rfl rfl
  refine h_move S CL hw le ⟨rfl, rfl, rfl, trivial⟩ rfl rfl rfl trivial ?_; clear S CL a; intro a S CL
  rcases ite_of h1 with ⟨c1, h2⟩ | ⟨c1, h2⟩ <;> clear h1
  · refine h_loada S CL hw le ⟨rfl, rfl, rfl, rfl, trivial⟩ rfl .here T23 (s' := [.ints .u8 x1 20]) rfl rfl rfl ⟨_, _, rfl, rfl, c1⟩ ?_; clear S CL a; intro a S CL
    refine h_move S CL hw le ⟨rfl, rfl, rfl, rfl, rfl, trivial⟩ rfl rfl rfl ⟨_, _, rfl, rfl, c1⟩ ?_; clear S CL a; intro a S CL
    refine h_loada S CL hw le ⟨rfl, rfl, rfl, rfl, rfl, rfl, trivial⟩ rfl .here T23 (s' := [.ints .u8 x1 20]) rfl rfl rfl ⟨_, _, rfl, rfl, c1⟩ ?_; clear S CL a; intro a S CL
    refine h_move S CL hw le ⟨rfl, rfl, rfl, rfl, rfl, rfl, rfl, trivial⟩ rfl rfl rfl ⟨_, _, rfl, rfl, c1⟩ ?_; clear S CL a; intro a S CL
    refine h_run' S rfl ⟨_, _, rfl, rfl, c1⟩ ?_
    obtain ⟨t2, et2, h3⟩ := bind_of h2; clear h2
    refine s_callX S (ds' := [(.agg [.ints .u8 x1 20]), (.v (.int .u64 x2))]) (ds := [(.agg [.ints .u8 x1 20]), (.v (.int .u64 x2))]) [] [Res.cells g1 23 [.ints .u8 x1 20]] (fun (ch : Unit) => ((.agg [.ints .u8 t2 20]) : D)) (fun (ch : Unit) => []) (fun (ch : Unit) => [Res.cells g1 23 [.ints .u8 x1 20]]) (fun _ => rfl) N18 rfl rfl (fun ok => ok) (.cons .here .nil) rfl (addr_Create.ok k x1 x2 t2 et2 _ _ (G.mono (S.leB hb))) ?_; clear S a; intro ch2 m le1 a w S
    replace le := le.trans le1
    replace hw := CL.again hw S (.cons .here .nil) le
    refine h_back ⟨fun _ => hw, ?_⟩
    replace CL := CL.add (t := 9) (d := (.agg [.ints .u8 t2 20])) S rfl rfl
    refine h_run' S rfl ⟨_, _, rfl, rfl, c1⟩ ?_
    obtain ⟨t3, et3, h4⟩ := bind_of h3; clear h3
    refine s_callX S (ds' := [(.agg [.ints .u8 x1 20]), (.v (.int .u64 x2))]) (ds := [(.agg [.ints .u8 x1 20]), (.v (.int .u64 x2))]) [] [Res.cells g1 23 [.ints .u8 x1 20]] (fun (ch : Unit) => ((.agg [.ints .u8 t3 20]) : D)) (fun (ch : Unit) => []) (fun (ch : Unit) => [Res.cells g1 23 [.ints .u8 x1 20]]) (fun _ => rfl) N19 rfl rfl (fun ok => ok) (.cons .here .nil) rfl (smithyref08_Create.ok k x1 x2 t3 et3 _ _) ?_; clear S a; intro ch3 m le1 a w S
    replace le := le.trans le1
    replace hw := CL.again hw S (.cons .here .nil) le
    refine h_back ⟨fun _ => hw, ?_⟩
    replace CL := CL.add (t := 12) (d := (.agg [.ints .u8 t3 20])) S rfl rfl
    refine h_eqa S CL hw le ⟨rfl, rfl, rfl, rfl, rfl, rfl, rfl, rfl, rfl, rfl, trivial⟩ rfl rfl Tryd.underlying23 Tryd.underlying5 T5 Q23 rfl rfl ⟨_, _, rfl, rfl, c1⟩ ?_; clear S CL a; intro a S CL
    refine h_pick S CL hw le ⟨rfl, rfl, rfl, rfl, rfl, rfl, rfl, rfl, rfl, rfl, rfl, trivial⟩ (b := true) (hc_of rfl c1) rfl rfl rfl trivial ?_; clear S CL a; intro a S CL
    refine h_assign S CL hw le ⟨rfl, rfl, rfl, rfl, rfl, rfl, rfl, rfl, rfl, rfl, rfl, rfl, trivial⟩ rfl rfl rfl trivial ?_; clear S CL a; intro a S CL
    refine h_done ?_; clear CL hw le
    refine x_thenN ?_
    refine wp_ret ?_
    obtain rfl := Option.some.inj h4
    exact b_ret1 (d := (.v (.bool (decide (t2 = t3))))) S rfl rfl fun ok => S.retX (Hx := []) hb _ _ (() : Unit) .nil ok
  · refine h_skip S CL rfl rfl rfl (ne_bool c1) rfl ?_; clear S CL a; intro a S CL
    refine h_skip S CL rfl rfl rfl (ne_bool c1) rfl ?_; clear S CL a; intro a S CL
    refine h_skip S CL rfl rfl rfl (ne_bool c1) rfl ?_; clear S CL a; intro a S CL
    refine h_skip S CL rfl rfl rfl (ne_bool c1) rfl ?_; clear S CL a; intro a S CL
    refine h_skipRt S rfl rfl rfl (ne_bool c1) rfl ?_; clear S a; intro a S
    replace hw := CL.again hw S (.cons .here .nil) le
    refine h_back ⟨fun _ => hw, ?_⟩
    replace CL := CL.add (t := 9) (d := .u) S rfl rfl
    refine h_skipRt S rfl rfl rfl (ne_bool c1) rfl ?_; clear S a; intro a S
    replace hw := CL.again hw S (.cons .here .nil) le
    refine h_back ⟨fun _ => hw, ?_⟩
    replace CL := CL.add (t := 12) (d := .u) S rfl rfl
    refine h_skip S CL rfl rfl rfl (ne_bool c1) rfl ?_; clear S CL a; intro a S CL
    refine h_pick S CL hw le ⟨rfl, rfl, rfl, rfl, rfl, rfl, rfl, rfl, rfl, rfl, rfl, trivial⟩ (b := false) (hc_of rfl c1) rfl rfl rfl trivial ?_; clear S CL a; intro a S CL
    refine h_assign S CL hw le ⟨rfl, rfl, rfl, rfl, rfl, rfl, rfl, rfl, rfl, rfl, rfl, rfl, trivial⟩ rfl rfl rfl trivial ?_; clear S CL a; intro a S CL
    refine h_done ?_; clear CL hw le
    refine x_thenN ?_
    refine wp_ret ?_
    obtain rfl := Option.some.inj h2
    exact b_ret1 (d := (.v (.bool false))) S rfl rfl fun ok => S.retX (Hx := []) hb _ _ (() : Unit) .nil ok
end GW
