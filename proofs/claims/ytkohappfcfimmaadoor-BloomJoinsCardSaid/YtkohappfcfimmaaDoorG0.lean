/-
  Printed by a program of these sessions (wip/gw/gx.py): for each Go function a Lean function with the same answers, and the walk that shows it.
-/
import Derived.Test.YtkohappfcfimmaaDoorProg
import Derived.Test.YtkohappfcfimmaaDoorGC
set_option linter.unusedVariables false
set_option maxRecDepth 10000
namespace GW
open Go Go.RowKit Go.Proofs
/-! smithy/bloom.Find -/
abbrev bloom_Find.Ty : Type := (List (((List Int) × Int × Int × Int × Int × (List Int) × (List Int) × (List Int) × (List Int) × (List Int)) × (List Int) × (List (List Int)) × (List ((List Int) × Int × Bool × Int × (List Int) × (List Int) × (List ((List Int) × (List (List Int)) × (List Int))) × (List Int))))) → (List Int) → (List (List Int)) → Option ((List ((List Int) × (List (List Int)) × (List Int))))
def bloom_Find.Ctr (s : bloom_Find.Ty) : Prop := ∀ (x1 : List (((List Int) × Int × Int × Int × Int × (List Int) × (List Int) × (List Int) × (List Int) × (List Int)) × (List Int) × (List (List Int)) × (List ((List Int) × Int × Bool × Int × (List Int) × (List Int) × (List ((List Int) × (List (List Int)) × (List Int))) × (List Int))))) (x2 : List Int) (x3 : List (List Int)) (ch_0_0 : Option Addr) (ch_0_1 : Nat) (ch_2_0 : Option Addr) (ch_2_1 : Nat) (r : (List ((List Int) × (List (List Int)) × (List Int)))) (h0 : s x1 x2 x3 = some r) (mi : Mem) (w0 : World) (G : Glob mi), okL mi [(.sl ch_0_0 (x1).length ch_0_1 (RdS (Ty.prod (Ty.prod (Ty.arr .u8 32) (Ty.prod (Ty.int .u64) (Ty.prod (Ty.int .u64) (Ty.prod (Ty.int .u64) (Ty.prod (Ty.int .u64) (Ty.prod (Ty.arr .u64 4) (Ty.prod (Ty.arr .u8 20) (Ty.prod (Ty.arr .u64 4) (Ty.prod (Ty.arr .u8 32) (Ty.arr .u8 32)))))))))) (Ty.prod (Ty.arr .u8 32) (Ty.prod (Ty.slice (Ty.arr .u8 32)) (Ty.slice (Ty.prod (Ty.arr .u8 20) (Ty.prod (Ty.int .u64) (Ty.prod Ty.bool (Ty.prod (Ty.int .u64) (Ty.prod (Ty.arr .u64 4) (Ty.prod (Ty.arr .u8 20) (Ty.prod (Ty.slice (Ty.prod (Ty.arr .u8 20) (Ty.prod (Ty.slice (Ty.arr .u64 4)) (Ty.slice (Ty.int .u8))))) (Ty.slice (Ty.int .u8))))))))))))) ch_0_0 x1)), (.agg [.ints .u8 x2 20]), (.sl ch_2_0 (x3).length ch_2_1 (RdS (Ty.arr .u64 4) ch_2_0 x3))] → Pre mi [] w0 → Calls Tryd.prog 21 (([(.sl ch_0_0 (x1).length ch_0_1 (RdS (Ty.prod (Ty.prod (Ty.arr .u8 32) (Ty.prod (Ty.int .u64) (Ty.prod (Ty.int .u64) (Ty.prod (Ty.int .u64) (Ty.prod (Ty.int .u64) (Ty.prod (Ty.arr .u64 4) (Ty.prod (Ty.arr .u8 20) (Ty.prod (Ty.arr .u64 4) (Ty.prod (Ty.arr .u8 32) (Ty.arr .u8 32)))))))))) (Ty.prod (Ty.arr .u8 32) (Ty.prod (Ty.slice (Ty.arr .u8 32)) (Ty.slice (Ty.prod (Ty.arr .u8 20) (Ty.prod (Ty.int .u64) (Ty.prod Ty.bool (Ty.prod (Ty.int .u64) (Ty.prod (Ty.arr .u64 4) (Ty.prod (Ty.arr .u8 20) (Ty.prod (Ty.slice (Ty.prod (Ty.arr .u8 20) (Ty.prod (Ty.slice (Ty.arr .u64 4)) (Ty.slice (Ty.int .u8))))) (Ty.slice (Ty.int .u8))))))))))))) ch_0_0 x1)), (.agg [.ints .u8 x2 20]), (.sl ch_2_0 (x3).length ch_2_1 (RdS (Ty.arr .u64 4) ch_2_0 x3))] : List D).map D.val).toArray w0 (RetX mi [] (fun (ch : (Option Addr) × Nat × Nat) => ((.v (.slice ch.1 ch.2.1 ch.2.2)) : D)) (fun (ch : (Option Addr) × Nat × Nat) => [Res.row (Ty.prod (Ty.arr .u8 20) (Ty.prod (Ty.slice (Ty.arr .u64 4)) (Ty.slice (Ty.int .u8)))) 38 ch.1 ch.2.1 ch.2.2 r]) w0)
def bloom_Find.j1 (y1 : List ((List Int) × (List (List Int)) × (List Int))) : Option ((List ((List Int) × (List (List Int)) × (List Int)))) := some y1
def bloom_Find.j2 (y43 : Int) (rec1 : (List ((List Int) × (List (List Int)) × (List Int))) → Int → Option ((List ((List Int) × (List (List Int)) × (List Int))))) (y62 : List ((List Int) × (List (List Int)) × (List Int))) : Option ((List ((List Int) × (List (List Int)) × (List Int)))) := rec1 y62 (wr .i64 (y43 + 1))
def bloom_Find.j3 (y79 : Int) (rec2 : Int → (List ((List Int) × (List (List Int)) × (List Int))) → Option ((List ((List Int) × (List (List Int)) × (List Int))))) (y87 : List ((List Int) × (List (List Int)) × (List Int))) : Option ((List ((List Int) × (List (List Int)) × (List Int)))) := rec2 (wr .i64 (y79 + 1)) y87
def bloom_Find.j4 (y92 : Int) (rec3 : Int → (List ((List Int) × (List (List Int)) × (List Int))) → Option ((List ((List Int) × (List (List Int)) × (List Int))))) (y94 : List ((List Int) × (List (List Int)) × (List Int))) : Option ((List ((List Int) × (List (List Int)) × (List Int)))) := rec3 (wr .i64 (y92 + 1)) y94
def bloom_Find.b3 (k : Nat) (x1 : List (((List Int) × Int × Int × Int × Int × (List Int) × (List Int) × (List Int) × (List Int) × (List Int)) × (List Int) × (List (List Int)) × (List ((List Int) × Int × Bool × Int × (List Int) × (List Int) × (List ((List Int) × (List (List Int)) × (List Int))) × (List Int))))) (x2 : List Int) (x3 : List (List Int)) (y43 : Int) (y79 : Int) (rec2 : Int → (List ((List Int) × (List (List Int)) × (List Int))) → Option ((List ((List Int) × (List (List Int)) × (List Int))))) (rec3 : Int → (List ((List Int) × (List (List Int)) × (List Int))) → Option ((List ((List Int) × (List (List Int)) × (List Int))))) (y92 : Int) (y93 : List ((List Int) × (List (List Int)) × (List Int))) : Option ((List ((List Int) × (List (List Int)) × (List Int)))) := if (decide (y92 < (((gt ((gt x1 y43).2.2.2) y79).2.2.2.2.2.2.1).length : Int))) = true then (if (0 : Int) ≤ y92 ∧ y92 < (((gt ((gt x1 y43).2.2.2) y79).2.2.2.2.2.2.1).length : Int) then ((bloom_fits.f k ((gt ((gt ((gt x1 y43).2.2.2) y79).2.2.2.2.2.2.1) y92).1, (gt ((gt ((gt x1 y43).2.2.2) y79).2.2.2.2.2.2.1) y92).2.1, (gt ((gt ((gt x1 y43).2.2.2) y79).2.2.2.2.2.2.1) y92).2.2) x2 x3).bind fun t6 => (if t6 = true then ((api_Word_n32.f ((gt ((gt ((gt x1 y43).2.2.2) y79).2.2.2.2.2.2.1) y92).2.1)).bind fun t7 => ((slices_Clone_byte_byte.f ((gt ((gt ((gt x1 y43).2.2.2) y79).2.2.2.2.2.2.1) y92).2.2)).bind fun t8 => (if ((y93).length + ([((gt ((gt ((gt x1 y43).2.2.2) y79).2.2.2.2.2.2.1) y92).1, t7, t8)]).length) * 72 ≤ 140737488355328 then (bloom_Find.j4 y92 rec3 (y93 ++ [((gt ((gt ((gt x1 y43).2.2.2) y79).2.2.2.2.2.2.1) y92).1, t7, t8)])) else none))) else (bloom_Find.j4 y92 rec3 y93))) else none) else (bloom_Find.j3 y79 rec2 y93)
def bloom_Find.l3 (k : Nat) (x1 : List (((List Int) × Int × Int × Int × Int × (List Int) × (List Int) × (List Int) × (List Int) × (List Int)) × (List Int) × (List (List Int)) × (List ((List Int) × Int × Bool × Int × (List Int) × (List Int) × (List ((List Int) × (List (List Int)) × (List Int))) × (List Int))))) (x2 : List Int) (x3 : List (List Int)) (y43 : Int) (y79 : Int) (rec2 : Int → (List ((List Int) × (List (List Int)) × (List Int))) → Option ((List ((List Int) × (List (List Int)) × (List Int))))) : Nat → Int → (List ((List Int) × (List (List Int)) × (List Int))) → Option ((List ((List Int) × (List (List Int)) × (List Int))))
  | 0, _, _ => none
  | q + 1, y92, y93 => bloom_Find.b3 k x1 x2 x3 y43 y79 rec2 (bloom_Find.l3 k x1 x2 x3 y43 y79 rec2 q) y92 y93
def bloom_Find.b2 (k : Nat) (x1 : List (((List Int) × Int × Int × Int × Int × (List Int) × (List Int) × (List Int) × (List Int) × (List Int)) × (List Int) × (List (List Int)) × (List ((List Int) × Int × Bool × Int × (List Int) × (List Int) × (List ((List Int) × (List (List Int)) × (List Int))) × (List Int))))) (x2 : List Int) (x3 : List (List Int)) (y43 : Int) (rec1 : (List ((List Int) × (List (List Int)) × (List Int))) → Int → Option ((List ((List Int) × (List (List Int)) × (List Int))))) (rec2 : Int → (List ((List Int) × (List (List Int)) × (List Int))) → Option ((List ((List Int) × (List (List Int)) × (List Int))))) (y79 : Int) (y80 : List ((List Int) × (List (List Int)) × (List Int))) : Option ((List ((List Int) × (List (List Int)) × (List Int)))) := if (decide (y79 < (((gt x1 y43).2.2.2).length : Int))) = true then (if (0 : Int) ≤ y79 ∧ y79 < (((gt x1 y43).2.2.2).length : Int) then ((bloom_Of.f k ((gt ((gt x1 y43).2.2.2) y79).2.2.2.2.2.2.1)).bind fun t1 => ((bloom_may.f k t1 x2 x3).bind fun t2 => (if (!t2) = true then (bloom_Find.j3 y79 rec2 y80) else (bloom_Find.l3 k x1 x2 x3 y43 y79 rec2 k 0 y80)))) else none) else (bloom_Find.j2 y43 rec1 y80)
def bloom_Find.l2 (k : Nat) (x1 : List (((List Int) × Int × Int × Int × Int × (List Int) × (List Int) × (List Int) × (List Int) × (List Int)) × (List Int) × (List (List Int)) × (List ((List Int) × Int × Bool × Int × (List Int) × (List Int) × (List ((List Int) × (List (List Int)) × (List Int))) × (List Int))))) (x2 : List Int) (x3 : List (List Int)) (y43 : Int) (rec1 : (List ((List Int) × (List (List Int)) × (List Int))) → Int → Option ((List ((List Int) × (List (List Int)) × (List Int))))) : Nat → Int → (List ((List Int) × (List (List Int)) × (List Int))) → Option ((List ((List Int) × (List (List Int)) × (List Int))))
  | 0, _, _ => none
  | q + 1, y79, y80 => bloom_Find.b2 k x1 x2 x3 y43 rec1 (bloom_Find.l2 k x1 x2 x3 y43 rec1 q) y79 y80
def bloom_Find.b1 (k : Nat) (x1 : List (((List Int) × Int × Int × Int × Int × (List Int) × (List Int) × (List Int) × (List Int) × (List Int)) × (List Int) × (List (List Int)) × (List ((List Int) × Int × Bool × Int × (List Int) × (List Int) × (List ((List Int) × (List (List Int)) × (List Int))) × (List Int))))) (x2 : List Int) (x3 : List (List Int)) (rec1 : (List ((List Int) × (List (List Int)) × (List Int))) → Int → Option ((List ((List Int) × (List (List Int)) × (List Int))))) (y42 : List ((List Int) × (List (List Int)) × (List Int))) (y43 : Int) : Option ((List ((List Int) × (List (List Int)) × (List Int)))) := if (decide (y43 < ((x1).length : Int))) = true then (if (0 : Int) ≤ y43 ∧ y43 < ((x1).length : Int) then (bloom_Find.l2 k x1 x2 x3 y43 rec1 k 0 y42) else none) else (bloom_Find.j1 y42)
def bloom_Find.l1 (k : Nat) (x1 : List (((List Int) × Int × Int × Int × Int × (List Int) × (List Int) × (List Int) × (List Int) × (List Int)) × (List Int) × (List (List Int)) × (List ((List Int) × Int × Bool × Int × (List Int) × (List Int) × (List ((List Int) × (List (List Int)) × (List Int))) × (List Int))))) (x2 : List Int) (x3 : List (List Int)) : Nat → (List ((List Int) × (List (List Int)) × (List Int))) → Int → Option ((List ((List Int) × (List (List Int)) × (List Int))))
  | 0, _, _ => none
  | q + 1, y42, y43 => bloom_Find.b1 k x1 x2 x3 (bloom_Find.l1 k x1 x2 x3 q) y42 y43
def bloom_Find.f (k : Nat) (x1 : List (((List Int) × Int × Int × Int × Int × (List Int) × (List Int) × (List Int) × (List Int) × (List Int)) × (List Int) × (List (List Int)) × (List ((List Int) × Int × Bool × Int × (List Int) × (List Int) × (List ((List Int) × (List (List Int)) × (List Int))) × (List Int))))) (x2 : List Int) (x3 : List (List Int)) : Option ((List ((List Int) × (List (List Int)) × (List Int)))) := bloom_Find.l1 k x1 x2 x3 k ([] : List ((List Int) × (List (List Int)) × (List Int))) 0
theorem bloom_Find.ok (k : Nat) : bloom_Find.Ctr (bloom_Find.f k) := by
  intro x1 x2 x3 ch_0_0 ch_0_1 ch_2_0 ch_2_1 r h0 mi w0 G ok hm
  delta bloom_Find.f at h0
  refine c_enterX (n := 61) [(.sl ch_0_0 (x1).length ch_0_1 (RdS (Ty.prod (Ty.prod (Ty.arr .u8 32) (Ty.prod (Ty.int .u64) (Ty.prod (Ty.int .u64) (Ty.prod (Ty.int .u64) (Ty.prod (Ty.int .u64) (Ty.prod (Ty.arr .u64 4) (Ty.prod (Ty.arr .u8 20) (Ty.prod (Ty.arr .u64 4) (Ty.prod (Ty.arr .u8 32) (Ty.arr .u8 32)))))))))) (Ty.prod (Ty.arr .u8 32) (Ty.prod (Ty.slice (Ty.arr .u8 32)) (Ty.slice (Ty.prod (Ty.arr .u8 20) (Ty.prod (Ty.int .u64) (Ty.prod Ty.bool (Ty.prod (Ty.int .u64) (Ty.prod (Ty.arr .u64 4) (Ty.prod (Ty.arr .u8 20) (Ty.prod (Ty.slice (Ty.prod (Ty.arr .u8 20) (Ty.prod (Ty.slice (Ty.arr .u64 4)) (Ty.slice (Ty.int .u8))))) (Ty.slice (Ty.int .u8))))))))))))) ch_0_0 x1)), (.agg [.ints .u8 x2 20]), (.sl ch_2_0 (x3).length ch_2_1 (RdS (Ty.arr .u64 4) ch_2_0 x3))] (l := [(0, (.sl ch_0_0 (x1).length ch_0_1 (RdS (Ty.prod (Ty.prod (Ty.arr .u8 32) (Ty.prod (Ty.int .u64) (Ty.prod (Ty.int .u64) (Ty.prod (Ty.int .u64) (Ty.prod (Ty.int .u64) (Ty.prod (Ty.arr .u64 4) (Ty.prod (Ty.arr .u8 20) (Ty.prod (Ty.arr .u64 4) (Ty.prod (Ty.arr .u8 32) (Ty.arr .u8 32)))))))))) (Ty.prod (Ty.arr .u8 32) (Ty.prod (Ty.slice (Ty.arr .u8 32)) (Ty.slice (Ty.prod (Ty.arr .u8 20) (Ty.prod (Ty.int .u64) (Ty.prod Ty.bool (Ty.prod (Ty.int .u64) (Ty.prod (Ty.arr .u64 4) (Ty.prod (Ty.arr .u8 20) (Ty.prod (Ty.slice (Ty.prod (Ty.arr .u8 20) (Ty.prod (Ty.slice (Ty.arr .u64 4)) (Ty.slice (Ty.int .u8))))) (Ty.slice (Ty.int .u8))))))))))))) ch_0_0 x1))), (1, (.agg [.ints .u8 x2 20])), (2, (.sl ch_2_0 (x3).length ch_2_1 (RdS (Ty.arr .u64 4) ch_2_0 x3)))]) Tryd.func21 rfl rfl rfl rfl ok hm ?_
  clear ok hm
  intro b0 hb a S
  refine c_region ?_
  refine s_box S rfl rfl rfl ?_; clear S a; intro g1 a w S
  refine s_assign S rfl rfl ?_; clear S a; intro a S
  refine c_end ?_
  refine c_region ?_
  refine s_assign S rfl rfl ?_; clear S a; intro a S
  refine c_end ?_
  refine wp_seq_k ?_
  intro K1 hK1
  have j1 : ∀ (m : Mem) (A1 : Option Addr) (nn1 : Nat) (cp1 : Nat) (y1 : List ((List Int) × (List (List Int)) × (List Int))) (a : Act) (w : World), St 61 m b0 [(7, (.v (.slice A1 nn1 cp1)))] [Res.row (Ty.prod (Ty.arr .u8 20) (Ty.prod (Ty.slice (Ty.arr .u64 4)) (Ty.slice (Ty.int .u8)))) 38 A1 nn1 cp1 y1] a w → bloom_Find.j1 y1 = some r → K1 a w := by
    intro m A1 nn1 cp1 y1 a w S h0
    delta bloom_Find.j1 at h0
    refine hK1 a w ?_
    refine c_region ?_
    refine s_move S rfl rfl ?_; clear S a; intro a S
    refine s_assign S rfl rfl ?_; clear S a; intro a S
    refine c_end ?_
    refine wp_ret ?_
    obtain rfl := Option.some.inj h0
    exact b_ret1 (d := (.v (.slice A1 nn1 cp1))) S rfl rfl fun ok => S.retX (Hx := []) hb _ _ ((A1, nn1, cp1) : (Option Addr) × Nat × Nat) (.cons .here .nil) ok
  refine c_region ?_
  refine s_move S rfl rfl ?_; clear S a; intro a S
  refine s_lenS S rfl Tryd.underlying48 rfl ?_; clear S a; intro a S
  refine s_move S rfl rfl ?_; clear S a; intro a S
  refine c_end ?_
  refine wp_block ?_
  replace S := S.nilrow (Ty.prod (Ty.arr .u8 20) (Ty.prod (Ty.slice (Ty.arr .u64 4)) (Ty.slice (Ty.int .u8)))) 38
  refine c_loop (fun q1 a w => ∃ (m : Mem) (A2 : Option Addr) (nn29 : Nat) (cp55 : Nat) (y42 : List ((List Int) × (List (List Int)) × (List Int))) (y43 : Int) (g115 : Nat), St 61 m b0 [(7, (.v (.slice A2 nn29 cp55))), (16, (.v (.int .i64 y43))), (15, (.v (.int .i64 ((x1).length : Int)))), (14, (.sl ch_0_0 (x1).length ch_0_1 (RdS (Ty.prod (Ty.prod (Ty.arr .u8 32) (Ty.prod (Ty.int .u64) (Ty.prod (Ty.int .u64) (Ty.prod (Ty.int .u64) (Ty.prod (Ty.int .u64) (Ty.prod (Ty.arr .u64 4) (Ty.prod (Ty.arr .u8 20) (Ty.prod (Ty.arr .u64 4) (Ty.prod (Ty.arr .u8 32) (Ty.arr .u8 32)))))))))) (Ty.prod (Ty.arr .u8 32) (Ty.prod (Ty.slice (Ty.arr .u8 32)) (Ty.slice (Ty.prod (Ty.arr .u8 20) (Ty.prod (Ty.int .u64) (Ty.prod Ty.bool (Ty.prod (Ty.int .u64) (Ty.prod (Ty.arr .u64 4) (Ty.prod (Ty.arr .u8 20) (Ty.prod (Ty.slice (Ty.prod (Ty.arr .u8 20) (Ty.prod (Ty.slice (Ty.arr .u64 4)) (Ty.slice (Ty.int .u8))))) (Ty.slice (Ty.int .u8))))))))))))) ch_0_0 x1))), (4, (.v (.pointer (some ⟨g115, 0, none⟩)))), (2, (.sl ch_2_0 (x3).length ch_2_1 (RdS (Ty.arr .u64 4) ch_2_0 x3)))] [Res.row (Ty.prod (Ty.arr .u8 20) (Ty.prod (Ty.slice (Ty.arr .u64 4)) (Ty.slice (Ty.int .u8)))) 38 A2 nn29 cp55 y42, Res.cells g115 34 [.ints .u8 x2 20]] a w ∧ bloom_Find.l1 k x1 x2 x3 q1 y42 y43 = some r) ?_ ?_ (k := k) ⟨_, none, 0, 0, ([] : List ((List Int) × (List (List Int)) × (List Int))), 0, g1, (S.sub ⟨rfl, rfl, rfl, rfl, rfl, rfl, trivial⟩ (.cons .here (.cons .here .nil))), h0⟩
  · rintro a w ⟨m, A2, nn29, cp55, y42, y43, g115, S, h0⟩
    exact (nomatch (show (none : Option ((List ((List Int) × (List (List Int)) × (List Int))))) = some r from h0))
  · clear S h0
    rintro q1 a w ⟨m, A2, nn29, cp55, y42, y43, g115, S, h0⟩
    replace h0 : bloom_Find.b1 k x1 x2 x3 (bloom_Find.l1 k x1 x2 x3 q1) y42 y43 = some r := h0
    delta bloom_Find.b1 at h0
    refine c_region ?_
    refine s_bin S rfl rfl rfl rfl ?_; clear S a; intro a S
    refine c_end ?_
    refine wp_seq ?_
    rcases ite_of h0 with ⟨c1, h1⟩ | ⟨c1, h1⟩ <;> clear h0
    · refine c_condT S rfl c1 ?_
      refine wp_skip ?_
      refine x_thenN ?_
      refine wp_seq_k ?_
      intro K2 hK2
      have j2 : ∀ (m : Mem) (A3 : Option Addr) (nn42 : Nat) (cp81 : Nat) (y62 : List ((List Int) × (List (List Int)) × (List Int))) (g142 : Nat) (a : Act) (w : World), St 61 m b0 [(7, (.v (.slice A3 nn42 cp81))), (16, (.v (.int .i64 y43))), (15, (.v (.int .i64 ((x1).length : Int)))), (14, (.sl ch_0_0 (x1).length ch_0_1 (RdS (Ty.prod (Ty.prod (Ty.arr .u8 32) (Ty.prod (Ty.int .u64) (Ty.prod (Ty.int .u64) (Ty.prod (Ty.int .u64) (Ty.prod (Ty.int .u64) (Ty.prod (Ty.arr .u64 4) (Ty.prod (Ty.arr .u8 20) (Ty.prod (Ty.arr .u64 4) (Ty.prod (Ty.arr .u8 32) (Ty.arr .u8 32)))))))))) (Ty.prod (Ty.arr .u8 32) (Ty.prod (Ty.slice (Ty.arr .u8 32)) (Ty.slice (Ty.prod (Ty.arr .u8 20) (Ty.prod (Ty.int .u64) (Ty.prod Ty.bool (Ty.prod (Ty.int .u64) (Ty.prod (Ty.arr .u64 4) (Ty.prod (Ty.arr .u8 20) (Ty.prod (Ty.slice (Ty.prod (Ty.arr .u8 20) (Ty.prod (Ty.slice (Ty.arr .u64 4)) (Ty.slice (Ty.int .u8))))) (Ty.slice (Ty.int .u8))))))))))))) ch_0_0 x1))), (4, (.v (.pointer (some ⟨g142, 0, none⟩)))), (2, (.sl ch_2_0 (x3).length ch_2_1 (RdS (Ty.arr .u64 4) ch_2_0 x3)))] [Res.row (Ty.prod (Ty.arr .u8 20) (Ty.prod (Ty.slice (Ty.arr .u64 4)) (Ty.slice (Ty.int .u8)))) 38 A3 nn42 cp81 y62, Res.cells g142 34 [.ints .u8 x2 20]] a w → bloom_Find.j2 y43 (bloom_Find.l1 k x1 x2 x3 q1) y62 = some r → K2 a w := by
        intro m A3 nn42 cp81 y62 g142 a w S h0
        delta bloom_Find.j2 at h0
        refine hK2 a w ?_
        refine c_region' ?_
        refine s_bin S rfl rfl rfl rfl ?_; clear S a; intro a S
        refine s_move S rfl rfl ?_; clear S a; intro a S
        refine c_end' ?_
        refine x_thenN ?_
        exact ⟨_, A3, nn42, cp81, y62, (wr .i64 (y43 + 1)), g142, (S.sub ⟨rfl, rfl, rfl, rfl, rfl, rfl, trivial⟩ (.cons .here (.cons .here .nil))), h0⟩
      refine wp_block ?_
      refine c_region ?_
      obtain ⟨c2, h2⟩ := chk_of h1; clear h1
      refine s_iaddrS S rfl rfl rfl Tryd.underlying48 T59 c2.1 c2.2 rfl ?_; clear S a; intro p1 a S
      refine s_ldA S (fun (c : (Unit × Unit × Unit × Unit × Unit × Unit × Unit × Unit × Unit × Unit) × Unit × (Option Addr × Nat) × (Option Addr × Nat)) => [.ints .u8 (((gt x1 y43).1).1) 32, .one (.int .u64 (((gt x1 y43).1).2.1)), .one (.int .u64 (((gt x1 y43).1).2.2.1)), .one (.int .u64 (((gt x1 y43).1).2.2.2.1)), .one (.int .u64 (((gt x1 y43).1).2.2.2.2.1)), .ints .u64 (((gt x1 y43).1).2.2.2.2.2.1) 4, .ints .u8 (((gt x1 y43).1).2.2.2.2.2.2.1) 20, .ints .u64 (((gt x1 y43).1).2.2.2.2.2.2.2.1) 4, .ints .u8 (((gt x1 y43).1).2.2.2.2.2.2.2.2.1) 32, .ints .u8 (((gt x1 y43).1).2.2.2.2.2.2.2.2.2) 32, .ints .u8 ((gt x1 y43).2.1) 32, .sl c.2.2.1.1 ((gt x1 y43).2.2.1).length c.2.2.1.2 (RdS (Ty.arr .u8 32) c.2.2.1.1 ((gt x1 y43).2.2.1)), .sl c.2.2.2.1 ((gt x1 y43).2.2.2).length c.2.2.2.2 (RdS (Ty.prod (Ty.arr .u8 20) (Ty.prod (Ty.int .u64) (Ty.prod Ty.bool (Ty.prod (Ty.int .u64) (Ty.prod (Ty.arr .u64 4) (Ty.prod (Ty.arr .u8 20) (Ty.prod (Ty.slice (Ty.prod (Ty.arr .u8 20) (Ty.prod (Ty.slice (Ty.arr .u64 4)) (Ty.slice (Ty.int .u8))))) (Ty.slice (Ty.int .u8))))))))) c.2.2.2.1 ((gt x1 y43).2.2.2))]) rfl T59 (fun _ => rfl) rfl ?_; clear S a; intro ch1 a S
      refine s_alloc S Z59 rfl ⟨rfl, rfl, rfl, rfl, rfl, rfl, rfl, rfl, rfl, rfl, rfl, rfl, rfl, trivial⟩ rfl ?_; clear S a w; intro g143 a w S
      refine s_store S rfl rfl rfl (s' := [.ints .u8 (((gt x1 y43).1).1) 32, .one (.int .u64 (((gt x1 y43).1).2.1)), .one (.int .u64 (((gt x1 y43).1).2.2.1)), .one (.int .u64 (((gt x1 y43).1).2.2.2.1)), .one (.int .u64 (((gt x1 y43).1).2.2.2.2.1)), .ints .u64 (((gt x1 y43).1).2.2.2.2.2.1) 4, .ints .u8 (((gt x1 y43).1).2.2.2.2.2.2.1) 20, .ints .u64 (((gt x1 y43).1).2.2.2.2.2.2.2.1) 4, .ints .u8 (((gt x1 y43).1).2.2.2.2.2.2.2.2.1) 32, .ints .u8 (((gt x1 y43).1).2.2.2.2.2.2.2.2.2) 32, .ints .u8 ((gt x1 y43).2.1) 32, .sl ch1.2.2.1.1 ((gt x1 y43).2.2.1).length ch1.2.2.1.2 (RdS (Ty.arr .u8 32) ch1.2.2.1.1 ((gt x1 y43).2.2.1)), .sl ch1.2.2.2.1 ((gt x1 y43).2.2.2).length ch1.2.2.2.2 (RdS (Ty.prod (Ty.arr .u8 20) (Ty.prod (Ty.int .u64) (Ty.prod Ty.bool (Ty.prod (Ty.int .u64) (Ty.prod (Ty.arr .u64 4) (Ty.prod (Ty.arr .u8 20) (Ty.prod (Ty.slice (Ty.prod (Ty.arr .u8 20) (Ty.prod (Ty.slice (Ty.arr .u64 4)) (Ty.slice (Ty.int .u8))))) (Ty.slice (Ty.int .u8))))))))) ch1.2.2.2.1 ((gt x1 y43).2.2.2))]) .here T59 rfl rfl ?_; clear S w; intro w S
      refine c_end ?_
      refine c_region ?_
      refine s_fieldAddr S rfl I59_3 T57 (by decide) rfl rfl ?_; clear S a; intro a S
      refine s_loadSl S rfl .here T57 (A := ch1.2.2.2.1) (len := ((gt x1 y43).2.2.2).length) (cap := ch1.2.2.2.2) rfl rfl ?_; clear S a; intro a S
      refine s_lenS S rfl Tryd.underlying57 rfl ?_; clear S a; intro a S
      refine s_move S rfl rfl ?_; clear S a; intro a S
      refine c_end ?_
      refine wp_block ?_
      refine c_loop (fun q2 a w => ∃ (m : Mem) (y79 : Int) (A4 : Option Addr) (cp105 : Nat) (A5 : Option Addr) (nn54 : Nat) (cp106 : Nat) (y80 : List ((List Int) × (List (List Int)) × (List Int))) (g168 : Nat), St 61 m b0 [(23, (.v (.int .i64 y79))), (22, (.v (.int .i64 (((gt x1 y43).2.2.2).length : Int)))), (21, (.sl A4 ((gt x1 y43).2.2.2).length cp105 (RdS (Ty.prod (Ty.arr .u8 20) (Ty.prod (Ty.int .u64) (Ty.prod Ty.bool (Ty.prod (Ty.int .u64) (Ty.prod (Ty.arr .u64 4) (Ty.prod (Ty.arr .u8 20) (Ty.prod (Ty.slice (Ty.prod (Ty.arr .u8 20) (Ty.prod (Ty.slice (Ty.arr .u64 4)) (Ty.slice (Ty.int .u8))))) (Ty.slice (Ty.int .u8))))))))) A4 ((gt x1 y43).2.2.2)))), (7, (.v (.slice A5 nn54 cp106))), (16, (.v (.int .i64 y43))), (15, (.v (.int .i64 ((x1).length : Int)))), (14, (.sl ch_0_0 (x1).length ch_0_1 (RdS (Ty.prod (Ty.prod (Ty.arr .u8 32) (Ty.prod (Ty.int .u64) (Ty.prod (Ty.int .u64) (Ty.prod (Ty.int .u64) (Ty.prod (Ty.int .u64) (Ty.prod (Ty.arr .u64 4) (Ty.prod (Ty.arr .u8 20) (Ty.prod (Ty.arr .u64 4) (Ty.prod (Ty.arr .u8 32) (Ty.arr .u8 32)))))))))) (Ty.prod (Ty.arr .u8 32) (Ty.prod (Ty.slice (Ty.arr .u8 32)) (Ty.slice (Ty.prod (Ty.arr .u8 20) (Ty.prod (Ty.int .u64) (Ty.prod Ty.bool (Ty.prod (Ty.int .u64) (Ty.prod (Ty.arr .u64 4) (Ty.prod (Ty.arr .u8 20) (Ty.prod (Ty.slice (Ty.prod (Ty.arr .u8 20) (Ty.prod (Ty.slice (Ty.arr .u64 4)) (Ty.slice (Ty.int .u8))))) (Ty.slice (Ty.int .u8))))))))))))) ch_0_0 x1))), (4, (.v (.pointer (some ⟨g168, 0, none⟩)))), (2, (.sl ch_2_0 (x3).length ch_2_1 (RdS (Ty.arr .u64 4) ch_2_0 x3)))] [Res.row (Ty.prod (Ty.arr .u8 20) (Ty.prod (Ty.slice (Ty.arr .u64 4)) (Ty.slice (Ty.int .u8)))) 38 A5 nn54 cp106 y80, Res.cells g168 34 [.ints .u8 x2 20]] a w ∧ bloom_Find.l2 k x1 x2 x3 y43 (bloom_Find.l1 k x1 x2 x3 q1) q2 y79 y80 = some r) ?_ ?_ (k := k) ⟨_, 0, ch1.2.2.2.1, ch1.2.2.2.2, A2, nn29, cp55, y42, g115, (S.sub ⟨rfl, rfl, rfl, rfl, rfl, rfl, rfl, rfl, rfl, trivial⟩ (.cons (.there .here) (.cons (.there .here) .nil))), h2⟩
      · rintro a w ⟨m, y79, A4, cp105, A5, nn54, cp106, y80, g168, S, h0⟩
        exact (nomatch (show (none : Option ((List ((List Int) × (List (List Int)) × (List Int))))) = some r from h0))
      · clear S h2
        rintro q2 a w ⟨m, y79, A4, cp105, A5, nn54, cp106, y80, g168, S, h0⟩
        replace h0 : bloom_Find.b2 k x1 x2 x3 y43 (bloom_Find.l1 k x1 x2 x3 q1) (bloom_Find.l2 k x1 x2 x3 y43 (bloom_Find.l1 k x1 x2 x3 q1) q2) y79 y80 = some r := h0
        delta bloom_Find.b2 at h0
        refine c_region ?_
        refine s_bin S rfl rfl rfl rfl ?_; clear S a; intro a S
        refine c_end ?_
        refine wp_seq ?_
        rcases ite_of h0 with ⟨c3, h1⟩ | ⟨c3, h1⟩ <;> clear h0
        · refine c_condT S rfl c3 ?_
          refine wp_skip ?_
          refine x_thenN ?_
          refine wp_seq_k ?_
          intro K3 hK3
          have j3 : ∀ (m : Mem) (A6 : Option Addr) (nn59 : Nat) (cp116 : Nat) (y87 : List ((List Int) × (List (List Int)) × (List Int))) (g179 : Nat) (a : Act) (w : World), St 61 m b0 [(23, (.v (.int .i64 y79))), (22, (.v (.int .i64 (((gt x1 y43).2.2.2).length : Int)))), (21, (.sl A4 ((gt x1 y43).2.2.2).length cp105 (RdS (Ty.prod (Ty.arr .u8 20) (Ty.prod (Ty.int .u64) (Ty.prod Ty.bool (Ty.prod (Ty.int .u64) (Ty.prod (Ty.arr .u64 4) (Ty.prod (Ty.arr .u8 20) (Ty.prod (Ty.slice (Ty.prod (Ty.arr .u8 20) (Ty.prod (Ty.slice (Ty.arr .u64 4)) (Ty.slice (Ty.int .u8))))) (Ty.slice (Ty.int .u8))))))))) A4 ((gt x1 y43).2.2.2)))), (7, (.v (.slice A6 nn59 cp116))), (16, (.v (.int .i64 y43))), (15, (.v (.int .i64 ((x1).length : Int)))), (14, (.sl ch_0_0 (x1).length ch_0_1 (RdS (Ty.prod (Ty.prod (Ty.arr .u8 32) (Ty.prod (Ty.int .u64) (Ty.prod (Ty.int .u64) (Ty.prod (Ty.int .u64) (Ty.prod (Ty.int .u64) (Ty.prod (Ty.arr .u64 4) (Ty.prod (Ty.arr .u8 20) (Ty.prod (Ty.arr .u64 4) (Ty.prod (Ty.arr .u8 32) (Ty.arr .u8 32)))))))))) (Ty.prod (Ty.arr .u8 32) (Ty.prod (Ty.slice (Ty.arr .u8 32)) (Ty.slice (Ty.prod (Ty.arr .u8 20) (Ty.prod (Ty.int .u64) (Ty.prod Ty.bool (Ty.prod (Ty.int .u64) (Ty.prod (Ty.arr .u64 4) (Ty.prod (Ty.arr .u8 20) (Ty.prod (Ty.slice (Ty.prod (Ty.arr .u8 20) (Ty.prod (Ty.slice (Ty.arr .u64 4)) (Ty.slice (Ty.int .u8))))) (Ty.slice (Ty.int .u8))))))))))))) ch_0_0 x1))), (4, (.v (.pointer (some ⟨g179, 0, none⟩)))), (2, (.sl ch_2_0 (x3).length ch_2_1 (RdS (Ty.arr .u64 4) ch_2_0 x3)))] [Res.row (Ty.prod (Ty.arr .u8 20) (Ty.prod (Ty.slice (Ty.arr .u64 4)) (Ty.slice (Ty.int .u8)))) 38 A6 nn59 cp116 y87, Res.cells g179 34 [.ints .u8 x2 20]] a w → bloom_Find.j3 y79 (bloom_Find.l2 k x1 x2 x3 y43 (bloom_Find.l1 k x1 x2 x3 q1) q2) y87 = some r → K3 a w := by
            intro m A6 nn59 cp116 y87 g179 a w S h0
            delta bloom_Find.j3 at h0
            refine hK3 a w ?_
            refine c_region' ?_
            refine s_bin S rfl rfl rfl rfl ?_; clear S a; intro a S
            refine s_move S rfl rfl ?_; clear S a; intro a S
            refine c_end' ?_
            refine x_thenN ?_
            exact ⟨_, (wr .i64 (y79 + 1)), A4, cp105, A6, nn59, cp116, y87, g179, (S.sub ⟨rfl, rfl, rfl, rfl, rfl, rfl, rfl, rfl, rfl, trivial⟩ (.cons .here (.cons .here .nil))), h0⟩
          refine wp_block ?_
          refine c_region ?_
          obtain ⟨c4, h2⟩ := chk_of h1; clear h1
          refine s_iaddrS S rfl rfl rfl Tryd.underlying57 T61 c4.1 c4.2 rfl ?_; clear S a; intro p3 a S
          refine s_ldA S (fun (c : Unit × Unit × Unit × Unit × Unit × Unit × (Option Addr × Nat) × (Option Addr × Nat)) => [.ints .u8 ((gt ((gt x1 y43).2.2.2) y79).1) 20, .one (.int .u64 ((gt ((gt x1 y43).2.2.2) y79).2.1)), .one (.bool ((gt ((gt x1 y43).2.2.2) y79).2.2.1)), .one (.int .u64 ((gt ((gt x1 y43).2.2.2) y79).2.2.2.1)), .ints .u64 ((gt ((gt x1 y43).2.2.2) y79).2.2.2.2.1) 4, .ints .u8 ((gt ((gt x1 y43).2.2.2) y79).2.2.2.2.2.1) 20, .sl c.2.2.2.2.2.2.1.1 ((gt ((gt x1 y43).2.2.2) y79).2.2.2.2.2.2.1).length c.2.2.2.2.2.2.1.2 (RdS (Ty.prod (Ty.arr .u8 20) (Ty.prod (Ty.slice (Ty.arr .u64 4)) (Ty.slice (Ty.int .u8)))) c.2.2.2.2.2.2.1.1 ((gt ((gt x1 y43).2.2.2) y79).2.2.2.2.2.2.1)), .sl c.2.2.2.2.2.2.2.1 ((gt ((gt x1 y43).2.2.2) y79).2.2.2.2.2.2.2).length c.2.2.2.2.2.2.2.2 (RdS (Ty.int .u8) c.2.2.2.2.2.2.2.1 ((gt ((gt x1 y43).2.2.2) y79).2.2.2.2.2.2.2))]) rfl T61 (fun _ => rfl) rfl ?_; clear S a; intro ch3 a S
          refine s_alloc S Z61 rfl ⟨rfl, rfl, rfl, rfl, rfl, rfl, rfl, rfl, trivial⟩ rfl ?_; clear S a w; intro g180 a w S
          refine s_store S rfl rfl rfl (s' := [.ints .u8 ((gt ((gt x1 y43).2.2.2) y79).1) 20, .one (.int .u64 ((gt ((gt x1 y43).2.2.2) y79).2.1)), .one (.bool ((gt ((gt x1 y43).2.2.2) y79).2.2.1)), .one (.int .u64 ((gt ((gt x1 y43).2.2.2) y79).2.2.2.1)), .ints .u64 ((gt ((gt x1 y43).2.2.2) y79).2.2.2.2.1) 4, .ints .u8 ((gt ((gt x1 y43).2.2.2) y79).2.2.2.2.2.1) 20, .sl ch3.2.2.2.2.2.2.1.1 ((gt ((gt x1 y43).2.2.2) y79).2.2.2.2.2.2.1).length ch3.2.2.2.2.2.2.1.2 (RdS (Ty.prod (Ty.arr .u8 20) (Ty.prod (Ty.slice (Ty.arr .u64 4)) (Ty.slice (Ty.int .u8)))) ch3.2.2.2.2.2.2.1.1 ((gt ((gt x1 y43).2.2.2) y79).2.2.2.2.2.2.1)), .sl ch3.2.2.2.2.2.2.2.1 ((gt ((gt x1 y43).2.2.2) y79).2.2.2.2.2.2.2).length ch3.2.2.2.2.2.2.2.2 (RdS (Ty.int .u8) ch3.2.2.2.2.2.2.2.1 ((gt ((gt x1 y43).2.2.2) y79).2.2.2.2.2.2.2))]) .here T61 rfl rfl ?_; clear S w; intro w S
          refine c_end ?_
          refine wp_seq ?_
          refine wp_seq (c_heldS S (.take 0 (.take 1 (.take 3 (.take 4 (.alts (.run 2 true (.alts (.run 5 true (.take 6 .done) .nil)) .nil)))))) 7 [Res.cells g180 61 [.ints .u8 ((gt ((gt x1 y43).2.2.2) y79).1) 20, .one (.int .u64 ((gt ((gt x1 y43).2.2.2) y79).2.1)), .one (.bool ((gt ((gt x1 y43).2.2.2) y79).2.2.1)), .one (.int .u64 ((gt ((gt x1 y43).2.2.2) y79).2.2.2.1)), .ints .u64 ((gt ((gt x1 y43).2.2.2) y79).2.2.2.2.1) 4, .ints .u8 ((gt ((gt x1 y43).2.2.2) y79).2.2.2.2.2.1) 20, .sl ch3.2.2.2.2.2.2.1.1 ((gt ((gt x1 y43).2.2.2) y79).2.2.2.2.2.2.1).length ch3.2.2.2.2.2.2.1.2 (RdS (Ty.prod (Ty.arr .u8 20) (Ty.prod (Ty.slice (Ty.arr .u64 4)) (Ty.slice (Ty.int .u8)))) ch3.2.2.2.2.2.2.1.1 ((gt ((gt x1 y43).2.2.2) y79).2.2.2.2.2.2.1)), .sl ch3.2.2.2.2.2.2.2.1 ((gt ((gt x1 y43).2.2.2) y79).2.2.2.2.2.2.2).length ch3.2.2.2.2.2.2.2.2 (RdS (Ty.int .u8) ch3.2.2.2.2.2.2.2.1 ((gt ((gt x1 y43).2.2.2) y79).2.2.2.2.2.2.2))], Res.cells g168 34 [.ints .u8 x2 20]] (.cons .here (.cons (.there .here) .nil)) ⟨Res.stay_cells, Res.stay_cells, trivial⟩ [(11, (.v (.pointer (some ⟨g180, 0, none⟩)))), (4, (.v (.pointer (some ⟨g168, 0, none⟩)))), (2, (.sl ch_2_0 (x3).length ch_2_1 (RdS (Ty.arr .u64 4) ch_2_0 x3)))] ⟨rfl, rfl, rfl, trivial⟩ (by kernel_rfl) (by kernel_rfl) ?_); clear S; intro w S CL hw le
          refine h_fieldAddr S CL hw le ⟨rfl, rfl, rfl, trivial⟩ rfl I61_6 T22 (by decide) rfl rfl rfl trivial ?_; clear S CL a; intro a S CL
          refine h_loadSl S CL hw le ⟨rfl, rfl, rfl, rfl, trivial⟩ rfl .here T22 (A := ch3.2.2.2.2.2.2.1.1) (len := ((gt ((gt x1 y43).2.2.2) y79).2.2.2.2.2.2.1).length) (cap := ch3.2.2.2.2.2.2.1.2) rfl rfl rfl trivial ?_; clear S CL a; intro a S CL
          refine h_loada S CL hw le ⟨rfl, rfl, rfl, rfl, rfl, trivial⟩ rfl (.there .here) T34 (s' := [.ints .u8 x2 20]) rfl rfl rfl trivial ?_; clear S CL a; intro a S CL
          refine h_move S CL hw le ⟨rfl, rfl, rfl, rfl, rfl, rfl, trivial⟩ rfl rfl rfl trivial ?_; clear S CL a; intro a S CL
          refine h_run' S rfl trivial ?_
          obtain ⟨t1, et1, h3⟩ := bind_of h2; clear h2
          refine s_callP S (fun (ch : Unit) => ((.agg [.ints .u8 t1 256]) : D)) N11 rfl rfl (bloom_Of.ok k ((gt ((gt x1 y43).2.2.2) y79).2.2.2.2.2.2.1) ch3.2.2.2.2.2.2.1.1 ch3.2.2.2.2.2.2.1.2 t1 et1 _ _ (G.mono (S.leB hb))) ?_; clear S a; intro ch4 m le1 a w S
          replace le := le.trans le1
          replace hw := CL.again hw S (.cons .here (.cons (.there .here) .nil)) le
          refine h_back ⟨fun _ => hw, ?_⟩
          refine h_run' S rfl trivial ?_
          obtain ⟨t2, et2, h4⟩ := bind_of h3; clear h3
          refine s_callP S (fun (ch : Unit) => ((.v (.bool t2)) : D)) N30 rfl rfl (bloom_may.ok k t1 x2 x3 ch_2_0 ch_2_1 t2 et2 _ _ (G.mono (S.leB hb))) ?_; clear S a; intro ch5 m le1 a w S
          replace le := le.trans le1
          replace hw := CL.again hw S (.cons .here (.cons (.there .here) .nil)) le
          refine h_back ⟨fun _ => hw, ?_⟩
          replace CL := CL.add (t := 32) (d := (.v (.bool t2))) S rfl rfl
          refine h_not S CL hw le ⟨rfl, rfl, rfl, rfl, rfl, rfl, rfl, rfl, trivial⟩ rfl rfl rfl trivial ?_; clear S CL a; intro a S CL
          refine h_done ?_; clear CL hw le
          refine x_thenN ?_
          rcases ite_of h4 with ⟨c5, h5⟩ | ⟨c5, h5⟩ <;> clear h4
          · refine c_condT S rfl c5 ?_
            refine wp_exit ?_
            refine x_thenX ?_
            refine x_blockX ?_
            refine x_thenN ?_
            exact j3 _ A5 nn54 cp106 y80 g168 a w (S.sub ⟨rfl, rfl, rfl, rfl, rfl, rfl, rfl, rfl, rfl, trivial⟩ (.cons (.there .here) (.cons (.there .here) .nil))) h5
          · refine c_condF S rfl c5 ?_
            refine wp_skip ?_
            refine x_thenN ?_
            refine c_region ?_
            refine s_fieldAddr S rfl I61_6 T22 (by decide) rfl rfl ?_; clear S a; intro a S
            refine s_loadSl S rfl .here T22 (A := ch3.2.2.2.2.2.2.1.1) (len := ((gt ((gt x1 y43).2.2.2) y79).2.2.2.2.2.2.1).length) (cap := ch3.2.2.2.2.2.2.1.2) rfl rfl ?_; clear S a; intro a S
            refine s_lenS S rfl Tryd.underlying22 rfl ?_; clear S a; intro a S
            refine s_move S rfl rfl ?_; clear S a; intro a S
            refine c_end ?_
            refine wp_block ?_
            refine c_loop (fun q3 a w => ∃ (m : Mem) (y92 : Int) (A7 : Option Addr) (cp124 : Nat) (A8 : Option Addr) (nn63 : Nat) (cp125 : Nat) (y93 : List ((List Int) × (List (List Int)) × (List Int))) (g189 : Nat), St 61 m b0 [(37, (.v (.int .i64 y92))), (36, (.v (.int .i64 (((gt ((gt x1 y43).2.2.2) y79).2.2.2.2.2.2.1).length : Int)))), (35, (.sl A7 ((gt ((gt x1 y43).2.2.2) y79).2.2.2.2.2.2.1).length cp124 (RdS (Ty.prod (Ty.arr .u8 20) (Ty.prod (Ty.slice (Ty.arr .u64 4)) (Ty.slice (Ty.int .u8)))) A7 ((gt ((gt x1 y43).2.2.2) y79).2.2.2.2.2.2.1)))), (23, (.v (.int .i64 y79))), (22, (.v (.int .i64 (((gt x1 y43).2.2.2).length : Int)))), (21, (.sl A4 ((gt x1 y43).2.2.2).length cp105 (RdS (Ty.prod (Ty.arr .u8 20) (Ty.prod (Ty.int .u64) (Ty.prod Ty.bool (Ty.prod (Ty.int .u64) (Ty.prod (Ty.arr .u64 4) (Ty.prod (Ty.arr .u8 20) (Ty.prod (Ty.slice (Ty.prod (Ty.arr .u8 20) (Ty.prod (Ty.slice (Ty.arr .u64 4)) (Ty.slice (Ty.int .u8))))) (Ty.slice (Ty.int .u8))))))))) A4 ((gt x1 y43).2.2.2)))), (7, (.v (.slice A8 nn63 cp125))), (16, (.v (.int .i64 y43))), (15, (.v (.int .i64 ((x1).length : Int)))), (14, (.sl ch_0_0 (x1).length ch_0_1 (RdS (Ty.prod (Ty.prod (Ty.arr .u8 32) (Ty.prod (Ty.int .u64) (Ty.prod (Ty.int .u64) (Ty.prod (Ty.int .u64) (Ty.prod (Ty.int .u64) (Ty.prod (Ty.arr .u64 4) (Ty.prod (Ty.arr .u8 20) (Ty.prod (Ty.arr .u64 4) (Ty.prod (Ty.arr .u8 32) (Ty.arr .u8 32)))))))))) (Ty.prod (Ty.arr .u8 32) (Ty.prod (Ty.slice (Ty.arr .u8 32)) (Ty.slice (Ty.prod (Ty.arr .u8 20) (Ty.prod (Ty.int .u64) (Ty.prod Ty.bool (Ty.prod (Ty.int .u64) (Ty.prod (Ty.arr .u64 4) (Ty.prod (Ty.arr .u8 20) (Ty.prod (Ty.slice (Ty.prod (Ty.arr .u8 20) (Ty.prod (Ty.slice (Ty.arr .u64 4)) (Ty.slice (Ty.int .u8))))) (Ty.slice (Ty.int .u8))))))))))))) ch_0_0 x1))), (4, (.v (.pointer (some ⟨g189, 0, none⟩)))), (2, (.sl ch_2_0 (x3).length ch_2_1 (RdS (Ty.arr .u64 4) ch_2_0 x3)))] [Res.row (Ty.prod (Ty.arr .u8 20) (Ty.prod (Ty.slice (Ty.arr .u64 4)) (Ty.slice (Ty.int .u8)))) 38 A8 nn63 cp125 y93, Res.cells g189 34 [.ints .u8 x2 20]] a w ∧ bloom_Find.l3 k x1 x2 x3 y43 y79 (bloom_Find.l2 k x1 x2 x3 y43 (bloom_Find.l1 k x1 x2 x3 q1) q2) q3 y92 y93 = some r) ?_ ?_ (k := k) ⟨_, 0, ch3.2.2.2.2.2.2.1.1, ch3.2.2.2.2.2.2.1.2, A5, nn54, cp106, y80, g168, (S.sub ⟨rfl, rfl, rfl, rfl, rfl, rfl, rfl, rfl, rfl, rfl, rfl, rfl, trivial⟩ (.cons (.there .here) (.cons (.there .here) .nil))), h5⟩
            · rintro a w ⟨m, y92, A7, cp124, A8, nn63, cp125, y93, g189, S, h0⟩
              exact (nomatch (show (none : Option ((List ((List Int) × (List (List Int)) × (List Int))))) = some r from h0))
            · clear S h5
              rintro q3 a w ⟨m, y92, A7, cp124, A8, nn63, cp125, y93, g189, S, h0⟩
              replace h0 : bloom_Find.b3 k x1 x2 x3 y43 y79 (bloom_Find.l2 k x1 x2 x3 y43 (bloom_Find.l1 k x1 x2 x3 q1) q2) (bloom_Find.l3 k x1 x2 x3 y43 y79 (bloom_Find.l2 k x1 x2 x3 y43 (bloom_Find.l1 k x1 x2 x3 q1) q2) q3) y92 y93 = some r := h0
              delta bloom_Find.b3 at h0
              refine c_region ?_
              refine s_bin S rfl rfl rfl rfl ?_; clear S a; intro a S
              refine c_end ?_
              refine wp_seq ?_
              rcases ite_of h0 with ⟨c6, h1⟩ | ⟨c6, h1⟩ <;> clear h0
              · refine c_condT S rfl c6 ?_
                refine wp_skip ?_
                refine x_thenN ?_
                refine wp_seq_k ?_
                intro K4 hK4
                have j4 : ∀ (m : Mem) (A9 : Option Addr) (nn64 : Nat) (cp127 : Nat) (y94 : List ((List Int) × (List (List Int)) × (List Int))) (g192 : Nat) (a : Act) (w : World), St 61 m b0 [(7, (.v (.slice A9 nn64 cp127))), (37, (.v (.int .i64 y92))), (36, (.v (.int .i64 (((gt ((gt x1 y43).2.2.2) y79).2.2.2.2.2.2.1).length : Int)))), (35, (.sl A7 ((gt ((gt x1 y43).2.2.2) y79).2.2.2.2.2.2.1).length cp124 (RdS (Ty.prod (Ty.arr .u8 20) (Ty.prod (Ty.slice (Ty.arr .u64 4)) (Ty.slice (Ty.int .u8)))) A7 ((gt ((gt x1 y43).2.2.2) y79).2.2.2.2.2.2.1)))), (23, (.v (.int .i64 y79))), (22, (.v (.int .i64 (((gt x1 y43).2.2.2).length : Int)))), (21, (.sl A4 ((gt x1 y43).2.2.2).length cp105 (RdS (Ty.prod (Ty.arr .u8 20) (Ty.prod (Ty.int .u64) (Ty.prod Ty.bool (Ty.prod (Ty.int .u64) (Ty.prod (Ty.arr .u64 4) (Ty.prod (Ty.arr .u8 20) (Ty.prod (Ty.slice (Ty.prod (Ty.arr .u8 20) (Ty.prod (Ty.slice (Ty.arr .u64 4)) (Ty.slice (Ty.int .u8))))) (Ty.slice (Ty.int .u8))))))))) A4 ((gt x1 y43).2.2.2)))), (16, (.v (.int .i64 y43))), (15, (.v (.int .i64 ((x1).length : Int)))), (14, (.sl ch_0_0 (x1).length ch_0_1 (RdS (Ty.prod (Ty.prod (Ty.arr .u8 32) (Ty.prod (Ty.int .u64) (Ty.prod (Ty.int .u64) (Ty.prod (Ty.int .u64) (Ty.prod (Ty.int .u64) (Ty.prod (Ty.arr .u64 4) (Ty.prod (Ty.arr .u8 20) (Ty.prod (Ty.arr .u64 4) (Ty.prod (Ty.arr .u8 32) (Ty.arr .u8 32)))))))))) (Ty.prod (Ty.arr .u8 32) (Ty.prod (Ty.slice (Ty.arr .u8 32)) (Ty.slice (Ty.prod (Ty.arr .u8 20) (Ty.prod (Ty.int .u64) (Ty.prod Ty.bool (Ty.prod (Ty.int .u64) (Ty.prod (Ty.arr .u64 4) (Ty.prod (Ty.arr .u8 20) (Ty.prod (Ty.slice (Ty.prod (Ty.arr .u8 20) (Ty.prod (Ty.slice (Ty.arr .u64 4)) (Ty.slice (Ty.int .u8))))) (Ty.slice (Ty.int .u8))))))))))))) ch_0_0 x1))), (4, (.v (.pointer (some ⟨g192, 0, none⟩)))), (2, (.sl ch_2_0 (x3).length ch_2_1 (RdS (Ty.arr .u64 4) ch_2_0 x3)))] [Res.row (Ty.prod (Ty.arr .u8 20) (Ty.prod (Ty.slice (Ty.arr .u64 4)) (Ty.slice (Ty.int .u8)))) 38 A9 nn64 cp127 y94, Res.cells g192 34 [.ints .u8 x2 20]] a w → bloom_Find.j4 y92 (bloom_Find.l3 k x1 x2 x3 y43 y79 (bloom_Find.l2 k x1 x2 x3 y43 (bloom_Find.l1 k x1 x2 x3 q1) q2) q3) y94 = some r → K4 a w := by
                  intro m A9 nn64 cp127 y94 g192 a w S h0
                  delta bloom_Find.j4 at h0
                  refine hK4 a w ?_
                  refine c_region' ?_
                  refine s_bin S rfl rfl rfl rfl ?_; clear S a; intro a S
                  refine s_move S rfl rfl ?_; clear S a; intro a S
                  refine c_end' ?_
                  refine x_thenN ?_
                  exact ⟨_, (wr .i64 (y92 + 1)), A7, cp124, A9, nn64, cp127, y94, g192, (S.sub ⟨rfl, rfl, rfl, rfl, rfl, rfl, rfl, rfl, rfl, rfl, rfl, rfl, trivial⟩ (.cons .here (.cons .here .nil))), h0⟩
                refine wp_block ?_
                refine c_region ?_
                obtain ⟨c7, h2⟩ := chk_of h1; clear h1
                refine s_iaddrS S rfl rfl rfl Tryd.underlying22 T38 c7.1 c7.2 rfl ?_; clear S a; intro p5 a S
                refine s_ldA S (fun (c : Unit × (Option Addr × Nat) × (Option Addr × Nat)) => [.ints .u8 ((gt ((gt ((gt x1 y43).2.2.2) y79).2.2.2.2.2.2.1) y92).1) 20, .sl c.2.1.1 ((gt ((gt ((gt x1 y43).2.2.2) y79).2.2.2.2.2.2.1) y92).2.1).length c.2.1.2 (RdS (Ty.arr .u64 4) c.2.1.1 ((gt ((gt ((gt x1 y43).2.2.2) y79).2.2.2.2.2.2.1) y92).2.1)), .sl c.2.2.1 ((gt ((gt ((gt x1 y43).2.2.2) y79).2.2.2.2.2.2.1) y92).2.2).length c.2.2.2 (RdS (Ty.int .u8) c.2.2.1 ((gt ((gt ((gt x1 y43).2.2.2) y79).2.2.2.2.2.2.1) y92).2.2))]) rfl T38 (fun _ => rfl) rfl ?_; clear S a; intro ch10 a S
                refine s_alloc S Z38 rfl ⟨rfl, rfl, rfl, trivial⟩ rfl ?_; clear S a w; intro g193 a w S
                refine s_store S rfl rfl rfl (s' := [.ints .u8 ((gt ((gt ((gt x1 y43).2.2.2) y79).2.2.2.2.2.2.1) y92).1) 20, .sl ch10.2.1.1 ((gt ((gt ((gt x1 y43).2.2.2) y79).2.2.2.2.2.2.1) y92).2.1).length ch10.2.1.2 (RdS (Ty.arr .u64 4) ch10.2.1.1 ((gt ((gt ((gt x1 y43).2.2.2) y79).2.2.2.2.2.2.1) y92).2.1)), .sl ch10.2.2.1 ((gt ((gt ((gt x1 y43).2.2.2) y79).2.2.2.2.2.2.1) y92).2.2).length ch10.2.2.2 (RdS (Ty.int .u8) ch10.2.2.1 ((gt ((gt ((gt x1 y43).2.2.2) y79).2.2.2.2.2.2.1) y92).2.2))]) .here T38 rfl rfl ?_; clear S w; intro w S
                refine c_end ?_
                refine c_region ?_
                refine s_loada S rfl .here T38 (s' := [.ints .u8 ((gt ((gt ((gt x1 y43).2.2.2) y79).2.2.2.2.2.2.1) y92).1) 20, .sl ch10.2.1.1 ((gt ((gt ((gt x1 y43).2.2.2) y79).2.2.2.2.2.2.1) y92).2.1).length ch10.2.1.2 (RdS (Ty.arr .u64 4) ch10.2.1.1 ((gt ((gt ((gt x1 y43).2.2.2) y79).2.2.2.2.2.2.1) y92).2.1)), .sl ch10.2.2.1 ((gt ((gt ((gt x1 y43).2.2.2) y79).2.2.2.2.2.2.1) y92).2.2).length ch10.2.2.2 (RdS (Ty.int .u8) ch10.2.2.1 ((gt ((gt ((gt x1 y43).2.2.2) y79).2.2.2.2.2.2.1) y92).2.2))]) rfl rfl ?_; clear S a; intro a S
                refine s_loada S rfl (.there (.there .here)) T34 (s' := [.ints .u8 x2 20]) rfl rfl ?_; clear S a; intro a S
                refine s_move S rfl rfl ?_; clear S a; intro a S
                obtain ⟨t6, et6, h3⟩ := bind_of h2; clear h2
                refine s_callP S (fun (ch : Unit) => ((.v (.bool t6)) : D)) N31 rfl rfl (bloom_fits.ok k ((gt ((gt ((gt x1 y43).2.2.2) y79).2.2.2.2.2.2.1) y92).1, (gt ((gt ((gt x1 y43).2.2.2) y79).2.2.2.2.2.2.1) y92).2.1, (gt ((gt ((gt x1 y43).2.2.2) y79).2.2.2.2.2.2.1) y92).2.2) x2 x3 ch10.2.1.1 ch10.2.1.2 ch10.2.2.1 ch10.2.2.2 ch_2_0 ch_2_1 t6 et6 _ _) ?_; clear S a w; intro ch11 m le1 a w S
                refine c_end ?_
                rcases ite_of h3 with ⟨c8, h4⟩ | ⟨c8, h4⟩ <;> clear h3
                · refine c_condT S rfl c8 ?_
                  refine c_heldS S (.take 1 (.take 2 (.take 3 (.take 4 (.take 6 (.take 7 (.alts (.run 0 true (.alts (.run 5 true (.alts (.run 8 true (.take 9 (.alts (.run 10 true (.alts (.run 11 true (.take 12 .done) .nil)) .nil))) .nil)) .nil)) (.run 5 true (.alts (.run 0 true (.alts (.run 8 true (.take 9 (.alts (.run 10 true (.alts (.run 11 true (.take 12 .done) .nil)) .nil))) .nil)) (.run 8 true (.take 9 (.alts (.run 0 true (.alts (.run 10 true (.alts (.run 11 true (.take 12 .done) .nil)) .nil)) (.run 10 true (.alts (.run 0 true (.alts (.run 11 true (.take 12 .done) .nil)) .nil)) .nil)))) .nil))) .nil))))))))) 13 [Res.cells g193 38 [.ints .u8 ((gt ((gt ((gt x1 y43).2.2.2) y79).2.2.2.2.2.2.1) y92).1) 20, .sl ch10.2.1.1 ((gt ((gt ((gt x1 y43).2.2.2) y79).2.2.2.2.2.2.1) y92).2.1).length ch10.2.1.2 (RdS (Ty.arr .u64 4) ch10.2.1.1 ((gt ((gt ((gt x1 y43).2.2.2) y79).2.2.2.2.2.2.1) y92).2.1)), .sl ch10.2.2.1 ((gt ((gt ((gt x1 y43).2.2.2) y79).2.2.2.2.2.2.1) y92).2.2).length ch10.2.2.2 (RdS (Ty.int .u8) ch10.2.2.1 ((gt ((gt ((gt x1 y43).2.2.2) y79).2.2.2.2.2.2.1) y92).2.2))], Res.cells g189 34 [.ints .u8 x2 20]] (.cons .here (.cons (.there .here) .nil)) ⟨Res.stay_cells, Res.stay_cells, trivial⟩ [(13, (.v (.pointer (some ⟨g193, 0, none⟩))))] ⟨rfl, trivial⟩ (by kernel_rfl) (by kernel_rfl) ?_; clear S; intro w S CL hw le
                  refine h_fieldAddr S CL hw le ⟨rfl, trivial⟩ rfl I38_0 T34 (by decide) rfl rfl rfl trivial ?_; clear S CL a; intro a S CL
                  refine h_loada S CL hw le ⟨rfl, rfl, trivial⟩ rfl .here T34 (s' := [.ints .u8 ((gt ((gt ((gt x1 y43).2.2.2) y79).2.2.2.2.2.2.1) y92).1) 20]) rfl rfl rfl trivial ?_; clear S CL a; intro a S CL
                  refine h_fieldAddr S CL hw le ⟨rfl, rfl, rfl, trivial⟩ rfl I38_1 T35 (by decide) rfl rfl rfl trivial ?_; clear S CL a; intro a S CL
                  refine h_loadSl S CL hw le ⟨rfl, rfl, rfl, rfl, trivial⟩ rfl .here T35 (A := ch10.2.1.1) (len := ((gt ((gt ((gt x1 y43).2.2.2) y79).2.2.2.2.2.2.1) y92).2.1).length) (cap := ch10.2.1.2) rfl rfl rfl trivial ?_; clear S CL a; intro a S CL
                  refine h_fieldAddr S CL hw le ⟨rfl, rfl, rfl, rfl, rfl, trivial⟩ rfl I38_2 T36 (by decide) rfl rfl rfl trivial ?_; clear S CL a; intro a S CL
                  refine h_loadSl S CL hw le ⟨rfl, rfl, rfl, rfl, rfl, rfl, trivial⟩ rfl .here T36 (A := ch10.2.2.1) (len := ((gt ((gt ((gt x1 y43).2.2.2) y79).2.2.2.2.2.2.1) y92).2.2).length) (cap := ch10.2.2.2) rfl rfl rfl trivial ?_; clear S CL a; intro a S CL
                  obtain ⟨t7, et7, h5⟩ := bind_of h4; clear h4
                  obtain ⟨t8, et8, h6⟩ := bind_of h5; clear h5
                  obtain ⟨c9, h7⟩ := chk_of h6; clear h6
                  refine h_alts ?_
                  refine h_runO S rfl trivial ?_ ?_
                  · refine s_move S rfl rfl ?_; clear S a; intro a S
                    replace hw := CL.again hw S (.cons .here (.cons (.there .here) .nil)) le
                    refine h_back ⟨fun _ => hw, ?_⟩
                    refine h_run' S rfl trivial ?_
                    refine s_callR S (fun (ch : (Option Addr) × Nat × Nat) => ((.v (.slice ch.1 ch.2.1 ch.2.2)) : D)) (fun (ch : (Option Addr) × Nat × Nat) => Res.row (Ty.arr .u64 4) 53 ch.1 ch.2.1 ch.2.2 t7) N32 rfl rfl (api_Word_n32.ok ((gt ((gt ((gt x1 y43).2.2.2) y79).2.2.2.2.2.2.1) y92).2.1) ch10.2.1.1 ch10.2.1.2 t7 et7 _ _) ?_; clear S a; intro ch12 m le1 a w S
                    replace le := le.trans le1
                    replace hw := CL.again hw S (.cons (.there .here) (.cons (.there (.there .here)) .nil)) le
                    refine h_back ⟨fun _ => hw, ?_⟩
                    replace CL := CL.add (t := 50) (d := (.v (.slice ch12.1 ch12.2.1 ch12.2.2))) S rfl rfl
                    refine h_run' S rfl trivial ?_
                    refine s_callR S (fun (ch : (Option Addr) × Nat × Nat) => ((.v (.slice ch.1 ch.2.1 ch.2.2)) : D)) (fun (ch : (Option Addr) × Nat × Nat) => Res.row (Ty.int .u8) 5 ch.1 ch.2.1 ch.2.2 t8) N33 rfl rfl (slices_Clone_byte_byte.ok ((gt ((gt ((gt x1 y43).2.2.2) y79).2.2.2.2.2.2.1) y92).2.2) ch10.2.2.1 ch10.2.2.2 t8 et8 _ _) ?_; clear S a; intro ch13 m le1 a w S
                    replace le := le.trans le1
                    replace hw := CL.again hw S (.cons (.there (.there .here)) (.cons (.there (.there (.there .here))) .nil)) le
                    refine h_back ⟨fun _ => hw, ?_⟩
                    replace CL := CL.add (t := 53) (d := (.v (.slice ch13.1 ch13.2.1 ch13.2.2))) S rfl rfl
                    refine h_bldS S CL hw le ⟨rfl, rfl, rfl, rfl, rfl, rfl, rfl, rfl, rfl, trivial⟩ (ds := [(0, (.agg [.ints .u8 ((gt ((gt ((gt x1 y43).2.2.2) y79).2.2.2.2.2.2.1) y92).1) 20])), (1, (.v (.slice ch12.1 ch12.2.1 ch12.2.2))), (2, (.v (.slice ch13.1 ch13.2.1 ch13.2.2)))]) (zs := [.ints .u8 [0, 0, 0, 0, 0, 0, 0, 0, 0, 0, 0, 0, 0, 0, 0, 0, 0, 0, 0, 0] 20, .one (.slice none 0 0), .one (.slice none 0 0)]) (s' := [.ints .u8 ((gt ((gt ((gt x1 y43).2.2.2) y79).2.2.2.2.2.2.1) y92).1) 20, .one (.slice ch12.1 ch12.2.1 ch12.2.2), .one (.slice ch13.1 ch13.2.1 ch13.2.2)]) rfl Tryd.underlying38 P38 Z38 ⟨rfl, rfl, rfl, trivial⟩ rfl rfl rfl trivial ?_; clear S CL a; intro a S CL
                    refine h_run' S rfl trivial ?_
                    replace S := S.rowfro (.there .here)
                    obtain ⟨m, le1, S, hro⟩ := S
                    replace le := le.trans le1
                    replace S := S.slot (u := 54) (d' := (.agg [.ints .u8 ((gt ((gt ((gt x1 y43).2.2.2) y79).2.2.2.2.2.2.1) y92).1) 20, .sl ch12.1 (t7).length ch12.2.2 (RdS (Ty.arr .u64 4) ch12.1 t7), .one (.slice ch13.1 ch13.2.1 ch13.2.2)])) rfl (by simp [D.val, cellsOf, Seg.cells, hro.2.1]) (by have h := (S.get 54 (.agg [.ints .u8 ((gt ((gt ((gt x1 y43).2.2.2) y79).2.2.2.2.2.2.1) y92).1) 20, .one (.slice ch12.1 ch12.2.1 ch12.2.2), .one (.slice ch13.1 ch13.2.1 ch13.2.2)]) rfl).2; exact ⟨h.1, ⟨by have := hro.2.2.1; omega, hro.2.2.2, hro.1, RdS.mono _ _ _⟩, h.2.2.1, trivial⟩)
                    replace S := S.slotro (u := 50) rfl hro
                    replace S := S.rowfro .here
                    obtain ⟨m, le1, S, hro⟩ := S
                    replace le := le.trans le1
                    replace S := S.slot (u := 54) (d' := (.agg [.ints .u8 ((gt ((gt ((gt x1 y43).2.2.2) y79).2.2.2.2.2.2.1) y92).1) 20, .sl ch12.1 (t7).length ch12.2.2 (RdS (Ty.arr .u64 4) ch12.1 t7), .sl ch13.1 (t8).length ch13.2.2 (RdS (Ty.int .u8) ch13.1 t8)])) rfl (by simp [D.val, cellsOf, Seg.cells, hro.2.1]) (by have h := (S.get 54 (.agg [.ints .u8 ((gt ((gt ((gt x1 y43).2.2.2) y79).2.2.2.2.2.2.1) y92).1) 20, .sl ch12.1 (t7).length ch12.2.2 (RdS (Ty.arr .u64 4) ch12.1 t7), .one (.slice ch13.1 ch13.2.1 ch13.2.2)]) rfl).2; exact ⟨h.1, h.2.1, ⟨by have := hro.2.2.1; omega, hro.2.2.2, hro.1, RdS.mono _ _ _⟩, trivial⟩)
                    replace S := S.slotro (u := 53) rfl hro
                    replace CL := CL.drop (lq' := [(52, (.sl ch10.2.2.1 ((gt ((gt ((gt x1 y43).2.2.2) y79).2.2.2.2.2.2.1) y92).2.2).length ch10.2.2.2 (RdS (Ty.int .u8) ch10.2.2.1 ((gt ((gt ((gt x1 y43).2.2.2) y79).2.2.2.2.2.2.1) y92).2.2)))), (51, (.v (.pointer (some ⟨g193, 21, none⟩)))), (49, (.sl ch10.2.1.1 ((gt ((gt ((gt x1 y43).2.2.2) y79).2.2.2.2.2.2.1) y92).2.1).length ch10.2.1.2 (RdS (Ty.arr .u64 4) ch10.2.1.1 ((gt ((gt ((gt x1 y43).2.2.2) y79).2.2.2.2.2.2.1) y92).2.1)))), (48, (.v (.pointer (some ⟨g193, 20, none⟩)))), (47, (.agg [.ints .u8 ((gt ((gt ((gt x1 y43).2.2.2) y79).2.2.2.2.2.2.1) y92).1) 20])), (46, (.v (.pointer (some ⟨g193, 0, none⟩)))), (13, (.v (.pointer (some ⟨g193, 0, none⟩))))]) ⟨rfl, rfl, rfl, rfl, rfl, rfl, rfl, trivial⟩
                    refine s_bldSl S (ty' := (Ty.prod (Ty.arr .u8 20) (Ty.prod (Ty.slice (Ty.arr .u64 4)) (Ty.slice (Ty.int .u8))))) (ds := [(0, (.agg [.ints .u8 ((gt ((gt ((gt x1 y43).2.2.2) y79).2.2.2.2.2.2.1) y92).1) 20, .sl ch12.1 (t7).length ch12.2.2 (RdS (Ty.arr .u64 4) ch12.1 t7), .sl ch13.1 (t8).length ch13.2.2 (RdS (Ty.int .u8) ch13.1 t8)]))]) (z := ([0, 0, 0, 0, 0, 0, 0, 0, 0, 0, 0, 0, 0, 0, 0, 0, 0, 0, 0, 0], ([] : List (List Int)), ([] : List Int))) (c0 := ((), (none, 0), (none, 0))) (ys := [((gt ((gt ((gt x1 y43).2.2.2) y79).2.2.2.2.2.2.1) y92).1, t7, t8)]) (cs := [((), (ch12.1, ch12.2.2), (ch13.1, ch13.2.2))]) rfl Tryd.underlying22 J38 Z38 rfl ⟨rfl, ⟨Nat.le_refl _, Nat.zero_le _, RdS.nil _ _ _, RdS.mono _ _ _⟩, ⟨Nat.le_refl _, Nat.zero_le _, RdS.nil _ _ _, RdS.mono _ _ _⟩, trivial⟩ rfl rfl rfl rfl rfl rfl ?_; clear S a; intro g194 a w S
                    replace hw := CL.again hw S (.cons (.there .here) (.cons (.there (.there .here)) .nil)) le
                    refine h_back ⟨fun _ => hw, ?_⟩
                    refine h_run' S rfl trivial ?_
                    refine s_app S (k2 := 1) (ys := [((gt ((gt ((gt x1 y43).2.2.2) y79).2.2.2.2.2.2.1) y92).1, t7, t8)]) rfl (fun _ _ => (.there (.there .here))) rfl rfl (S.holds _ (Pull.mem .here).1).1 (Res.row.src (S.holds _ (Pull.mem .here).1)) Tryd.underlying22 J38 c9 rfl ?_; clear S a; intro A10 cp128 a w S
                    replace hw := CL.again hw S (.cons (.there .here) (.cons (.there (.there .here)) .nil)) le
                    refine h_back ⟨fun _ => hw, ?_⟩
                    replace CL := CL.add (t := 56) (d := (.v (.slice A10 (nn63 + 1) cp128))) S rfl rfl
                    refine h_assign S CL hw le ⟨rfl, rfl, rfl, rfl, rfl, rfl, rfl, rfl, trivial⟩ rfl rfl rfl trivial ?_; clear S CL a; intro a S CL
                    refine h_done ?_; clear CL hw le
                    refine x_blockN ?_
                    refine x_thenN ?_
                    exact j4 _ A10 (nn63 + 1) cp128 (y93 ++ [((gt ((gt ((gt x1 y43).2.2.2) y79).2.2.2.2.2.2.1) y92).1, t7, t8)]) g189 a w (S.sub ⟨rfl, rfl, rfl, rfl, rfl, rfl, rfl, rfl, rfl, rfl, rfl, rfl, trivial⟩ (.cons (.there (.there .here)) (.cons (.there (.there .here)) .nil))) h7
                  refine h_runO S rfl trivial ?_ ?_
                  · refine s_callR S (fun (ch : (Option Addr) × Nat × Nat) => ((.v (.slice ch.1 ch.2.1 ch.2.2)) : D)) (fun (ch : (Option Addr) × Nat × Nat) => Res.row (Ty.arr .u64 4) 53 ch.1 ch.2.1 ch.2.2 t7) N32 rfl rfl (api_Word_n32.ok ((gt ((gt ((gt x1 y43).2.2.2) y79).2.2.2.2.2.2.1) y92).2.1) ch10.2.1.1 ch10.2.1.2 t7 et7 _ _) ?_; clear S a; intro ch12 m le1 a w S
                    replace le := le.trans le1
                    replace hw := CL.again hw S (.cons (.there .here) (.cons (.there (.there .here)) .nil)) le
                    refine h_back ⟨fun _ => hw, ?_⟩
                    replace CL := CL.add (t := 50) (d := (.v (.slice ch12.1 ch12.2.1 ch12.2.2))) S rfl rfl
                    refine h_alts ?_
                    refine h_runO S rfl trivial ?_ ?_
                    · refine s_move S rfl rfl ?_; clear S a; intro a S
                      replace hw := CL.again hw S (.cons (.there .here) (.cons (.there (.there .here)) .nil)) le
                      refine h_back ⟨fun _ => hw, ?_⟩
                      refine h_run' S rfl trivial ?_
                      refine s_callR S (fun (ch : (Option Addr) × Nat × Nat) => ((.v (.slice ch.1 ch.2.1 ch.2.2)) : D)) (fun (ch : (Option Addr) × Nat × Nat) => Res.row (Ty.int .u8) 5 ch.1 ch.2.1 ch.2.2 t8) N33 rfl rfl (slices_Clone_byte_byte.ok ((gt ((gt ((gt x1 y43).2.2.2) y79).2.2.2.2.2.2.1) y92).2.2) ch10.2.2.1 ch10.2.2.2 t8 et8 _ _) ?_; clear S a; intro ch13 m le1 a w S
                      replace le := le.trans le1
                      replace hw := CL.again hw S (.cons (.there (.there .here)) (.cons (.there (.there (.there .here))) .nil)) le
                      refine h_back ⟨fun _ => hw, ?_⟩
                      replace CL := CL.add (t := 53) (d := (.v (.slice ch13.1 ch13.2.1 ch13.2.2))) S rfl rfl
                      refine h_bldS S CL hw le ⟨rfl, rfl, rfl, rfl, rfl, rfl, rfl, rfl, rfl, trivial⟩ (ds := [(0, (.agg [.ints .u8 ((gt ((gt ((gt x1 y43).2.2.2) y79).2.2.2.2.2.2.1) y92).1) 20])), (1, (.v (.slice ch12.1 ch12.2.1 ch12.2.2))), (2, (.v (.slice ch13.1 ch13.2.1 ch13.2.2)))]) (zs := [.ints .u8 [0, 0, 0, 0, 0, 0, 0, 0, 0, 0, 0, 0, 0, 0, 0, 0, 0, 0, 0, 0] 20, .one (.slice none 0 0), .one (.slice none 0 0)]) (s' := [.ints .u8 ((gt ((gt ((gt x1 y43).2.2.2) y79).2.2.2.2.2.2.1) y92).1) 20, .one (.slice ch12.1 ch12.2.1 ch12.2.2), .one (.slice ch13.1 ch13.2.1 ch13.2.2)]) rfl Tryd.underlying38 P38 Z38 ⟨rfl, rfl, rfl, trivial⟩ rfl rfl rfl trivial ?_; clear S CL a; intro a S CL
                      refine h_run' S rfl trivial ?_
                      replace S := S.rowfro (.there .here)
                      obtain ⟨m, le1, S, hro⟩ := S
                      replace le := le.trans le1
                      replace S := S.slot (u := 54) (d' := (.agg [.ints .u8 ((gt ((gt ((gt x1 y43).2.2.2) y79).2.2.2.2.2.2.1) y92).1) 20, .sl ch12.1 (t7).length ch12.2.2 (RdS (Ty.arr .u64 4) ch12.1 t7), .one (.slice ch13.1 ch13.2.1 ch13.2.2)])) rfl (by simp [D.val, cellsOf, Seg.cells, hro.2.1]) (by have h := (S.get 54 (.agg [.ints .u8 ((gt ((gt ((gt x1 y43).2.2.2) y79).2.2.2.2.2.2.1) y92).1) 20, .one (.slice ch12.1 ch12.2.1 ch12.2.2), .one (.slice ch13.1 ch13.2.1 ch13.2.2)]) rfl).2; exact ⟨h.1, ⟨by have := hro.2.2.1; omega, hro.2.2.2, hro.1, RdS.mono _ _ _⟩, h.2.2.1, trivial⟩)
                      replace S := S.slotro (u := 50) rfl hro
                      replace S := S.rowfro .here
                      obtain ⟨m, le1, S, hro⟩ := S
                      replace le := le.trans le1
                      replace S := S.slot (u := 54) (d' := (.agg [.ints .u8 ((gt ((gt ((gt x1 y43).2.2.2) y79).2.2.2.2.2.2.1) y92).1) 20, .sl ch12.1 (t7).length ch12.2.2 (RdS (Ty.arr .u64 4) ch12.1 t7), .sl ch13.1 (t8).length ch13.2.2 (RdS (Ty.int .u8) ch13.1 t8)])) rfl (by simp [D.val, cellsOf, Seg.cells, hro.2.1]) (by have h := (S.get 54 (.agg [.ints .u8 ((gt ((gt ((gt x1 y43).2.2.2) y79).2.2.2.2.2.2.1) y92).1) 20, .sl ch12.1 (t7).length ch12.2.2 (RdS (Ty.arr .u64 4) ch12.1 t7), .one (.slice ch13.1 ch13.2.1 ch13.2.2)]) rfl).2; exact ⟨h.1, h.2.1, ⟨by have := hro.2.2.1; omega, hro.2.2.2, hro.1, RdS.mono _ _ _⟩, trivial⟩)
                      replace S := S.slotro (u := 53) rfl hro
                      replace CL := CL.drop (lq' := [(52, (.sl ch10.2.2.1 ((gt ((gt ((gt x1 y43).2.2.2) y79).2.2.2.2.2.2.1) y92).2.2).length ch10.2.2.2 (RdS (Ty.int .u8) ch10.2.2.1 ((gt ((gt ((gt x1 y43).2.2.2) y79).2.2.2.2.2.2.1) y92).2.2)))), (51, (.v (.pointer (some ⟨g193, 21, none⟩)))), (49, (.sl ch10.2.1.1 ((gt ((gt ((gt x1 y43).2.2.2) y79).2.2.2.2.2.2.1) y92).2.1).length ch10.2.1.2 (RdS (Ty.arr .u64 4) ch10.2.1.1 ((gt ((gt ((gt x1 y43).2.2.2) y79).2.2.2.2.2.2.1) y92).2.1)))), (48, (.v (.pointer (some ⟨g193, 20, none⟩)))), (47, (.agg [.ints .u8 ((gt ((gt ((gt x1 y43).2.2.2) y79).2.2.2.2.2.2.1) y92).1) 20])), (46, (.v (.pointer (some ⟨g193, 0, none⟩)))), (13, (.v (.pointer (some ⟨g193, 0, none⟩))))]) ⟨rfl, rfl, rfl, rfl, rfl, rfl, rfl, trivial⟩
                      refine s_bldSl S (ty' := (Ty.prod (Ty.arr .u8 20) (Ty.prod (Ty.slice (Ty.arr .u64 4)) (Ty.slice (Ty.int .u8))))) (ds := [(0, (.agg [.ints .u8 ((gt ((gt ((gt x1 y43).2.2.2) y79).2.2.2.2.2.2.1) y92).1) 20, .sl ch12.1 (t7).length ch12.2.2 (RdS (Ty.arr .u64 4) ch12.1 t7), .sl ch13.1 (t8).length ch13.2.2 (RdS (Ty.int .u8) ch13.1 t8)]))]) (z := ([0, 0, 0, 0, 0, 0, 0, 0, 0, 0, 0, 0, 0, 0, 0, 0, 0, 0, 0, 0], ([] : List (List Int)), ([] : List Int))) (c0 := ((), (none, 0), (none, 0))) (ys := [((gt ((gt ((gt x1 y43).2.2.2) y79).2.2.2.2.2.2.1) y92).1, t7, t8)]) (cs := [((), (ch12.1, ch12.2.2), (ch13.1, ch13.2.2))]) rfl Tryd.underlying22 J38 Z38 rfl ⟨rfl, ⟨Nat.le_refl _, Nat.zero_le _, RdS.nil _ _ _, RdS.mono _ _ _⟩, ⟨Nat.le_refl _, Nat.zero_le _, RdS.nil _ _ _, RdS.mono _ _ _⟩, trivial⟩ rfl rfl rfl rfl rfl rfl ?_; clear S a; intro g194 a w S
                      replace hw := CL.again hw S (.cons (.there .here) (.cons (.there (.there .here)) .nil)) le
                      refine h_back ⟨fun _ => hw, ?_⟩
                      refine h_run' S rfl trivial ?_
                      refine s_app S (k2 := 1) (ys := [((gt ((gt ((gt x1 y43).2.2.2) y79).2.2.2.2.2.2.1) y92).1, t7, t8)]) rfl (fun _ _ => (.there (.there .here))) rfl rfl (S.holds _ (Pull.mem .here).1).1 (Res.row.src (S.holds _ (Pull.mem .here).1)) Tryd.underlying22 J38 c9 rfl ?_; clear S a; intro A10 cp128 a w S
                      replace hw := CL.again hw S (.cons (.there .here) (.cons (.there (.there .here)) .nil)) le
                      refine h_back ⟨fun _ => hw, ?_⟩
                      replace CL := CL.add (t := 56) (d := (.v (.slice A10 (nn63 + 1) cp128))) S rfl rfl
                      refine h_assign S CL hw le ⟨rfl, rfl, rfl, rfl, rfl, rfl, rfl, rfl, trivial⟩ rfl rfl rfl trivial ?_; clear S CL a; intro a S CL
                      refine h_done ?_; clear CL hw le
                      refine x_blockN ?_
                      refine x_thenN ?_
                      exact j4 _ A10 (nn63 + 1) cp128 (y93 ++ [((gt ((gt ((gt x1 y43).2.2.2) y79).2.2.2.2.2.2.1) y92).1, t7, t8)]) g189 a w (S.sub ⟨rfl, rfl, rfl, rfl, rfl, rfl, rfl, rfl, rfl, rfl, rfl, rfl, trivial⟩ (.cons (.there (.there .here)) (.cons (.there (.there .here)) .nil))) h7
                    refine h_runO S rfl trivial ?_ ?_
                    · refine s_callR S (fun (ch : (Option Addr) × Nat × Nat) => ((.v (.slice ch.1 ch.2.1 ch.2.2)) : D)) (fun (ch : (Option Addr) × Nat × Nat) => Res.row (Ty.int .u8) 5 ch.1 ch.2.1 ch.2.2 t8) N33 rfl rfl (slices_Clone_byte_byte.ok ((gt ((gt ((gt x1 y43).2.2.2) y79).2.2.2.2.2.2.1) y92).2.2) ch10.2.2.1 ch10.2.2.2 t8 et8 _ _) ?_; clear S a; intro ch13 m le1 a w S
                      replace le := le.trans le1
                      replace hw := CL.again hw S (.cons (.there (.there .here)) (.cons (.there (.there (.there .here))) .nil)) le
                      refine h_back ⟨fun _ => hw, ?_⟩
                      replace CL := CL.add (t := 53) (d := (.v (.slice ch13.1 ch13.2.1 ch13.2.2))) S rfl rfl
                      refine h_bldS S CL hw le ⟨rfl, rfl, rfl, rfl, rfl, rfl, rfl, rfl, rfl, trivial⟩ (ds := [(0, (.agg [.ints .u8 ((gt ((gt ((gt x1 y43).2.2.2) y79).2.2.2.2.2.2.1) y92).1) 20])), (1, (.v (.slice ch12.1 ch12.2.1 ch12.2.2))), (2, (.v (.slice ch13.1 ch13.2.1 ch13.2.2)))]) (zs := [.ints .u8 [0, 0, 0, 0, 0, 0, 0, 0, 0, 0, 0, 0, 0, 0, 0, 0, 0, 0, 0, 0] 20, .one (.slice none 0 0), .one (.slice none 0 0)]) (s' := [.ints .u8 ((gt ((gt ((gt x1 y43).2.2.2) y79).2.2.2.2.2.2.1) y92).1) 20, .one (.slice ch12.1 ch12.2.1 ch12.2.2), .one (.slice ch13.1 ch13.2.1 ch13.2.2)]) rfl Tryd.underlying38 P38 Z38 ⟨rfl, rfl, rfl, trivial⟩ rfl rfl rfl trivial ?_; clear S CL a; intro a S CL
                      refine h_alts ?_
                      refine h_runO S rfl trivial ?_ ?_
                      · refine s_move S rfl rfl ?_; clear S a; intro a S
                        replace hw := CL.again hw S (.cons (.there (.there .here)) (.cons (.there (.there (.there .here))) .nil)) le
                        refine h_back ⟨fun _ => hw, ?_⟩
                        refine h_run' S rfl trivial ?_
                        replace S := S.rowfro (.there .here)
                        obtain ⟨m, le1, S, hro⟩ := S
                        replace le := le.trans le1
                        replace S := S.slot (u := 54) (d' := (.agg [.ints .u8 ((gt ((gt ((gt x1 y43).2.2.2) y79).2.2.2.2.2.2.1) y92).1) 20, .sl ch12.1 (t7).length ch12.2.2 (RdS (Ty.arr .u64 4) ch12.1 t7), .one (.slice ch13.1 ch13.2.1 ch13.2.2)])) rfl (by simp [D.val, cellsOf, Seg.cells, hro.2.1]) (by have h := (S.get 54 (.agg [.ints .u8 ((gt ((gt ((gt x1 y43).2.2.2) y79).2.2.2.2.2.2.1) y92).1) 20, .one (.slice ch12.1 ch12.2.1 ch12.2.2), .one (.slice ch13.1 ch13.2.1 ch13.2.2)]) rfl).2; exact ⟨h.1, ⟨by have := hro.2.2.1; omega, hro.2.2.2, hro.1, RdS.mono _ _ _⟩, h.2.2.1, trivial⟩)
                        replace S := S.slotro (u := 50) rfl hro
                        replace S := S.rowfro .here
                        obtain ⟨m, le1, S, hro⟩ := S
                        replace le := le.trans le1
                        replace S := S.slot (u := 54) (d' := (.agg [.ints .u8 ((gt ((gt ((gt x1 y43).2.2.2) y79).2.2.2.2.2.2.1) y92).1) 20, .sl ch12.1 (t7).length ch12.2.2 (RdS (Ty.arr .u64 4) ch12.1 t7), .sl ch13.1 (t8).length ch13.2.2 (RdS (Ty.int .u8) ch13.1 t8)])) rfl (by simp [D.val, cellsOf, Seg.cells, hro.2.1]) (by have h := (S.get 54 (.agg [.ints .u8 ((gt ((gt ((gt x1 y43).2.2.2) y79).2.2.2.2.2.2.1) y92).1) 20, .sl ch12.1 (t7).length ch12.2.2 (RdS (Ty.arr .u64 4) ch12.1 t7), .one (.slice ch13.1 ch13.2.1 ch13.2.2)]) rfl).2; exact ⟨h.1, h.2.1, ⟨by have := hro.2.2.1; omega, hro.2.2.2, hro.1, RdS.mono _ _ _⟩, trivial⟩)
                        replace S := S.slotro (u := 53) rfl hro
                        replace CL := CL.drop (lq' := [(52, (.sl ch10.2.2.1 ((gt ((gt ((gt x1 y43).2.2.2) y79).2.2.2.2.2.2.1) y92).2.2).length ch10.2.2.2 (RdS (Ty.int .u8) ch10.2.2.1 ((gt ((gt ((gt x1 y43).2.2.2) y79).2.2.2.2.2.2.1) y92).2.2)))), (51, (.v (.pointer (some ⟨g193, 21, none⟩)))), (49, (.sl ch10.2.1.1 ((gt ((gt ((gt x1 y43).2.2.2) y79).2.2.2.2.2.2.1) y92).2.1).length ch10.2.1.2 (RdS (Ty.arr .u64 4) ch10.2.1.1 ((gt ((gt ((gt x1 y43).2.2.2) y79).2.2.2.2.2.2.1) y92).2.1)))), (48, (.v (.pointer (some ⟨g193, 20, none⟩)))), (47, (.agg [.ints .u8 ((gt ((gt ((gt x1 y43).2.2.2) y79).2.2.2.2.2.2.1) y92).1) 20])), (46, (.v (.pointer (some ⟨g193, 0, none⟩)))), (13, (.v (.pointer (some ⟨g193, 0, none⟩))))]) ⟨rfl, rfl, rfl, rfl, rfl, rfl, rfl, trivial⟩
                        refine s_bldSl S (ty' := (Ty.prod (Ty.arr .u8 20) (Ty.prod (Ty.slice (Ty.arr .u64 4)) (Ty.slice (Ty.int .u8))))) (ds := [(0, (.agg [.ints .u8 ((gt ((gt ((gt x1 y43).2.2.2) y79).2.2.2.2.2.2.1) y92).1) 20, .sl ch12.1 (t7).length ch12.2.2 (RdS (Ty.arr .u64 4) ch12.1 t7), .sl ch13.1 (t8).length ch13.2.2 (RdS (Ty.int .u8) ch13.1 t8)]))]) (z := ([0, 0, 0, 0, 0, 0, 0, 0, 0, 0, 0, 0, 0, 0, 0, 0, 0, 0, 0, 0], ([] : List (List Int)), ([] : List Int))) (c0 := ((), (none, 0), (none, 0))) (ys := [((gt ((gt ((gt x1 y43).2.2.2) y79).2.2.2.2.2.2.1) y92).1, t7, t8)]) (cs := [((), (ch12.1, ch12.2.2), (ch13.1, ch13.2.2))]) rfl Tryd.underlying22 J38 Z38 rfl ⟨rfl, ⟨Nat.le_refl _, Nat.zero_le _, RdS.nil _ _ _, RdS.mono _ _ _⟩, ⟨Nat.le_refl _, Nat.zero_le _, RdS.nil _ _ _, RdS.mono _ _ _⟩, trivial⟩ rfl rfl rfl rfl rfl rfl ?_; clear S a; intro g194 a w S
                        replace hw := CL.again hw S (.cons (.there .here) (.cons (.there (.there .here)) .nil)) le
                        refine h_back ⟨fun _ => hw, ?_⟩
                        refine h_run' S rfl trivial ?_
                        refine s_app S (k2 := 1) (ys := [((gt ((gt ((gt x1 y43).2.2.2) y79).2.2.2.2.2.2.1) y92).1, t7, t8)]) rfl (fun _ _ => (.there (.there .here))) rfl rfl (S.holds _ (Pull.mem .here).1).1 (Res.row.src (S.holds _ (Pull.mem .here).1)) Tryd.underlying22 J38 c9 rfl ?_; clear S a; intro A10 cp128 a w S
                        replace hw := CL.again hw S (.cons (.there .here) (.cons (.there (.there .here)) .nil)) le
                        refine h_back ⟨fun _ => hw, ?_⟩
                        replace CL := CL.add (t := 56) (d := (.v (.slice A10 (nn63 + 1) cp128))) S rfl rfl
                        refine h_assign S CL hw le ⟨rfl, rfl, rfl, rfl, rfl, rfl, rfl, rfl, trivial⟩ rfl rfl rfl trivial ?_; clear S CL a; intro a S CL
                        refine h_done ?_; clear CL hw le
                        refine x_blockN ?_
                        refine x_thenN ?_
                        exact j4 _ A10 (nn63 + 1) cp128 (y93 ++ [((gt ((gt ((gt x1 y43).2.2.2) y79).2.2.2.2.2.2.1) y92).1, t7, t8)]) g189 a w (S.sub ⟨rfl, rfl, rfl, rfl, rfl, rfl, rfl, rfl, rfl, rfl, rfl, rfl, trivial⟩ (.cons (.there (.there .here)) (.cons (.there (.there .here)) .nil))) h7
                      refine h_runO S rfl trivial ?_ ?_
                      · replace S := S.rowfro (.there .here)
                        obtain ⟨m, le1, S, hro⟩ := S
                        replace le := le.trans le1
                        replace S := S.slot (u := 54) (d' := (.agg [.ints .u8 ((gt ((gt ((gt x1 y43).2.2.2) y79).2.2.2.2.2.2.1) y92).1) 20, .sl ch12.1 (t7).length ch12.2.2 (RdS (Ty.arr .u64 4) ch12.1 t7), .one (.slice ch13.1 ch13.2.1 ch13.2.2)])) rfl (by simp [D.val, cellsOf, Seg.cells, hro.2.1]) (by have h := (S.get 54 (.agg [.ints .u8 ((gt ((gt ((gt x1 y43).2.2.2) y79).2.2.2.2.2.2.1) y92).1) 20, .one (.slice ch12.1 ch12.2.1 ch12.2.2), .one (.slice ch13.1 ch13.2.1 ch13.2.2)]) rfl).2; exact ⟨h.1, ⟨by have := hro.2.2.1; omega, hro.2.2.2, hro.1, RdS.mono _ _ _⟩, h.2.2.1, trivial⟩)
                        replace S := S.slotro (u := 50) rfl hro
                        replace S := S.rowfro .here
                        obtain ⟨m, le1, S, hro⟩ := S
                        replace le := le.trans le1
                        replace S := S.slot (u := 54) (d' := (.agg [.ints .u8 ((gt ((gt ((gt x1 y43).2.2.2) y79).2.2.2.2.2.2.1) y92).1) 20, .sl ch12.1 (t7).length ch12.2.2 (RdS (Ty.arr .u64 4) ch12.1 t7), .sl ch13.1 (t8).length ch13.2.2 (RdS (Ty.int .u8) ch13.1 t8)])) rfl (by simp [D.val, cellsOf, Seg.cells, hro.2.1]) (by have h := (S.get 54 (.agg [.ints .u8 ((gt ((gt ((gt x1 y43).2.2.2) y79).2.2.2.2.2.2.1) y92).1) 20, .sl ch12.1 (t7).length ch12.2.2 (RdS (Ty.arr .u64 4) ch12.1 t7), .one (.slice ch13.1 ch13.2.1 ch13.2.2)]) rfl).2; exact ⟨h.1, h.2.1, ⟨by have := hro.2.2.1; omega, hro.2.2.2, hro.1, RdS.mono _ _ _⟩, trivial⟩)
                        replace S := S.slotro (u := 53) rfl hro
                        replace CL := CL.drop (lq' := [(52, (.sl ch10.2.2.1 ((gt ((gt ((gt x1 y43).2.2.2) y79).2.2.2.2.2.2.1) y92).2.2).length ch10.2.2.2 (RdS (Ty.int .u8) ch10.2.2.1 ((gt ((gt ((gt x1 y43).2.2.2) y79).2.2.2.2.2.2.1) y92).2.2)))), (51, (.v (.pointer (some ⟨g193, 21, none⟩)))), (49, (.sl ch10.2.1.1 ((gt ((gt ((gt x1 y43).2.2.2) y79).2.2.2.2.2.2.1) y92).2.1).length ch10.2.1.2 (RdS (Ty.arr .u64 4) ch10.2.1.1 ((gt ((gt ((gt x1 y43).2.2.2) y79).2.2.2.2.2.2.1) y92).2.1)))), (48, (.v (.pointer (some ⟨g193, 20, none⟩)))), (47, (.agg [.ints .u8 ((gt ((gt ((gt x1 y43).2.2.2) y79).2.2.2.2.2.2.1) y92).1) 20])), (46, (.v (.pointer (some ⟨g193, 0, none⟩)))), (13, (.v (.pointer (some ⟨g193, 0, none⟩))))]) ⟨rfl, rfl, rfl, rfl, rfl, rfl, rfl, trivial⟩
                        refine s_bldSl S (ty' := (Ty.prod (Ty.arr .u8 20) (Ty.prod (Ty.slice (Ty.arr .u64 4)) (Ty.slice (Ty.int .u8))))) (ds := [(0, (.agg [.ints .u8 ((gt ((gt ((gt x1 y43).2.2.2) y79).2.2.2.2.2.2.1) y92).1) 20, .sl ch12.1 (t7).length ch12.2.2 (RdS (Ty.arr .u64 4) ch12.1 t7), .sl ch13.1 (t8).length ch13.2.2 (RdS (Ty.int .u8) ch13.1 t8)]))]) (z := ([0, 0, 0, 0, 0, 0, 0, 0, 0, 0, 0, 0, 0, 0, 0, 0, 0, 0, 0, 0], ([] : List (List Int)), ([] : List Int))) (c0 := ((), (none, 0), (none, 0))) (ys := [((gt ((gt ((gt x1 y43).2.2.2) y79).2.2.2.2.2.2.1) y92).1, t7, t8)]) (cs := [((), (ch12.1, ch12.2.2), (ch13.1, ch13.2.2))]) rfl Tryd.underlying22 J38 Z38 rfl ⟨rfl, ⟨Nat.le_refl _, Nat.zero_le _, RdS.nil _ _ _, RdS.mono _ _ _⟩, ⟨Nat.le_refl _, Nat.zero_le _, RdS.nil _ _ _, RdS.mono _ _ _⟩, trivial⟩ rfl rfl rfl rfl rfl rfl ?_; clear S a; intro g194 a w S
                        replace hw := CL.again hw S (.cons (.there .here) (.cons (.there (.there .here)) .nil)) le
                        refine h_back ⟨fun _ => hw, ?_⟩
                        refine h_run' S rfl trivial ?_
                        refine s_move S rfl rfl ?_; clear S a; intro a S
                        replace hw := CL.again hw S (.cons (.there .here) (.cons (.there (.there .here)) .nil)) le
                        refine h_back ⟨fun _ => hw, ?_⟩
                        refine h_run' S rfl trivial ?_
                        refine s_app S (k2 := 1) (ys := [((gt ((gt ((gt x1 y43).2.2.2) y79).2.2.2.2.2.2.1) y92).1, t7, t8)]) rfl (fun _ _ => (.there (.there .here))) rfl rfl (S.holds _ (Pull.mem .here).1).1 (Res.row.src (S.holds _ (Pull.mem .here).1)) Tryd.underlying22 J38 c9 rfl ?_; clear S a; intro A10 cp128 a w S
                        replace hw := CL.again hw S (.cons (.there .here) (.cons (.there (.there .here)) .nil)) le
                        refine h_back ⟨fun _ => hw, ?_⟩
                        replace CL := CL.add (t := 56) (d := (.v (.slice A10 (nn63 + 1) cp128))) S rfl rfl
                        refine h_assign S CL hw le ⟨rfl, rfl, rfl, rfl, rfl, rfl, rfl, rfl, trivial⟩ rfl rfl rfl trivial ?_; clear S CL a; intro a S CL
                        refine h_done ?_; clear CL hw le
                        refine x_blockN ?_
                        refine x_thenN ?_
                        exact j4 _ A10 (nn63 + 1) cp128 (y93 ++ [((gt ((gt ((gt x1 y43).2.2.2) y79).2.2.2.2.2.2.1) y92).1, t7, t8)]) g189 a w (S.sub ⟨rfl, rfl, rfl, rfl, rfl, rfl, rfl, rfl, rfl, rfl, rfl, rfl, trivial⟩ (.cons (.there (.there .here)) (.cons (.there (.there .here)) .nil))) h7
                      exact h_nil
                    exact h_nil
                  exact h_nil
                · refine c_condF S rfl c8 ?_
                  refine wp_skip ?_
                  refine x_blockN ?_
                  refine x_thenN ?_
                  exact j4 _ A8 nn63 cp125 y93 g189 a w (S.sub ⟨rfl, rfl, rfl, rfl, rfl, rfl, rfl, rfl, rfl, rfl, rfl, rfl, trivial⟩ (.cons (.there .here) (.cons (.there .here) .nil))) h4
              · refine c_condF S rfl c6 ?_
                refine wp_exit ?_
                refine x_thenX ?_
                refine x_thenX ?_
                refine x_blockX ?_
                refine x_blockN ?_
                refine x_thenN ?_
                exact j3 _ A8 nn63 cp125 y93 g189 a w (S.sub ⟨rfl, rfl, rfl, rfl, rfl, rfl, rfl, rfl, rfl, trivial⟩ (.cons .here (.cons .here .nil))) h1
        · refine c_condF S rfl c3 ?_
          refine wp_exit ?_
          refine x_thenX ?_
          refine x_thenX ?_
          refine x_blockX ?_
          refine x_blockN ?_
          refine x_thenN ?_
          exact j2 _ A5 nn54 cp106 y80 g168 a w (S.sub ⟨rfl, rfl, rfl, rfl, rfl, rfl, trivial⟩ (.cons .here (.cons .here .nil))) h1
    · refine c_condF S rfl c1 ?_
      refine wp_exit ?_
      refine x_thenX ?_
      refine x_thenX ?_
      refine x_blockX ?_
      refine x_thenN ?_
      exact j1 _ A2 nn29 cp55 y42 a w (S.sub ⟨rfl, trivial⟩ (.cons .here .nil)) h1
/-! smithy/smithyref14.SameLogs -/
abbrev smithyref14_SameLogs.Ty : Type := (List ((List Int) × (List (List Int)) × (List Int))) → (List ((List Int) × (List (List Int)) × (List Int))) → Option Bool
def smithyref14_SameLogs.Ctr (s : smithyref14_SameLogs.Ty) : Prop := ∀ (x1 : List ((List Int) × (List (List Int)) × (List Int))) (x2 : List ((List Int) × (List (List Int)) × (List Int))) (ch_0_0 : Option Addr) (ch_0_1 : Nat) (ch_1_0 : Option Addr) (ch_1_1 : Nat) (r : Bool) (h0 : s x1 x2 = some r) (mi : Mem) (w0 : World), okL mi [(.sl ch_0_0 (x1).length ch_0_1 (RdS (Ty.prod (Ty.arr .u8 20) (Ty.prod (Ty.slice (Ty.arr .u64 4)) (Ty.slice (Ty.int .u8)))) ch_0_0 x1)), (.sl ch_1_0 (x2).length ch_1_1 (RdS (Ty.prod (Ty.arr .u8 20) (Ty.prod (Ty.slice (Ty.arr .u64 4)) (Ty.slice (Ty.int .u8)))) ch_1_0 x2))] → Pre mi [] w0 → Calls Tryd.prog 22 (([(.sl ch_0_0 (x1).length ch_0_1 (RdS (Ty.prod (Ty.arr .u8 20) (Ty.prod (Ty.slice (Ty.arr .u64 4)) (Ty.slice (Ty.int .u8)))) ch_0_0 x1)), (.sl ch_1_0 (x2).length ch_1_1 (RdS (Ty.prod (Ty.arr .u8 20) (Ty.prod (Ty.slice (Ty.arr .u64 4)) (Ty.slice (Ty.int .u8)))) ch_1_0 x2))] : List D).map D.val).toArray w0 (RetX mi [] (fun (ch : Unit) => ((.v (.bool r)) : D)) (fun (ch : Unit) => []) w0)
def smithyref14_SameLogs.j1 : Option Bool := some true
def smithyref14_SameLogs.j2 (y1 : Int) (rec1 : Int → Option Bool) : Option Bool := rec1 (wr .i64 (y1 + 1))
def smithyref14_SameLogs.b2 (x1 : List ((List Int) × (List (List Int)) × (List Int))) (x2 : List ((List Int) × (List (List Int)) × (List Int))) (y1 : Int) (rec1 : Int → Option Bool) (rec2 : Int → Option Bool) (y7 : Int) : Option Bool := if (decide (y7 < (((gt x1 y1).2.1).length : Int))) = true then (if (0 : Int) ≤ y7 ∧ y7 < (((gt x1 y1).2.1).length : Int) then (if (0 : Int) ≤ y1 ∧ y1 < ((x2).length : Int) then (if (0 : Int) ≤ y7 ∧ y7 < (((gt x2 y1).2.1).length : Int) then (if (!(decide (gt ((gt x1 y1).2.1) y7 = gt ((gt x2 y1).2.1) y7))) = true then (some false) else (rec2 (wr .i64 (y7 + 1)))) else none) else none) else none) else (smithyref14_SameLogs.j2 y1 rec1)
def smithyref14_SameLogs.l2 (x1 : List ((List Int) × (List (List Int)) × (List Int))) (x2 : List ((List Int) × (List (List Int)) × (List Int))) (y1 : Int) (rec1 : Int → Option Bool) : Nat → Int → Option Bool
  | 0, _ => none
  | q + 1, y7 => smithyref14_SameLogs.b2 x1 x2 y1 rec1 (smithyref14_SameLogs.l2 x1 x2 y1 rec1 q) y7
def smithyref14_SameLogs.j3 (k : Nat) (x1 : List ((List Int) × (List (List Int)) × (List Int))) (x2 : List ((List Int) × (List (List Int)) × (List Int))) (y1 : Int) (rec1 : Int → Option Bool) (y5 : Bool) : Option Bool := if y5 = true then (some false) else (if (0 : Int) ≤ y1 ∧ y1 < ((x1).length : Int) then (smithyref14_SameLogs.l2 x1 x2 y1 rec1 k 0) else none)
def smithyref14_SameLogs.b1 (k : Nat) (x1 : List ((List Int) × (List (List Int)) × (List Int))) (x2 : List ((List Int) × (List (List Int)) × (List Int))) (rec1 : Int → Option Bool) (y1 : Int) : Option Bool := if (decide (y1 < ((x1).length : Int))) = true then (if (0 : Int) ≤ y1 ∧ y1 < ((x1).length : Int) then (if (0 : Int) ≤ y1 ∧ y1 < ((x2).length : Int) then (if (!(decide ((gt x1 y1).1 = (gt x2 y1).1))) = true then (smithyref14_SameLogs.j3 k x1 x2 y1 rec1 true) else (if (!((bstr ((gt x1 y1).2.2)).toList == (bstr ((gt x2 y1).2.2)).toList)) = true then (smithyref14_SameLogs.j3 k x1 x2 y1 rec1 true) else (smithyref14_SameLogs.j3 k x1 x2 y1 rec1 ((((gt x1 y1).2.1).length : Int) != (((gt x2 y1).2.1).length : Int))))) else none) else none) else smithyref14_SameLogs.j1
def smithyref14_SameLogs.l1 (k : Nat) (x1 : List ((List Int) × (List (List Int)) × (List Int))) (x2 : List ((List Int) × (List (List Int)) × (List Int))) : Nat → Int → Option Bool
  | 0, _ => none
  | q + 1, y1 => smithyref14_SameLogs.b1 k x1 x2 (smithyref14_SameLogs.l1 k x1 x2 q) y1
def smithyref14_SameLogs.f (k : Nat) (x1 : List ((List Int) × (List (List Int)) × (List Int))) (x2 : List ((List Int) × (List (List Int)) × (List Int))) : Option Bool := if (((x1).length : Int) != ((x2).length : Int)) = true then (some false) else (smithyref14_SameLogs.l1 k x1 x2 k 0)
theorem smithyref14_SameLogs.ok (k : Nat) : smithyref14_SameLogs.Ctr (smithyref14_SameLogs.f k) := by
  intro x1 x2 ch_0_0 ch_0_1 ch_1_0 ch_1_1 r h0 mi w0 ok hm
  delta smithyref14_SameLogs.f at h0
  refine c_enterX (n := 86) [(.sl ch_0_0 (x1).length ch_0_1 (RdS (Ty.prod (Ty.arr .u8 20) (Ty.prod (Ty.slice (Ty.arr .u64 4)) (Ty.slice (Ty.int .u8)))) ch_0_0 x1)), (.sl ch_1_0 (x2).length ch_1_1 (RdS (Ty.prod (Ty.arr .u8 20) (Ty.prod (Ty.slice (Ty.arr .u64 4)) (Ty.slice (Ty.int .u8)))) ch_1_0 x2))] (l := [(0, (.sl ch_0_0 (x1).length ch_0_1 (RdS (Ty.prod (Ty.arr .u8 20) (Ty.prod (Ty.slice (Ty.arr .u64 4)) (Ty.slice (Ty.int .u8)))) ch_0_0 x1))), (1, (.sl ch_1_0 (x2).length ch_1_1 (RdS (Ty.prod (Ty.arr .u8 20) (Ty.prod (Ty.slice (Ty.arr .u64 4)) (Ty.slice (Ty.int .u8)))) ch_1_0 x2)))]) Tryd.func22 rfl rfl rfl rfl ok hm ?_
  clear ok hm
  intro b0 hb a S
  refine c_region ?_
  refine s_assign S rfl rfl ?_; clear S a; intro a S
  refine c_end ?_
  refine wp_seq ?_
  refine c_region ?_
  refine s_move S rfl rfl ?_; clear S a; intro a S
  refine s_lenS S rfl Tryd.underlying22 rfl ?_; clear S a; intro a S
  refine s_move S rfl rfl ?_; clear S a; intro a S
  refine s_lenS S rfl Tryd.underlying22 rfl ?_; clear S a; intro a S
  refine s_bin S rfl rfl rfl rfl ?_; clear S a; intro a S
  refine c_end ?_
  rcases ite_of h0 with ⟨c1, h1⟩ | ⟨c1, h1⟩ <;> clear h0
  · refine c_condT S rfl c1 ?_
    refine c_region ?_
    refine s_assign S rfl rfl ?_; clear S a; intro a S
    refine c_end ?_
    refine wp_ret ?_
    refine x_thenR ?_
    obtain rfl := Option.some.inj h1
    exact b_ret1 (d := (.v (.bool false))) S rfl rfl fun ok => S.retX (Hx := []) hb _ _ (() : Unit) .nil ok
  · refine c_condF S rfl c1 ?_
    refine wp_skip ?_
    refine x_thenN ?_
    refine wp_seq_k ?_
    intro K1 hK1
    have j1 : ∀ (m : Mem) (a : Act) (w : World), St 86 m b0 [] [] a w → smithyref14_SameLogs.j1 = some r → K1 a w := by
      intro m a w S h0
      delta smithyref14_SameLogs.j1 at h0
      refine hK1 a w ?_
      refine c_region ?_
      refine s_assign S rfl rfl ?_; clear S a; intro a S
      refine c_end ?_
      refine wp_ret ?_
      obtain rfl := Option.some.inj h0
      exact b_ret1 (d := (.v (.bool true))) S rfl rfl fun ok => S.retX (Hx := []) hb _ _ (() : Unit) .nil ok
    refine c_region ?_
    refine s_move S rfl rfl ?_; clear S a; intro a S
    refine s_lenS S rfl Tryd.underlying22 rfl ?_; clear S a; intro a S
    refine s_move S rfl rfl ?_; clear S a; intro a S
    refine c_end ?_
    refine wp_block ?_
    refine c_loop (fun q1 a w => ∃ (m : Mem) (y1 : Int), St 86 m b0 [(14, (.v (.int .i64 y1))), (13, (.v (.int .i64 ((x1).length : Int)))), (0, (.sl ch_0_0 (x1).length ch_0_1 (RdS (Ty.prod (Ty.arr .u8 20) (Ty.prod (Ty.slice (Ty.arr .u64 4)) (Ty.slice (Ty.int .u8)))) ch_0_0 x1))), (1, (.sl ch_1_0 (x2).length ch_1_1 (RdS (Ty.prod (Ty.arr .u8 20) (Ty.prod (Ty.slice (Ty.arr .u64 4)) (Ty.slice (Ty.int .u8)))) ch_1_0 x2)))] [] a w ∧ smithyref14_SameLogs.l1 k x1 x2 q1 y1 = some r) ?_ ?_ (k := k) ⟨_, 0, (S.sub ⟨rfl, rfl, rfl, rfl, trivial⟩ .nil), h1⟩
    · rintro a w ⟨m, y1, S, h0⟩
      exact (nomatch (show (none : Option Bool) = some r from h0))
    · clear S h1
      rintro q1 a w ⟨m, y1, S, h0⟩
      replace h0 : smithyref14_SameLogs.b1 k x1 x2 (smithyref14_SameLogs.l1 k x1 x2 q1) y1 = some r := h0
      delta smithyref14_SameLogs.b1 at h0
      refine c_region ?_
      refine s_bin S rfl rfl rfl rfl ?_; clear S a; intro a S
      refine c_end ?_
      refine wp_seq ?_
      rcases ite_of h0 with ⟨c2, h1⟩ | ⟨c2, h1⟩ <;> clear h0
      · refine c_condT S rfl c2 ?_
        refine wp_skip ?_
        refine x_thenN ?_
        refine wp_seq_k ?_
        intro K2 hK2
        have j2 : ∀ (m : Mem) (a : Act) (w : World), St 86 m b0 [(14, (.v (.int .i64 y1))), (13, (.v (.int .i64 ((x1).length : Int)))), (0, (.sl ch_0_0 (x1).length ch_0_1 (RdS (Ty.prod (Ty.arr .u8 20) (Ty.prod (Ty.slice (Ty.arr .u64 4)) (Ty.slice (Ty.int .u8)))) ch_0_0 x1))), (1, (.sl ch_1_0 (x2).length ch_1_1 (RdS (Ty.prod (Ty.arr .u8 20) (Ty.prod (Ty.slice (Ty.arr .u64 4)) (Ty.slice (Ty.int .u8)))) ch_1_0 x2)))] [] a w → smithyref14_SameLogs.j2 y1 (smithyref14_SameLogs.l1 k x1 x2 q1) = some r → K2 a w := by
          intro m a w S h0
          delta smithyref14_SameLogs.j2 at h0
          refine hK2 a w ?_
          refine c_region' ?_
          refine s_bin S rfl rfl rfl rfl ?_; clear S a; intro a S
          refine s_move S rfl rfl ?_; clear S a; intro a S
          refine c_end' ?_
          refine x_thenN ?_
          exact ⟨_, (wr .i64 (y1 + 1)), (S.sub ⟨rfl, rfl, rfl, rfl, trivial⟩ .nil), h0⟩
        refine wp_block ?_
        refine c_region ?_
        refine s_move S rfl rfl ?_; clear S a; intro a S
        refine s_assign S rfl rfl ?_; clear S a; intro a S
        refine c_end ?_
        refine wp_seq ?_
        refine wp_seq_k ?_
        intro K3 hK3
        have j3 : ∀ (m : Mem) (y5 : Bool) (a : Act) (w : World), St 86 m b0 [(57, (.v (.bool y5))), (5, (.v (.int .i64 y1))), (14, (.v (.int .i64 y1))), (13, (.v (.int .i64 ((x1).length : Int)))), (0, (.sl ch_0_0 (x1).length ch_0_1 (RdS (Ty.prod (Ty.arr .u8 20) (Ty.prod (Ty.slice (Ty.arr .u64 4)) (Ty.slice (Ty.int .u8)))) ch_0_0 x1))), (1, (.sl ch_1_0 (x2).length ch_1_1 (RdS (Ty.prod (Ty.arr .u8 20) (Ty.prod (Ty.slice (Ty.arr .u64 4)) (Ty.slice (Ty.int .u8)))) ch_1_0 x2)))] [] a w → smithyref14_SameLogs.j3 k x1 x2 y1 (smithyref14_SameLogs.l1 k x1 x2 q1) y5 = some r → K3 a w := by
          intro m y5 a w S h0
          delta smithyref14_SameLogs.j3 at h0
          refine hK3 a w ?_
          rcases ite_of h0 with ⟨c3, h1⟩ | ⟨c3, h1⟩ <;> clear h0
          · refine c_condT S rfl c3 ?_
            refine c_region ?_
            refine s_assign S rfl rfl ?_; clear S a; intro a S
            refine c_end ?_
            refine wp_ret ?_
            refine x_thenR ?_
            refine x_blockR ?_
            refine x_thenR ?_
            refine x_thenR ?_
            refine x_blockR ?_
            refine x_thenR ?_
            obtain rfl := Option.some.inj h1
            exact b_ret1 (d := (.v (.bool false))) S rfl rfl fun ok => S.retX (Hx := []) hb _ _ (() : Unit) .nil ok
          · refine c_condF S rfl c3 ?_
            refine wp_skip ?_
            refine x_thenN ?_
            refine c_region ?_
            refine s_move S rfl rfl ?_; clear S a; intro a S
            refine s_move S rfl rfl ?_; clear S a; intro a S
            obtain ⟨c4, h2⟩ := chk_of h1; clear h1
            refine s_iaddrS S rfl rfl rfl Tryd.underlying22 T38 c4.1 c4.2 rfl ?_; clear S a; intro p1 a S
            refine s_faddrP S (tF := (Ty.slice (Ty.arr .u64 4))) (y := (gt x1 y1).2.1) rfl I38_1 T35 (by decide) (fun m h => (at_fst (at_snd (at_0 h)))) rfl ?_; clear S a; intro a S
            refine s_ldS S (fun c => c) rfl T35 (fun _ => rfl) rfl ?_; clear S a; intro A1 cp1 a S
            refine s_lenS S rfl Tryd.underlying35 rfl ?_; clear S a; intro a S
            refine s_move S rfl rfl ?_; clear S a; intro a S
            refine c_end ?_
            refine wp_block ?_
            refine c_loop (fun q2 a w => ∃ (m : Mem) (y7 : Int), St 86 m b0 [(64, (.v (.int .i64 y7))), (63, (.v (.int .i64 (((gt x1 y1).2.1).length : Int)))), (5, (.v (.int .i64 y1))), (14, (.v (.int .i64 y1))), (13, (.v (.int .i64 ((x1).length : Int)))), (0, (.sl ch_0_0 (x1).length ch_0_1 (RdS (Ty.prod (Ty.arr .u8 20) (Ty.prod (Ty.slice (Ty.arr .u64 4)) (Ty.slice (Ty.int .u8)))) ch_0_0 x1))), (1, (.sl ch_1_0 (x2).length ch_1_1 (RdS (Ty.prod (Ty.arr .u8 20) (Ty.prod (Ty.slice (Ty.arr .u64 4)) (Ty.slice (Ty.int .u8)))) ch_1_0 x2)))] [] a w ∧ smithyref14_SameLogs.l2 x1 x2 y1 (smithyref14_SameLogs.l1 k x1 x2 q1) q2 y7 = some r) ?_ ?_ (k := k) ⟨_, 0, (S.sub ⟨rfl, rfl, rfl, rfl, rfl, rfl, rfl, trivial⟩ .nil), h2⟩
            · rintro a w ⟨m, y7, S, h0⟩
              exact (nomatch (show (none : Option Bool) = some r from h0))
            · clear S h2
              rintro q2 a w ⟨m, y7, S, h0⟩
              replace h0 : smithyref14_SameLogs.b2 x1 x2 y1 (smithyref14_SameLogs.l1 k x1 x2 q1) (smithyref14_SameLogs.l2 x1 x2 y1 (smithyref14_SameLogs.l1 k x1 x2 q1) q2) y7 = some r := h0
              delta smithyref14_SameLogs.b2 at h0
              refine c_region ?_
              refine s_bin S rfl rfl rfl rfl ?_; clear S a; intro a S
              refine c_end ?_
              refine wp_seq ?_
              rcases ite_of h0 with ⟨c5, h1⟩ | ⟨c5, h1⟩ <;> clear h0
              · refine c_condT S rfl c5 ?_
                refine wp_skip ?_
                refine x_thenN ?_
                refine wp_seq ?_
                refine wp_block ?_
                refine c_region ?_
                refine s_move S rfl rfl ?_; clear S a; intro a S
                refine s_assign S rfl rfl ?_; clear S a; intro a S
                refine c_end ?_
                refine wp_seq (c_heldS S (.take 0 (.take 1 (.take 2 (.take 3 (.take 4 (.take 5 (.take 6 (.take 7 (.take 8 (.take 9 (.take 10 (.take 11 (.take 12 (.take 13 (.take 14 (.take 15 (.take 16 .done))))))))))))))))) 17 [] .nil trivial [(6, (.v (.int .i64 y7))), (5, (.v (.int .i64 y1))), (0, (.sl ch_0_0 (x1).length ch_0_1 (RdS (Ty.prod (Ty.arr .u8 20) (Ty.prod (Ty.slice (Ty.arr .u64 4)) (Ty.slice (Ty.int .u8)))) ch_0_0 x1))), (1, (.sl ch_1_0 (x2).length ch_1_1 (RdS (Ty.prod (Ty.arr .u8 20) (Ty.prod (Ty.slice (Ty.arr .u64 4)) (Ty.slice (Ty.int .u8)))) ch_1_0 x2)))] ⟨rfl, rfl, rfl, rfl, trivial⟩ (by kernel_rfl) (by kernel_rfl) ?_); clear S; intro w S CL hw le
                refine h_move S CL hw le ⟨rfl, rfl, rfl, rfl, trivial⟩ rfl rfl rfl trivial ?_; clear S CL a; intro a S CL
                refine h_move S CL hw le ⟨rfl, rfl, rfl, rfl, rfl, trivial⟩ rfl rfl rfl trivial ?_; clear S CL a; intro a S CL
                refine h_iaddrS S CL hw le ⟨rfl, rfl, rfl, rfl, rfl, rfl, trivial⟩ rfl rfl rfl Tryd.underlying22 T38 c4.1 c4.2 rfl rfl trivial ?_; clear S CL a; intro p10 a S CL
                refine h_faddrP S CL hw le ⟨rfl, rfl, rfl, rfl, rfl, rfl, rfl, trivial⟩ (tF := (Ty.slice (Ty.arr .u64 4))) (y := (gt x1 y1).2.1) rfl I38_1 T35 (by decide) (fun m h => (at_fst (at_snd (at_0 h)))) rfl rfl trivial ?_; clear S CL a; intro a S CL
                refine h_ldS S CL hw le ⟨rfl, rfl, rfl, rfl, rfl, rfl, rfl, rfl, trivial⟩ (fun c => c) rfl T35 (fun _ => rfl) rfl rfl trivial ?_; clear S CL a; intro A2 cp6 a S CL
                refine h_move S CL hw le ⟨rfl, rfl, rfl, rfl, rfl, rfl, rfl, rfl, rfl, trivial⟩ rfl rfl rfl trivial ?_; clear S CL a; intro a S CL
                obtain ⟨c6, h2⟩ := chk_of h1; clear h1
                refine h_iaddrS S CL hw le ⟨rfl, rfl, rfl, rfl, rfl, rfl, rfl, rfl, rfl, rfl, trivial⟩ rfl rfl rfl Tryd.underlying35 T53 c6.1 c6.2 rfl rfl trivial ?_; clear S CL a; intro p11 a S CL
                refine h_ldA S CL hw le ⟨rfl, rfl, rfl, rfl, rfl, rfl, rfl, rfl, rfl, rfl, rfl, trivial⟩ (fun (c : Unit) => [.ints .u64 (gt ((gt x1 y1).2.1) y7) 4]) rfl T53 (fun _ => rfl) rfl rfl trivial ?_; clear S CL a; intro ch1 a S CL
                refine h_move S CL hw le ⟨rfl, rfl, rfl, rfl, rfl, rfl, rfl, rfl, rfl, rfl, rfl, rfl, trivial⟩ rfl rfl rfl trivial ?_; clear S CL a; intro a S CL
                refine h_move S CL hw le ⟨rfl, rfl, rfl, rfl, rfl, rfl, rfl, rfl, rfl, rfl, rfl, rfl, rfl, trivial⟩ rfl rfl rfl trivial ?_; clear S CL a; intro a S CL
                obtain ⟨c7, h3⟩ := chk_of h2; clear h2
                refine h_iaddrS S CL hw le ⟨rfl, rfl, rfl, rfl, rfl, rfl, rfl, rfl, rfl, rfl, rfl, rfl, rfl, rfl, trivial⟩ rfl rfl rfl Tryd.underlying22 T38 c7.1 c7.2 rfl rfl trivial ?_; clear S CL a; intro p12 a S CL
                refine h_faddrP S CL hw le ⟨rfl, rfl, rfl, rfl, rfl, rfl, rfl, rfl, rfl, rfl, rfl, rfl, rfl, rfl, rfl, trivial⟩ (tF := (Ty.slice (Ty.arr .u64 4))) (y := (gt x2 y1).2.1) rfl I38_1 T35 (by decide) (fun m h => (at_fst (at_snd (at_0 h)))) rfl rfl trivial ?_; clear S CL a; intro a S CL
                refine h_ldS S CL hw le ⟨rfl, rfl, rfl, rfl, rfl, rfl, rfl, rfl, rfl, rfl, rfl, rfl, rfl, rfl, rfl, rfl, trivial⟩ (fun c => c) rfl T35 (fun _ => rfl) rfl rfl trivial ?_; clear S CL a; intro A3 cp7 a S CL
                refine h_move S CL hw le ⟨rfl, rfl, rfl, rfl, rfl, rfl, rfl, rfl, rfl, rfl, rfl, rfl, rfl, rfl, rfl, rfl, rfl, trivial⟩ rfl rfl rfl trivial ?_; clear S CL a; intro a S CL
                obtain ⟨c8, h4⟩ := chk_of h3; clear h3
                refine h_iaddrS S CL hw le ⟨rfl, rfl, rfl, rfl, rfl, rfl, rfl, rfl, rfl, rfl, rfl, rfl, rfl, rfl, rfl, rfl, rfl, rfl, trivial⟩ rfl rfl rfl Tryd.underlying35 T53 c8.1 c8.2 rfl rfl trivial ?_; clear S CL a; intro p13 a S CL
                refine h_ldA S CL hw le ⟨rfl, rfl, rfl, rfl, rfl, rfl, rfl, rfl, rfl, rfl, rfl, rfl, rfl, rfl, rfl, rfl, rfl, rfl, rfl, trivial⟩ (fun (c : Unit) => [.ints .u64 (gt ((gt x2 y1).2.1) y7) 4]) rfl T53 (fun _ => rfl) rfl rfl trivial ?_; clear S CL a; intro ch2 a S CL
                refine h_nea S CL hw le ⟨rfl, rfl, rfl, rfl, rfl, rfl, rfl, rfl, rfl, rfl, rfl, rfl, rfl, rfl, rfl, rfl, rfl, rfl, rfl, rfl, trivial⟩ rfl rfl Tryd.underlying53 Tryd.underlying51 T51 Q53 rfl rfl trivial ?_; clear S CL a; intro a S CL
                refine h_done ?_; clear CL hw le
                refine x_thenN ?_
                rcases ite_of h4 with ⟨c9, h5⟩ | ⟨c9, h5⟩ <;> clear h4
                · refine c_condT S rfl c9 ?_
                  refine c_region ?_
                  refine s_assign S rfl rfl ?_; clear S a; intro a S
                  refine c_end ?_
                  refine wp_ret ?_
                  refine x_blockR ?_
                  refine x_thenR ?_
                  refine x_thenR ?_
                  refine x_blockR ?_
                  refine x_blockR ?_
                  refine x_thenR ?_
                  refine x_thenR ?_
                  refine x_blockR ?_
                  refine x_thenR ?_
                  obtain rfl := Option.some.inj h5
                  exact b_ret1 (d := (.v (.bool false))) S rfl rfl fun ok => S.retX (Hx := []) hb _ _ (() : Unit) .nil ok
                · refine c_condF S rfl c9 ?_
                  refine wp_skip ?_
                  refine x_blockN ?_
                  refine x_thenN ?_
                  refine c_region' ?_
                  refine s_bin S rfl rfl rfl rfl ?_; clear S a; intro a S
                  refine s_move S rfl rfl ?_; clear S a; intro a S
                  refine c_end' ?_
                  refine x_thenN ?_
                  exact ⟨_, (wr .i64 (y7 + 1)), (S.sub ⟨rfl, rfl, rfl, rfl, rfl, rfl, rfl, trivial⟩ .nil), h5⟩
              · refine c_condF S rfl c5 ?_
                refine wp_exit ?_
                refine x_thenX ?_
                refine x_thenX ?_
                refine x_blockX ?_
                refine x_blockN ?_
                refine x_thenN ?_
                exact j2 _ a w (S.sub ⟨rfl, rfl, rfl, rfl, trivial⟩ .nil) h1
        refine c_heldS S (.take 0 (.take 1 (.take 2 (.take 3 (.take 4 (.take 5 (.take 6 (.take 7 (.take 8 (.take 9 (.take 10 (.take 11 (.take 12 (.take 13 (.take 14 (.take 15 (.take 16 (.take 17 (.take 18 (.take 19 (.take 20 (.take 21 (.take 22 (.take 23 (.take 24 (.take 25 (.take 26 (.take 27 (.take 28 (.take 29 (.take 30 (.take 31 (.take 32 (.take 33 (.take 34 (.take 35 (.take 36 (.take 37 (.take 38 (.take 39 (.take 40 .done))))))))))))))))))))))))))))))))))))))))) 41 [] .nil trivial [(5, (.v (.int .i64 y1))), (0, (.sl ch_0_0 (x1).length ch_0_1 (RdS (Ty.prod (Ty.arr .u8 20) (Ty.prod (Ty.slice (Ty.arr .u64 4)) (Ty.slice (Ty.int .u8)))) ch_0_0 x1))), (1, (.sl ch_1_0 (x2).length ch_1_1 (RdS (Ty.prod (Ty.arr .u8 20) (Ty.prod (Ty.slice (Ty.arr .u64 4)) (Ty.slice (Ty.int .u8)))) ch_1_0 x2)))] ⟨rfl, rfl, rfl, trivial⟩ (by kernel_rfl) (by kernel_rfl) ?_; clear S; intro w S CL hw le
        refine h_move S CL hw le ⟨rfl, rfl, rfl, trivial⟩ rfl rfl rfl trivial ?_; clear S CL a; intro a S CL
        refine h_move S CL hw le ⟨rfl, rfl, rfl, rfl, trivial⟩ rfl rfl rfl trivial ?_; clear S CL a; intro a S CL
        obtain ⟨c10, h2⟩ := chk_of h1; clear h1
        refine h_iaddrS S CL hw le ⟨rfl, rfl, rfl, rfl, rfl, trivial⟩ rfl rfl rfl Tryd.underlying22 T38 c10.1 c10.2 rfl rfl trivial ?_; clear S CL a; intro p14 a S CL
        refine h_faddrP S CL hw le ⟨rfl, rfl, rfl, rfl, rfl, rfl, trivial⟩ (tF := (Ty.arr .u8 20)) (y := (gt x1 y1).1) rfl I38_0 T34 (by decide) (fun m h => (at_fst (at_0 h))) rfl rfl trivial ?_; clear S CL a; intro a S CL
        refine h_ldA S CL hw le ⟨rfl, rfl, rfl, rfl, rfl, rfl, rfl, trivial⟩ (fun (c : Unit) => [.ints .u8 ((gt x1 y1).1) 20]) rfl T34 (fun _ => rfl) rfl rfl trivial ?_; clear S CL a; intro ch3 a S CL
        refine h_move S CL hw le ⟨rfl, rfl, rfl, rfl, rfl, rfl, rfl, rfl, trivial⟩ rfl rfl rfl trivial ?_; clear S CL a; intro a S CL
        refine h_move S CL hw le ⟨rfl, rfl, rfl, rfl, rfl, rfl, rfl, rfl, rfl, trivial⟩ rfl rfl rfl trivial ?_; clear S CL a; intro a S CL
        obtain ⟨c11, h3⟩ := chk_of h2; clear h2
        refine h_iaddrS S CL hw le ⟨rfl, rfl, rfl, rfl, rfl, rfl, rfl, rfl, rfl, rfl, trivial⟩ rfl rfl rfl Tryd.underlying22 T38 c11.1 c11.2 rfl rfl trivial ?_; clear S CL a; intro p15 a S CL
        refine h_faddrP S CL hw le ⟨rfl, rfl, rfl, rfl, rfl, rfl, rfl, rfl, rfl, rfl, rfl, trivial⟩ (tF := (Ty.arr .u8 20)) (y := (gt x2 y1).1) rfl I38_0 T34 (by decide) (fun m h => (at_fst (at_0 h))) rfl rfl trivial ?_; clear S CL a; intro a S CL
        refine h_ldA S CL hw le ⟨rfl, rfl, rfl, rfl, rfl, rfl, rfl, rfl, rfl, rfl, rfl, rfl, trivial⟩ (fun (c : Unit) => [.ints .u8 ((gt x2 y1).1) 20]) rfl T34 (fun _ => rfl) rfl rfl trivial ?_; clear S CL a; intro ch4 a S CL
        refine h_nea S CL hw le ⟨rfl, rfl, rfl, rfl, rfl, rfl, rfl, rfl, rfl, rfl, rfl, rfl, rfl, trivial⟩ rfl rfl Tryd.underlying34 Tryd.underlying5 T5 Q34 rfl rfl trivial ?_; clear S CL a; intro a S CL
        refine h_move S CL hw le ⟨rfl, rfl, rfl, rfl, rfl, rfl, rfl, rfl, rfl, rfl, rfl, rfl, rfl, rfl, trivial⟩ rfl rfl rfl trivial ?_; clear S CL a; intro a S CL
        rcases ite_of h3 with ⟨c12, h4⟩ | ⟨c12, h4⟩ <;> clear h3
        · refine h_skip S CL rfl rfl rfl (ne_bool c12) rfl ?_; clear S CL a; intro a S CL
          refine h_skip S CL rfl rfl rfl (ne_bool c12) rfl ?_; clear S CL a; intro a S CL
          refine h_skip S CL rfl rfl rfl (ne_bool c12) rfl ?_; clear S CL a; intro a S CL
          refine h_skip S CL rfl rfl rfl (ne_bool c12) rfl ?_; clear S CL a; intro a S CL
          refine h_skip S CL rfl rfl rfl (ne_bool c12) rfl ?_; clear S CL a; intro a S CL
          refine h_skip S CL rfl rfl rfl (ne_bool c12) rfl ?_; clear S CL a; intro a S CL
          refine h_skip S CL rfl rfl rfl (ne_bool c12) rfl ?_; clear S CL a; intro a S CL
          refine h_skip S CL rfl rfl rfl (ne_bool c12) rfl ?_; clear S CL a; intro a S CL
          refine h_skip S CL rfl rfl rfl (ne_bool c12) rfl ?_; clear S CL a; intro a S CL
          refine h_skip S CL rfl rfl rfl (ne_bool c12) rfl ?_; clear S CL a; intro a S CL
          refine h_skip S CL rfl rfl rfl (ne_bool c12) rfl ?_; clear S CL a; intro a S CL
          refine h_skip S CL rfl rfl rfl (ne_bool c12) rfl ?_; clear S CL a; intro a S CL
          refine h_skip S CL rfl rfl rfl (ne_bool c12) rfl ?_; clear S CL a; intro a S CL
          refine h_pick S CL hw le ⟨rfl, rfl, rfl, rfl, rfl, rfl, rfl, rfl, rfl, rfl, rfl, rfl, rfl, rfl, rfl, rfl, rfl, rfl, rfl, rfl, rfl, rfl, rfl, rfl, rfl, rfl, rfl, rfl, trivial⟩ (b := true) (hc_of rfl c12) rfl rfl rfl trivial ?_; clear S CL a; intro a S CL
          refine h_move S CL hw le ⟨rfl, rfl, rfl, rfl, rfl, rfl, rfl, rfl, rfl, rfl, rfl, rfl, rfl, rfl, rfl, rfl, rfl, rfl, rfl, rfl, rfl, rfl, rfl, rfl, rfl, rfl, rfl, rfl, rfl, trivial⟩ rfl rfl rfl trivial ?_; clear S CL a; intro a S CL
          refine h_skip S CL rfl rfl rfl (ne_bool rfl) rfl ?_; clear S CL a; intro a S CL
          refine h_skip S CL rfl rfl rfl (ne_bool rfl) rfl ?_; clear S CL a; intro a S CL
          refine h_skip S CL rfl rfl rfl (ne_bool rfl) rfl ?_; clear S CL a; intro a S CL
          refine h_skip S CL rfl rfl rfl (ne_bool rfl) rfl ?_; clear S CL a; intro a S CL
          refine h_skip S CL rfl rfl rfl (ne_bool rfl) rfl ?_; clear S CL a; intro a S CL
          refine h_skip S CL rfl rfl rfl (ne_bool rfl) rfl ?_; clear S CL a; intro a S CL
          refine h_skip S CL rfl rfl rfl (ne_bool rfl) rfl ?_; clear S CL a; intro a S CL
          refine h_skip S CL rfl rfl rfl (ne_bool rfl) rfl ?_; clear S CL a; intro a S CL
          refine h_skip S CL rfl rfl rfl (ne_bool rfl) rfl ?_; clear S CL a; intro a S CL
          refine h_skip S CL rfl rfl rfl (ne_bool rfl) rfl ?_; clear S CL a; intro a S CL
          refine h_skip S CL rfl rfl rfl (ne_bool rfl) rfl ?_; clear S CL a; intro a S CL
          refine h_skip S CL rfl rfl rfl (ne_bool rfl) rfl ?_; clear S CL a; intro a S CL
          refine h_skip S CL rfl rfl rfl (ne_bool rfl) rfl ?_; clear S CL a; intro a S CL
          refine h_pick S CL hw le ⟨rfl, rfl, rfl, rfl, rfl, rfl, rfl, rfl, rfl, rfl, rfl, rfl, rfl, rfl, rfl, rfl, rfl, rfl, rfl, rfl, rfl, rfl, rfl, rfl, rfl, rfl, rfl, rfl, rfl, rfl, rfl, rfl, rfl, rfl, rfl, rfl, rfl, rfl, rfl, rfl, rfl, rfl, rfl, trivial⟩ (b := true) (hc_of rfl rfl) rfl rfl rfl trivial ?_; clear S CL a; intro a S CL
          refine h_done ?_; clear CL hw le
          refine x_thenN ?_
          exact j3 _ true a w (S.sub ⟨rfl, rfl, rfl, rfl, rfl, rfl, trivial⟩ .nil) h4
        · refine h_move S CL hw le ⟨rfl, rfl, rfl, rfl, rfl, rfl, rfl, rfl, rfl, rfl, rfl, rfl, rfl, rfl, rfl, trivial⟩ rfl rfl rfl ⟨_, _, rfl, rfl, c12⟩ ?_; clear S CL a; intro a S CL
          refine h_move S CL hw le ⟨rfl, rfl, rfl, rfl, rfl, rfl, rfl, rfl, rfl, rfl, rfl, rfl, rfl, rfl, rfl, rfl, trivial⟩ rfl rfl rfl ⟨_, _, rfl, rfl, c12⟩ ?_; clear S CL a; intro a S CL
          refine h_iaddrS S CL hw le ⟨rfl, rfl, rfl, rfl, rfl, rfl, rfl, rfl, rfl, rfl, rfl, rfl, rfl, rfl, rfl, rfl, rfl, trivial⟩ rfl rfl rfl Tryd.underlying22 T38 c10.1 c10.2 rfl rfl ⟨_, _, rfl, rfl, c12⟩ ?_; clear S CL a; intro p16 a S CL
          refine h_faddrP S CL hw le ⟨rfl, rfl, rfl, rfl, rfl, rfl, rfl, rfl, rfl, rfl, rfl, rfl, rfl, rfl, rfl, rfl, rfl, rfl, trivial⟩ (tF := (Ty.slice (Ty.int .u8))) (y := (gt x1 y1).2.2) rfl I38_2 T36 (by decide) (fun m h => (at_snd (at_snd (at_0 h)))) rfl rfl ⟨_, _, rfl, rfl, c12⟩ ?_; clear S CL a; intro a S CL
          refine h_ldS S CL hw le ⟨rfl, rfl, rfl, rfl, rfl, rfl, rfl, rfl, rfl, rfl, rfl, rfl, rfl, rfl, rfl, rfl, rfl, rfl, rfl, trivial⟩ (fun c => c) rfl T36 (fun _ => rfl) rfl rfl ⟨_, _, rfl, rfl, c12⟩ ?_; clear S CL a; intro A4 cp8 a S CL
          refine h_strS S CL hw le ⟨rfl, rfl, rfl, rfl, rfl, rfl, rfl, rfl, rfl, rfl, rfl, rfl, rfl, rfl, rfl, rfl, rfl, rfl, rfl, rfl, trivial⟩ rfl rfl Tryd.underlying36 Tryd.underlying5 Tryd.underlying9 rfl rfl ⟨_, _, rfl, rfl, c12⟩ ?_; clear S CL a; intro a S CL
          refine h_move S CL hw le ⟨rfl, rfl, rfl, rfl, rfl, rfl, rfl, rfl, rfl, rfl, rfl, rfl, rfl, rfl, rfl, rfl, rfl, rfl, rfl, rfl, rfl, trivial⟩ rfl rfl rfl ⟨_, _, rfl, rfl, c12⟩ ?_; clear S CL a; intro a S CL
          refine h_move S CL hw le ⟨rfl, rfl, rfl, rfl, rfl, rfl, rfl, rfl, rfl, rfl, rfl, rfl, rfl, rfl, rfl, rfl, rfl, rfl, rfl, rfl, rfl, rfl, trivial⟩ rfl rfl rfl ⟨_, _, rfl, rfl, c12⟩ ?_; clear S CL a; intro a S CL
          refine h_iaddrS S CL hw le ⟨rfl, rfl, rfl, rfl, rfl, rfl, rfl, rfl, rfl, rfl, rfl, rfl, rfl, rfl, rfl, rfl, rfl, rfl, rfl, rfl, rfl, rfl, rfl, trivial⟩ rfl rfl rfl Tryd.underlying22 T38 c11.1 c11.2 rfl rfl ⟨_, _, rfl, rfl, c12⟩ ?_; clear S CL a; intro p17 a S CL
          refine h_faddrP S CL hw le ⟨rfl, rfl, rfl, rfl, rfl, rfl, rfl, rfl, rfl, rfl, rfl, rfl, rfl, rfl, rfl, rfl, rfl, rfl, rfl, rfl, rfl, rfl, rfl, rfl, trivial⟩ (tF := (Ty.slice (Ty.int .u8))) (y := (gt x2 y1).2.2) rfl I38_2 T36 (by decide) (fun m h => (at_snd (at_snd (at_0 h)))) rfl rfl ⟨_, _, rfl, rfl, c12⟩ ?_; clear S CL a; intro a S CL
          refine h_ldS S CL hw le ⟨rfl, rfl, rfl, rfl, rfl, rfl, rfl, rfl, rfl, rfl, rfl, rfl, rfl, rfl, rfl, rfl, rfl, rfl, rfl, rfl, rfl, rfl, rfl, rfl, rfl, trivial⟩ (fun c => c) rfl T36 (fun _ => rfl) rfl rfl ⟨_, _, rfl, rfl, c12⟩ ?_; clear S CL a; intro A5 cp9 a S CL
          refine h_strS S CL hw le ⟨rfl, rfl, rfl, rfl, rfl, rfl, rfl, rfl, rfl, rfl, rfl, rfl, rfl, rfl, rfl, rfl, rfl, rfl, rfl, rfl, rfl, rfl, rfl, rfl, rfl, rfl, trivial⟩ rfl rfl Tryd.underlying36 Tryd.underlying5 Tryd.underlying9 rfl rfl ⟨_, _, rfl, rfl, c12⟩ ?_; clear S CL a; intro a S CL
          refine h_neT S CL hw le ⟨rfl, rfl, rfl, rfl, rfl, rfl, rfl, rfl, rfl, rfl, rfl, rfl, rfl, rfl, rfl, rfl, rfl, rfl, rfl, rfl, rfl, rfl, rfl, rfl, rfl, rfl, rfl, trivial⟩ rfl rfl rfl rfl ⟨_, _, rfl, rfl, c12⟩ ?_; clear S CL a; intro a S CL
          refine h_pick S CL hw le ⟨rfl, rfl, rfl, rfl, rfl, rfl, rfl, rfl, rfl, rfl, rfl, rfl, rfl, rfl, rfl, rfl, rfl, rfl, rfl, rfl, rfl, rfl, rfl, rfl, rfl, rfl, rfl, rfl, trivial⟩ (b := false) (hc_of rfl c12) rfl rfl rfl trivial ?_; clear S CL a; intro a S CL
          refine h_move S CL hw le ⟨rfl, rfl, rfl, rfl, rfl, rfl, rfl, rfl, rfl, rfl, rfl, rfl, rfl, rfl, rfl, rfl, rfl, rfl, rfl, rfl, rfl, rfl, rfl, rfl, rfl, rfl, rfl, rfl, rfl, trivial⟩ rfl rfl rfl trivial ?_; clear S CL a; intro a S CL
          rcases ite_of h4 with ⟨c13, h5⟩ | ⟨c13, h5⟩ <;> clear h4
          · refine h_skip S CL rfl rfl rfl (ne_bool c13) rfl ?_; clear S CL a; intro a S CL
            refine h_skip S CL rfl rfl rfl (ne_bool c13) rfl ?_; clear S CL a; intro a S CL
            refine h_skip S CL rfl rfl rfl (ne_bool c13) rfl ?_; clear S CL a; intro a S CL
            refine h_skip S CL rfl rfl rfl (ne_bool c13) rfl ?_; clear S CL a; intro a S CL
            refine h_skip S CL rfl rfl rfl (ne_bool c13) rfl ?_; clear S CL a; intro a S CL
            refine h_skip S CL rfl rfl rfl (ne_bool c13) rfl ?_; clear S CL a; intro a S CL
            refine h_skip S CL rfl rfl rfl (ne_bool c13) rfl ?_; clear S CL a; intro a S CL
            refine h_skip S CL rfl rfl rfl (ne_bool c13) rfl ?_; clear S CL a; intro a S CL
            refine h_skip S CL rfl rfl rfl (ne_bool c13) rfl ?_; clear S CL a; intro a S CL
            refine h_skip S CL rfl rfl rfl (ne_bool c13) rfl ?_; clear S CL a; intro a S CL
            refine h_skip S CL rfl rfl rfl (ne_bool c13) rfl ?_; clear S CL a; intro a S CL
            refine h_skip S CL rfl rfl rfl (ne_bool c13) rfl ?_; clear S CL a; intro a S CL
            refine h_skip S CL rfl rfl rfl (ne_bool c13) rfl ?_; clear S CL a; intro a S CL
            refine h_pick S CL hw le ⟨rfl, rfl, rfl, rfl, rfl, rfl, rfl, rfl, rfl, rfl, rfl, rfl, rfl, rfl, rfl, rfl, rfl, rfl, rfl, rfl, rfl, rfl, rfl, rfl, rfl, rfl, rfl, rfl, rfl, rfl, rfl, rfl, rfl, rfl, rfl, rfl, rfl, rfl, rfl, rfl, rfl, rfl, rfl, trivial⟩ (b := true) (hc_of rfl c13) rfl rfl rfl trivial ?_; clear S CL a; intro a S CL
            refine h_done ?_; clear CL hw le
            refine x_thenN ?_
            exact j3 _ true a w (S.sub ⟨rfl, rfl, rfl, rfl, rfl, rfl, trivial⟩ .nil) h5
          · refine h_move S CL hw le ⟨rfl, rfl, rfl, rfl, rfl, rfl, rfl, rfl, rfl, rfl, rfl, rfl, rfl, rfl, rfl, rfl, rfl, rfl, rfl, rfl, rfl, rfl, rfl, rfl, rfl, rfl, rfl, rfl, rfl, rfl, trivial⟩ rfl rfl rfl ⟨_, _, rfl, rfl, c13⟩ ?_; clear S CL a; intro a S CL
            refine h_move S CL hw le ⟨rfl, rfl, rfl, rfl, rfl, rfl, rfl, rfl, rfl, rfl, rfl, rfl, rfl, rfl, rfl, rfl, rfl, rfl, rfl, rfl, rfl, rfl, rfl, rfl, rfl, rfl, rfl, rfl, rfl, rfl, rfl, trivial⟩ rfl rfl rfl ⟨_, _, rfl, rfl, c13⟩ ?_; clear S CL a; intro a S CL
            refine h_iaddrS S CL hw le ⟨rfl, rfl, rfl, rfl, rfl, rfl, rfl, rfl, rfl, rfl, rfl, rfl, rfl, rfl, rfl, rfl, rfl, rfl, rfl, rfl, rfl, rfl, rfl, rfl, rfl, rfl, rfl, rfl, rfl, rfl, rfl, rfl, trivial⟩ rfl rfl rfl Tryd.underlying22 T38 c10.1 c10.2 rfl rfl ⟨_, _, rfl, rfl, c13⟩ ?_; clear S CL a; intro p18 a S CL
            refine h_faddrP S CL hw le ⟨rfl, rfl, rfl, rfl, rfl, rfl, rfl, rfl, rfl, rfl, rfl, rfl, rfl, rfl, rfl, rfl, rfl, rfl, rfl, rfl, rfl, rfl, rfl, rfl, rfl, rfl, rfl, rfl, rfl, rfl, rfl, rfl, rfl, trivial⟩ (tF := (Ty.slice (Ty.arr .u64 4))) (y := (gt x1 y1).2.1) rfl I38_1 T35 (by decide) (fun m h => (at_fst (at_snd (at_0 h)))) rfl rfl ⟨_, _, rfl, rfl, c13⟩ ?_; clear S CL a; intro a S CL
            refine h_ldS S CL hw le ⟨rfl, rfl, rfl, rfl, rfl, rfl, rfl, rfl, rfl, rfl, rfl, rfl, rfl, rfl, rfl, rfl, rfl, rfl, rfl, rfl, rfl, rfl, rfl, rfl, rfl, rfl, rfl, rfl, rfl, rfl, rfl, rfl, rfl, rfl, trivial⟩ (fun c => c) rfl T35 (fun _ => rfl) rfl rfl ⟨_, _, rfl, rfl, c13⟩ ?_; clear S CL a; intro A6 cp10 a S CL
            refine h_lenS S CL hw le ⟨rfl, rfl, rfl, rfl, rfl, rfl, rfl, rfl, rfl, rfl, rfl, rfl, rfl, rfl, rfl, rfl, rfl, rfl, rfl, rfl, rfl, rfl, rfl, rfl, rfl, rfl, rfl, rfl, rfl, rfl, rfl, rfl, rfl, rfl, rfl, trivial⟩ rfl Tryd.underlying35 rfl rfl ⟨_, _, rfl, rfl, c13⟩ ?_; clear S CL a; intro a S CL
            refine h_move S CL hw le ⟨rfl, rfl, rfl, rfl, rfl, rfl, rfl, rfl, rfl, rfl, rfl, rfl, rfl, rfl, rfl, rfl, rfl, rfl, rfl, rfl, rfl, rfl, rfl, rfl, rfl, rfl, rfl, rfl, rfl, rfl, rfl, rfl, rfl, rfl, rfl, rfl, trivial⟩ rfl rfl rfl ⟨_, _, rfl, rfl, c13⟩ ?_; clear S CL a; intro a S CL
            refine h_move S CL hw le ⟨rfl, rfl, rfl, rfl, rfl, rfl, rfl, rfl, rfl, rfl, rfl, rfl, rfl, rfl, rfl, rfl, rfl, rfl, rfl, rfl, rfl, rfl, rfl, rfl, rfl, rfl, rfl, rfl, rfl, rfl, rfl, rfl, rfl, rfl, rfl, rfl, rfl, trivial⟩ rfl rfl rfl ⟨_, _, rfl, rfl, c13⟩ ?_; clear S CL a; intro a S CL
            refine h_iaddrS S CL hw le ⟨rfl, rfl, rfl, rfl, rfl, rfl, rfl, rfl, rfl, rfl, rfl, rfl, rfl, rfl, rfl, rfl, rfl, rfl, rfl, rfl, rfl, rfl, rfl, rfl, rfl, rfl, rfl, rfl, rfl, rfl, rfl, rfl, rfl, rfl, rfl, rfl, rfl, rfl, trivial⟩ rfl rfl rfl Tryd.underlying22 T38 c11.1 c11.2 rfl rfl ⟨_, _, rfl, rfl, c13⟩ ?_; clear S CL a; intro p19 a S CL
            refine h_faddrP S CL hw le ⟨rfl, rfl, rfl, rfl, rfl, rfl, rfl, rfl, rfl, rfl, rfl, rfl, rfl, rfl, rfl, rfl, rfl, rfl, rfl, rfl, rfl, rfl, rfl, rfl, rfl, rfl, rfl, rfl, rfl, rfl, rfl, rfl, rfl, rfl, rfl, rfl, rfl, rfl, rfl, trivial⟩ (tF := (Ty.slice (Ty.arr .u64 4))) (y := (gt x2 y1).2.1) rfl I38_1 T35 (by decide) (fun m h => (at_fst (at_snd (at_0 h)))) rfl rfl ⟨_, _, rfl, rfl, c13⟩ ?_; clear S CL a; intro a S CL
            refine h_ldS S CL hw le ⟨rfl, rfl, rfl, rfl, rfl, rfl, rfl, rfl, rfl, rfl, rfl, rfl, rfl, rfl, rfl, rfl, rfl, rfl, rfl, rfl, rfl, rfl, rfl, rfl, rfl, rfl, rfl, rfl, rfl, rfl, rfl, rfl, rfl, rfl, rfl, rfl, rfl, rfl, rfl, rfl, trivial⟩ (fun c => c) rfl T35 (fun _ => rfl) rfl rfl ⟨_, _, rfl, rfl, c13⟩ ?_; clear S CL a; intro A7 cp11 a S CL
            refine h_lenS S CL hw le ⟨rfl, rfl, rfl, rfl, rfl, rfl, rfl, rfl, rfl, rfl, rfl, rfl, rfl, rfl, rfl, rfl, rfl, rfl, rfl, rfl, rfl, rfl, rfl, rfl, rfl, rfl, rfl, rfl, rfl, rfl, rfl, rfl, rfl, rfl, rfl, rfl, rfl, rfl, rfl, rfl, rfl, trivial⟩ rfl Tryd.underlying35 rfl rfl ⟨_, _, rfl, rfl, c13⟩ ?_; clear S CL a; intro a S CL
            refine h_bin S CL hw le ⟨rfl, rfl, rfl, rfl, rfl, rfl, rfl, rfl, rfl, rfl, rfl, rfl, rfl, rfl, rfl, rfl, rfl, rfl, rfl, rfl, rfl, rfl, rfl, rfl, rfl, rfl, rfl, rfl, rfl, rfl, rfl, rfl, rfl, rfl, rfl, rfl, rfl, rfl, rfl, rfl, rfl, rfl, trivial⟩ rfl rfl rfl rfl rfl ⟨_, _, rfl, rfl, c13⟩ ?_; clear S CL a; intro a S CL
            refine h_pick S CL hw le ⟨rfl, rfl, rfl, rfl, rfl, rfl, rfl, rfl, rfl, rfl, rfl, rfl, rfl, rfl, rfl, rfl, rfl, rfl, rfl, rfl, rfl, rfl, rfl, rfl, rfl, rfl, rfl, rfl, rfl, rfl, rfl, rfl, rfl, rfl, rfl, rfl, rfl, rfl, rfl, rfl, rfl, rfl, rfl, trivial⟩ (b := false) (hc_of rfl c13) rfl rfl rfl trivial ?_; clear S CL a; intro a S CL
            refine h_done ?_; clear CL hw le
            refine x_thenN ?_
            exact j3 _ ((((gt x1 y1).2.1).length : Int) != (((gt x2 y1).2.1).length : Int)) a w (S.sub ⟨rfl, rfl, rfl, rfl, rfl, rfl, trivial⟩ .nil) h5
      · refine c_condF S rfl c2 ?_
        refine wp_exit ?_
        refine x_thenX ?_
        refine x_thenX ?_
        refine x_blockX ?_
        refine x_thenN ?_
        exact j1 _ a w (S.sub trivial .nil) h1
end GW
