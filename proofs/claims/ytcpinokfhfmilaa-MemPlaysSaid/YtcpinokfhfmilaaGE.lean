/-
  Printed by a program of these sessions (wip/gw/gx.py): for each Go function a Lean function with the same answers, and the walk that shows it.
-/
import Derived.Test.YtcpinokfhfmilaaProg
import Derived.Test.YtcpinokfhfmilaaGD
set_option linter.unusedVariables false
set_option maxRecDepth 10000
namespace GW
open Go Go.RowKit Go.Proofs
/-! smithy/smithylaw10.MemStacks -/
abbrev smithylaw10_MemStacks.Ty : Type := Int → (List (Int × Int × Int × Int × (List Int) × (List Int) × (List Int))) → Option Bool
def smithylaw10_MemStacks.Ctr (s : smithylaw10_MemStacks.Ty) : Prop := ∀ (x1 : Int) (x2 : List (Int × Int × Int × Int × (List Int) × (List Int) × (List Int))) (ch_1_0 : Option Addr) (ch_1_1 : Nat) (r : Bool) (h0 : s x1 x2 = some r) (mi : Mem) (w0 : World), okL mi [(.v (.int .u16 x1)), (.sl ch_1_0 (x2).length ch_1_1 (RdS (Ty.prod (Ty.int .i64) (Ty.prod (Ty.int .i64) (Ty.prod (Ty.int .i64) (Ty.prod (Ty.int .i64) (Ty.prod (Ty.arr .u64 4) (Ty.prod (Ty.arr .u64 4) (Ty.slice (Ty.int .u8)))))))) ch_1_0 x2))] → Pre mi [] w0 → Calls Try.prog 8 (([(.v (.int .u16 x1)), (.sl ch_1_0 (x2).length ch_1_1 (RdS (Ty.prod (Ty.int .i64) (Ty.prod (Ty.int .i64) (Ty.prod (Ty.int .i64) (Ty.prod (Ty.int .i64) (Ty.prod (Ty.arr .u64 4) (Ty.prod (Ty.arr .u64 4) (Ty.slice (Ty.int .u8)))))))) ch_1_0 x2))] : List D).map D.val).toArray w0 (RetX mi [] (fun (ch : Unit) => ((.v (.bool r)) : D)) (fun (ch : Unit) => []) w0)
def smithylaw10_MemStacks.j3 (k : Nat) (y30 : List (List Int)) (y31 : List (List Int)) : Option Bool := (mem_Stack_All.f (y31)).bind fun t4 => ((smithyref10_Same.f k t4.1 y30).bind fun t5 => (some t5))
def smithylaw10_MemStacks.j4 (y45 : Int) (rec1 : Int → (List (List Int)) → (List (List Int)) → Option Bool) (y51 : List (List Int)) (y52 : List (List Int)) : Option Bool := (mem_Stack_Len.f (y52)).bind fun t20 => (if (t20 != ((y51).length : Int)) = true then (some false) else (rec1 (wr .i64 (y45 + 1)) y51 y52))
def smithylaw10_MemStacks.j5 (y45 : Int) (y46 : List (List Int)) (rec1 : Int → (List (List Int)) → (List (List Int)) → Option Bool) (t22 : (List Int) × Bool × ((List (List Int)))) (y53 : Bool) : Option Bool := if y53 = true then (some false) else (if (0 : Int) ≤ (imax (wr .i64 (((y46).length : Int) - 1)) 0) ∧ (imax (wr .i64 (((y46).length : Int) - 1)) 0) ≤ ((y46).length : Int) then (smithylaw10_MemStacks.j4 y45 rec1 (y46.take (Int.toNat (imax (wr .i64 (((y46).length : Int) - 1)) 0))) t22.2.2) else none)
def smithylaw10_MemStacks.j6 (x2 : List (Int × Int × Int × Int × (List Int) × (List Int) × (List Int))) (y45 : Int) (y46 : List (List Int)) (y47 : List (List Int)) (rec1 : Int → (List (List Int)) → (List (List Int)) → Option Bool) (y54 : Bool) : Option Bool := (mem_Stack_Dup.f (y47) ((gt x2 y45).2.1)).bind fun t23 => (if (!(t23.1 == y54)) = true then (some false) else (if y54 = true then (if 0 ≤ (wr .i64 (((y46).length : Int) - ((gt x2 y45).2.1))) ∧ (wr .i64 (((y46).length : Int) - ((gt x2 y45).2.1))) < ((y46).length : Int) then (if ((y46).length + ([gt y46 (wr .i64 (((y46).length : Int) - ((gt x2 y45).2.1)))]).length) * 32 ≤ 140737488355328 then (smithylaw10_MemStacks.j4 y45 rec1 (y46 ++ [gt y46 (wr .i64 (((y46).length : Int) - ((gt x2 y45).2.1)))]) t23.2) else none) else none) else (smithylaw10_MemStacks.j4 y45 rec1 y46 t23.2)))
def smithylaw10_MemStacks.j7 (x2 : List (Int × Int × Int × Int × (List Int) × (List Int) × (List Int))) (y45 : Int) (y46 : List (List Int)) (y47 : List (List Int)) (rec1 : Int → (List (List Int)) → (List (List Int)) → Option Bool) (y55 : Bool) : Option Bool := (mem_Stack_Swap.f (y47) ((gt x2 y45).2.1)).bind fun t24 => (if (!(t24.1 == y55)) = true then (some false) else (if y55 = true then (if 0 ≤ (wr .i64 (((y46).length : Int) - 1)) ∧ (wr .i64 (((y46).length : Int) - 1)) < ((y46).length : Int) then (if 0 ≤ (wr .i64 ((wr .i64 (((y46).length : Int) - 1)) - ((gt x2 y45).2.1))) ∧ (wr .i64 ((wr .i64 (((y46).length : Int) - 1)) - ((gt x2 y45).2.1))) < ((y46).length : Int) then (if 0 ≤ (wr .i64 ((wr .i64 (((y46).length : Int) - 1)) - ((gt x2 y45).2.1))) ∧ (wr .i64 ((wr .i64 (((y46).length : Int) - 1)) - ((gt x2 y45).2.1))) < ((y46.set (Int.toNat (wr .i64 (((y46).length : Int) - 1))) (gt y46 (wr .i64 ((wr .i64 (((y46).length : Int) - 1)) - ((gt x2 y45).2.1))))).length : Int) then (smithylaw10_MemStacks.j4 y45 rec1 ((y46.set (Int.toNat (wr .i64 (((y46).length : Int) - 1))) (gt y46 (wr .i64 ((wr .i64 (((y46).length : Int) - 1)) - ((gt x2 y45).2.1))))).set (Int.toNat (wr .i64 ((wr .i64 (((y46).length : Int) - 1)) - ((gt x2 y45).2.1)))) (gt y46 (wr .i64 (((y46).length : Int) - 1)))) t24.2) else none) else none) else none) else (smithylaw10_MemStacks.j4 y45 rec1 y46 t24.2)))
def smithylaw10_MemStacks.b1 (k : Nat) (x2 : List (Int × Int × Int × Int × (List Int) × (List Int) × (List Int))) (rec1 : Int → (List (List Int)) → (List (List Int)) → Option Bool) (y45 : Int) (y46 : List (List Int)) (y47 : List (List Int)) : Option Bool := if (decide (y45 < ((x2).length : Int))) = true then (if 0 ≤ y45 ∧ y45 < ((x2).length : Int) then (if (((gt x2 y45).1) == 0) = true then ((mem_Stack_Push.f (y47) ((gt x2 y45).2.2.2.2.1)).bind fun t21 => (if (!(t21.1 == (decide (((y46).length : Int) < 1024)))) = true then (some false) else (if (decide (((y46).length : Int) < 1024)) = true then (if ((y46).length + ([(gt x2 y45).2.2.2.2.1]).length) * 32 ≤ 140737488355328 then (smithylaw10_MemStacks.j4 y45 rec1 (y46 ++ [(gt x2 y45).2.2.2.2.1]) t21.2) else none) else (smithylaw10_MemStacks.j4 y45 rec1 y46 t21.2)))) else (if (((gt x2 y45).1) == 1) = true then ((mem_Stack_Pop.f (y47)).bind fun t22 => (if (!(t22.2.1 == (decide (0 < ((y46).length : Int))))) = true then (smithylaw10_MemStacks.j5 y45 y46 rec1 t22 true) else (if t22.2.1 = true then (if 0 ≤ (wr .i64 (((y46).length : Int) - 1)) ∧ (wr .i64 (((y46).length : Int) - 1)) < ((y46).length : Int) then (if (!(decide (t22.1 = gt y46 (wr .i64 (((y46).length : Int) - 1))))) = true then (smithylaw10_MemStacks.j5 y45 y46 rec1 t22 true) else (if (!t22.2.1) = true then (smithylaw10_MemStacks.j5 y45 y46 rec1 t22 (!(decide (t22.1 = [0, 0, 0, 0])))) else (smithylaw10_MemStacks.j5 y45 y46 rec1 t22 false))) else none) else (if (!t22.2.1) = true then (smithylaw10_MemStacks.j5 y45 y46 rec1 t22 (!(decide (t22.1 = [0, 0, 0, 0])))) else (smithylaw10_MemStacks.j5 y45 y46 rec1 t22 false))))) else (if (((gt x2 y45).1) == 2) = true then (if (decide (1 ≤ ((gt x2 y45).2.1))) = true then (if (decide (((gt x2 y45).2.1) ≤ ((y46).length : Int))) = true then (smithylaw10_MemStacks.j6 x2 y45 y46 y47 rec1 (decide (((y46).length : Int) < 1024))) else (smithylaw10_MemStacks.j6 x2 y45 y46 y47 rec1 false)) else (smithylaw10_MemStacks.j6 x2 y45 y46 y47 rec1 false)) else (if (decide (1 ≤ ((gt x2 y45).2.1))) = true then (smithylaw10_MemStacks.j7 x2 y45 y46 y47 rec1 (decide (((gt x2 y45).2.1) < ((y46).length : Int)))) else (smithylaw10_MemStacks.j7 x2 y45 y46 y47 rec1 false))))) else none) else (smithylaw10_MemStacks.j3 k y46 y47)
def smithylaw10_MemStacks.l1 (k : Nat) (x2 : List (Int × Int × Int × Int × (List Int) × (List Int) × (List Int))) : Nat → Int → (List (List Int)) → (List (List Int)) → Option Bool
  | 0, _, _, _ => none
  | q + 1, y45, y46, y47 => smithylaw10_MemStacks.b1 k x2 (smithylaw10_MemStacks.l1 k x2 q) y45 y46 y47
def smithylaw10_MemStacks.j2 (k : Nat) (x2 : List (Int × Int × Int × Int × (List Int) × (List Int) × (List Int))) (y12 : List (List Int)) (y13 : List (List Int)) : Option Bool := smithylaw10_MemStacks.l1 k x2 k 0 y12 y13
def smithylaw10_MemStacks.j8 (y64 : Int) (rec2 : (List (List Int)) → Int → (List (List Int)) → Option Bool) (y66 : List (List Int)) (y67 : List (List Int)) : Option Bool := rec2 y66 (wr .i64 (y64 + 1)) y67
def smithylaw10_MemStacks.b2 (k : Nat) (x1 : Int) (x2 : List (Int × Int × Int × Int × (List Int) × (List Int) × (List Int))) (rec2 : (List (List Int)) → Int → (List (List Int)) → Option Bool) (y63 : List (List Int)) (y64 : Int) (y65 : List (List Int)) : Option Bool := if (decide (y64 < (Int.tmod (wr .i64 x1) 1030))) = true then ((mem_Stack_Push.f (y65) [wr .u64 y64, 0, 0, 0]).bind fun t26 => (if (!(t26.1 == (decide (((y63).length : Int) < 1024)))) = true then (some false) else (if t26.1 = true then (if ((y63).length + ([[wr .u64 y64, 0, 0, 0]]).length) * 32 ≤ 140737488355328 then (smithylaw10_MemStacks.j8 y64 rec2 (y63 ++ [[wr .u64 y64, 0, 0, 0]]) t26.2) else none) else (smithylaw10_MemStacks.j8 y64 rec2 y63 t26.2)))) else (smithylaw10_MemStacks.j2 k x2 y63 y65)
def smithylaw10_MemStacks.l2 (k : Nat) (x1 : Int) (x2 : List (Int × Int × Int × Int × (List Int) × (List Int) × (List Int))) : Nat → (List (List Int)) → Int → (List (List Int)) → Option Bool
  | 0, _, _, _ => none
  | q + 1, y63, y64, y65 => smithylaw10_MemStacks.b2 k x1 x2 (smithylaw10_MemStacks.l2 k x1 x2 q) y63 y64 y65
def smithylaw10_MemStacks.j1 (k : Nat) (x1 : Int) (x2 : List (Int × Int × Int × Int × (List Int) × (List Int) × (List Int))) (t1 : ((List (List Int)))) (y1 : Bool) : Option Bool := if y1 = true then ((smithylaw10_fixed.f).bind fun t3 => (some t3)) else (smithylaw10_MemStacks.l2 k x1 x2 k ([] : List (List Int)) 0 t1)
def smithylaw10_MemStacks.f (k : Nat) (x1 : Int) (x2 : List (Int × Int × Int × Int × (List Int) × (List Int) × (List Int))) : Option Bool := (mem_NewStack.f).bind fun t1 => ((smithylaw10_fixed.f).bind fun t27 => (if (!t27) = true then (smithylaw10_MemStacks.j1 k x1 x2 t1 true) else (smithylaw10_MemStacks.j1 k x1 x2 t1 (decide (200 < ((x2).length : Int))))))
theorem smithylaw10_MemStacks.ok (k : Nat) : smithylaw10_MemStacks.Ctr (smithylaw10_MemStacks.f k) := by
  intro x1 x2 ch_1_0 ch_1_1 r h0 mi w0 ok hm
  delta smithylaw10_MemStacks.f at h0
  refine c_enterX (n := 204) [(.v (.int .u16 x1)), (.sl ch_1_0 (x2).length ch_1_1 (RdS (Ty.prod (Ty.int .i64) (Ty.prod (Ty.int .i64) (Ty.prod (Ty.int .i64) (Ty.prod (Ty.int .i64) (Ty.prod (Ty.arr .u64 4) (Ty.prod (Ty.arr .u64 4) (Ty.slice (Ty.int .u8)))))))) ch_1_0 x2))] (l := [(0, (.v (.int .u16 x1))), (1, (.sl ch_1_0 (x2).length ch_1_1 (RdS (Ty.prod (Ty.int .i64) (Ty.prod (Ty.int .i64) (Ty.prod (Ty.int .i64) (Ty.prod (Ty.int .i64) (Ty.prod (Ty.arr .u64 4) (Ty.prod (Ty.arr .u64 4) (Ty.slice (Ty.int .u8)))))))) ch_1_0 x2)))]) Try.func8 rfl rfl rfl rfl ok hm ?_
  clear ok hm
  intro b0 hb a S
  refine c_region ?_
  refine s_assign S rfl rfl ?_; clear S a; intro a S
  refine c_end ?_
  refine c_region ?_
  obtain ⟨t1, et1, h1⟩ := bind_of h0; clear h0
  refine s_callX S (ds' := []) (ds := []) [] [] (fun (ch : Nat × (Option Addr) × Nat × Nat) => ((.v (.pointer (some ⟨ch.1, 0, none⟩))) : D)) (fun (ch : Nat × (Option Addr) × Nat × Nat) => [Res.cells ch.1 75 [.one (.slice ch.2.1 ch.2.2.1 ch.2.2.2)], Res.row (Ty.arr .u64 4) 27 ch.2.1 ch.2.2.1 ch.2.2.2 t1]) (fun (ch : Nat × (Option Addr) × Nat × Nat) => [Res.cells ch.1 75 [.one (.slice ch.2.1 ch.2.2.1 ch.2.2.2)], Res.row (Ty.arr .u64 4) 27 ch.2.1 ch.2.2.1 ch.2.2.2 t1]) (fun _ => rfl) N21 rfl rfl (fun ok => ok) .nil rfl (mem_NewStack.ok t1 et1 _ _) ?_; clear S a; intro ch1 m le1 a w S
  refine s_assign S rfl rfl ?_; clear S a; intro a S
  refine c_end ?_
  refine c_region ?_
  refine s_assign S rfl rfl ?_; clear S a; intro a S
  refine c_end ?_
  refine wp_seq ?_
  refine wp_seq_k ?_
  intro K1 hK1
  have j1 : ∀ (m : Mem) (y1 : Bool) (g1 : Nat) (A1 : Option Addr) (nn1 : Nat) (cp1 : Nat) (a : Act) (w : World), St 204 m b0 [(28, (.v (.bool y1))), (6, (.v (.slice none 0 0))), (5, (.v (.pointer (some ⟨g1, 0, none⟩)))), (0, (.v (.int .u16 x1))), (1, (.sl ch_1_0 (x2).length ch_1_1 (RdS (Ty.prod (Ty.int .i64) (Ty.prod (Ty.int .i64) (Ty.prod (Ty.int .i64) (Ty.prod (Ty.int .i64) (Ty.prod (Ty.arr .u64 4) (Ty.prod (Ty.arr .u64 4) (Ty.slice (Ty.int .u8)))))))) ch_1_0 x2)))] [Res.cells g1 75 [.one (.slice A1 nn1 cp1)], Res.row (Ty.arr .u64 4) 27 A1 nn1 cp1 t1] a w → smithylaw10_MemStacks.j1 k x1 x2 t1 y1 = some r → K1 a w := by
    intro m y1 g1 A1 nn1 cp1 a w S h0
    delta smithylaw10_MemStacks.j1 at h0
    refine hK1 a w ?_
    rcases ite_of h0 with ⟨c1, h1⟩ | ⟨c1, h1⟩ <;> clear h0
    · refine c_condT S rfl c1 ?_
      refine c_region ?_
      refine s_move S rfl rfl ?_; clear S a; intro a S
      refine s_nep S (b := true) rfl rfl Try.underlying43 rfl rfl ?_; clear S a; intro a S
      refine s_move S rfl rfl ?_; clear S a; intro a S
      refine s_gT S (b := true) rfl rfl rfl ?_
      obtain ⟨t3, et3, h2⟩ := bind_of h1; clear h1
      refine s_callX S (ds' := []) (ds := []) [] [Res.cells g1 75 [.one (.slice A1 nn1 cp1)], Res.row (Ty.arr .u64 4) 27 A1 nn1 cp1 t1] (fun (ch : Unit) => ((.v (.bool t3)) : D)) (fun (ch : Unit) => []) (fun (ch : Unit) => [Res.cells g1 75 [.one (.slice A1 nn1 cp1)], Res.row (Ty.arr .u64 4) 27 A1 nn1 cp1 t1]) (fun _ => rfl) N12 rfl rfl (fun ok => ok) (.cons .here (.cons .here .nil)) rfl (smithylaw10_fixed.ok t3 et3 _ _) ?_; clear S a w; intro ch2 m le1 a w S
      refine s_pick S (b := true) (hc_of rfl rfl) rfl rfl ?_; clear S a; intro a S
      refine s_assign S rfl rfl ?_; clear S a; intro a S
      refine c_end ?_
      refine wp_ret ?_
      refine x_thenR ?_
      obtain rfl := Option.some.inj h2
      exact b_ret1 (d := (.v (.bool t3))) S rfl rfl fun ok => S.retX (Hx := []) hb _ _ (() : Unit) .nil ok
    · refine c_condF S rfl c1 ?_
      refine wp_skip ?_
      refine x_thenN ?_
      refine wp_seq_k ?_
      intro K2 hK2
      have j2 : ∀ (m : Mem) (A2 : Option Addr) (nn10 : Nat) (cp12 : Nat) (y12 : List (List Int)) (g9 : Nat) (A3 : Option Addr) (nn11 : Nat) (cp13 : Nat) (y13 : List (List Int)) (a : Act) (w : World), St 204 m b0 [(6, (.v (.slice A2 nn10 cp12))), (5, (.v (.pointer (some ⟨g9, 0, none⟩)))), (1, (.sl ch_1_0 (x2).length ch_1_1 (RdS (Ty.prod (Ty.int .i64) (Ty.prod (Ty.int .i64) (Ty.prod (Ty.int .i64) (Ty.prod (Ty.int .i64) (Ty.prod (Ty.arr .u64 4) (Ty.prod (Ty.arr .u64 4) (Ty.slice (Ty.int .u8)))))))) ch_1_0 x2)))] [Res.row (Ty.arr .u64 4) 27 A2 nn10 cp12 y12, Res.cells g9 75 [.one (.slice A3 nn11 cp13)], Res.row (Ty.arr .u64 4) 27 A3 nn11 cp13 y13] a w → smithylaw10_MemStacks.j2 k x2 y12 y13 = some r → K2 a w := by
        intro m A2 nn10 cp12 y12 g9 A3 nn11 cp13 y13 a w S h0
        delta smithylaw10_MemStacks.j2 at h0
        refine hK2 a w ?_
        refine wp_seq_k ?_
        intro K3 hK3
        have j3 : ∀ (m : Mem) (A4 : Option Addr) (nn22 : Nat) (cp32 : Nat) (y30 : List (List Int)) (g49 : Nat) (A5 : Option Addr) (nn23 : Nat) (cp33 : Nat) (y31 : List (List Int)) (a : Act) (w : World), St 204 m b0 [(6, (.v (.slice A4 nn22 cp32))), (5, (.v (.pointer (some ⟨g49, 0, none⟩))))] [Res.row (Ty.arr .u64 4) 27 A4 nn22 cp32 y30, Res.cells g49 75 [.one (.slice A5 nn23 cp33)], Res.row (Ty.arr .u64 4) 27 A5 nn23 cp33 y31] a w → smithylaw10_MemStacks.j3 k y30 y31 = some r → K3 a w := by
          intro m A4 nn22 cp32 y30 g49 A5 nn23 cp33 y31 a w S h0
          delta smithylaw10_MemStacks.j3 at h0
          refine hK3 a w ?_
          refine c_region ?_
          refine s_move S rfl rfl ?_; clear S a; intro a S
          obtain ⟨t4, et4, h1⟩ := bind_of h0; clear h0
          refine s_callX S (ds' := [(.v (.pointer (some ⟨g49, 0, none⟩)))]) (ds := [(.v (.pointer (some ⟨g49, 0, none⟩)))]) [Res.cells g49 75 [.one (.slice A5 nn23 cp33)], Res.row (Ty.arr .u64 4) 27 A5 nn23 cp33 y31] [Res.row (Ty.arr .u64 4) 27 A4 nn22 cp32 y30] (fun (ch : (Option Addr) × Nat × Nat × (Option Addr) × Nat) => ((.v (.slice ch.1 ch.2.1 ch.2.2.1)) : D)) (fun (ch : (Option Addr) × Nat × Nat × (Option Addr) × Nat) => [Res.row (Ty.arr .u64 4) 27 ch.1 ch.2.1 ch.2.2.1 t4.1, Res.cells g49 75 [.sl ch.2.2.2.1 (t4.2).length ch.2.2.2.2 (RdS (Ty.arr .u64 4) ch.2.2.2.1 t4.2)]]) (fun (ch : (Option Addr) × Nat × Nat × (Option Addr) × Nat) => [Res.row (Ty.arr .u64 4) 27 ch.1 ch.2.1 ch.2.2.1 t4.1, Res.cells g49 75 [.sl ch.2.2.2.1 (t4.2).length ch.2.2.2.2 (RdS (Ty.arr .u64 4) ch.2.2.2.1 t4.2)], Res.row (Ty.arr .u64 4) 27 A4 nn22 cp32 y30]) (fun _ => rfl) N38 rfl rfl (fun ok => ok) (.cons (.there .here) (.cons (.there .here) (.cons .here .nil))) rfl (mem_Stack_All.ok (y31) g49 A5 nn23 cp33 t4 et4 _ _) ?_; clear S a w; intro ch3 m le1 a w S
          refine s_move S rfl rfl ?_; clear S a; intro a S
          replace S := S.rowfro .here
          obtain ⟨m, le1, S, hro⟩ := S
          replace S := S.slotro (u := 201) rfl hro
          replace S := S.rowfro (.there .here)
          obtain ⟨m, le1, S, hro⟩ := S
          replace S := S.slotro (u := 202) rfl hro
          replace S := S.slotro (u := 6) rfl hro
          obtain ⟨t5, et5, h2⟩ := bind_of h1; clear h1
          refine s_callX S (ds' := [(.sl ch3.1 (t4.1).length ch3.2.2.1 (RdS (Ty.arr .u64 4) ch3.1 t4.1)), (.sl A4 (y30).length cp32 (RdS (Ty.arr .u64 4) A4 y30))]) (ds := [(.sl ch3.1 (t4.1).length ch3.2.2.1 (RdS (Ty.arr .u64 4) ch3.1 t4.1)), (.sl A4 (y30).length cp32 (RdS (Ty.arr .u64 4) A4 y30))]) [] [Res.cells g49 75 [.sl ch3.2.2.2.1 (t4.2).length ch3.2.2.2.2 (RdS (Ty.arr .u64 4) ch3.2.2.2.1 t4.2)]] (fun (ch : Unit) => ((.v (.bool t5)) : D)) (fun (ch : Unit) => []) (fun (ch : Unit) => [Res.cells g49 75 [.sl ch3.2.2.2.1 (t4.2).length ch3.2.2.2.2 (RdS (Ty.arr .u64 4) ch3.2.2.2.1 t4.2)]]) (fun _ => rfl) N37 rfl rfl (fun ok => ok) (.cons .here .nil) rfl (smithyref10_Same.ok k t4.1 y30 ch3.1 ch3.2.2.1 A4 cp32 t5 et5 _ _) ?_; clear S a w; intro ch4 m le1 a w S
          refine s_assign S rfl rfl ?_; clear S a; intro a S
          refine c_end ?_
          refine wp_ret ?_
          obtain rfl := Option.some.inj h2
          exact b_ret1 (d := (.v (.bool t5))) S rfl rfl fun ok => S.retX (Hx := []) hb _ _ (() : Unit) .nil ok
        refine c_region ?_
        refine s_move S rfl rfl ?_; clear S a; intro a S
        refine s_lenS S rfl Try.underlying36 rfl ?_; clear S a; intro a S
        refine s_move S rfl rfl ?_; clear S a; intro a S
        refine c_end ?_
        refine wp_block ?_
        refine c_loop (fun q1 a w => ∃ (m : Mem) (y45 : Int) (A6 : Option Addr) (nn32 : Nat) (cp50 : Nat) (y46 : List (List Int)) (g88 : Nat) (A7 : Option Addr) (nn33 : Nat) (cp51 : Nat) (y47 : List (List Int)), St 204 m b0 [(60, (.v (.int .i64 y45))), (59, (.v (.int .i64 ((x2).length : Int)))), (58, (.sl ch_1_0 (x2).length ch_1_1 (RdS (Ty.prod (Ty.int .i64) (Ty.prod (Ty.int .i64) (Ty.prod (Ty.int .i64) (Ty.prod (Ty.int .i64) (Ty.prod (Ty.arr .u64 4) (Ty.prod (Ty.arr .u64 4) (Ty.slice (Ty.int .u8)))))))) ch_1_0 x2))), (6, (.v (.slice A6 nn32 cp50))), (5, (.v (.pointer (some ⟨g88, 0, none⟩))))] [Res.row (Ty.arr .u64 4) 27 A6 nn32 cp50 y46, Res.cells g88 75 [.one (.slice A7 nn33 cp51)], Res.row (Ty.arr .u64 4) 27 A7 nn33 cp51 y47] a w ∧ smithylaw10_MemStacks.l1 k x2 q1 y45 y46 y47 = some r) ?_ ?_ (k := k) ⟨_, 0, A2, nn10, cp12, y12, g9, A3, nn11, cp13, y13, (S.sub ⟨rfl, rfl, rfl, rfl, rfl, trivial⟩ (.cons .here (.cons .here (.cons .here .nil)))), h0⟩
        · rintro a w ⟨m, y45, A6, nn32, cp50, y46, g88, A7, nn33, cp51, y47, S, h0⟩
          exact (nomatch (show (none : Option Bool) = some r from h0))
        · clear S h0
          rintro q1 a w ⟨m, y45, A6, nn32, cp50, y46, g88, A7, nn33, cp51, y47, S, h0⟩
          replace h0 : smithylaw10_MemStacks.b1 k x2 (smithylaw10_MemStacks.l1 k x2 q1) y45 y46 y47 = some r := h0
          delta smithylaw10_MemStacks.b1 at h0
          refine c_region ?_
          refine s_bin S rfl rfl rfl rfl ?_; clear S a; intro a S
          refine c_end ?_
          refine wp_seq ?_
          rcases ite_of h0 with ⟨c2, h1⟩ | ⟨c2, h1⟩ <;> clear h0
          · refine c_condT S rfl c2 ?_
            refine wp_skip ?_
            refine x_thenN ?_
            refine wp_seq ?_
            refine wp_block ?_
            refine c_region ?_
            obtain ⟨c3, h2⟩ := chk_of h1; clear h1
            refine s_iaddrS S rfl rfl rfl Try.underlying36 T40 c3.1 c3.2 rfl ?_; clear S a; intro p1 a S
            refine s_ldA S (fun (c : Unit × Unit × Unit × Unit × Unit × Unit × (Option Addr × Nat)) => [.one (.int .i64 ((gt x2 y45).1)), .one (.int .i64 ((gt x2 y45).2.1)), .one (.int .i64 ((gt x2 y45).2.2.1)), .one (.int .i64 ((gt x2 y45).2.2.2.1)), .ints .u64 ((gt x2 y45).2.2.2.2.1) 4, .ints .u64 ((gt x2 y45).2.2.2.2.2.1) 4, .sl c.2.2.2.2.2.2.1 ((gt x2 y45).2.2.2.2.2.2).length c.2.2.2.2.2.2.2 (RdS (Ty.int .u8) c.2.2.2.2.2.2.1 ((gt x2 y45).2.2.2.2.2.2))]) rfl T40 (fun _ => rfl) rfl ?_; clear S a; intro ch5 a S
            refine s_alloc S Z40 rfl ⟨rfl, rfl, rfl, rfl, rfl, rfl, rfl, trivial⟩ rfl ?_; clear S a w; intro g89 a w S
            refine s_store S rfl rfl rfl (s' := [.one (.int .i64 ((gt x2 y45).1)), .one (.int .i64 ((gt x2 y45).2.1)), .one (.int .i64 ((gt x2 y45).2.2.1)), .one (.int .i64 ((gt x2 y45).2.2.2.1)), .ints .u64 ((gt x2 y45).2.2.2.2.1) 4, .ints .u64 ((gt x2 y45).2.2.2.2.2.1) 4, .sl ch5.2.2.2.2.2.2.1 ((gt x2 y45).2.2.2.2.2.2).length ch5.2.2.2.2.2.2.2 (RdS (Ty.int .u8) ch5.2.2.2.2.2.2.1 ((gt x2 y45).2.2.2.2.2.2))]) .here T40 rfl rfl ?_; clear S w; intro w S
            refine c_end ?_
            refine c_region ?_
            refine s_move S rfl rfl ?_; clear S a; intro a S
            refine s_lenO S rfl (.there .here) Try.underlying42 rfl ?_; clear S a; intro a S
            refine s_assign S rfl rfl ?_; clear S a; intro a S
            refine c_end ?_
            refine wp_seq_k ?_
            intro K4 hK4
            have j4 : ∀ (m : Mem) (A8 : Option Addr) (nn35 : Nat) (cp57 : Nat) (y51 : List (List Int)) (g106 : Nat) (A9 : Option Addr) (nn36 : Nat) (cp58 : Nat) (y52 : List (List Int)) (a : Act) (w : World), St 204 m b0 [(6, (.v (.slice A8 nn35 cp57))), (60, (.v (.int .i64 y45))), (59, (.v (.int .i64 ((x2).length : Int)))), (58, (.sl ch_1_0 (x2).length ch_1_1 (RdS (Ty.prod (Ty.int .i64) (Ty.prod (Ty.int .i64) (Ty.prod (Ty.int .i64) (Ty.prod (Ty.int .i64) (Ty.prod (Ty.arr .u64 4) (Ty.prod (Ty.arr .u64 4) (Ty.slice (Ty.int .u8)))))))) ch_1_0 x2))), (5, (.v (.pointer (some ⟨g106, 0, none⟩))))] [Res.cells g106 75 [.one (.slice A9 nn36 cp58)], Res.row (Ty.arr .u64 4) 27 A9 nn36 cp58 y52, Res.row (Ty.arr .u64 4) 27 A8 nn35 cp57 y51] a w → smithylaw10_MemStacks.j4 y45 (smithylaw10_MemStacks.l1 k x2 q1) y51 y52 = some r → K4 a w := by
              intro m A8 nn35 cp57 y51 g106 A9 nn36 cp58 y52 a w S h0
              delta smithylaw10_MemStacks.j4 at h0
              refine hK4 a w ?_
              refine c_region ?_
              refine s_move S rfl rfl ?_; clear S a; intro a S
              obtain ⟨t20, et20, h1⟩ := bind_of h0; clear h0
              refine s_callX S (ds' := [(.v (.pointer (some ⟨g106, 0, none⟩)))]) (ds := [(.v (.pointer (some ⟨g106, 0, none⟩)))]) [Res.cells g106 75 [.one (.slice A9 nn36 cp58)], Res.row (Ty.arr .u64 4) 27 A9 nn36 cp58 y52] [Res.row (Ty.arr .u64 4) 27 A8 nn35 cp57 y51] (fun (ch : Unit) => ((.v (.int .i64 t20)) : D)) (fun (ch : Unit) => [Res.cells g106 75 [.one (.slice A9 nn36 cp58)], Res.row (Ty.arr .u64 4) 27 A9 nn36 cp58 y52]) (fun (ch : Unit) => [Res.cells g106 75 [.one (.slice A9 nn36 cp58)], Res.row (Ty.arr .u64 4) 27 A9 nn36 cp58 y52, Res.row (Ty.arr .u64 4) 27 A8 nn35 cp57 y51]) (fun _ => rfl) N26 rfl rfl (fun ok => ok) (.cons .here (.cons .here (.cons .here .nil))) rfl (mem_Stack_Len.ok (y52) g106 A9 nn36 cp58 t20 et20 _ _) ?_; clear S a w; intro ch12 m le1 a w S
              refine s_move S rfl rfl ?_; clear S a; intro a S
              refine s_lenO S rfl (.there (.there .here)) Try.underlying42 rfl ?_; clear S a; intro a S
              refine s_bin S rfl rfl rfl rfl ?_; clear S a; intro a S
              refine c_end ?_
              rcases ite_of h1 with ⟨c4, h2⟩ | ⟨c4, h2⟩ <;> clear h1
              · refine c_condT S rfl c4 ?_
                refine c_region ?_
                refine s_assign S rfl rfl ?_; clear S a; intro a S
                refine c_end ?_
                refine wp_ret ?_
                refine x_blockR ?_
                refine x_thenR ?_
                refine x_thenR ?_
                refine x_blockR ?_
                refine x_thenR ?_
                obtain rfl := Option.some.inj h2
                exact b_ret1 (d := (.v (.bool false))) S rfl rfl fun ok => S.retX (Hx := []) hb _ _ (() : Unit) .nil ok
              · refine c_condF S rfl c4 ?_
                refine wp_skip ?_
                refine x_blockN ?_
                refine x_thenN ?_
                refine c_region' ?_
                refine s_bin S rfl rfl rfl rfl ?_; clear S a; intro a S
                refine s_move S rfl rfl ?_; clear S a; intro a S
                refine c_end' ?_
                refine x_thenN ?_
                exact ⟨_, (wr .i64 (y45 + 1)), A8, nn35, cp57, y51, g106, A9, nn36, cp58, y52, (S.sub ⟨rfl, rfl, rfl, rfl, rfl, trivial⟩ (.cons (.there (.there .here)) (.cons .here (.cons .here .nil)))), h2⟩
            refine c_region ?_
            refine s_fieldAddr S rfl I40_0 T3 (by decide) rfl rfl ?_; clear S a; intro a S
            refine s_load1 S rfl .here T3 (v := (.int .i64 ((gt x2 y45).1))) rfl rfl ?_; clear S a; intro a S
            refine c_end ?_
            refine wp_block ?_
            refine c_region ?_
            refine s_bin S rfl rfl rfl rfl ?_; clear S a; intro a S
            refine s_assign S rfl rfl ?_; clear S a; intro a S
            refine c_end ?_
            rcases ite_of h2 with ⟨c5, h3⟩ | ⟨c5, h3⟩ <;> clear h2
            · refine c_condT S rfl c5 ?_
              refine wp_seq ?_
              refine c_region ?_
              refine s_move S rfl rfl ?_; clear S a; intro a S
              refine s_fieldAddr S rfl I40_4 T27 (by decide) rfl rfl ?_; clear S a; intro a S
              refine s_loada S rfl .here T27 (s' := [.ints .u64 ((gt x2 y45).2.2.2.2.1) 4]) rfl rfl ?_; clear S a; intro a S
              obtain ⟨t21, et21, h4⟩ := bind_of h3; clear h3
              refine s_callX S (ds' := [(.v (.pointer (some ⟨g88, 0, none⟩))), (.agg [.ints .u64 ((gt x2 y45).2.2.2.2.1) 4])]) (ds := [(.v (.pointer (some ⟨g88, 0, none⟩))), (.agg [.ints .u64 ((gt x2 y45).2.2.2.2.1) 4])]) [Res.cells g88 75 [.one (.slice A7 nn33 cp51)], Res.row (Ty.arr .u64 4) 27 A7 nn33 cp51 y47] [Res.cells g89 40 [.one (.int .i64 ((gt x2 y45).1)), .one (.int .i64 ((gt x2 y45).2.1)), .one (.int .i64 ((gt x2 y45).2.2.1)), .one (.int .i64 ((gt x2 y45).2.2.2.1)), .ints .u64 ((gt x2 y45).2.2.2.2.1) 4, .ints .u64 ((gt x2 y45).2.2.2.2.2.1) 4, .sl ch5.2.2.2.2.2.2.1 ((gt x2 y45).2.2.2.2.2.2).length ch5.2.2.2.2.2.2.2 (RdS (Ty.int .u8) ch5.2.2.2.2.2.2.1 ((gt x2 y45).2.2.2.2.2.2))], Res.row (Ty.arr .u64 4) 27 A6 nn32 cp50 y46] (fun (ch : (Option Addr) × Nat × Nat) => ((.v (.bool t21.1)) : D)) (fun (ch : (Option Addr) × Nat × Nat) => [Res.cells g88 75 [.one (.slice ch.1 ch.2.1 ch.2.2)], Res.row (Ty.arr .u64 4) 27 ch.1 ch.2.1 ch.2.2 t21.2]) (fun (ch : (Option Addr) × Nat × Nat) => [Res.cells g88 75 [.one (.slice ch.1 ch.2.1 ch.2.2)], Res.row (Ty.arr .u64 4) 27 ch.1 ch.2.1 ch.2.2 t21.2, Res.cells g89 40 [.one (.int .i64 ((gt x2 y45).1)), .one (.int .i64 ((gt x2 y45).2.1)), .one (.int .i64 ((gt x2 y45).2.2.1)), .one (.int .i64 ((gt x2 y45).2.2.2.1)), .ints .u64 ((gt x2 y45).2.2.2.2.1) 4, .ints .u64 ((gt x2 y45).2.2.2.2.2.1) 4, .sl ch5.2.2.2.2.2.2.1 ((gt x2 y45).2.2.2.2.2.2).length ch5.2.2.2.2.2.2.2 (RdS (Ty.int .u8) ch5.2.2.2.2.2.2.1 ((gt x2 y45).2.2.2.2.2.2))], Res.row (Ty.arr .u64 4) 27 A6 nn32 cp50 y46]) (fun _ => rfl) N22 rfl rfl (fun ok => ok) (.cons (.there (.there .here)) (.cons (.there (.there .here)) (.cons .here (.cons .here .nil)))) rfl (mem_Stack_Push.ok (y47) ((gt x2 y45).2.2.2.2.1) g88 A7 nn33 cp51 t21 et21 _ _) ?_; clear S a w; intro ch13 m le1 a w S
              refine s_move S rfl rfl ?_; clear S a; intro a S
              refine s_bin S rfl rfl rfl rfl ?_; clear S a; intro a S
              refine s_neb S rfl rfl Try.underlying4 rfl ?_; clear S a; intro a S
              refine c_end ?_
              rcases ite_of h4 with ⟨c6, h5⟩ | ⟨c6, h5⟩ <;> clear h4
              · refine c_condT S rfl c6 ?_
                refine c_region ?_
                refine s_assign S rfl rfl ?_; clear S a; intro a S
                refine c_end ?_
                refine wp_ret ?_
                refine x_thenR ?_
                refine x_blockR ?_
                refine x_thenR ?_
                refine x_blockR ?_
                refine x_thenR ?_
                refine x_thenR ?_
                refine x_blockR ?_
                refine x_thenR ?_
                obtain rfl := Option.some.inj h5
                exact b_ret1 (d := (.v (.bool false))) S rfl rfl fun ok => S.retX (Hx := []) hb _ _ (() : Unit) .nil ok
              · refine c_condF S rfl c6 ?_
                refine wp_skip ?_
                refine x_thenN ?_
                refine c_region ?_
                refine s_move S rfl rfl ?_; clear S a; intro a S
                refine s_bin S rfl rfl rfl rfl ?_; clear S a; intro a S
                refine c_end ?_
                rcases ite_of h5 with ⟨c7, h6⟩ | ⟨c7, h6⟩ <;> clear h5
                · refine c_condT S rfl c7 ?_
                  refine c_region' ?_
                  refine s_move S rfl rfl ?_; clear S a; intro a S
                  refine s_fieldAddr S rfl I40_4 T27 (by decide) rfl rfl ?_; clear S a; intro a S
                  refine s_loada S rfl (.there (.there .here)) T27 (s' := [.ints .u64 ((gt x2 y45).2.2.2.2.1) 4]) rfl rfl ?_; clear S a; intro a S
                  refine s_bldSl S (ty' := (Ty.arr .u64 4)) (ds := [(0, (.agg [.ints .u64 ((gt x2 y45).2.2.2.2.1) 4]))]) (z := [0, 0, 0, 0]) (c0 := ()) (ys := [(gt x2 y45).2.2.2.2.1]) (cs := [()]) rfl Try.underlying42 J27 Z27 rfl ⟨rfl, trivial⟩ rfl rfl rfl rfl rfl rfl ?_; clear S a w; intro g107 a w S
                  obtain ⟨c8, h7⟩ := chk_of h6; clear h6
                  refine s_app S (k2 := 1) (ys := [(gt x2 y45).2.2.2.2.1]) rfl (fun _ _ => (.there (.there (.there (.there .here))))) rfl rfl (S.holds _ (Pull.mem .here).1).1 (Res.row.src (S.holds _ (Pull.mem .here).1)) Try.underlying42 J27 c8 rfl ?_; clear S a w; intro A10 cp59 a w S
                  refine s_assign S rfl rfl ?_; clear S a; intro a S
                  refine c_end' ?_
                  refine x_blockN ?_
                  refine x_thenN ?_
                  exact j4 _ A10 (nn32 + 1) cp59 (y46 ++ [(gt x2 y45).2.2.2.2.1]) g88 ch13.1 ch13.2.1 ch13.2.2 t21.2 a w (S.sub ⟨rfl, rfl, rfl, rfl, rfl, trivial⟩ (.cons (.there .here) (.cons (.there .here) (.cons (.there (.there .here)) .nil)))) h7
                · refine c_condF S rfl c7 ?_
                  refine wp_skip ?_
                  refine x_blockN ?_
                  refine x_thenN ?_
                  exact j4 _ A6 nn32 cp50 y46 g88 ch13.1 ch13.2.1 ch13.2.2 t21.2 a w (S.sub ⟨rfl, rfl, rfl, rfl, rfl, trivial⟩ (.cons .here (.cons .here (.cons (.there .here) .nil)))) h6
            · refine c_condF S rfl c5 ?_
              refine c_region ?_
              refine s_bin S rfl rfl rfl rfl ?_; clear S a; intro a S
              refine s_assign S rfl rfl ?_; clear S a; intro a S
              refine c_end ?_
              rcases ite_of h3 with ⟨c9, h4⟩ | ⟨c9, h4⟩ <;> clear h3
              · refine c_condT S rfl c9 ?_
                refine c_region ?_
                refine s_move S rfl rfl ?_; clear S a; intro a S
                obtain ⟨t22, et22, h5⟩ := bind_of h4; clear h4
                refine s_callX S (ds' := [(.v (.pointer (some ⟨g88, 0, none⟩)))]) (ds := [(.v (.pointer (some ⟨g88, 0, none⟩)))]) [Res.cells g88 75 [.one (.slice A7 nn33 cp51)], Res.row (Ty.arr .u64 4) 27 A7 nn33 cp51 y47] [Res.cells g89 40 [.one (.int .i64 ((gt x2 y45).1)), .one (.int .i64 ((gt x2 y45).2.1)), .one (.int .i64 ((gt x2 y45).2.2.1)), .one (.int .i64 ((gt x2 y45).2.2.2.1)), .ints .u64 ((gt x2 y45).2.2.2.2.1) 4, .ints .u64 ((gt x2 y45).2.2.2.2.2.1) 4, .sl ch5.2.2.2.2.2.2.1 ((gt x2 y45).2.2.2.2.2.2).length ch5.2.2.2.2.2.2.2 (RdS (Ty.int .u8) ch5.2.2.2.2.2.2.1 ((gt x2 y45).2.2.2.2.2.2))], Res.row (Ty.arr .u64 4) 27 A6 nn32 cp50 y46] (fun (ch : (Option Addr) × Nat × Nat) => ((.tup [(true, [.ints .u64 t22.1 4]), (false, [.one (.bool t22.2.1)])]) : D)) (fun (ch : (Option Addr) × Nat × Nat) => [Res.cells g88 75 [.one (.slice ch.1 ch.2.1 ch.2.2)], Res.row (Ty.arr .u64 4) 27 ch.1 ch.2.1 ch.2.2 t22.2.2]) (fun (ch : (Option Addr) × Nat × Nat) => [Res.cells g88 75 [.one (.slice ch.1 ch.2.1 ch.2.2)], Res.row (Ty.arr .u64 4) 27 ch.1 ch.2.1 ch.2.2 t22.2.2, Res.cells g89 40 [.one (.int .i64 ((gt x2 y45).1)), .one (.int .i64 ((gt x2 y45).2.1)), .one (.int .i64 ((gt x2 y45).2.2.1)), .one (.int .i64 ((gt x2 y45).2.2.2.1)), .ints .u64 ((gt x2 y45).2.2.2.2.1) 4, .ints .u64 ((gt x2 y45).2.2.2.2.2.1) 4, .sl ch5.2.2.2.2.2.2.1 ((gt x2 y45).2.2.2.2.2.2).length ch5.2.2.2.2.2.2.2 (RdS (Ty.int .u8) ch5.2.2.2.2.2.2.1 ((gt x2 y45).2.2.2.2.2.2))], Res.row (Ty.arr .u64 4) 27 A6 nn32 cp50 y46]) (fun _ => rfl) N24 rfl rfl (fun ok => ok) (.cons (.there (.there .here)) (.cons (.there (.there .here)) (.cons .here (.cons .here .nil)))) rfl (mem_Stack_Pop.ok (y47) g88 A7 nn33 cp51 t22 et22 _ _) ?_; clear S a w; intro ch14 m le1 a w S
                refine s_move S rfl rfl ?_; clear S a; intro a S
                refine s_extract S rfl rfl rfl rfl ?_; clear S a; intro a S
                refine s_extract S rfl rfl rfl rfl ?_; clear S a; intro a S
                refine s_alloc S Z27 rfl ⟨rfl, trivial⟩ rfl ?_; clear S a w; intro g108 a w S
                refine s_store S rfl rfl rfl (s' := [.ints .u64 t22.1 4]) .here T27 rfl rfl ?_; clear S w; intro w S
                refine s_assign S rfl rfl ?_; clear S a; intro a S
                refine c_end ?_
                refine wp_seq ?_
                refine wp_seq_k ?_
                intro K5 hK5
                have j5 : ∀ (m : Mem) (y53 : Bool) (g110 : Nat) (A11 : Option Addr) (nn37 : Nat) (cp60 : Nat) (a : Act) (w : World), St 204 m b0 [(156, (.v (.bool y53))), (11, (.v (.int .i64 ((y46).length : Int)))), (60, (.v (.int .i64 y45))), (59, (.v (.int .i64 ((x2).length : Int)))), (58, (.sl ch_1_0 (x2).length ch_1_1 (RdS (Ty.prod (Ty.int .i64) (Ty.prod (Ty.int .i64) (Ty.prod (Ty.int .i64) (Ty.prod (Ty.int .i64) (Ty.prod (Ty.arr .u64 4) (Ty.prod (Ty.arr .u64 4) (Ty.slice (Ty.int .u8)))))))) ch_1_0 x2))), (6, (.v (.slice A6 nn32 cp50))), (5, (.v (.pointer (some ⟨g110, 0, none⟩))))] [Res.cells g110 75 [.one (.slice A11 nn37 cp60)], Res.row (Ty.arr .u64 4) 27 A11 nn37 cp60 t22.2.2, Res.row (Ty.arr .u64 4) 27 A6 nn32 cp50 y46] a w → smithylaw10_MemStacks.j5 y45 y46 (smithylaw10_MemStacks.l1 k x2 q1) t22 y53 = some r → K5 a w := by
                  intro m y53 g110 A11 nn37 cp60 a w S h0
                  delta smithylaw10_MemStacks.j5 at h0
                  refine hK5 a w ?_
                  rcases ite_of h0 with ⟨c10, h1⟩ | ⟨c10, h1⟩ <;> clear h0
                  · refine c_condT S rfl c10 ?_
                    refine c_region ?_
                    refine s_assign S rfl rfl ?_; clear S a; intro a S
                    refine c_end ?_
                    refine wp_ret ?_
                    refine x_thenR ?_
                    refine x_blockR ?_
                    refine x_thenR ?_
                    refine x_blockR ?_
                    refine x_thenR ?_
                    refine x_thenR ?_
                    refine x_blockR ?_
                    refine x_thenR ?_
                    obtain rfl := Option.some.inj h1
                    exact b_ret1 (d := (.v (.bool false))) S rfl rfl fun ok => S.retX (Hx := []) hb _ _ (() : Unit) .nil ok
                  · refine c_condF S rfl c10 ?_
                    refine wp_skip ?_
                    refine x_thenN ?_
                    refine c_region' ?_
                    refine s_move S rfl rfl ?_; clear S a; intro a S
                    refine s_move S rfl rfl ?_; clear S a; intro a S
                    refine s_bin S rfl rfl rfl rfl ?_; clear S a; intro a S
                    refine s_max2 S rfl rfl rfl ?_; clear S a; intro a S
                    obtain ⟨c11, h2⟩ := chk_of h1; clear h1
                    refine s_cutO S (j := (imax (wr .i64 (((y46).length : Int) - 1)) 0)) rfl (.there (.there .here)) Try.underlying42 T27 (.inl rfl) rfl c11.1 c11.2 rfl ?_; clear S a; intro a S
                    refine s_assign S rfl rfl ?_; clear S a; intro a S
                    refine c_end' ?_
                    refine x_blockN ?_
                    refine x_thenN ?_
                    exact j4 _ A6 (Int.toNat (imax (wr .i64 (((y46).length : Int) - 1)) 0)) cp50 (y46.take (Int.toNat (imax (wr .i64 (((y46).length : Int) - 1)) 0))) g110 A11 nn37 cp60 t22.2.2 a w (S.sub ⟨rfl, rfl, rfl, rfl, rfl, trivial⟩ (.cons .here (.cons .here (.cons .here .nil)))) h2
                refine c_heldS S (.take 0 (.take 1 (.take 2 (.take 3 (.take 4 (.take 5 (.take 6 (.take 7 (.take 8 (.take 9 (.take 10 (.take 11 (.alts (.run 12 true (.take 13 (.take 14 (.take 15 (.take 16 (.take 17 (.take 18 (.take 19 (.take 20 (.take 21 (.take 22 (.take 23 (.take 24 .done)))))))))))) .nil)))))))))))))) 25 [Res.cells g108 27 [.ints .u64 t22.1 4], Res.cells g88 75 [.one (.slice ch14.1 ch14.2.1 ch14.2.2)], Res.row (Ty.arr .u64 4) 27 ch14.1 ch14.2.1 ch14.2.2 t22.2.2, Res.cells g89 40 [.one (.int .i64 ((gt x2 y45).1)), .one (.int .i64 ((gt x2 y45).2.1)), .one (.int .i64 ((gt x2 y45).2.2.1)), .one (.int .i64 ((gt x2 y45).2.2.2.1)), .ints .u64 ((gt x2 y45).2.2.2.2.1) 4, .ints .u64 ((gt x2 y45).2.2.2.2.2.1) 4, .sl ch5.2.2.2.2.2.2.1 ((gt x2 y45).2.2.2.2.2.2).length ch5.2.2.2.2.2.2.2 (RdS (Ty.int .u8) ch5.2.2.2.2.2.2.1 ((gt x2 y45).2.2.2.2.2.2))], Res.row (Ty.arr .u64 4) 27 A6 nn32 cp50 y46] (.cons .here (.cons .here (.cons .here (.cons .here (.cons .here .nil))))) ⟨Res.stay_cells, Res.stay_cells, Res.stay_row flat_arr, Res.stay_cells, Res.stay_row flat_arr, trivial⟩ [(13, (.v (.bool t22.2.1))), (12, (.v (.pointer (some ⟨g108, 0, none⟩)))), (11, (.v (.int .i64 ((y46).length : Int)))), (6, (.v (.slice A6 nn32 cp50)))] ⟨rfl, rfl, rfl, rfl, trivial⟩ (by kernel_rfl) (by kernel_rfl) ?_; clear S; intro w S CL hw le
                refine h_move S CL hw le ⟨rfl, rfl, rfl, rfl, trivial⟩ rfl rfl rfl trivial ?_; clear S CL a; intro a S CL
                refine h_move S CL hw le ⟨rfl, rfl, rfl, rfl, rfl, trivial⟩ rfl rfl rfl trivial ?_; clear S CL a; intro a S CL
                refine h_bin S CL hw le ⟨rfl, rfl, rfl, rfl, rfl, rfl, trivial⟩ rfl rfl rfl rfl rfl trivial ?_; clear S CL a; intro a S CL
                refine h_neb S CL hw le ⟨rfl, rfl, rfl, rfl, rfl, rfl, rfl, trivial⟩ rfl rfl Try.underlying4 rfl rfl trivial ?_; clear S CL a; intro a S CL
                refine h_move S CL hw le ⟨rfl, rfl, rfl, rfl, rfl, rfl, rfl, rfl, trivial⟩ rfl rfl rfl trivial ?_; clear S CL a; intro a S CL
                rcases ite_of h5 with ⟨c12, h6⟩ | ⟨c12, h6⟩ <;> clear h5
                · refine h_skip S CL rfl rfl rfl (ne_bool c12) rfl ?_; clear S CL a; intro a S CL
                  refine h_skip S CL rfl rfl rfl (ne_bool c12) rfl ?_; clear S CL a; intro a S CL
                  refine h_skip S CL rfl rfl rfl ne_undef rfl ?_; clear S CL a; intro a S CL
                  refine h_skip S CL rfl rfl rfl ne_undef rfl ?_; clear S CL a; intro a S CL
                  refine h_skip S CL rfl rfl rfl ne_undef rfl ?_; clear S CL a; intro a S CL
                  refine h_skip S CL rfl rfl rfl ne_undef rfl ?_; clear S CL a; intro a S CL
                  refine h_skip S CL rfl rfl rfl ne_undef rfl ?_; clear S CL a; intro a S CL
                  refine h_skipRt S rfl rfl rfl ne_undef rfl ?_; clear S a; intro a S
                  replace hw := CL.again hw S (.cons .here (.cons .here (.cons .here (.cons .here (.cons .here .nil))))) le
                  refine h_back ⟨fun _ => hw, ?_⟩
                  replace CL := CL.add (t := 144) (d := .u) S rfl rfl
                  refine h_skip S CL rfl rfl rfl ne_undef rfl ?_; clear S CL a; intro a S CL
                  refine h_skip S CL rfl rfl rfl (ne_bool c12) rfl ?_; clear S CL a; intro a S CL
                  refine h_pick S CL hw le ⟨rfl, rfl, rfl, rfl, rfl, rfl, rfl, rfl, rfl, rfl, rfl, rfl, rfl, rfl, rfl, rfl, rfl, rfl, rfl, trivial⟩ (b := true) (hc_of rfl c12) rfl rfl rfl trivial ?_; clear S CL a; intro a S CL
                  refine h_move S CL hw le ⟨rfl, rfl, rfl, rfl, rfl, rfl, rfl, rfl, rfl, rfl, rfl, rfl, rfl, rfl, rfl, rfl, rfl, rfl, rfl, rfl, trivial⟩ rfl rfl rfl trivial ?_; clear S CL a; intro a S CL
                  refine h_skip S CL rfl rfl rfl (ne_bool rfl) rfl ?_; clear S CL a; intro a S CL
                  refine h_skip S CL rfl rfl rfl (ne_bool rfl) rfl ?_; clear S CL a; intro a S CL
                  refine h_skip S CL rfl rfl rfl (ne_bool rfl) rfl ?_; clear S CL a; intro a S CL
                  refine h_skip S CL rfl rfl rfl ne_undef rfl ?_; clear S CL a; intro a S CL
                  refine h_skip S CL rfl rfl rfl ne_undef rfl ?_; clear S CL a; intro a S CL
                  refine h_skip S CL rfl rfl rfl ne_undef rfl ?_; clear S CL a; intro a S CL
                  refine h_skip S CL rfl rfl rfl (ne_bool rfl) rfl ?_; clear S CL a; intro a S CL
                  refine h_pick S CL hw le ⟨rfl, rfl, rfl, rfl, rfl, rfl, rfl, rfl, rfl, rfl, rfl, rfl, rfl, rfl, rfl, rfl, rfl, rfl, rfl, rfl, rfl, rfl, rfl, rfl, rfl, rfl, rfl, rfl, trivial⟩ (b := true) (hc_of rfl rfl) rfl rfl rfl trivial ?_; clear S CL a; intro a S CL
                  refine h_done ?_; clear CL hw le
                  refine x_thenN ?_
                  exact j5 _ true g88 ch14.1 ch14.2.1 ch14.2.2 a w (S.sub ⟨rfl, rfl, rfl, rfl, rfl, rfl, rfl, trivial⟩ (.cons (.there .here) (.cons (.there .here) (.cons (.there (.there .here)) .nil)))) h6
                · refine h_move S CL hw le ⟨rfl, rfl, rfl, rfl, rfl, rfl, rfl, rfl, rfl, trivial⟩ rfl rfl rfl ⟨_, _, rfl, rfl, c12⟩ ?_; clear S CL a; intro a S CL
                  refine h_move S CL hw le ⟨rfl, rfl, rfl, rfl, rfl, rfl, rfl, rfl, rfl, rfl, trivial⟩ rfl rfl rfl ⟨_, _, rfl, rfl, c12⟩ ?_; clear S CL a; intro a S CL
                  rcases ite_of h6 with ⟨c13, h7⟩ | ⟨c13, h7⟩ <;> clear h6
                  · refine h_loada S CL hw le ⟨rfl, rfl, rfl, rfl, rfl, rfl, rfl, rfl, rfl, rfl, rfl, trivial⟩ rfl .here T27 (s' := [.ints .u64 t22.1 4]) rfl rfl rfl ⟨_, _, rfl, rfl, c13⟩ ?_; clear S CL a; intro a S CL
                    refine h_move S CL hw le ⟨rfl, rfl, rfl, rfl, rfl, rfl, rfl, rfl, rfl, rfl, rfl, rfl, trivial⟩ rfl rfl rfl ⟨_, _, rfl, rfl, c13⟩ ?_; clear S CL a; intro a S CL
                    refine h_move S CL hw le ⟨rfl, rfl, rfl, rfl, rfl, rfl, rfl, rfl, rfl, rfl, rfl, rfl, rfl, trivial⟩ rfl rfl rfl ⟨_, _, rfl, rfl, c13⟩ ?_; clear S CL a; intro a S CL
                    refine h_bin S CL hw le ⟨rfl, rfl, rfl, rfl, rfl, rfl, rfl, rfl, rfl, rfl, rfl, rfl, rfl, rfl, trivial⟩ rfl rfl rfl rfl rfl ⟨_, _, rfl, rfl, c13⟩ ?_; clear S CL a; intro a S CL
                    obtain ⟨c14, h8⟩ := chk_of h7; clear h7
                    refine h_iaddrO S CL hw le ⟨rfl, rfl, rfl, rfl, rfl, rfl, rfl, rfl, rfl, rfl, rfl, rfl, rfl, rfl, rfl, trivial⟩ (ty' := (Ty.arr .u64 4)) rfl (.there (.there (.there (.there .here)))) rfl Try.underlying42 T27 c14.1 c14.2 rfl rfl ⟨_, _, rfl, rfl, c13⟩ ?_; clear S CL a; intro g111 a hA1 S CL
                    refine h_run' S rfl ⟨_, _, rfl, rfl, c13⟩ ?_
                    refine s_ldRA S (ty' := (Ty.arr .u64 4)) (i := (wr .i64 (((y46).length : Int) - 1))) (off := 0) (fun (c : Unit) => [.ints .u64 (gt y46 (wr .i64 (((y46).length : Int) - 1))) 4]) rfl hA1 (.there (.there (.there (.there .here)))) T27 c14.1 c14.2 rfl (fun _ => rfl) rfl ?_; clear S a; intro ch15 a S
                    replace hw := CL.again hw S (.cons .here (.cons .here (.cons .here (.cons .here (.cons .here .nil))))) le
                    refine h_back ⟨fun _ => hw, ?_⟩
                    replace CL := CL.add (t := 144) (d := (.agg [.ints .u64 (gt y46 (wr .i64 (((y46).length : Int) - 1))) 4])) S rfl rfl
                    refine h_nea S CL hw le ⟨rfl, rfl, rfl, rfl, rfl, rfl, rfl, rfl, rfl, rfl, rfl, rfl, rfl, rfl, rfl, rfl, rfl, trivial⟩ rfl rfl Try.underlying27 Try.underlying22 T22 Q27 rfl rfl ⟨_, _, rfl, rfl, c13⟩ ?_; clear S CL a; intro a S CL
                    refine h_pick S CL hw le ⟨rfl, rfl, rfl, rfl, rfl, rfl, rfl, rfl, rfl, rfl, rfl, rfl, rfl, rfl, rfl, rfl, rfl, rfl, trivial⟩ (b := true) (hc_of rfl c13) rfl rfl rfl ⟨_, _, rfl, rfl, c12⟩ ?_; clear S CL a; intro a S CL
                    refine h_pick S CL hw le ⟨rfl, rfl, rfl, rfl, rfl, rfl, rfl, rfl, rfl, rfl, rfl, rfl, rfl, rfl, rfl, rfl, rfl, rfl, rfl, trivial⟩ (b := false) (hc_of rfl c12) rfl rfl rfl trivial ?_; clear S CL a; intro a S CL
                    refine h_move S CL hw le ⟨rfl, rfl, rfl, rfl, rfl, rfl, rfl, rfl, rfl, rfl, rfl, rfl, rfl, rfl, rfl, rfl, rfl, rfl, rfl, rfl, trivial⟩ rfl rfl rfl trivial ?_; clear S CL a; intro a S CL
                    rcases ite_of h8 with ⟨c15, h9⟩ | ⟨c15, h9⟩ <;> clear h8
                    · refine h_skip S CL rfl rfl rfl (ne_bool c15) rfl ?_; clear S CL a; intro a S CL
                      refine h_skip S CL rfl rfl rfl (ne_bool c15) rfl ?_; clear S CL a; intro a S CL
                      refine h_skip S CL rfl rfl rfl (ne_bool c15) rfl ?_; clear S CL a; intro a S CL
                      refine h_skip S CL rfl rfl rfl ne_undef rfl ?_; clear S CL a; intro a S CL
                      refine h_skip S CL rfl rfl rfl ne_undef rfl ?_; clear S CL a; intro a S CL
                      refine h_skip S CL rfl rfl rfl ne_undef rfl ?_; clear S CL a; intro a S CL
                      refine h_skip S CL rfl rfl rfl (ne_bool c15) rfl ?_; clear S CL a; intro a S CL
                      refine h_pick S CL hw le ⟨rfl, rfl, rfl, rfl, rfl, rfl, rfl, rfl, rfl, rfl, rfl, rfl, rfl, rfl, rfl, rfl, rfl, rfl, rfl, rfl, rfl, rfl, rfl, rfl, rfl, rfl, rfl, rfl, trivial⟩ (b := true) (hc_of rfl c15) rfl rfl rfl trivial ?_; clear S CL a; intro a S CL
                      refine h_done ?_; clear CL hw le
                      refine x_thenN ?_
                      exact j5 _ true g88 ch14.1 ch14.2.1 ch14.2.2 a w (S.sub ⟨rfl, rfl, rfl, rfl, rfl, rfl, rfl, trivial⟩ (.cons (.there .here) (.cons (.there .here) (.cons (.there (.there .here)) .nil)))) h9
                    · refine h_move S CL hw le ⟨rfl, rfl, rfl, rfl, rfl, rfl, rfl, rfl, rfl, rfl, rfl, rfl, rfl, rfl, rfl, rfl, rfl, rfl, rfl, rfl, rfl, trivial⟩ rfl rfl rfl ⟨_, _, rfl, rfl, c15⟩ ?_; clear S CL a; intro a S CL
                      refine h_not S CL hw le ⟨rfl, rfl, rfl, rfl, rfl, rfl, rfl, rfl, rfl, rfl, rfl, rfl, rfl, rfl, rfl, rfl, rfl, rfl, rfl, rfl, rfl, rfl, trivial⟩ rfl rfl rfl ⟨_, _, rfl, rfl, c15⟩ ?_; clear S CL a; intro a S CL
                      refine h_move S CL hw le ⟨rfl, rfl, rfl, rfl, rfl, rfl, rfl, rfl, rfl, rfl, rfl, rfl, rfl, rfl, rfl, rfl, rfl, rfl, rfl, rfl, rfl, rfl, rfl, trivial⟩ rfl rfl rfl ⟨_, _, rfl, rfl, c15⟩ ?_; clear S CL a; intro a S CL
                      rcases ite_of h9 with ⟨c16, h10⟩ | ⟨c16, h10⟩ <;> clear h9
                      · refine h_loada S CL hw le ⟨rfl, rfl, rfl, rfl, rfl, rfl, rfl, rfl, rfl, rfl, rfl, rfl, rfl, rfl, rfl, rfl, rfl, rfl, rfl, rfl, rfl, rfl, rfl, rfl, trivial⟩ rfl .here T27 (s' := [.ints .u64 t22.1 4]) rfl rfl rfl ⟨_, _, rfl, rfl, c16⟩ ?_; clear S CL a; intro a S CL
                        refine h_build S CL hw le ⟨rfl, rfl, rfl, rfl, rfl, rfl, rfl, rfl, rfl, rfl, rfl, rfl, rfl, rfl, rfl, rfl, rfl, rfl, rfl, rfl, rfl, rfl, rfl, rfl, rfl, trivial⟩ (ds := []) (dv := (.agg [.ints .u64 [0, 0, 0, 0] 4])) rfl (fun _ => by kernel_rfl) ⟨rfl, trivial⟩ rfl rfl ⟨_, _, rfl, rfl, c16⟩ ?_; clear S CL a; intro a S CL
                        refine h_nea S CL hw le ⟨rfl, rfl, rfl, rfl, rfl, rfl, rfl, rfl, rfl, rfl, rfl, rfl, rfl, rfl, rfl, rfl, rfl, rfl, rfl, rfl, rfl, rfl, rfl, rfl, rfl, rfl, trivial⟩ rfl rfl Try.underlying27 Try.underlying22 T22 Q27 rfl rfl ⟨_, _, rfl, rfl, c16⟩ ?_; clear S CL a; intro a S CL
                        refine h_pick S CL hw le ⟨rfl, rfl, rfl, rfl, rfl, rfl, rfl, rfl, rfl, rfl, rfl, rfl, rfl, rfl, rfl, rfl, rfl, rfl, rfl, rfl, rfl, rfl, rfl, rfl, rfl, rfl, rfl, trivial⟩ (b := true) (hc_of rfl c16) rfl rfl rfl ⟨_, _, rfl, rfl, c15⟩ ?_; clear S CL a; intro a S CL
                        refine h_pick S CL hw le ⟨rfl, rfl, rfl, rfl, rfl, rfl, rfl, rfl, rfl, rfl, rfl, rfl, rfl, rfl, rfl, rfl, rfl, rfl, rfl, rfl, rfl, rfl, rfl, rfl, rfl, rfl, rfl, rfl, trivial⟩ (b := false) (hc_of rfl c15) rfl rfl rfl trivial ?_; clear S CL a; intro a S CL
                        refine h_done ?_; clear CL hw le
                        refine x_thenN ?_
                        exact j5 _ (!(decide (t22.1 = [0, 0, 0, 0]))) g88 ch14.1 ch14.2.1 ch14.2.2 a w (S.sub ⟨rfl, rfl, rfl, rfl, rfl, rfl, rfl, trivial⟩ (.cons (.there .here) (.cons (.there .here) (.cons (.there (.there .here)) .nil)))) h10
                      · refine h_skip S CL rfl rfl rfl (ne_bool c16) rfl ?_; clear S CL a; intro a S CL
                        refine h_skip S CL rfl rfl rfl (ne_bool c16) rfl ?_; clear S CL a; intro a S CL
                        refine h_skip S CL rfl rfl rfl (ne_bool c16) rfl ?_; clear S CL a; intro a S CL
                        refine h_pick S CL hw le ⟨rfl, rfl, rfl, rfl, rfl, rfl, rfl, rfl, rfl, rfl, rfl, rfl, rfl, rfl, rfl, rfl, rfl, rfl, rfl, rfl, rfl, rfl, rfl, rfl, rfl, rfl, rfl, trivial⟩ (b := false) (hc_of rfl c16) rfl rfl rfl ⟨_, _, rfl, rfl, c15⟩ ?_; clear S CL a; intro a S CL
                        refine h_pick S CL hw le ⟨rfl, rfl, rfl, rfl, rfl, rfl, rfl, rfl, rfl, rfl, rfl, rfl, rfl, rfl, rfl, rfl, rfl, rfl, rfl, rfl, rfl, rfl, rfl, rfl, rfl, rfl, rfl, rfl, trivial⟩ (b := false) (hc_of rfl c15) rfl rfl rfl trivial ?_; clear S CL a; intro a S CL
                        refine h_done ?_; clear CL hw le
                        refine x_thenN ?_
                        exact j5 _ false g88 ch14.1 ch14.2.1 ch14.2.2 a w (S.sub ⟨rfl, rfl, rfl, rfl, rfl, rfl, rfl, trivial⟩ (.cons (.there .here) (.cons (.there .here) (.cons (.there (.there .here)) .nil)))) h10
                  · refine h_skip S CL rfl rfl rfl (ne_bool c13) rfl ?_; clear S CL a; intro a S CL
                    refine h_skip S CL rfl rfl rfl (ne_bool c13) rfl ?_; clear S CL a; intro a S CL
                    refine h_skip S CL rfl rfl rfl (ne_bool c13) rfl ?_; clear S CL a; intro a S CL
                    refine h_skip S CL rfl rfl rfl (ne_bool c13) rfl ?_; clear S CL a; intro a S CL
                    refine h_skip S CL rfl rfl rfl (ne_bool c13) rfl ?_; clear S CL a; intro a S CL
                    refine h_skipRt S rfl rfl rfl (ne_bool c13) rfl ?_; clear S a; intro a S
                    replace hw := CL.again hw S (.cons .here (.cons .here (.cons .here (.cons .here (.cons .here .nil))))) le
                    refine h_back ⟨fun _ => hw, ?_⟩
                    replace CL := CL.add (t := 144) (d := .u) S rfl rfl
                    refine h_skip S CL rfl rfl rfl (ne_bool c13) rfl ?_; clear S CL a; intro a S CL
                    refine h_pick S CL hw le ⟨rfl, rfl, rfl, rfl, rfl, rfl, rfl, rfl, rfl, rfl, rfl, rfl, rfl, rfl, rfl, rfl, rfl, rfl, trivial⟩ (b := false) (hc_of rfl c13) rfl rfl rfl ⟨_, _, rfl, rfl, c12⟩ ?_; clear S CL a; intro a S CL
                    refine h_pick S CL hw le ⟨rfl, rfl, rfl, rfl, rfl, rfl, rfl, rfl, rfl, rfl, rfl, rfl, rfl, rfl, rfl, rfl, rfl, rfl, rfl, trivial⟩ (b := false) (hc_of rfl c12) rfl rfl rfl trivial ?_; clear S CL a; intro a S CL
                    refine h_move S CL hw le ⟨rfl, rfl, rfl, rfl, rfl, rfl, rfl, rfl, rfl, rfl, rfl, rfl, rfl, rfl, rfl, rfl, rfl, rfl, rfl, rfl, trivial⟩ rfl rfl rfl trivial ?_; clear S CL a; intro a S CL
                    refine h_move S CL hw le ⟨rfl, rfl, rfl, rfl, rfl, rfl, rfl, rfl, rfl, rfl, rfl, rfl, rfl, rfl, rfl, rfl, rfl, rfl, rfl, rfl, rfl, trivial⟩ rfl rfl rfl ⟨_, _, rfl, rfl, rfl⟩ ?_; clear S CL a; intro a S CL
                    refine h_not S CL hw le ⟨rfl, rfl, rfl, rfl, rfl, rfl, rfl, rfl, rfl, rfl, rfl, rfl, rfl, rfl, rfl, rfl, rfl, rfl, rfl, rfl, rfl, rfl, trivial⟩ rfl rfl rfl ⟨_, _, rfl, rfl, rfl⟩ ?_; clear S CL a; intro a S CL
                    refine h_move S CL hw le ⟨rfl, rfl, rfl, rfl, rfl, rfl, rfl, rfl, rfl, rfl, rfl, rfl, rfl, rfl, rfl, rfl, rfl, rfl, rfl, rfl, rfl, rfl, rfl, trivial⟩ rfl rfl rfl ⟨_, _, rfl, rfl, rfl⟩ ?_; clear S CL a; intro a S CL
                    rcases ite_of h7 with ⟨c17, h8⟩ | ⟨c17, h8⟩ <;> clear h7
                    · refine h_loada S CL hw le ⟨rfl, rfl, rfl, rfl, rfl, rfl, rfl, rfl, rfl, rfl, rfl, rfl, rfl, rfl, rfl, rfl, rfl, rfl, rfl, rfl, rfl, rfl, rfl, rfl, trivial⟩ rfl .here T27 (s' := [.ints .u64 t22.1 4]) rfl rfl rfl ⟨_, _, rfl, rfl, c17⟩ ?_; clear S CL a; intro a S CL
                      refine h_build S CL hw le ⟨rfl, rfl, rfl, rfl, rfl, rfl, rfl, rfl, rfl, rfl, rfl, rfl, rfl, rfl, rfl, rfl, rfl, rfl, rfl, rfl, rfl, rfl, rfl, rfl, rfl, trivial⟩ (ds := []) (dv := (.agg [.ints .u64 [0, 0, 0, 0] 4])) rfl (fun _ => by kernel_rfl) ⟨rfl, trivial⟩ rfl rfl ⟨_, _, rfl, rfl, c17⟩ ?_; clear S CL a; intro a S CL
                      refine h_nea S CL hw le ⟨rfl, rfl, rfl, rfl, rfl, rfl, rfl, rfl, rfl, rfl, rfl, rfl, rfl, rfl, rfl, rfl, rfl, rfl, rfl, rfl, rfl, rfl, rfl, rfl, rfl, rfl, trivial⟩ rfl rfl Try.underlying27 Try.underlying22 T22 Q27 rfl rfl ⟨_, _, rfl, rfl, c17⟩ ?_; clear S CL a; intro a S CL
                      refine h_pick S CL hw le ⟨rfl, rfl, rfl, rfl, rfl, rfl, rfl, rfl, rfl, rfl, rfl, rfl, rfl, rfl, rfl, rfl, rfl, rfl, rfl, rfl, rfl, rfl, rfl, rfl, rfl, rfl, rfl, trivial⟩ (b := true) (hc_of rfl c17) rfl rfl rfl ⟨_, _, rfl, rfl, rfl⟩ ?_; clear S CL a; intro a S CL
                      refine h_pick S CL hw le ⟨rfl, rfl, rfl, rfl, rfl, rfl, rfl, rfl, rfl, rfl, rfl, rfl, rfl, rfl, rfl, rfl, rfl, rfl, rfl, rfl, rfl, rfl, rfl, rfl, rfl, rfl, rfl, rfl, trivial⟩ (b := false) (hc_of rfl rfl) rfl rfl rfl trivial ?_; clear S CL a; intro a S CL
                      refine h_done ?_; clear CL hw le
                      refine x_thenN ?_
                      exact j5 _ (!(decide (t22.1 = [0, 0, 0, 0]))) g88 ch14.1 ch14.2.1 ch14.2.2 a w (S.sub ⟨rfl, rfl, rfl, rfl, rfl, rfl, rfl, trivial⟩ (.cons (.there .here) (.cons (.there .here) (.cons (.there (.there .here)) .nil)))) h8
                    · refine h_skip S CL rfl rfl rfl (ne_bool c17) rfl ?_; clear S CL a; intro a S CL
                      refine h_skip S CL rfl rfl rfl (ne_bool c17) rfl ?_; clear S CL a; intro a S CL
                      refine h_skip S CL rfl rfl rfl (ne_bool c17) rfl ?_; clear S CL a; intro a S CL
                      refine h_pick S CL hw le ⟨rfl, rfl, rfl, rfl, rfl, rfl, rfl, rfl, rfl, rfl, rfl, rfl, rfl, rfl, rfl, rfl, rfl, rfl, rfl, rfl, rfl, rfl, rfl, rfl, rfl, rfl, rfl, trivial⟩ (b := false) (hc_of rfl c17) rfl rfl rfl ⟨_, _, rfl, rfl, rfl⟩ ?_; clear S CL a; intro a S CL
                      refine h_pick S CL hw le ⟨rfl, rfl, rfl, rfl, rfl, rfl, rfl, rfl, rfl, rfl, rfl, rfl, rfl, rfl, rfl, rfl, rfl, rfl, rfl, rfl, rfl, rfl, rfl, rfl, rfl, rfl, rfl, rfl, trivial⟩ (b := false) (hc_of rfl rfl) rfl rfl rfl trivial ?_; clear S CL a; intro a S CL
                      refine h_done ?_; clear CL hw le
                      refine x_thenN ?_
                      exact j5 _ false g88 ch14.1 ch14.2.1 ch14.2.2 a w (S.sub ⟨rfl, rfl, rfl, rfl, rfl, rfl, rfl, trivial⟩ (.cons (.there .here) (.cons (.there .here) (.cons (.there (.there .here)) .nil)))) h8
              · refine c_condF S rfl c9 ?_
                refine c_region ?_
                refine s_bin S rfl rfl rfl rfl ?_; clear S a; intro a S
                refine s_assign S rfl rfl ?_; clear S a; intro a S
                refine c_end ?_
                rcases ite_of h4 with ⟨c18, h5⟩ | ⟨c18, h5⟩ <;> clear h4
                · refine c_condT S rfl c18 ?_
                  refine wp_seq_k ?_
                  intro K6 hK6
                  have j6 : ∀ (m : Mem) (y54 : Bool) (g112 : Nat) (g113 : Nat) (A12 : Option Addr) (cp61 : Nat) (a : Act) (w : World), St 204 m b0 [(14, (.v (.bool y54))), (11, (.v (.int .i64 ((y46).length : Int)))), (10, (.v (.pointer (some ⟨g112, 0, none⟩)))), (60, (.v (.int .i64 y45))), (59, (.v (.int .i64 ((x2).length : Int)))), (58, (.sl ch_1_0 (x2).length ch_1_1 (RdS (Ty.prod (Ty.int .i64) (Ty.prod (Ty.int .i64) (Ty.prod (Ty.int .i64) (Ty.prod (Ty.int .i64) (Ty.prod (Ty.arr .u64 4) (Ty.prod (Ty.arr .u64 4) (Ty.slice (Ty.int .u8)))))))) ch_1_0 x2))), (6, (.v (.slice A6 nn32 cp50))), (5, (.v (.pointer (some ⟨g113, 0, none⟩))))] [Res.cells g112 40 [.one (.int .i64 ((gt x2 y45).1)), .one (.int .i64 ((gt x2 y45).2.1)), .one (.int .i64 ((gt x2 y45).2.2.1)), .one (.int .i64 ((gt x2 y45).2.2.2.1)), .ints .u64 ((gt x2 y45).2.2.2.2.1) 4, .ints .u64 ((gt x2 y45).2.2.2.2.2.1) 4, .sl A12 ((gt x2 y45).2.2.2.2.2.2).length cp61 (RdS (Ty.int .u8) A12 ((gt x2 y45).2.2.2.2.2.2))], Res.row (Ty.arr .u64 4) 27 A6 nn32 cp50 y46, Res.cells g113 75 [.one (.slice A7 nn33 cp51)], Res.row (Ty.arr .u64 4) 27 A7 nn33 cp51 y47] a w → smithylaw10_MemStacks.j6 x2 y45 y46 y47 (smithylaw10_MemStacks.l1 k x2 q1) y54 = some r → K6 a w := by
                    intro m y54 g112 g113 A12 cp61 a w S h0
                    delta smithylaw10_MemStacks.j6 at h0
                    refine hK6 a w ?_
                    refine wp_seq ?_
                    refine c_region ?_
                    refine s_move S rfl rfl ?_; clear S a; intro a S
                    refine s_fieldAddr S rfl I40_1 T3 (by decide) rfl rfl ?_; clear S a; intro a S
                    refine s_load1 S rfl .here T3 (v := (.int .i64 ((gt x2 y45).2.1))) rfl rfl ?_; clear S a; intro a S
                    obtain ⟨t23, et23, h1⟩ := bind_of h0; clear h0
                    refine s_callX S (ds' := [(.v (.pointer (some ⟨g113, 0, none⟩))), (.v (.int .i64 ((gt x2 y45).2.1)))]) (ds := [(.v (.pointer (some ⟨g113, 0, none⟩))), (.v (.int .i64 ((gt x2 y45).2.1)))]) [Res.cells g113 75 [.one (.slice A7 nn33 cp51)], Res.row (Ty.arr .u64 4) 27 A7 nn33 cp51 y47] [Res.cells g112 40 [.one (.int .i64 ((gt x2 y45).1)), .one (.int .i64 ((gt x2 y45).2.1)), .one (.int .i64 ((gt x2 y45).2.2.1)), .one (.int .i64 ((gt x2 y45).2.2.2.1)), .ints .u64 ((gt x2 y45).2.2.2.2.1) 4, .ints .u64 ((gt x2 y45).2.2.2.2.2.1) 4, .sl A12 ((gt x2 y45).2.2.2.2.2.2).length cp61 (RdS (Ty.int .u8) A12 ((gt x2 y45).2.2.2.2.2.2))], Res.row (Ty.arr .u64 4) 27 A6 nn32 cp50 y46] (fun (ch : (Option Addr) × Nat × Nat) => ((.v (.bool t23.1)) : D)) (fun (ch : (Option Addr) × Nat × Nat) => [Res.cells g113 75 [.one (.slice ch.1 ch.2.1 ch.2.2)], Res.row (Ty.arr .u64 4) 27 ch.1 ch.2.1 ch.2.2 t23.2]) (fun (ch : (Option Addr) × Nat × Nat) => [Res.cells g113 75 [.one (.slice ch.1 ch.2.1 ch.2.2)], Res.row (Ty.arr .u64 4) 27 ch.1 ch.2.1 ch.2.2 t23.2, Res.cells g112 40 [.one (.int .i64 ((gt x2 y45).1)), .one (.int .i64 ((gt x2 y45).2.1)), .one (.int .i64 ((gt x2 y45).2.2.1)), .one (.int .i64 ((gt x2 y45).2.2.2.1)), .ints .u64 ((gt x2 y45).2.2.2.2.1) 4, .ints .u64 ((gt x2 y45).2.2.2.2.2.1) 4, .sl A12 ((gt x2 y45).2.2.2.2.2.2).length cp61 (RdS (Ty.int .u8) A12 ((gt x2 y45).2.2.2.2.2.2))], Res.row (Ty.arr .u64 4) 27 A6 nn32 cp50 y46]) (fun _ => rfl) N23 rfl rfl (fun ok => ok) (.cons (.there (.there .here)) (.cons (.there (.there .here)) (.cons .here (.cons .here .nil)))) rfl (mem_Stack_Dup.ok (y47) ((gt x2 y45).2.1) g113 A7 nn33 cp51 t23 et23 _ _) ?_; clear S a w; intro ch16 m le1 a w S
                    refine s_move S rfl rfl ?_; clear S a; intro a S
                    refine s_neb S rfl rfl Try.underlying4 rfl ?_; clear S a; intro a S
                    refine c_end ?_
                    rcases ite_of h1 with ⟨c19, h2⟩ | ⟨c19, h2⟩ <;> clear h1
                    · refine c_condT S rfl c19 ?_
                      refine c_region ?_
                      refine s_assign S rfl rfl ?_; clear S a; intro a S
                      refine c_end ?_
                      refine wp_ret ?_
                      refine x_thenR ?_
                      refine x_blockR ?_
                      refine x_thenR ?_
                      refine x_blockR ?_
                      refine x_thenR ?_
                      refine x_thenR ?_
                      refine x_blockR ?_
                      refine x_thenR ?_
                      obtain rfl := Option.some.inj h2
                      exact b_ret1 (d := (.v (.bool false))) S rfl rfl fun ok => S.retX (Hx := []) hb _ _ (() : Unit) .nil ok
                    · refine c_condF S rfl c19 ?_
                      refine wp_skip ?_
                      refine x_thenN ?_
                      refine c_region ?_
                      refine s_move S rfl rfl ?_; clear S a; intro a S
                      refine c_end ?_
                      rcases ite_of h2 with ⟨c20, h3⟩ | ⟨c20, h3⟩ <;> clear h2
                      · refine c_condT S rfl c20 ?_
                        refine c_region' ?_
                        refine s_move S rfl rfl ?_; clear S a; intro a S
                        refine s_move S rfl rfl ?_; clear S a; intro a S
                        refine s_move S rfl rfl ?_; clear S a; intro a S
                        refine s_fieldAddr S rfl I40_1 T3 (by decide) rfl rfl ?_; clear S a; intro a S
                        refine s_load1 S rfl (.there (.there .here)) T3 (v := (.int .i64 ((gt x2 y45).2.1))) rfl rfl ?_; clear S a; intro a S
                        refine s_bin S rfl rfl rfl rfl ?_; clear S a; intro a S
                        obtain ⟨c21, h4⟩ := chk_of h3; clear h3
                        refine s_iaddrO S (ty' := (Ty.arr .u64 4)) rfl (.there (.there (.there .here))) rfl Try.underlying42 T27 c21.1 c21.2 rfl ?_; clear S a; intro g114 a hA2 S
                        refine s_ldRA S (ty' := (Ty.arr .u64 4)) (i := (wr .i64 (((y46).length : Int) - ((gt x2 y45).2.1)))) (off := 0) (fun (c : Unit) => [.ints .u64 (gt y46 (wr .i64 (((y46).length : Int) - ((gt x2 y45).2.1)))) 4]) rfl hA2 (.there (.there (.there .here))) T27 c21.1 c21.2 rfl (fun _ => rfl) rfl ?_; clear S a; intro ch17 a S
                        refine s_bldSl S (ty' := (Ty.arr .u64 4)) (ds := [(0, (.agg [.ints .u64 (gt y46 (wr .i64 (((y46).length : Int) - ((gt x2 y45).2.1)))) 4]))]) (z := [0, 0, 0, 0]) (c0 := ()) (ys := [gt y46 (wr .i64 (((y46).length : Int) - ((gt x2 y45).2.1)))]) (cs := [()]) rfl Try.underlying42 J27 Z27 rfl ⟨rfl, trivial⟩ rfl rfl rfl rfl rfl rfl ?_; clear S a w; intro g115 a w S
                        obtain ⟨c22, h5⟩ := chk_of h4; clear h4
                        refine s_app S (k2 := 1) (ys := [gt y46 (wr .i64 (((y46).length : Int) - ((gt x2 y45).2.1)))]) rfl (fun _ _ => (.there (.there (.there (.there .here))))) rfl rfl (S.holds _ (Pull.mem .here).1).1 (Res.row.src (S.holds _ (Pull.mem .here).1)) Try.underlying42 J27 c22 rfl ?_; clear S a w; intro A13 cp62 a w S
                        refine s_assign S rfl rfl ?_; clear S a; intro a S
                        refine c_end' ?_
                        refine x_blockN ?_
                        refine x_thenN ?_
                        exact j4 _ A13 (nn32 + 1) cp62 (y46 ++ [gt y46 (wr .i64 (((y46).length : Int) - ((gt x2 y45).2.1)))]) g113 ch16.1 ch16.2.1 ch16.2.2 t23.2 a w (S.sub ⟨rfl, rfl, rfl, rfl, rfl, trivial⟩ (.cons (.there .here) (.cons (.there .here) (.cons (.there (.there .here)) .nil)))) h5
                      · refine c_condF S rfl c20 ?_
                        refine wp_skip ?_
                        refine x_blockN ?_
                        refine x_thenN ?_
                        exact j4 _ A6 nn32 cp50 y46 g113 ch16.1 ch16.2.1 ch16.2.2 t23.2 a w (S.sub ⟨rfl, rfl, rfl, rfl, rfl, trivial⟩ (.cons .here (.cons .here (.cons (.there .here) .nil)))) h3
                  refine c_region' ?_
                  refine s_fieldAddr S rfl I40_1 T3 (by decide) rfl rfl ?_; clear S a; intro a S
                  refine s_load1 S rfl .here T3 (v := (.int .i64 ((gt x2 y45).2.1))) rfl rfl ?_; clear S a; intro a S
                  refine s_bin S rfl rfl rfl rfl ?_; clear S a; intro a S
                  refine s_move S rfl rfl ?_; clear S a; intro a S
                  rcases ite_of h5 with ⟨c23, h6⟩ | ⟨c23, h6⟩ <;> clear h5
                  · refine s_gT S (b := (decide (1 ≤ ((gt x2 y45).2.1)))) rfl rfl c23 ?_
                    refine s_fieldAddr S rfl I40_1 T3 (by decide) rfl rfl ?_; clear S a; intro a S
                    refine s_gT S (b := (decide (1 ≤ ((gt x2 y45).2.1)))) rfl rfl c23 ?_
                    refine s_load1 S rfl .here T3 (v := (.int .i64 ((gt x2 y45).2.1))) rfl rfl ?_; clear S a; intro a S
                    refine s_gT S (b := (decide (1 ≤ ((gt x2 y45).2.1)))) rfl rfl c23 ?_
                    refine s_move S rfl rfl ?_; clear S a; intro a S
                    refine s_gT S (b := (decide (1 ≤ ((gt x2 y45).2.1)))) rfl rfl c23 ?_
                    refine s_bin S rfl rfl rfl rfl ?_; clear S a; intro a S
                    refine s_pick S (b := true) (hc_of rfl c23) rfl rfl ?_; clear S a; intro a S
                    refine s_move S rfl rfl ?_; clear S a; intro a S
                    rcases ite_of h6 with ⟨c24, h7⟩ | ⟨c24, h7⟩ <;> clear h6
                    · refine s_gT S (b := (decide (((gt x2 y45).2.1) ≤ ((y46).length : Int)))) rfl rfl c24 ?_
                      refine s_move S rfl rfl ?_; clear S a; intro a S
                      refine s_gT S (b := (decide (((gt x2 y45).2.1) ≤ ((y46).length : Int)))) rfl rfl c24 ?_
                      refine s_bin S rfl rfl rfl rfl ?_; clear S a; intro a S
                      refine s_pick S (b := true) (hc_of rfl c24) rfl rfl ?_; clear S a; intro a S
                      refine s_assign S rfl rfl ?_; clear S a; intro a S
                      refine c_end' ?_
                      refine x_thenN ?_
                      exact j6 _ (decide (((y46).length : Int) < 1024)) g89 g88 ch5.2.2.2.2.2.2.1 ch5.2.2.2.2.2.2.2 a w (S.sub ⟨rfl, rfl, rfl, rfl, rfl, rfl, rfl, rfl, trivial⟩ (.cons .here (.cons .here (.cons .here (.cons .here .nil))))) h7
                    · refine s_gF S (b := (decide (((gt x2 y45).2.1) ≤ ((y46).length : Int)))) rfl rfl c24 rfl ?_; clear S a; intro a S
                      refine s_gF S (b := (decide (((gt x2 y45).2.1) ≤ ((y46).length : Int)))) rfl rfl c24 rfl ?_; clear S a; intro a S
                      refine s_pick S (b := false) (hc_of rfl c24) rfl rfl ?_; clear S a; intro a S
                      refine s_assign S rfl rfl ?_; clear S a; intro a S
                      refine c_end' ?_
                      refine x_thenN ?_
                      exact j6 _ false g89 g88 ch5.2.2.2.2.2.2.1 ch5.2.2.2.2.2.2.2 a w (S.sub ⟨rfl, rfl, rfl, rfl, rfl, rfl, rfl, rfl, trivial⟩ (.cons .here (.cons .here (.cons .here (.cons .here .nil))))) h7
                  · refine s_gF S (b := (decide (1 ≤ ((gt x2 y45).2.1)))) rfl rfl c23 rfl ?_; clear S a; intro a S
                    refine s_gF S (b := (decide (1 ≤ ((gt x2 y45).2.1)))) rfl rfl c23 rfl ?_; clear S a; intro a S
                    refine s_gF S (b := (decide (1 ≤ ((gt x2 y45).2.1)))) rfl rfl c23 rfl ?_; clear S a; intro a S
                    refine s_gF S (b := (decide (1 ≤ ((gt x2 y45).2.1)))) rfl rfl c23 rfl ?_; clear S a; intro a S
                    refine s_pick S (b := false) (hc_of rfl c23) rfl rfl ?_; clear S a; intro a S
                    refine s_move S rfl rfl ?_; clear S a; intro a S
                    refine s_gF S (b := false) rfl rfl rfl rfl ?_; clear S a; intro a S
                    refine s_gF S (b := false) rfl rfl rfl rfl ?_; clear S a; intro a S
                    refine s_pick S (b := false) (hc_of rfl rfl) rfl rfl ?_; clear S a; intro a S
                    refine s_assign S rfl rfl ?_; clear S a; intro a S
                    refine c_end' ?_
                    refine x_thenN ?_
                    exact j6 _ false g89 g88 ch5.2.2.2.2.2.2.1 ch5.2.2.2.2.2.2.2 a w (S.sub ⟨rfl, rfl, rfl, rfl, rfl, rfl, rfl, rfl, trivial⟩ (.cons .here (.cons .here (.cons .here (.cons .here .nil))))) h6
                · refine c_condF S rfl c18 ?_
                  refine wp_seq_k ?_
                  intro K7 hK7
                  have j7 : ∀ (m : Mem) (y55 : Bool) (g116 : Nat) (g117 : Nat) (A14 : Option Addr) (cp63 : Nat) (a : Act) (w : World), St 204 m b0 [(15, (.v (.bool y55))), (11, (.v (.int .i64 ((y46).length : Int)))), (10, (.v (.pointer (some ⟨g116, 0, none⟩)))), (60, (.v (.int .i64 y45))), (59, (.v (.int .i64 ((x2).length : Int)))), (58, (.sl ch_1_0 (x2).length ch_1_1 (RdS (Ty.prod (Ty.int .i64) (Ty.prod (Ty.int .i64) (Ty.prod (Ty.int .i64) (Ty.prod (Ty.int .i64) (Ty.prod (Ty.arr .u64 4) (Ty.prod (Ty.arr .u64 4) (Ty.slice (Ty.int .u8)))))))) ch_1_0 x2))), (6, (.v (.slice A6 nn32 cp50))), (5, (.v (.pointer (some ⟨g117, 0, none⟩))))] [Res.cells g116 40 [.one (.int .i64 ((gt x2 y45).1)), .one (.int .i64 ((gt x2 y45).2.1)), .one (.int .i64 ((gt x2 y45).2.2.1)), .one (.int .i64 ((gt x2 y45).2.2.2.1)), .ints .u64 ((gt x2 y45).2.2.2.2.1) 4, .ints .u64 ((gt x2 y45).2.2.2.2.2.1) 4, .sl A14 ((gt x2 y45).2.2.2.2.2.2).length cp63 (RdS (Ty.int .u8) A14 ((gt x2 y45).2.2.2.2.2.2))], Res.row (Ty.arr .u64 4) 27 A6 nn32 cp50 y46, Res.cells g117 75 [.one (.slice A7 nn33 cp51)], Res.row (Ty.arr .u64 4) 27 A7 nn33 cp51 y47] a w → smithylaw10_MemStacks.j7 x2 y45 y46 y47 (smithylaw10_MemStacks.l1 k x2 q1) y55 = some r → K7 a w := by
                    intro m y55 g116 g117 A14 cp63 a w S h0
                    delta smithylaw10_MemStacks.j7 at h0
                    refine hK7 a w ?_
                    refine wp_seq ?_
                    refine c_region ?_
                    refine s_move S rfl rfl ?_; clear S a; intro a S
                    refine s_fieldAddr S rfl I40_1 T3 (by decide) rfl rfl ?_; clear S a; intro a S
                    refine s_load1 S rfl .here T3 (v := (.int .i64 ((gt x2 y45).2.1))) rfl rfl ?_; clear S a; intro a S
                    obtain ⟨t24, et24, h1⟩ := bind_of h0; clear h0
                    refine s_callX S (ds' := [(.v (.pointer (some ⟨g117, 0, none⟩))), (.v (.int .i64 ((gt x2 y45).2.1)))]) (ds := [(.v (.pointer (some ⟨g117, 0, none⟩))), (.v (.int .i64 ((gt x2 y45).2.1)))]) [Res.cells g117 75 [.one (.slice A7 nn33 cp51)], Res.row (Ty.arr .u64 4) 27 A7 nn33 cp51 y47] [Res.cells g116 40 [.one (.int .i64 ((gt x2 y45).1)), .one (.int .i64 ((gt x2 y45).2.1)), .one (.int .i64 ((gt x2 y45).2.2.1)), .one (.int .i64 ((gt x2 y45).2.2.2.1)), .ints .u64 ((gt x2 y45).2.2.2.2.1) 4, .ints .u64 ((gt x2 y45).2.2.2.2.2.1) 4, .sl A14 ((gt x2 y45).2.2.2.2.2.2).length cp63 (RdS (Ty.int .u8) A14 ((gt x2 y45).2.2.2.2.2.2))], Res.row (Ty.arr .u64 4) 27 A6 nn32 cp50 y46] (fun (ch : (Option Addr) × Nat × Nat) => ((.v (.bool t24.1)) : D)) (fun (ch : (Option Addr) × Nat × Nat) => [Res.cells g117 75 [.one (.slice ch.1 ch.2.1 ch.2.2)], Res.row (Ty.arr .u64 4) 27 ch.1 ch.2.1 ch.2.2 t24.2]) (fun (ch : (Option Addr) × Nat × Nat) => [Res.cells g117 75 [.one (.slice ch.1 ch.2.1 ch.2.2)], Res.row (Ty.arr .u64 4) 27 ch.1 ch.2.1 ch.2.2 t24.2, Res.cells g116 40 [.one (.int .i64 ((gt x2 y45).1)), .one (.int .i64 ((gt x2 y45).2.1)), .one (.int .i64 ((gt x2 y45).2.2.1)), .one (.int .i64 ((gt x2 y45).2.2.2.1)), .ints .u64 ((gt x2 y45).2.2.2.2.1) 4, .ints .u64 ((gt x2 y45).2.2.2.2.2.1) 4, .sl A14 ((gt x2 y45).2.2.2.2.2.2).length cp63 (RdS (Ty.int .u8) A14 ((gt x2 y45).2.2.2.2.2.2))], Res.row (Ty.arr .u64 4) 27 A6 nn32 cp50 y46]) (fun _ => rfl) N25 rfl rfl (fun ok => ok) (.cons (.there (.there .here)) (.cons (.there (.there .here)) (.cons .here (.cons .here .nil)))) rfl (mem_Stack_Swap.ok (y47) ((gt x2 y45).2.1) g117 A7 nn33 cp51 t24 et24 _ _) ?_; clear S a w; intro ch18 m le1 a w S
                    refine s_move S rfl rfl ?_; clear S a; intro a S
                    refine s_neb S rfl rfl Try.underlying4 rfl ?_; clear S a; intro a S
                    refine c_end ?_
                    rcases ite_of h1 with ⟨c25, h2⟩ | ⟨c25, h2⟩ <;> clear h1
                    · refine c_condT S rfl c25 ?_
                      refine c_region ?_
                      refine s_assign S rfl rfl ?_; clear S a; intro a S
                      refine c_end ?_
                      refine wp_ret ?_
                      refine x_thenR ?_
                      refine x_blockR ?_
                      refine x_thenR ?_
                      refine x_blockR ?_
                      refine x_thenR ?_
                      refine x_thenR ?_
                      refine x_blockR ?_
                      refine x_thenR ?_
                      obtain rfl := Option.some.inj h2
                      exact b_ret1 (d := (.v (.bool false))) S rfl rfl fun ok => S.retX (Hx := []) hb _ _ (() : Unit) .nil ok
                    · refine c_condF S rfl c25 ?_
                      refine wp_skip ?_
                      refine x_thenN ?_
                      refine c_region ?_
                      refine s_move S rfl rfl ?_; clear S a; intro a S
                      refine c_end ?_
                      rcases ite_of h2 with ⟨c26, h3⟩ | ⟨c26, h3⟩ <;> clear h2
                      · refine c_condT S rfl c26 ?_
                        refine c_region ?_
                        refine s_move S rfl rfl ?_; clear S a; intro a S
                        refine s_move S rfl rfl ?_; clear S a; intro a S
                        refine s_bin S rfl rfl rfl rfl ?_; clear S a; intro a S
                        obtain ⟨c27, h4⟩ := chk_of h3; clear h3
                        refine s_iaddrO S (ty' := (Ty.arr .u64 4)) rfl (.there (.there (.there .here))) rfl Try.underlying42 T27 c27.1 c27.2 rfl ?_; clear S a; intro g118 a hA3 S
                        refine s_ldRA S (ty' := (Ty.arr .u64 4)) (i := (wr .i64 (((y46).length : Int) - 1))) (off := 0) (fun (c : Unit) => [.ints .u64 (gt y46 (wr .i64 (((y46).length : Int) - 1))) 4]) rfl hA3 (.there (.there (.there .here))) T27 c27.1 c27.2 rfl (fun _ => rfl) rfl ?_; clear S a; intro ch19 a S
                        refine s_alloc S Z27 rfl ⟨rfl, trivial⟩ rfl ?_; clear S a w; intro g119 a w S
                        refine s_store S rfl rfl rfl (s' := [.ints .u64 (gt y46 (wr .i64 (((y46).length : Int) - 1))) 4]) .here T27 rfl rfl ?_; clear S w; intro w S
                        refine c_end ?_
                        refine c_region ?_
                        refine s_move S rfl rfl ?_; clear S a; intro a S
                        refine s_move S rfl rfl ?_; clear S a; intro a S
                        refine s_bin S rfl rfl rfl rfl ?_; clear S a; intro a S
                        refine s_move S rfl rfl ?_; clear S a; intro a S
                        refine s_move S rfl rfl ?_; clear S a; intro a S
                        refine s_bin S rfl rfl rfl rfl ?_; clear S a; intro a S
                        refine s_fieldAddr S rfl I40_1 T3 (by decide) rfl rfl ?_; clear S a; intro a S
                        refine s_load1 S rfl (.there (.there (.there .here))) T3 (v := (.int .i64 ((gt x2 y45).2.1))) rfl rfl ?_; clear S a; intro a S
                        refine s_bin S rfl rfl rfl rfl ?_; clear S a; intro a S
                        obtain ⟨c28, h5⟩ := chk_of h4; clear h4
                        refine s_iaddrO S (ty' := (Ty.arr .u64 4)) rfl (.there (.there (.there (.there .here)))) rfl Try.underlying42 T27 c28.1 c28.2 rfl ?_; clear S a; intro g120 a hA4 S
                        refine s_ldRA S (ty' := (Ty.arr .u64 4)) (i := (wr .i64 ((wr .i64 (((y46).length : Int) - 1)) - ((gt x2 y45).2.1)))) (off := 0) (fun (c : Unit) => [.ints .u64 (gt y46 (wr .i64 ((wr .i64 (((y46).length : Int) - 1)) - ((gt x2 y45).2.1)))) 4]) rfl hA4 (.there (.there (.there (.there .here)))) T27 c28.1 c28.2 rfl (fun _ => rfl) rfl ?_; clear S a; intro ch20 a S
                        refine s_iaddrO S (ty' := (Ty.arr .u64 4)) rfl (.there (.there (.there (.there .here)))) rfl Try.underlying42 T27 c27.1 c27.2 rfl ?_; clear S a; intro g121 a hA5 S
                        refine s_stR S (ty' := (Ty.arr .u64 4)) (i := (wr .i64 (((y46).length : Int) - 1))) (off := 0) (u := gt y46 (wr .i64 ((wr .i64 (((y46).length : Int) - 1)) - ((gt x2 y45).2.1)))) (fun (c : Unit) => ()) rfl rfl rfl hA5 (.there (.there (.there (.there .here)))) T27 c27.1 c27.2 rfl (by decide) rfl (fun _ => rfl) ?_; clear S w; intro w S
                        refine c_end ?_
                        refine c_region' ?_
                        refine s_move S rfl rfl ?_; clear S a; intro a S
                        refine s_move S rfl rfl ?_; clear S a; intro a S
                        refine s_bin S rfl rfl rfl rfl ?_; clear S a; intro a S
                        refine s_fieldAddr S rfl I40_1 T3 (by decide) rfl rfl ?_; clear S a; intro a S
                        refine s_load1 S rfl (.there (.there (.there .here))) T3 (v := (.int .i64 ((gt x2 y45).2.1))) rfl rfl ?_; clear S a; intro a S
                        refine s_bin S rfl rfl rfl rfl ?_; clear S a; intro a S
                        refine s_loada S rfl .here T27 (s' := [.ints .u64 (gt y46 (wr .i64 (((y46).length : Int) - 1))) 4]) rfl rfl ?_; clear S a; intro a S
                        obtain ⟨c29, h6⟩ := chk_of h5; clear h5
                        refine s_iaddrO S (ty' := (Ty.arr .u64 4)) rfl (.there (.there (.there (.there .here)))) rfl Try.underlying42 T27 c29.1 c29.2 rfl ?_; clear S a; intro g122 a hA6 S
                        refine s_stR S (ty' := (Ty.arr .u64 4)) (i := (wr .i64 ((wr .i64 (((y46).length : Int) - 1)) - ((gt x2 y45).2.1)))) (off := 0) (u := gt y46 (wr .i64 (((y46).length : Int) - 1))) (fun (c : Unit) => ()) rfl rfl rfl hA6 (.there (.there (.there (.there .here)))) T27 c29.1 c29.2 rfl (by decide) rfl (fun _ => rfl) ?_; clear S w; intro w S
                        refine c_end' ?_
                        refine x_blockN ?_
                        refine x_thenN ?_
                        exact j4 _ A6 nn32 cp50 ((y46.set (Int.toNat (wr .i64 (((y46).length : Int) - 1))) (gt y46 (wr .i64 ((wr .i64 (((y46).length : Int) - 1)) - ((gt x2 y45).2.1))))).set (Int.toNat (wr .i64 ((wr .i64 (((y46).length : Int) - 1)) - ((gt x2 y45).2.1)))) (gt y46 (wr .i64 (((y46).length : Int) - 1)))) g117 ch18.1 ch18.2.1 ch18.2.2 t24.2 a w (S.sub ⟨rfl, rfl, rfl, rfl, rfl, trivial⟩ (.cons (.there .here) (.cons (.there .here) (.cons (.there (.there .here)) .nil)))) h6
                      · refine c_condF S rfl c26 ?_
                        refine wp_skip ?_
                        refine x_blockN ?_
                        refine x_thenN ?_
                        exact j4 _ A6 nn32 cp50 y46 g117 ch18.1 ch18.2.1 ch18.2.2 t24.2 a w (S.sub ⟨rfl, rfl, rfl, rfl, rfl, trivial⟩ (.cons .here (.cons .here (.cons (.there .here) .nil)))) h3
                  refine c_region' ?_
                  refine s_fieldAddr S rfl I40_1 T3 (by decide) rfl rfl ?_; clear S a; intro a S
                  refine s_load1 S rfl .here T3 (v := (.int .i64 ((gt x2 y45).2.1))) rfl rfl ?_; clear S a; intro a S
                  refine s_bin S rfl rfl rfl rfl ?_; clear S a; intro a S
                  refine s_move S rfl rfl ?_; clear S a; intro a S
                  rcases ite_of h5 with ⟨c30, h6⟩ | ⟨c30, h6⟩ <;> clear h5
                  · refine s_gT S (b := (decide (1 ≤ ((gt x2 y45).2.1)))) rfl rfl c30 ?_
                    refine s_fieldAddr S rfl I40_1 T3 (by decide) rfl rfl ?_; clear S a; intro a S
                    refine s_gT S (b := (decide (1 ≤ ((gt x2 y45).2.1)))) rfl rfl c30 ?_
                    refine s_load1 S rfl .here T3 (v := (.int .i64 ((gt x2 y45).2.1))) rfl rfl ?_; clear S a; intro a S
                    refine s_gT S (b := (decide (1 ≤ ((gt x2 y45).2.1)))) rfl rfl c30 ?_
                    refine s_move S rfl rfl ?_; clear S a; intro a S
                    refine s_gT S (b := (decide (1 ≤ ((gt x2 y45).2.1)))) rfl rfl c30 ?_
                    refine s_bin S rfl rfl rfl rfl ?_; clear S a; intro a S
                    refine s_pick S (b := true) (hc_of rfl c30) rfl rfl ?_; clear S a; intro a S
                    refine s_assign S rfl rfl ?_; clear S a; intro a S
                    refine c_end' ?_
                    refine x_thenN ?_
                    exact j7 _ (decide (((gt x2 y45).2.1) < ((y46).length : Int))) g89 g88 ch5.2.2.2.2.2.2.1 ch5.2.2.2.2.2.2.2 a w (S.sub ⟨rfl, rfl, rfl, rfl, rfl, rfl, rfl, rfl, trivial⟩ (.cons .here (.cons .here (.cons .here (.cons .here .nil))))) h6
                  · refine s_gF S (b := (decide (1 ≤ ((gt x2 y45).2.1)))) rfl rfl c30 rfl ?_; clear S a; intro a S
                    refine s_gF S (b := (decide (1 ≤ ((gt x2 y45).2.1)))) rfl rfl c30 rfl ?_; clear S a; intro a S
                    refine s_gF S (b := (decide (1 ≤ ((gt x2 y45).2.1)))) rfl rfl c30 rfl ?_; clear S a; intro a S
                    refine s_gF S (b := (decide (1 ≤ ((gt x2 y45).2.1)))) rfl rfl c30 rfl ?_; clear S a; intro a S
                    refine s_pick S (b := false) (hc_of rfl c30) rfl rfl ?_; clear S a; intro a S
                    refine s_assign S rfl rfl ?_; clear S a; intro a S
                    refine c_end' ?_
                    refine x_thenN ?_
                    exact j7 _ false g89 g88 ch5.2.2.2.2.2.2.1 ch5.2.2.2.2.2.2.2 a w (S.sub ⟨rfl, rfl, rfl, rfl, rfl, rfl, rfl, rfl, trivial⟩ (.cons .here (.cons .here (.cons .here (.cons .here .nil))))) h6
          · refine c_condF S rfl c2 ?_
            refine wp_exit ?_
            refine x_thenX ?_
            refine x_thenX ?_
            refine x_blockX ?_
            refine x_thenN ?_
            exact j3 _ A6 nn32 cp50 y46 g88 A7 nn33 cp51 y47 a w (S.sub ⟨rfl, rfl, trivial⟩ (.cons .here (.cons .here (.cons .here .nil)))) h1
      refine c_region ?_
      refine s_move S rfl rfl ?_; clear S a; intro a S
      refine s_conv S rfl rfl Try.underlying3 rfl ?_; clear S a; intro a S
      refine s_rem S rfl rfl (by decide) rfl ?_; clear S a; intro a S
      refine s_move S rfl rfl ?_; clear S a; intro a S
      refine c_end ?_
      refine wp_block ?_
      replace S := S.nilrow (Ty.arr .u64 4) 27
      refine c_loop (fun q2 a w => ∃ (m : Mem) (A15 : Option Addr) (nn44 : Nat) (cp72 : Nat) (y63 : List (List Int)) (y64 : Int) (g129 : Nat) (A16 : Option Addr) (nn45 : Nat) (cp73 : Nat) (y65 : List (List Int)), St 204 m b0 [(6, (.v (.slice A15 nn44 cp72))), (37, (.v (.int .i64 y64))), (36, (.v (.int .i64 (Int.tmod (wr .i64 x1) 1030)))), (5, (.v (.pointer (some ⟨g129, 0, none⟩)))), (1, (.sl ch_1_0 (x2).length ch_1_1 (RdS (Ty.prod (Ty.int .i64) (Ty.prod (Ty.int .i64) (Ty.prod (Ty.int .i64) (Ty.prod (Ty.int .i64) (Ty.prod (Ty.arr .u64 4) (Ty.prod (Ty.arr .u64 4) (Ty.slice (Ty.int .u8)))))))) ch_1_0 x2)))] [Res.row (Ty.arr .u64 4) 27 A15 nn44 cp72 y63, Res.cells g129 75 [.one (.slice A16 nn45 cp73)], Res.row (Ty.arr .u64 4) 27 A16 nn45 cp73 y65] a w ∧ smithylaw10_MemStacks.l2 k x1 x2 q2 y63 y64 y65 = some r) ?_ ?_ (k := k) ⟨_, none, 0, 0, ([] : List (List Int)), 0, g1, A1, nn1, cp1, t1, (S.sub ⟨rfl, rfl, rfl, rfl, rfl, trivial⟩ (.cons .here (.cons .here (.cons .here .nil)))), h1⟩
      · rintro a w ⟨m, A15, nn44, cp72, y63, y64, g129, A16, nn45, cp73, y65, S, h0⟩
        exact (nomatch (show (none : Option Bool) = some r from h0))
      · clear S h1
        rintro q2 a w ⟨m, A15, nn44, cp72, y63, y64, g129, A16, nn45, cp73, y65, S, h0⟩
        replace h0 : smithylaw10_MemStacks.b2 k x1 x2 (smithylaw10_MemStacks.l2 k x1 x2 q2) y63 y64 y65 = some r := h0
        delta smithylaw10_MemStacks.b2 at h0
        refine c_region ?_
        refine s_bin S rfl rfl rfl rfl ?_; clear S a; intro a S
        refine c_end ?_
        refine wp_seq ?_
        rcases ite_of h0 with ⟨c31, h1⟩ | ⟨c31, h1⟩ <;> clear h0
        · refine c_condT S rfl c31 ?_
          refine wp_skip ?_
          refine x_thenN ?_
          refine wp_seq_k ?_
          intro K8 hK8
          have j8 : ∀ (m : Mem) (A17 : Option Addr) (nn46 : Nat) (cp75 : Nat) (y66 : List (List Int)) (g131 : Nat) (A18 : Option Addr) (nn47 : Nat) (cp76 : Nat) (y67 : List (List Int)) (a : Act) (w : World), St 204 m b0 [(6, (.v (.slice A17 nn46 cp75))), (37, (.v (.int .i64 y64))), (36, (.v (.int .i64 (Int.tmod (wr .i64 x1) 1030)))), (5, (.v (.pointer (some ⟨g131, 0, none⟩)))), (1, (.sl ch_1_0 (x2).length ch_1_1 (RdS (Ty.prod (Ty.int .i64) (Ty.prod (Ty.int .i64) (Ty.prod (Ty.int .i64) (Ty.prod (Ty.int .i64) (Ty.prod (Ty.arr .u64 4) (Ty.prod (Ty.arr .u64 4) (Ty.slice (Ty.int .u8)))))))) ch_1_0 x2)))] [Res.cells g131 75 [.one (.slice A18 nn47 cp76)], Res.row (Ty.arr .u64 4) 27 A18 nn47 cp76 y67, Res.row (Ty.arr .u64 4) 27 A17 nn46 cp75 y66] a w → smithylaw10_MemStacks.j8 y64 (smithylaw10_MemStacks.l2 k x1 x2 q2) y66 y67 = some r → K8 a w := by
            intro m A17 nn46 cp75 y66 g131 A18 nn47 cp76 y67 a w S h0
            delta smithylaw10_MemStacks.j8 at h0
            refine hK8 a w ?_
            refine c_region' ?_
            refine s_bin S rfl rfl rfl rfl ?_; clear S a; intro a S
            refine s_move S rfl rfl ?_; clear S a; intro a S
            refine c_end' ?_
            refine x_thenN ?_
            exact ⟨_, A17, nn46, cp75, y66, (wr .i64 (y64 + 1)), g131, A18, nn47, cp76, y67, (S.sub ⟨rfl, rfl, rfl, rfl, rfl, trivial⟩ (.cons (.there (.there .here)) (.cons .here (.cons .here .nil)))), h0⟩
          refine wp_block ?_
          refine c_region ?_
          refine s_move S rfl rfl ?_; clear S a; intro a S
          refine s_assign S rfl rfl ?_; clear S a; intro a S
          refine c_end ?_
          refine c_region ?_
          refine s_move S rfl rfl ?_; clear S a; intro a S
          refine s_move S rfl rfl ?_; clear S a; intro a S
          refine s_conv S rfl rfl Try.underlying22 rfl ?_; clear S a; intro a S
          refine s_build S (ds := [(0, (.v (.int .u64 (wr .u64 y64))))]) (dv := (.agg [.ints .u64 [wr .u64 y64, 0, 0, 0] 4])) rfl (fun _ => by kernel_rfl) ⟨rfl, trivial⟩ rfl ?_; clear S a; intro a S
          obtain ⟨t26, et26, h2⟩ := bind_of h1; clear h1
          refine s_callX S (ds' := [(.v (.pointer (some ⟨g129, 0, none⟩))), (.agg [.ints .u64 [wr .u64 y64, 0, 0, 0] 4])]) (ds := [(.v (.pointer (some ⟨g129, 0, none⟩))), (.agg [.ints .u64 [wr .u64 y64, 0, 0, 0] 4])]) [Res.cells g129 75 [.one (.slice A16 nn45 cp73)], Res.row (Ty.arr .u64 4) 27 A16 nn45 cp73 y65] [Res.row (Ty.arr .u64 4) 27 A15 nn44 cp72 y63] (fun (ch : (Option Addr) × Nat × Nat) => ((.v (.bool t26.1)) : D)) (fun (ch : (Option Addr) × Nat × Nat) => [Res.cells g129 75 [.one (.slice ch.1 ch.2.1 ch.2.2)], Res.row (Ty.arr .u64 4) 27 ch.1 ch.2.1 ch.2.2 t26.2]) (fun (ch : (Option Addr) × Nat × Nat) => [Res.cells g129 75 [.one (.slice ch.1 ch.2.1 ch.2.2)], Res.row (Ty.arr .u64 4) 27 ch.1 ch.2.1 ch.2.2 t26.2, Res.row (Ty.arr .u64 4) 27 A15 nn44 cp72 y63]) (fun _ => rfl) N22 rfl rfl (fun ok => ok) (.cons (.there .here) (.cons (.there .here) (.cons .here .nil))) rfl (mem_Stack_Push.ok (y65) [wr .u64 y64, 0, 0, 0] g129 A16 nn45 cp73 t26 et26 _ _) ?_; clear S a w; intro ch22 m le1 a w S
          refine s_assign S rfl rfl ?_; clear S a; intro a S
          refine c_end ?_
          refine wp_seq ?_
          refine c_region ?_
          refine s_move S rfl rfl ?_; clear S a; intro a S
          refine s_move S rfl rfl ?_; clear S a; intro a S
          refine s_lenO S rfl (.there (.there .here)) Try.underlying42 rfl ?_; clear S a; intro a S
          refine s_bin S rfl rfl rfl rfl ?_; clear S a; intro a S
          refine s_neb S rfl rfl Try.underlying4 rfl ?_; clear S a; intro a S
          refine c_end ?_
          rcases ite_of h2 with ⟨c32, h3⟩ | ⟨c32, h3⟩ <;> clear h2
          · refine c_condT S rfl c32 ?_
            refine c_region ?_
            refine s_assign S rfl rfl ?_; clear S a; intro a S
            refine c_end ?_
            refine wp_ret ?_
            refine x_thenR ?_
            refine x_blockR ?_
            refine x_thenR ?_
            refine x_thenR ?_
            refine x_blockR ?_
            refine x_thenR ?_
            obtain rfl := Option.some.inj h3
            exact b_ret1 (d := (.v (.bool false))) S rfl rfl fun ok => S.retX (Hx := []) hb _ _ (() : Unit) .nil ok
          · refine c_condF S rfl c32 ?_
            refine wp_skip ?_
            refine x_thenN ?_
            refine c_region ?_
            refine s_move S rfl rfl ?_; clear S a; intro a S
            refine c_end ?_
            rcases ite_of h3 with ⟨c33, h4⟩ | ⟨c33, h4⟩ <;> clear h3
            · refine c_condT S rfl c33 ?_
              refine c_region' ?_
              refine s_move S rfl rfl ?_; clear S a; intro a S
              refine s_move S rfl rfl ?_; clear S a; intro a S
              refine s_conv S rfl rfl Try.underlying22 rfl ?_; clear S a; intro a S
              refine s_build S (ds := [(0, (.v (.int .u64 (wr .u64 y64))))]) (dv := (.agg [.ints .u64 [wr .u64 y64, 0, 0, 0] 4])) rfl (fun _ => by kernel_rfl) ⟨rfl, trivial⟩ rfl ?_; clear S a; intro a S
              refine s_bldSl S (ty' := (Ty.arr .u64 4)) (ds := [(0, (.agg [.ints .u64 [wr .u64 y64, 0, 0, 0] 4]))]) (z := [0, 0, 0, 0]) (c0 := ()) (ys := [[wr .u64 y64, 0, 0, 0]]) (cs := [()]) rfl Try.underlying42 J27 Z27 rfl ⟨rfl, trivial⟩ rfl rfl rfl rfl rfl rfl ?_; clear S a w; intro g132 a w S
              obtain ⟨c34, h5⟩ := chk_of h4; clear h4
              refine s_app S (k2 := 1) (ys := [[wr .u64 y64, 0, 0, 0]]) rfl (fun _ _ => (.there (.there (.there .here)))) rfl rfl (S.holds _ (Pull.mem .here).1).1 (Res.row.src (S.holds _ (Pull.mem .here).1)) Try.underlying42 J27 c34 rfl ?_; clear S a w; intro A19 cp77 a w S
              refine s_assign S rfl rfl ?_; clear S a; intro a S
              refine c_end' ?_
              refine x_blockN ?_
              refine x_thenN ?_
              exact j8 _ A19 (nn44 + 1) cp77 (y63 ++ [[wr .u64 y64, 0, 0, 0]]) g129 ch22.1 ch22.2.1 ch22.2.2 t26.2 a w (S.sub ⟨rfl, rfl, rfl, rfl, rfl, trivial⟩ (.cons (.there .here) (.cons (.there .here) (.cons (.there .here) .nil)))) h5
            · refine c_condF S rfl c33 ?_
              refine wp_skip ?_
              refine x_blockN ?_
              refine x_thenN ?_
              exact j8 _ A15 nn44 cp72 y63 g129 ch22.1 ch22.2.1 ch22.2.2 t26.2 a w (S.sub ⟨rfl, rfl, rfl, rfl, rfl, trivial⟩ (.cons .here (.cons .here (.cons .here .nil)))) h4
        · refine c_condF S rfl c31 ?_
          refine wp_exit ?_
          refine x_thenX ?_
          refine x_thenX ?_
          refine x_blockX ?_
          refine x_thenN ?_
          exact j2 _ A15 nn44 cp72 y63 g129 A16 nn45 cp73 y65 a w (S.sub ⟨rfl, rfl, rfl, trivial⟩ (.cons .here (.cons .here (.cons .here .nil)))) h1
  refine c_region' ?_
  refine s_move S rfl rfl ?_; clear S a; intro a S
  refine s_eqp S (b := false) rfl rfl Try.underlying43 rfl rfl ?_; clear S a; intro a S
  refine s_move S rfl rfl ?_; clear S a; intro a S
  refine s_gT S (b := false) rfl rfl rfl ?_
  obtain ⟨t27, et27, h2⟩ := bind_of h1; clear h1
  refine s_callX S (ds' := []) (ds := []) [] [Res.cells ch1.1 75 [.one (.slice ch1.2.1 ch1.2.2.1 ch1.2.2.2)], Res.row (Ty.arr .u64 4) 27 ch1.2.1 ch1.2.2.1 ch1.2.2.2 t1] (fun (ch : Unit) => ((.v (.bool t27)) : D)) (fun (ch : Unit) => []) (fun (ch : Unit) => [Res.cells ch1.1 75 [.one (.slice ch1.2.1 ch1.2.2.1 ch1.2.2.2)], Res.row (Ty.arr .u64 4) 27 ch1.2.1 ch1.2.2.1 ch1.2.2.2 t1]) (fun _ => rfl) N12 rfl rfl (fun ok => ok) (.cons .here (.cons .here .nil)) rfl (smithylaw10_fixed.ok t27 et27 _ _) ?_; clear S a w; intro ch23 m le1 a w S
  refine s_gT S (b := false) rfl rfl rfl ?_
  refine s_not S rfl rfl ?_; clear S a; intro a S
  refine s_pick S (b := false) (hc_of rfl rfl) rfl rfl ?_; clear S a; intro a S
  refine s_move S rfl rfl ?_; clear S a; intro a S
  rcases ite_of h2 with ⟨c35, h3⟩ | ⟨c35, h3⟩ <;> clear h2
  · refine s_gF S (b := (!t27)) rfl rfl c35 rfl ?_; clear S a; intro a S
    refine s_gF S (b := (!t27)) rfl rfl c35 rfl ?_; clear S a; intro a S
    refine s_gF S (b := (!t27)) rfl rfl c35 rfl ?_; clear S a; intro a S
    refine s_pick S (b := true) (hc_of rfl c35) rfl rfl ?_; clear S a; intro a S
    refine c_end' ?_
    refine x_thenN ?_
    exact j1 _ true ch1.1 ch1.2.1 ch1.2.2.1 ch1.2.2.2 a w (S.sub ⟨rfl, rfl, rfl, rfl, rfl, trivial⟩ (.cons .here (.cons .here .nil))) h3
  · refine s_gT S (b := (!t27)) rfl rfl c35 ?_
    refine s_move S rfl rfl ?_; clear S a; intro a S
    refine s_gT S (b := (!t27)) rfl rfl c35 ?_
    refine s_lenS S rfl Try.underlying36 rfl ?_; clear S a; intro a S
    refine s_gT S (b := (!t27)) rfl rfl c35 ?_
    refine s_bin S rfl rfl rfl rfl ?_; clear S a; intro a S
    refine s_pick S (b := false) (hc_of rfl c35) rfl rfl ?_; clear S a; intro a S
    refine c_end' ?_
    refine x_thenN ?_
    exact j1 _ (decide (200 < ((x2).length : Int))) ch1.1 ch1.2.1 ch1.2.2.1 ch1.2.2.2 a w (S.sub ⟨rfl, rfl, rfl, rfl, rfl, trivial⟩ (.cons .here (.cons .here .nil))) h3
/-! (*smithy/mem.Memory).reach -/
abbrev mem_Memory_reach_0nil.Ty : Type := (List Int) → (List Int) → Option (Int × Bool)
def mem_Memory_reach_0nil.Ctr (s : mem_Memory_reach_0nil.Ty) : Prop := ∀ (x1 : List Int) (x2 : List Int) (r : Int × Bool) (h0 : s x1 x2 = some r) (mi : Mem) (w0 : World), okL mi [(.v (.pointer none)), (.agg [.ints .u64 x1 4]), (.agg [.ints .u64 x2 4])] → Pre mi [] w0 → Calls Try.prog 41 (([(.v (.pointer none)), (.agg [.ints .u64 x1 4]), (.agg [.ints .u64 x2 4])] : List D).map D.val).toArray w0 (RetX mi [] (fun (ch : Unit) => ((.tup [(false, [.one (.int .u64 r.1)]), (false, [.one (.bool r.2)])]) : D)) (fun (ch : Unit) => []) w0)
def mem_Memory_reach_0nil.f (x1 : List Int) (x2 : List Int) : Option (Int × Bool) := some (0, false)
theorem mem_Memory_reach_0nil.ok : mem_Memory_reach_0nil.Ctr (mem_Memory_reach_0nil.f) := by
  intro x1 x2 r h0 mi w0 ok hm
  delta mem_Memory_reach_0nil.f at h0
  refine c_enterX (n := 62) [(.v (.pointer none)), (.agg [.ints .u64 x1 4]), (.agg [.ints .u64 x2 4])] (l := [(0, (.v (.pointer none))), (1, (.agg [.ints .u64 x1 4])), (2, (.agg [.ints .u64 x2 4]))]) Try.func41 rfl rfl rfl rfl ok hm ?_
  clear ok hm
  intro b0 hb a S
  refine c_region ?_
  refine s_box S rfl rfl rfl ?_; clear S a; intro g1 a w S
  refine s_box S rfl rfl rfl ?_; clear S a w; intro g2 a w S
  refine s_assign S rfl rfl ?_; clear S a; intro a S
  refine s_assign S rfl rfl ?_; clear S a; intro a S
  refine c_end ?_
  refine wp_seq ?_
  refine c_region ?_
  refine s_move S rfl rfl ?_; clear S a; intro a S
  refine s_eqp S (b := true) rfl rfl Try.underlying28 rfl rfl ?_; clear S a; intro a S
  refine c_end ?_
  refine c_condT S rfl rfl ?_
  refine c_region ?_
  refine s_assign S rfl rfl ?_; clear S a; intro a S
  refine s_assign S rfl rfl ?_; clear S a; intro a S
  refine c_end ?_
  refine wp_ret ?_
  refine x_thenR ?_
  obtain rfl := Option.some.inj h0
  exact b_ret2 (d1 := (.v (.int .u64 0))) (d2 := (.v (.bool false))) S rfl rfl rfl fun ok1 ok2 => S.retX (Hx := []) hb _ _ (() : Unit) .nil ⟨⟨ok1, trivial⟩, ⟨ok2, trivial⟩, trivial⟩
/-! (*smithy/mem.Memory).Cost -/
abbrev mem_Memory_Cost_0nil.Ty : Type := (List Int) → (List Int) → Option (Int × Bool)
def mem_Memory_Cost_0nil.Ctr (s : mem_Memory_Cost_0nil.Ty) : Prop := ∀ (x1 : List Int) (x2 : List Int) (r : Int × Bool) (h0 : s x1 x2 = some r) (mi : Mem) (w0 : World), okL mi [(.v (.pointer none)), (.agg [.ints .u64 x1 4]), (.agg [.ints .u64 x2 4])] → Pre mi [] w0 → Calls Try.prog 18 (([(.v (.pointer none)), (.agg [.ints .u64 x1 4]), (.agg [.ints .u64 x2 4])] : List D).map D.val).toArray w0 (RetX mi [] (fun (ch : Unit) => ((.tup [(false, [.one (.int .u64 r.1)]), (false, [.one (.bool r.2)])]) : D)) (fun (ch : Unit) => []) w0)
def mem_Memory_Cost_0nil.f (x1 : List Int) (x2 : List Int) : Option (Int × Bool) := (mem_Memory_reach_0nil.f x1 x2).bind fun t1 => (if (!t1.2) = true then (some (0, false)) else none)
theorem mem_Memory_Cost_0nil.ok : mem_Memory_Cost_0nil.Ctr (mem_Memory_Cost_0nil.f) := by
  intro x1 x2 r h0 mi w0 ok hm
  delta mem_Memory_Cost_0nil.f at h0
  refine c_enterX (n := 30) [(.v (.pointer none)), (.agg [.ints .u64 x1 4]), (.agg [.ints .u64 x2 4])] (l := [(0, (.v (.pointer none))), (1, (.agg [.ints .u64 x1 4])), (2, (.agg [.ints .u64 x2 4]))]) Try.func18 rfl rfl rfl rfl ok hm ?_
  clear ok hm
  intro b0 hb a S
  refine c_region ?_
  refine s_box S rfl rfl rfl ?_; clear S a; intro g1 a w S
  refine s_box S rfl rfl rfl ?_; clear S a w; intro g2 a w S
  refine s_assign S rfl rfl ?_; clear S a; intro a S
  refine s_assign S rfl rfl ?_; clear S a; intro a S
  refine c_end ?_
  refine c_region ?_
  refine s_move S rfl rfl ?_; clear S a; intro a S
  refine s_loada S rfl (.there .here) T27 (s' := [.ints .u64 x1 4]) rfl rfl ?_; clear S a; intro a S
  refine s_loada S rfl .here T27 (s' := [.ints .u64 x2 4]) rfl rfl ?_; clear S a; intro a S
  obtain ⟨t1, et1, h1⟩ := bind_of h0; clear h0
  refine s_callX S (ds' := [(.v (.pointer none)), (.agg [.ints .u64 x1 4]), (.agg [.ints .u64 x2 4])]) (ds := [(.v (.pointer none)), (.agg [.ints .u64 x1 4]), (.agg [.ints .u64 x2 4])]) [] [Res.cells g2 27 [.ints .u64 x2 4], Res.cells g1 27 [.ints .u64 x1 4]] (fun (ch : Unit) => ((.tup [(false, [.one (.int .u64 t1.1)]), (false, [.one (.bool t1.2)])]) : D)) (fun (ch : Unit) => []) (fun (ch : Unit) => [Res.cells g2 27 [.ints .u64 x2 4], Res.cells g1 27 [.ints .u64 x1 4]]) (fun _ => rfl) N41 rfl rfl (fun ok => ok) (.cons .here (.cons .here .nil)) rfl (mem_Memory_reach_0nil.ok x1 x2 t1 et1 _ _) ?_; clear S a w; intro ch1 m le1 a w S
  refine s_move S rfl rfl ?_; clear S a; intro a S
  refine s_extract S rfl rfl rfl rfl ?_; clear S a; intro a S
  refine s_extract S rfl rfl rfl rfl ?_; clear S a; intro a S
  refine s_assign S rfl rfl ?_; clear S a; intro a S
  refine s_assign S rfl rfl ?_; clear S a; intro a S
  refine c_end ?_
  refine wp_seq ?_
  refine c_region ?_
  refine s_move S rfl rfl ?_; clear S a; intro a S
  refine s_not S rfl rfl ?_; clear S a; intro a S
  refine c_end ?_
  rcases ite_of h1 with ⟨c1, h2⟩ | ⟨c1, h2⟩ <;> clear h1
  · refine c_condT S rfl c1 ?_
    refine c_region ?_
    refine s_assign S rfl rfl ?_; clear S a; intro a S
    refine s_assign S rfl rfl ?_; clear S a; intro a S
    refine c_end ?_
    refine wp_ret ?_
    refine x_thenR ?_
    obtain rfl := Option.some.inj h2
    exact b_ret2 (d1 := (.v (.int .u64 0))) (d2 := (.v (.bool false))) S rfl rfl rfl fun ok1 ok2 => S.retX (Hx := []) hb _ _ (() : Unit) .nil ⟨⟨ok1, trivial⟩, ⟨ok2, trivial⟩, trivial⟩
  · refine c_condF S rfl c1 ?_
    refine wp_skip ?_
    refine x_thenN ?_
    refine wp_seq (c_heldS S (.take 0 (.take 2 (.take 3 (.take 4 (.take 5 (.take 6 (.take 7 (.take 8 (.alts (.run 1 true (.alts (.run 9 true (.take 10 (.take 11 (.take 12 .done))) .nil)) .nil)))))))))) 13 [Res.cells g2 27 [.ints .u64 x2 4], Res.cells g1 27 [.ints .u64 x1 4]] (.cons .here (.cons .here .nil)) ⟨Res.stay_cells, Res.stay_cells, trivial⟩ [(8, (.v (.int .u64 t1.1))), (0, (.v (.pointer none)))] ⟨rfl, rfl, trivial⟩ (by kernel_rfl) (by kernel_rfl) ?_); clear S; intro w S CL hw le
    refine h_move S CL hw le ⟨rfl, rfl, trivial⟩ rfl rfl rfl trivial ?_; clear S CL a; intro a S CL
    refine h_move S CL hw le ⟨rfl, rfl, rfl, trivial⟩ rfl rfl rfl trivial ?_; clear S CL a; intro a S CL
    exact (nomatch h2)
/-! (*smithy/mem.Memory).Write -/
abbrev mem_Memory_Write_0nil.Ty : Type := Int → (List Int) → Option Unit
def mem_Memory_Write_0nil.Ctr (s : mem_Memory_Write_0nil.Ty) : Prop := ∀ (x1 : Int) (x2 : List Int) (ch_2_0 : Option Addr) (ch_2_1 : Nat) (r : Unit) (h0 : s x1 x2 = some r) (mi : Mem) (w0 : World), okL mi [(.v (.pointer none)), (.v (.int .i64 x1)), (.sl ch_2_0 (x2).length ch_2_1 (RdS (Ty.int .u8) ch_2_0 x2))] → Pre mi [] w0 → Calls Try.prog 28 (([(.v (.pointer none)), (.v (.int .i64 x1)), (.sl ch_2_0 (x2).length ch_2_1 (RdS (Ty.int .u8) ch_2_0 x2))] : List D).map D.val).toArray w0 (RetX mi [] (fun (ch : Unit) => ((.tup []) : D)) (fun (ch : Unit) => []) w0)
def mem_Memory_Write_0nil.f (x1 : Int) (x2 : List Int) : Option Unit := some ()
theorem mem_Memory_Write_0nil.ok : mem_Memory_Write_0nil.Ctr (mem_Memory_Write_0nil.f) := by
  intro x1 x2 ch_2_0 ch_2_1 r h0 mi w0 ok hm
  delta mem_Memory_Write_0nil.f at h0
  refine c_enterX (n := 29) [(.v (.pointer none)), (.v (.int .i64 x1)), (.sl ch_2_0 (x2).length ch_2_1 (RdS (Ty.int .u8) ch_2_0 x2))] (l := [(0, (.v (.pointer none))), (1, (.v (.int .i64 x1))), (2, (.sl ch_2_0 (x2).length ch_2_1 (RdS (Ty.int .u8) ch_2_0 x2)))]) Try.func28 rfl rfl rfl rfl ok hm ?_
  clear ok hm
  intro b0 hb a S
  refine c_region ?_
  refine s_move S rfl rfl ?_; clear S a; intro a S
  refine s_nep S (b := false) rfl rfl Try.underlying28 rfl rfl ?_; clear S a; intro a S
  refine s_move S rfl rfl ?_; clear S a; intro a S
  refine s_gF S (b := false) rfl rfl rfl rfl ?_; clear S a; intro a S
  refine s_gF S (b := false) rfl rfl rfl rfl ?_; clear S a; intro a S
  refine s_pick S (b := false) (hc_of rfl rfl) rfl rfl ?_; clear S a; intro a S
  refine s_move S rfl rfl ?_; clear S a; intro a S
  refine s_gF S (b := false) rfl rfl rfl rfl ?_; clear S a; intro a S
  refine s_gF S (b := false) rfl rfl rfl rfl ?_; clear S a; intro a S
  refine s_gF S (b := false) rfl rfl rfl rfl ?_; clear S a; intro a S
  refine s_gF S (b := false) rfl rfl rfl rfl ?_; clear S a; intro a S
  refine s_gF S (b := false) rfl rfl rfl rfl ?_; clear S a; intro a S
  refine s_gF S (b := false) rfl rfl rfl rfl ?_; clear S a; intro a S
  refine s_gF S (b := false) rfl rfl rfl rfl ?_; clear S a; intro a S
  refine s_pick S (b := false) (hc_of rfl rfl) rfl rfl ?_; clear S a; intro a S
  refine c_end ?_
  refine c_condF S rfl rfl ?_
  refine wp_skip ?_
  refine b_end ?_
  obtain rfl := Option.some.inj h0
  exact b_ret0 S rfl (S.retX (Hx := []) hb _ _ (() : Unit) .nil trivial)
/-! (*smithy/mem.Memory).Read -/
abbrev mem_Memory_Read_0nil.Ty : Type := Int → Int → Option ((List Int))
def mem_Memory_Read_0nil.Ctr (s : mem_Memory_Read_0nil.Ty) : Prop := ∀ (x1 : Int) (x2 : Int) (r : (List Int)) (h0 : s x1 x2 = some r) (mi : Mem) (w0 : World), okL mi [(.v (.pointer none)), (.v (.int .i64 x1)), (.v (.int .i64 x2))] → Pre mi [] w0 → Calls Try.prog 34 (([(.v (.pointer none)), (.v (.int .i64 x1)), (.v (.int .i64 x2))] : List D).map D.val).toArray w0 (RetX mi [] (fun (ch : (Option Addr) × Nat) => ((.sl ch.1 (r).length ch.2 (RdS (Ty.int .u8) ch.1 r)) : D)) (fun (ch : (Option Addr) × Nat) => []) w0)
def mem_Memory_Read_0nil.f (x1 : Int) (x2 : Int) : Option ((List Int)) := some ([] : List Int)
theorem mem_Memory_Read_0nil.ok : mem_Memory_Read_0nil.Ctr (mem_Memory_Read_0nil.f) := by
  intro x1 x2 r h0 mi w0 ok hm
  delta mem_Memory_Read_0nil.f at h0
  refine c_enterX (n := 40) [(.v (.pointer none)), (.v (.int .i64 x1)), (.v (.int .i64 x2))] (l := [(0, (.v (.pointer none))), (1, (.v (.int .i64 x1))), (2, (.v (.int .i64 x2)))]) Try.func34 rfl rfl rfl rfl ok hm ?_
  clear ok hm
  intro b0 hb a S
  refine c_region ?_
  refine s_assign S rfl rfl ?_; clear S a; intro a S
  refine c_end ?_
  refine wp_seq ?_
  refine c_region ?_
  refine s_move S rfl rfl ?_; clear S a; intro a S
  refine s_eqp S (b := true) rfl rfl Try.underlying28 rfl rfl ?_; clear S a; intro a S
  refine s_move S rfl rfl ?_; clear S a; intro a S
  refine s_gF S (b := true) rfl rfl rfl rfl ?_; clear S a; intro a S
  refine s_gF S (b := true) rfl rfl rfl rfl ?_; clear S a; intro a S
  refine s_pick S (b := true) (hc_of rfl rfl) rfl rfl ?_; clear S a; intro a S
  refine s_move S rfl rfl ?_; clear S a; intro a S
  refine s_gF S (b := true) rfl rfl rfl rfl ?_; clear S a; intro a S
  refine s_gF S (b := true) rfl rfl rfl rfl ?_; clear S a; intro a S
  refine s_pick S (b := true) (hc_of rfl rfl) rfl rfl ?_; clear S a; intro a S
  refine s_move S rfl rfl ?_; clear S a; intro a S
  refine s_gF S (b := true) rfl rfl rfl rfl ?_; clear S a; intro a S
  refine s_gF S (b := true) rfl rfl rfl rfl ?_; clear S a; intro a S
  refine s_pick S (b := true) (hc_of rfl rfl) rfl rfl ?_; clear S a; intro a S
  refine c_end ?_
  refine c_condT S rfl rfl ?_
  refine c_region ?_
  refine s_assign S rfl rfl ?_; clear S a; intro a S
  refine c_end ?_
  refine wp_ret ?_
  refine x_thenR ?_
  replace S := S.slot (u := 6) (d' := (.sl none (([] : List Int)).length 0 (RdS (Ty.int .u8) none ([] : List Int)))) rfl rfl ok_nil
  obtain rfl := Option.some.inj h0
  exact b_ret1 (d := (.sl none (([] : List Int)).length 0 (RdS (Ty.int .u8) none ([] : List Int)))) S rfl rfl fun ok => S.retX (Hx := []) hb _ _ ((none, 0) : (Option Addr) × Nat) .nil ok
/-! (*smithy/mem.Memory).Copy -/
abbrev mem_Memory_Copy_0nil.Ty : Type := Int → Int → Int → Option Unit
def mem_Memory_Copy_0nil.Ctr (s : mem_Memory_Copy_0nil.Ty) : Prop := ∀ (x1 : Int) (x2 : Int) (x3 : Int) (r : Unit) (h0 : s x1 x2 x3 = some r) (mi : Mem) (w0 : World), okL mi [(.v (.pointer none)), (.v (.int .i64 x1)), (.v (.int .i64 x2)), (.v (.int .i64 x3))] → Pre mi [] w0 → Calls Try.prog 30 (([(.v (.pointer none)), (.v (.int .i64 x1)), (.v (.int .i64 x2)), (.v (.int .i64 x3))] : List D).map D.val).toArray w0 (RetX mi [] (fun (ch : Unit) => ((.tup []) : D)) (fun (ch : Unit) => []) w0)
def mem_Memory_Copy_0nil.f (x1 : Int) (x2 : Int) (x3 : Int) : Option Unit := (mem_Memory_Read_0nil.f x2 x3).bind fun t1 => ((mem_Memory_Write_0nil.f x1 t1).bind fun t2 => (some ()))
theorem mem_Memory_Copy_0nil.ok : mem_Memory_Copy_0nil.Ctr (mem_Memory_Copy_0nil.f) := by
  intro x1 x2 x3 r h0 mi w0 ok hm
  delta mem_Memory_Copy_0nil.f at h0
  refine c_enterX (n := 15) [(.v (.pointer none)), (.v (.int .i64 x1)), (.v (.int .i64 x2)), (.v (.int .i64 x3))] (l := [(0, (.v (.pointer none))), (1, (.v (.int .i64 x1))), (2, (.v (.int .i64 x2))), (3, (.v (.int .i64 x3)))]) Try.func30 rfl rfl rfl rfl ok hm ?_
  clear ok hm
  intro b0 hb a S
  refine c_region' ?_
  refine s_move S rfl rfl ?_; clear S a; intro a S
  refine s_move S rfl rfl ?_; clear S a; intro a S
  refine s_move S rfl rfl ?_; clear S a; intro a S
  refine s_move S rfl rfl ?_; clear S a; intro a S
  refine s_move S rfl rfl ?_; clear S a; intro a S
  obtain ⟨t1, et1, h1⟩ := bind_of h0; clear h0
  refine s_callX S (ds' := [(.v (.pointer none)), (.v (.int .i64 x2)), (.v (.int .i64 x3))]) (ds := [(.v (.pointer none)), (.v (.int .i64 x2)), (.v (.int .i64 x3))]) [] [] (fun (ch : (Option Addr) × Nat) => ((.sl ch.1 (t1).length ch.2 (RdS (Ty.int .u8) ch.1 t1)) : D)) (fun (ch : (Option Addr) × Nat) => []) (fun (ch : (Option Addr) × Nat) => []) (fun _ => rfl) N34 rfl rfl (fun ok => ok) .nil rfl (mem_Memory_Read_0nil.ok x2 x3 t1 et1 _ _) ?_; clear S a; intro ch1 m le1 a w S
  obtain ⟨t2, et2, h2⟩ := bind_of h1; clear h1
  refine s_callX S (ds' := [(.v (.pointer none)), (.v (.int .i64 x1)), (.sl ch1.1 (t1).length ch1.2 (RdS (Ty.int .u8) ch1.1 t1))]) (ds := [(.v (.pointer none)), (.v (.int .i64 x1)), (.sl ch1.1 (t1).length ch1.2 (RdS (Ty.int .u8) ch1.1 t1))]) [] [] (fun (ch : Unit) => ((.tup []) : D)) (fun (ch : Unit) => []) (fun (ch : Unit) => []) (fun _ => rfl) N28 rfl rfl (fun ok => ok) .nil rfl (mem_Memory_Write_0nil.ok x1 t1 ch1.1 ch1.2 t2 et2 _ _) ?_; clear S a w; intro ch2 m le1 a w S
  refine c_end' ?_
  refine b_end ?_
  obtain rfl := Option.some.inj h2
  exact b_ret0 S rfl (S.retX (Hx := []) hb _ _ (() : Unit) .nil trivial)
/-! (*smithy/mem.Memory).SetWord -/
abbrev mem_Memory_SetWord_0nil.Ty : Type := Int → (List Int) → Option Unit
def mem_Memory_SetWord_0nil.Ctr (s : mem_Memory_SetWord_0nil.Ty) : Prop := ∀ (x1 : Int) (x2 : List Int) (r : Unit) (h0 : s x1 x2 = some r) (mi : Mem) (w0 : World), okL mi [(.v (.pointer none)), (.v (.int .i64 x1)), (.agg [.ints .u64 x2 4])] → Pre mi [] w0 → Calls Try.prog 32 (([(.v (.pointer none)), (.v (.int .i64 x1)), (.agg [.ints .u64 x2 4])] : List D).map D.val).toArray w0 (RetX mi [] (fun (ch : Unit) => ((.tup []) : D)) (fun (ch : Unit) => []) w0)
def mem_Memory_SetWord_0nil.f (k : Nat) (x1 : Int) (x2 : List Int) : Option Unit := (word_Bytes.f k x2).bind fun t1 => ((mem_Memory_Write_0nil.f x1 (((t1).drop 0).take 32)).bind fun t2 => (some ()))
theorem mem_Memory_SetWord_0nil.ok (k : Nat) : mem_Memory_SetWord_0nil.Ctr (mem_Memory_SetWord_0nil.f k) := by
  intro x1 x2 r h0 mi w0 ok hm
  delta mem_Memory_SetWord_0nil.f at h0
  refine c_enterX (n := 13) [(.v (.pointer none)), (.v (.int .i64 x1)), (.agg [.ints .u64 x2 4])] (l := [(0, (.v (.pointer none))), (1, (.v (.int .i64 x1))), (2, (.agg [.ints .u64 x2 4]))]) Try.func32 rfl rfl rfl rfl ok hm ?_
  clear ok hm
  intro b0 hb a S
  refine c_region ?_
  refine s_box S rfl rfl rfl ?_; clear S a; intro g1 a w S
  refine c_end ?_
  refine c_region ?_
  refine s_loada S rfl .here T27 (s' := [.ints .u64 x2 4]) rfl rfl ?_; clear S a; intro a S
  obtain ⟨t1, et1, h1⟩ := bind_of h0; clear h0
  refine s_callX S (ds' := [(.agg [.ints .u64 x2 4])]) (ds := [(.agg [.ints .u64 x2 4])]) [] [Res.cells g1 27 [.ints .u64 x2 4]] (fun (ch : Unit) => ((.agg [.ints .u8 t1 32]) : D)) (fun (ch : Unit) => []) (fun (ch : Unit) => [Res.cells g1 27 [.ints .u64 x2 4]]) (fun _ => rfl) N44 rfl rfl (fun ok => ok) (.cons .here .nil) rfl (word_Bytes.ok k x2 t1 et1 _ _) ?_; clear S a w; intro ch1 m le1 a w S
  refine s_alloc S Z76 rfl ⟨rfl, trivial⟩ rfl ?_; clear S a w; intro g2 a w S
  refine s_store S rfl rfl rfl (s' := [.ints .u8 t1 32]) .here T76 rfl rfl ?_; clear S w; intro w S
  refine c_end ?_
  refine c_region' ?_
  refine s_move S rfl rfl ?_; clear S a; intro a S
  refine s_move S rfl rfl ?_; clear S a; intro a S
  refine s_sliceA S (i := 0) (j := 32) (o' := 0) (len := 32) (cap := 32) rfl Try.underlying76 T5 (.inl ⟨rfl, rfl⟩) (.inl ⟨rfl, rfl⟩) (by decide) rfl rfl rfl rfl ?_; clear S a; intro a S
  replace S := S.freeze .here
  obtain ⟨m, le1, S⟩ := S
  replace S := (S.slup' (u := 11) (lo := 0) (c := 32) (ys := ((t1).drop 0).take 32) rfl (Pull.mem .here).1 .here (.inl rfl) (by decide) (by decide) rfl).2
  obtain ⟨t2, et2, h2⟩ := bind_of h1; clear h1
  refine s_callX S (ds' := [(.v (.pointer none)), (.v (.int .i64 x1)), (.sl (some ⟨g2, 0, none⟩) (((t1).drop 0).take 32).length 32 (RdS (Ty.int .u8) (some ⟨g2, 0, none⟩) (((t1).drop 0).take 32)))]) (ds := [(.v (.pointer none)), (.v (.int .i64 x1)), (.sl (some ⟨g2, 0, none⟩) (((t1).drop 0).take 32).length 32 (RdS (Ty.int .u8) (some ⟨g2, 0, none⟩) (((t1).drop 0).take 32)))]) [] [Res.fro g2 76 [.ints .u8 t1 32], Res.cells g1 27 [.ints .u64 x2 4]] (fun (ch : Unit) => ((.tup []) : D)) (fun (ch : Unit) => []) (fun (ch : Unit) => [Res.fro g2 76 [.ints .u8 t1 32], Res.cells g1 27 [.ints .u64 x2 4]]) (fun _ => rfl) N28 rfl rfl (fun ok => ok) (.cons .here (.cons .here .nil)) rfl (mem_Memory_Write_0nil.ok x1 (((t1).drop 0).take 32) (some ⟨g2, 0, none⟩) 32 t2 et2 _ _) ?_; clear S a w; intro ch2 m le1 a w S
  refine c_end' ?_
  refine b_end ?_
  obtain rfl := Option.some.inj h2
  exact b_ret0 S rfl (S.retX (Hx := []) hb _ _ (() : Unit) .nil trivial)
/-! (*smithy/mem.Stack).Len -/
abbrev mem_Stack_Len_0nil.Ty : Type := Option Int
def mem_Stack_Len_0nil.Ctr (s : mem_Stack_Len_0nil.Ty) : Prop := ∀ (r : Int) (h0 : s = some r) (mi : Mem) (w0 : World), okL mi [(.v (.pointer none))] → Pre mi [] w0 → Calls Try.prog 26 (([(.v (.pointer none))] : List D).map D.val).toArray w0 (RetX mi [] (fun (ch : Unit) => ((.v (.int .i64 r)) : D)) (fun (ch : Unit) => []) w0)
def mem_Stack_Len_0nil.f : Option Int := some 0
theorem mem_Stack_Len_0nil.ok : mem_Stack_Len_0nil.Ctr (mem_Stack_Len_0nil.f) := by
  intro r h0 mi w0 ok hm
  delta mem_Stack_Len_0nil.f at h0
  refine c_enterX (n := 10) [(.v (.pointer none))] (l := [(0, (.v (.pointer none)))]) Try.func26 rfl rfl rfl rfl ok hm ?_
  clear ok hm
  intro b0 hb a S
  refine c_region ?_
  refine s_assign S rfl rfl ?_; clear S a; intro a S
  refine c_end ?_
  refine wp_seq ?_
  refine c_region ?_
  refine s_move S rfl rfl ?_; clear S a; intro a S
  refine s_eqp S (b := true) rfl rfl Try.underlying43 rfl rfl ?_; clear S a; intro a S
  refine c_end ?_
  refine c_condT S rfl rfl ?_
  refine c_region ?_
  refine s_assign S rfl rfl ?_; clear S a; intro a S
  refine c_end ?_
  refine wp_ret ?_
  refine x_thenR ?_
  obtain rfl := Option.some.inj h0
  exact b_ret1 (d := (.v (.int .i64 0))) S rfl rfl fun ok => S.retX (Hx := []) hb _ _ (() : Unit) .nil ok
/-! (*smithy/mem.Stack).Pop -/
abbrev mem_Stack_Pop_0nil.Ty : Type := Option ((List Int) × Bool)
def mem_Stack_Pop_0nil.Ctr (s : mem_Stack_Pop_0nil.Ty) : Prop := ∀ (r : (List Int) × Bool) (h0 : s = some r) (mi : Mem) (w0 : World), okL mi [(.v (.pointer none))] → Pre mi [] w0 → Calls Try.prog 24 (([(.v (.pointer none))] : List D).map D.val).toArray w0 (RetX mi [] (fun (ch : Unit) => ((.tup [(true, [.ints .u64 r.1 4]), (false, [.one (.bool r.2)])]) : D)) (fun (ch : Unit) => []) w0)
def mem_Stack_Pop_0nil.f : Option ((List Int) × Bool) := (mem_Stack_Len_0nil.f).bind fun t1 => (if (t1 == 0) = true then (some ([0, 0, 0, 0], false)) else none)
theorem mem_Stack_Pop_0nil.ok : mem_Stack_Pop_0nil.Ctr (mem_Stack_Pop_0nil.f) := by
  intro r h0 mi w0 ok hm
  delta mem_Stack_Pop_0nil.f at h0
  refine c_enterX (n := 30) [(.v (.pointer none))] (l := [(0, (.v (.pointer none)))]) Try.func24 rfl rfl rfl rfl ok hm ?_
  clear ok hm
  intro b0 hb a S
  refine c_region ?_
  refine s_alloc S Z27 rfl ⟨rfl, trivial⟩ rfl ?_; clear S a; intro g1 a w S
  refine s_assign S rfl rfl ?_; clear S a; intro a S
  refine c_end ?_
  refine c_region ?_
  refine s_move S rfl rfl ?_; clear S a; intro a S
  obtain ⟨t1, et1, h1⟩ := bind_of h0; clear h0
  refine s_callX S (ds' := [(.v (.pointer none))]) (ds := [(.v (.pointer none))]) [] [Res.cells g1 27 [.ints .u64 [0, 0, 0, 0] 4]] (fun (ch : Unit) => ((.v (.int .i64 t1)) : D)) (fun (ch : Unit) => []) (fun (ch : Unit) => [Res.cells g1 27 [.ints .u64 [0, 0, 0, 0] 4]]) (fun _ => rfl) N26 rfl rfl (fun ok => ok) (.cons .here .nil) rfl (mem_Stack_Len_0nil.ok t1 et1 _ _) ?_; clear S a w; intro ch1 m le1 a w S
  refine s_assign S rfl rfl ?_; clear S a; intro a S
  refine c_end ?_
  refine wp_seq ?_
  refine c_region ?_
  refine s_move S rfl rfl ?_; clear S a; intro a S
  refine s_bin S rfl rfl rfl rfl ?_; clear S a; intro a S
  refine c_end ?_
  rcases ite_of h1 with ⟨c1, h2⟩ | ⟨c1, h2⟩ <;> clear h1
  · refine c_condT S rfl c1 ?_
    refine c_region ?_
    refine s_build S (ds := []) (dv := (.agg [.ints .u64 [0, 0, 0, 0] 4])) rfl (fun _ => by kernel_rfl) ⟨rfl, trivial⟩ rfl ?_; clear S a; intro a S
    refine s_store S rfl rfl rfl (s' := [.ints .u64 [0, 0, 0, 0] 4]) .here T27 rfl rfl ?_; clear S w; intro w S
    refine s_assign S rfl rfl ?_; clear S a; intro a S
    refine c_end ?_
    refine wp_ret ?_
    refine x_thenR ?_
    obtain rfl := Option.some.inj h2
    exact b_ret2 (d1 := (.agg [.ints .u64 [0, 0, 0, 0] 4])) (d2 := (.v (.bool false))) S rfl (resD_cell rfl .here T27 rfl rfl) rfl fun ok1 ok2 => S.retX (Hx := []) hb _ _ (() : Unit) .nil ⟨ok1, ⟨ok2, trivial⟩, trivial⟩
  · refine c_condF S rfl c1 ?_
    refine wp_skip ?_
    refine x_thenN ?_
    refine c_region ?_
    refine s_move S rfl rfl ?_; clear S a; intro a S
    exact (nomatch h2)
/-! (*smithy/mem.Memory).Len -/
abbrev mem_Memory_Len_0nil.Ty : Type := Option Int
def mem_Memory_Len_0nil.Ctr (s : mem_Memory_Len_0nil.Ty) : Prop := ∀ (r : Int) (h0 : s = some r) (mi : Mem) (w0 : World), okL mi [(.v (.pointer none))] → Pre mi [] w0 → Calls Try.prog 19 (([(.v (.pointer none))] : List D).map D.val).toArray w0 (RetX mi [] (fun (ch : Unit) => ((.v (.int .i64 r)) : D)) (fun (ch : Unit) => []) w0)
def mem_Memory_Len_0nil.f : Option Int := some 0
theorem mem_Memory_Len_0nil.ok : mem_Memory_Len_0nil.Ctr (mem_Memory_Len_0nil.f) := by
  intro r h0 mi w0 ok hm
  delta mem_Memory_Len_0nil.f at h0
  refine c_enterX (n := 10) [(.v (.pointer none))] (l := [(0, (.v (.pointer none)))]) Try.func19 rfl rfl rfl rfl ok hm ?_
  clear ok hm
  intro b0 hb a S
  refine c_region ?_
  refine s_assign S rfl rfl ?_; clear S a; intro a S
  refine c_end ?_
  refine wp_seq ?_
  refine c_region ?_
  refine s_move S rfl rfl ?_; clear S a; intro a S
  refine s_eqp S (b := true) rfl rfl Try.underlying28 rfl rfl ?_; clear S a; intro a S
  refine c_end ?_
  refine c_condT S rfl rfl ?_
  refine c_region ?_
  refine s_assign S rfl rfl ?_; clear S a; intro a S
  refine c_end ?_
  refine wp_ret ?_
  refine x_thenR ?_
  obtain rfl := Option.some.inj h0
  exact b_ret1 (d := (.v (.int .i64 0))) S rfl rfl fun ok => S.retX (Hx := []) hb _ _ (() : Unit) .nil ok
/-! (*smithy/mem.Memory).Reach -/
abbrev mem_Memory_Reach_0nil.Ty : Type := (List Int) → (List Int) → Option Bool
def mem_Memory_Reach_0nil.Ctr (s : mem_Memory_Reach_0nil.Ty) : Prop := ∀ (x1 : List Int) (x2 : List Int) (r : Bool) (h0 : s x1 x2 = some r) (mi : Mem) (w0 : World), okL mi [(.v (.pointer none)), (.agg [.ints .u64 x1 4]), (.agg [.ints .u64 x2 4])] → Pre mi [] w0 → Calls Try.prog 16 (([(.v (.pointer none)), (.agg [.ints .u64 x1 4]), (.agg [.ints .u64 x2 4])] : List D).map D.val).toArray w0 (RetX mi [] (fun (ch : Unit) => ((.v (.bool r)) : D)) (fun (ch : Unit) => []) w0)
def mem_Memory_Reach_0nil.f (x1 : List Int) (x2 : List Int) : Option Bool := (mem_Memory_reach_0nil.f x1 x2).bind fun t1 => (if (!t1.2) = true then (some false) else none)
theorem mem_Memory_Reach_0nil.ok : mem_Memory_Reach_0nil.Ctr (mem_Memory_Reach_0nil.f) := by
  intro x1 x2 r h0 mi w0 ok hm
  delta mem_Memory_Reach_0nil.f at h0
  refine c_enterX (n := 39) [(.v (.pointer none)), (.agg [.ints .u64 x1 4]), (.agg [.ints .u64 x2 4])] (l := [(0, (.v (.pointer none))), (1, (.agg [.ints .u64 x1 4])), (2, (.agg [.ints .u64 x2 4]))]) Try.func16 rfl rfl rfl rfl ok hm ?_
  clear ok hm
  intro b0 hb a S
  refine c_region ?_
  refine s_box S rfl rfl rfl ?_; clear S a; intro g1 a w S
  refine s_box S rfl rfl rfl ?_; clear S a w; intro g2 a w S
  refine s_assign S rfl rfl ?_; clear S a; intro a S
  refine c_end ?_
  refine c_region ?_
  refine s_move S rfl rfl ?_; clear S a; intro a S
  refine s_loada S rfl (.there .here) T27 (s' := [.ints .u64 x1 4]) rfl rfl ?_; clear S a; intro a S
  refine s_loada S rfl .here T27 (s' := [.ints .u64 x2 4]) rfl rfl ?_; clear S a; intro a S
  obtain ⟨t1, et1, h1⟩ := bind_of h0; clear h0
  refine s_callX S (ds' := [(.v (.pointer none)), (.agg [.ints .u64 x1 4]), (.agg [.ints .u64 x2 4])]) (ds := [(.v (.pointer none)), (.agg [.ints .u64 x1 4]), (.agg [.ints .u64 x2 4])]) [] [Res.cells g2 27 [.ints .u64 x2 4], Res.cells g1 27 [.ints .u64 x1 4]] (fun (ch : Unit) => ((.tup [(false, [.one (.int .u64 t1.1)]), (false, [.one (.bool t1.2)])]) : D)) (fun (ch : Unit) => []) (fun (ch : Unit) => [Res.cells g2 27 [.ints .u64 x2 4], Res.cells g1 27 [.ints .u64 x1 4]]) (fun _ => rfl) N41 rfl rfl (fun ok => ok) (.cons .here (.cons .here .nil)) rfl (mem_Memory_reach_0nil.ok x1 x2 t1 et1 _ _) ?_; clear S a w; intro ch1 m le1 a w S
  refine s_move S rfl rfl ?_; clear S a; intro a S
  refine s_extract S rfl rfl rfl rfl ?_; clear S a; intro a S
  refine s_extract S rfl rfl rfl rfl ?_; clear S a; intro a S
  refine s_assign S rfl rfl ?_; clear S a; intro a S
  refine s_assign S rfl rfl ?_; clear S a; intro a S
  refine c_end ?_
  refine wp_seq ?_
  refine c_region ?_
  refine s_move S rfl rfl ?_; clear S a; intro a S
  refine s_not S rfl rfl ?_; clear S a; intro a S
  refine c_end ?_
  rcases ite_of h1 with ⟨c1, h2⟩ | ⟨c1, h2⟩ <;> clear h1
  · refine c_condT S rfl c1 ?_
    refine c_region ?_
    refine s_assign S rfl rfl ?_; clear S a; intro a S
    refine c_end ?_
    refine wp_ret ?_
    refine x_thenR ?_
    obtain rfl := Option.some.inj h2
    exact b_ret1 (d := (.v (.bool false))) S rfl rfl fun ok => S.retX (Hx := []) hb _ _ (() : Unit) .nil ok
  · refine c_condF S rfl c1 ?_
    refine wp_skip ?_
    refine x_thenN ?_
    refine wp_seq ?_
    refine c_region ?_
    refine s_move S rfl rfl ?_; clear S a; intro a S
    refine s_conv S rfl rfl Try.underlying3 rfl ?_; clear S a; intro a S
    refine s_bin S rfl rfl rfl rfl ?_; clear S a; intro a S
    refine s_move S rfl rfl ?_; clear S a; intro a S
    exact (nomatch h2)
/-! (*smithy/mem.Memory).Word -/
abbrev mem_Memory_Word_0nil.Ty : Type := Int → Option ((List Int))
def mem_Memory_Word_0nil.Ctr (s : mem_Memory_Word_0nil.Ty) : Prop := ∀ (x1 : Int) (r : (List Int)) (h0 : s x1 = some r) (mi : Mem) (w0 : World), okL mi [(.v (.pointer none)), (.v (.int .i64 x1))] → Pre mi [] w0 → Calls Try.prog 35 (([(.v (.pointer none)), (.v (.int .i64 x1))] : List D).map D.val).toArray w0 (RetX mi [] (fun (ch : Unit) => ((.agg [.ints .u64 r 4]) : D)) (fun (ch : Unit) => []) w0)
def mem_Memory_Word_0nil.f (k : Nat) (x1 : Int) : Option ((List Int)) := (mem_Memory_Read_0nil.f x1 32).bind fun t1 => ((word_From.f k t1).bind fun t2 => (some t2))
theorem mem_Memory_Word_0nil.ok (k : Nat) : mem_Memory_Word_0nil.Ctr (mem_Memory_Word_0nil.f k) := by
  intro x1 r h0 mi w0 ok hm
  delta mem_Memory_Word_0nil.f at h0
  refine c_enterX (n := 9) [(.v (.pointer none)), (.v (.int .i64 x1))] (l := [(0, (.v (.pointer none))), (1, (.v (.int .i64 x1)))]) Try.func35 rfl rfl rfl rfl ok hm ?_
  clear ok hm
  intro b0 hb a S
  refine c_region ?_
  refine s_alloc S Z27 rfl ⟨rfl, trivial⟩ rfl ?_; clear S a; intro g1 a w S
  refine c_end ?_
  refine c_region ?_
  refine s_move S rfl rfl ?_; clear S a; intro a S
  refine s_move S rfl rfl ?_; clear S a; intro a S
  obtain ⟨t1, et1, h1⟩ := bind_of h0; clear h0
  refine s_callX S (ds' := [(.v (.pointer none)), (.v (.int .i64 x1)), (.v (.int .i64 32))]) (ds := [(.v (.pointer none)), (.v (.int .i64 x1)), (.v (.int .i64 32))]) [] [Res.cells g1 27 [.ints .u64 [0, 0, 0, 0] 4]] (fun (ch : (Option Addr) × Nat) => ((.sl ch.1 (t1).length ch.2 (RdS (Ty.int .u8) ch.1 t1)) : D)) (fun (ch : (Option Addr) × Nat) => []) (fun (ch : (Option Addr) × Nat) => [Res.cells g1 27 [.ints .u64 [0, 0, 0, 0] 4]]) (fun _ => rfl) N34 rfl rfl (fun ok => ok) (.cons .here .nil) rfl (mem_Memory_Read_0nil.ok x1 32 t1 et1 _ _) ?_; clear S a w; intro ch1 m le1 a w S
  obtain ⟨t2, et2, h2⟩ := bind_of h1; clear h1
  refine s_callX S (ds' := [(.sl ch1.1 (t1).length ch1.2 (RdS (Ty.int .u8) ch1.1 t1))]) (ds := [(.sl ch1.1 (t1).length ch1.2 (RdS (Ty.int .u8) ch1.1 t1))]) [] [Res.cells g1 27 [.ints .u64 [0, 0, 0, 0] 4]] (fun (ch : Unit) => ((.agg [.ints .u64 t2 4]) : D)) (fun (ch : Unit) => []) (fun (ch : Unit) => [Res.cells g1 27 [.ints .u64 [0, 0, 0, 0] 4]]) (fun _ => rfl) N47 rfl rfl (fun ok => ok) (.cons .here .nil) rfl (word_From.ok k t1 ch1.1 ch1.2 t2 et2 _ _) ?_; clear S a w; intro ch2 m le1 a w S
  refine s_store S rfl rfl rfl (s' := [.ints .u64 t2 4]) .here T27 rfl rfl ?_; clear S w; intro w S
  refine c_end ?_
  refine wp_ret ?_
  obtain rfl := Option.some.inj h2
  exact b_ret1 (d := (.agg [.ints .u64 t2 4])) S rfl (resD_cell rfl .here T27 rfl rfl) fun ok => S.retX (Hx := []) hb _ _ (() : Unit) .nil ok
/-! (*smithy/mem.Stack).Push -/
abbrev mem_Stack_Push_0nil.Ty : Type := (List Int) → Option Bool
def mem_Stack_Push_0nil.Ctr (s : mem_Stack_Push_0nil.Ty) : Prop := ∀ (x1 : List Int) (r : Bool) (h0 : s x1 = some r) (mi : Mem) (w0 : World), okL mi [(.v (.pointer none)), (.agg [.ints .u64 x1 4])] → Pre mi [] w0 → Calls Try.prog 22 (([(.v (.pointer none)), (.agg [.ints .u64 x1 4])] : List D).map D.val).toArray w0 (RetX mi [] (fun (ch : Unit) => ((.v (.bool r)) : D)) (fun (ch : Unit) => []) w0)
def mem_Stack_Push_0nil.f (x1 : List Int) : Option Bool := some false
theorem mem_Stack_Push_0nil.ok : mem_Stack_Push_0nil.Ctr (mem_Stack_Push_0nil.f) := by
  intro x1 r h0 mi w0 ok hm
  delta mem_Stack_Push_0nil.f at h0
  refine c_enterX (n := 25) [(.v (.pointer none)), (.agg [.ints .u64 x1 4])] (l := [(0, (.v (.pointer none))), (1, (.agg [.ints .u64 x1 4]))]) Try.func22 rfl rfl rfl rfl ok hm ?_
  clear ok hm
  intro b0 hb a S
  refine c_region ?_
  refine s_box S rfl rfl rfl ?_; clear S a; intro g1 a w S
  refine s_assign S rfl rfl ?_; clear S a; intro a S
  refine c_end ?_
  refine wp_seq ?_
  refine c_region ?_
  refine s_move S rfl rfl ?_; clear S a; intro a S
  refine s_eqp S (b := true) rfl rfl Try.underlying43 rfl rfl ?_; clear S a; intro a S
  refine s_move S rfl rfl ?_; clear S a; intro a S
  refine s_gF S (b := true) rfl rfl rfl rfl ?_; clear S a; intro a S
  refine s_gF S (b := true) rfl rfl rfl rfl ?_; clear S a; intro a S
  refine s_gF S (b := true) rfl rfl rfl rfl ?_; clear S a; intro a S
  refine s_gF S (b := true) rfl rfl rfl rfl ?_; clear S a; intro a S
  refine s_gF S (b := true) rfl rfl rfl rfl ?_; clear S a; intro a S
  refine s_gF S (b := true) rfl rfl rfl rfl ?_; clear S a; intro a S
  refine s_pick S (b := true) (hc_of rfl rfl) rfl rfl ?_; clear S a; intro a S
  refine c_end ?_
  refine c_condT S rfl rfl ?_
  refine c_region ?_
  refine s_assign S rfl rfl ?_; clear S a; intro a S
  refine c_end ?_
  refine wp_ret ?_
  refine x_thenR ?_
  obtain rfl := Option.some.inj h0
  exact b_ret1 (d := (.v (.bool false))) S rfl rfl fun ok => S.retX (Hx := []) hb _ _ (() : Unit) .nil ok
/-! (*smithy/mem.Stack).Dup -/
abbrev mem_Stack_Dup_0nil.Ty : Type := Int → Option Bool
def mem_Stack_Dup_0nil.Ctr (s : mem_Stack_Dup_0nil.Ty) : Prop := ∀ (x1 : Int) (r : Bool) (h0 : s x1 = some r) (mi : Mem) (w0 : World), okL mi [(.v (.pointer none)), (.v (.int .i64 x1))] → Pre mi [] w0 → Calls Try.prog 23 (([(.v (.pointer none)), (.v (.int .i64 x1))] : List D).map D.val).toArray w0 (RetX mi [] (fun (ch : Unit) => ((.v (.bool r)) : D)) (fun (ch : Unit) => []) w0)
def mem_Stack_Dup_0nil.j1 (y1 : Bool) : Option Bool := if y1 = true then (some false) else none
def mem_Stack_Dup_0nil.f (x1 : Int) : Option Bool := if (decide (x1 < 1)) = true then (mem_Stack_Dup_0nil.j1 true) else ((mem_Stack_Len_0nil.f).bind fun t1 => (mem_Stack_Dup_0nil.j1 (decide (t1 < x1))))
theorem mem_Stack_Dup_0nil.ok : mem_Stack_Dup_0nil.Ctr (mem_Stack_Dup_0nil.f) := by
  intro x1 r h0 mi w0 ok hm
  delta mem_Stack_Dup_0nil.f at h0
  refine c_enterX (n := 28) [(.v (.pointer none)), (.v (.int .i64 x1))] (l := [(0, (.v (.pointer none))), (1, (.v (.int .i64 x1)))]) Try.func23 rfl rfl rfl rfl ok hm ?_
  clear ok hm
  intro b0 hb a S
  refine c_region ?_
  refine s_assign S rfl rfl ?_; clear S a; intro a S
  refine c_end ?_
  refine wp_seq ?_
  refine wp_seq_k ?_
  intro K1 hK1
  have j1 : ∀ (m : Mem) (y1 : Bool) (a : Act) (w : World), St 28 m b0 [(12, (.v (.bool y1))), (0, (.v (.pointer none))), (1, (.v (.int .i64 x1)))] [] a w → mem_Stack_Dup_0nil.j1 y1 = some r → K1 a w := by
    intro m y1 a w S h0
    delta mem_Stack_Dup_0nil.j1 at h0
    refine hK1 a w ?_
    rcases ite_of h0 with ⟨c1, h1⟩ | ⟨c1, h1⟩ <;> clear h0
    · refine c_condT S rfl c1 ?_
      refine c_region ?_
      refine s_assign S rfl rfl ?_; clear S a; intro a S
      refine c_end ?_
      refine wp_ret ?_
      refine x_thenR ?_
      obtain rfl := Option.some.inj h1
      exact b_ret1 (d := (.v (.bool false))) S rfl rfl fun ok => S.retX (Hx := []) hb _ _ (() : Unit) .nil ok
    · refine c_condF S rfl c1 ?_
      refine wp_skip ?_
      refine x_thenN ?_
      refine wp_seq (c_heldS S (.take 0 (.take 1 (.take 2 (.take 3 (.take 4 (.take 5 (.take 6 (.take 7 (.take 8 (.take 9 (.take 10 (.take 11 (.take 12 (.take 13 (.alts (.run 14 true (.take 15 .done) .nil)))))))))))))))) 16 [] .nil trivial [(0, (.v (.pointer none))), (1, (.v (.int .i64 x1)))] ⟨rfl, rfl, trivial⟩ (by kernel_rfl) (by kernel_rfl) ?_); clear S; intro w S CL hw le
      refine h_move S CL hw le ⟨rfl, rfl, trivial⟩ rfl rfl rfl trivial ?_; clear S CL a; intro a S CL
      refine h_move S CL hw le ⟨rfl, rfl, rfl, trivial⟩ rfl rfl rfl trivial ?_; clear S CL a; intro a S CL
      exact (nomatch h1)
  refine c_region' ?_
  refine s_move S rfl rfl ?_; clear S a; intro a S
  refine s_bin S rfl rfl rfl rfl ?_; clear S a; intro a S
  refine s_move S rfl rfl ?_; clear S a; intro a S
  rcases ite_of h0 with ⟨c2, h1⟩ | ⟨c2, h1⟩ <;> clear h0
  · refine s_gF S (b := (decide (x1 < 1))) rfl rfl c2 rfl ?_; clear S a; intro a S
    refine s_gF S (b := (decide (x1 < 1))) rfl rfl c2 rfl ?_; clear S a; intro a S
    refine s_gF S (b := (decide (x1 < 1))) rfl rfl c2 rfl ?_; clear S a; intro a S
    refine s_gF S (b := (decide (x1 < 1))) rfl rfl c2 rfl ?_; clear S a; intro a S
    refine s_pick S (b := true) (hc_of rfl c2) rfl rfl ?_; clear S a; intro a S
    refine c_end' ?_
    refine x_thenN ?_
    exact j1 _ true a w0 (S.sub ⟨rfl, rfl, rfl, trivial⟩ .nil) h1
  · refine s_gT S (b := (decide (x1 < 1))) rfl rfl c2 ?_
    refine s_move S rfl rfl ?_; clear S a; intro a S
    refine s_gT S (b := (decide (x1 < 1))) rfl rfl c2 ?_
    refine s_move S rfl rfl ?_; clear S a; intro a S
    refine s_gT S (b := (decide (x1 < 1))) rfl rfl c2 ?_
    obtain ⟨t1, et1, h2⟩ := bind_of h1; clear h1
    refine s_callX S (ds' := [(.v (.pointer none))]) (ds := [(.v (.pointer none))]) [] [] (fun (ch : Unit) => ((.v (.int .i64 t1)) : D)) (fun (ch : Unit) => []) (fun (ch : Unit) => []) (fun _ => rfl) N26 rfl rfl (fun ok => ok) .nil rfl (mem_Stack_Len_0nil.ok t1 et1 _ _) ?_; clear S a; intro ch1 m le1 a w S
    refine s_gT S (b := (decide (x1 < 1))) rfl rfl c2 ?_
    refine s_bin S rfl rfl rfl rfl ?_; clear S a; intro a S
    refine s_pick S (b := false) (hc_of rfl c2) rfl rfl ?_; clear S a; intro a S
    refine c_end' ?_
    refine x_thenN ?_
    exact j1 _ (decide (t1 < x1)) a w (S.sub ⟨rfl, rfl, rfl, trivial⟩ .nil) h2
/-! (*smithy/mem.Stack).Swap -/
abbrev mem_Stack_Swap_0nil.Ty : Type := Int → Option Bool
def mem_Stack_Swap_0nil.Ctr (s : mem_Stack_Swap_0nil.Ty) : Prop := ∀ (x1 : Int) (r : Bool) (h0 : s x1 = some r) (mi : Mem) (w0 : World), okL mi [(.v (.pointer none)), (.v (.int .i64 x1))] → Pre mi [] w0 → Calls Try.prog 25 (([(.v (.pointer none)), (.v (.int .i64 x1))] : List D).map D.val).toArray w0 (RetX mi [] (fun (ch : Unit) => ((.v (.bool r)) : D)) (fun (ch : Unit) => []) w0)
def mem_Stack_Swap_0nil.j1 (y1 : Bool) : Option Bool := if y1 = true then (some false) else none
def mem_Stack_Swap_0nil.f (x1 : Int) : Option Bool := (mem_Stack_Len_0nil.f).bind fun t1 => (if (decide (x1 < 1)) = true then (mem_Stack_Swap_0nil.j1 true) else (mem_Stack_Swap_0nil.j1 (decide ((wr .i64 (t1 - 1)) < x1))))
theorem mem_Stack_Swap_0nil.ok : mem_Stack_Swap_0nil.Ctr (mem_Stack_Swap_0nil.f) := by
  intro x1 r h0 mi w0 ok hm
  delta mem_Stack_Swap_0nil.f at h0
  refine c_enterX (n := 46) [(.v (.pointer none)), (.v (.int .i64 x1))] (l := [(0, (.v (.pointer none))), (1, (.v (.int .i64 x1)))]) Try.func25 rfl rfl rfl rfl ok hm ?_
  clear ok hm
  intro b0 hb a S
  refine c_region ?_
  refine s_assign S rfl rfl ?_; clear S a; intro a S
  refine c_end ?_
  refine c_region ?_
  refine s_move S rfl rfl ?_; clear S a; intro a S
  obtain ⟨t1, et1, h1⟩ := bind_of h0; clear h0
  refine s_callX S (ds' := [(.v (.pointer none))]) (ds := [(.v (.pointer none))]) [] [] (fun (ch : Unit) => ((.v (.int .i64 t1)) : D)) (fun (ch : Unit) => []) (fun (ch : Unit) => []) (fun _ => rfl) N26 rfl rfl (fun ok => ok) .nil rfl (mem_Stack_Len_0nil.ok t1 et1 _ _) ?_; clear S a; intro ch1 m le1 a w S
  refine s_bin S rfl rfl rfl rfl ?_; clear S a; intro a S
  refine s_assign S rfl rfl ?_; clear S a; intro a S
  refine c_end ?_
  refine wp_seq ?_
  refine wp_seq_k ?_
  intro K1 hK1
  have j1 : ∀ (m : Mem) (y1 : Bool) (a : Act) (w : World), St 46 m b0 [(15, (.v (.bool y1))), (5, (.v (.int .i64 (wr .i64 (t1 - 1))))), (0, (.v (.pointer none))), (1, (.v (.int .i64 x1)))] [] a w → mem_Stack_Swap_0nil.j1 y1 = some r → K1 a w := by
    intro m y1 a w S h0
    delta mem_Stack_Swap_0nil.j1 at h0
    refine hK1 a w ?_
    rcases ite_of h0 with ⟨c1, h1⟩ | ⟨c1, h1⟩ <;> clear h0
    · refine c_condT S rfl c1 ?_
      refine c_region ?_
      refine s_assign S rfl rfl ?_; clear S a; intro a S
      refine c_end ?_
      refine wp_ret ?_
      refine x_thenR ?_
      obtain rfl := Option.some.inj h1
      exact b_ret1 (d := (.v (.bool false))) S rfl rfl fun ok => S.retX (Hx := []) hb _ _ (() : Unit) .nil ok
    · refine c_condF S rfl c1 ?_
      refine wp_skip ?_
      refine x_thenN ?_
      refine wp_seq (c_heldS S (.take 0 (.take 1 (.take 2 (.take 3 (.take 4 (.take 5 (.take 6 (.take 7 (.take 8 (.take 9 (.take 10 (.take 11 (.take 12 (.take 13 (.take 14 (.take 15 (.take 16 (.take 17 (.take 18 (.take 19 (.take 20 (.take 21 (.take 22 (.take 23 (.take 24 (.take 25 (.take 26 (.take 27 (.take 28 (.alts (.run 29 true (.take 30 (.alts (.run 31 false .done .nil))) .nil))))))))))))))))))))))))))))))) 31 [] .nil trivial [(5, (.v (.int .i64 (wr .i64 (t1 - 1))))), (0, (.v (.pointer none))), (1, (.v (.int .i64 x1)))] ⟨rfl, rfl, rfl, trivial⟩ (by kernel_rfl) (by kernel_rfl) ?_); clear S; intro w S CL hw le
      refine h_move S CL hw le ⟨rfl, rfl, rfl, trivial⟩ rfl rfl rfl trivial ?_; clear S CL a; intro a S CL
      exact (nomatch h1)
  refine c_region' ?_
  refine s_move S rfl rfl ?_; clear S a; intro a S
  refine s_bin S rfl rfl rfl rfl ?_; clear S a; intro a S
  refine s_move S rfl rfl ?_; clear S a; intro a S
  rcases ite_of h1 with ⟨c2, h2⟩ | ⟨c2, h2⟩ <;> clear h1
  · refine s_gF S (b := (decide (x1 < 1))) rfl rfl c2 rfl ?_; clear S a; intro a S
    refine s_gF S (b := (decide (x1 < 1))) rfl rfl c2 rfl ?_; clear S a; intro a S
    refine s_gF S (b := (decide (x1 < 1))) rfl rfl c2 rfl ?_; clear S a; intro a S
    refine s_pick S (b := true) (hc_of rfl c2) rfl rfl ?_; clear S a; intro a S
    refine c_end' ?_
    refine x_thenN ?_
    exact j1 _ true a w (S.sub ⟨rfl, rfl, rfl, rfl, trivial⟩ .nil) h2
  · refine s_gT S (b := (decide (x1 < 1))) rfl rfl c2 ?_
    refine s_move S rfl rfl ?_; clear S a; intro a S
    refine s_gT S (b := (decide (x1 < 1))) rfl rfl c2 ?_
    refine s_move S rfl rfl ?_; clear S a; intro a S
    refine s_gT S (b := (decide (x1 < 1))) rfl rfl c2 ?_
    refine s_bin S rfl rfl rfl rfl ?_; clear S a; intro a S
    refine s_pick S (b := false) (hc_of rfl c2) rfl rfl ?_; clear S a; intro a S
    refine c_end' ?_
    refine x_thenN ?_
    exact j1 _ (decide ((wr .i64 (t1 - 1)) < x1)) a w (S.sub ⟨rfl, rfl, rfl, rfl, trivial⟩ .nil) h2
/-! (*smithy/mem.Stack).All -/
abbrev mem_Stack_All_0nil.Ty : Type := Option ((List (List Int)))
def mem_Stack_All_0nil.Ctr (s : mem_Stack_All_0nil.Ty) : Prop := ∀ (r : (List (List Int))) (h0 : s = some r) (mi : Mem) (w0 : World), okL mi [(.v (.pointer none))] → Pre mi [] w0 → Calls Try.prog 38 (([(.v (.pointer none))] : List D).map D.val).toArray w0 (RetX mi [] (fun (ch : (Option Addr) × Nat) => ((.sl ch.1 (r).length ch.2 (RdS (Ty.arr .u64 4) ch.1 r)) : D)) (fun (ch : (Option Addr) × Nat) => []) w0)
def mem_Stack_All_0nil.f : Option ((List (List Int))) := some ([] : List (List Int))
theorem mem_Stack_All_0nil.ok : mem_Stack_All_0nil.Ctr (mem_Stack_All_0nil.f) := by
  intro r h0 mi w0 ok hm
  delta mem_Stack_All_0nil.f at h0
  refine c_enterX (n := 10) [(.v (.pointer none))] (l := [(0, (.v (.pointer none)))]) Try.func38 rfl rfl rfl rfl ok hm ?_
  clear ok hm
  intro b0 hb a S
  refine c_region ?_
  refine s_assign S rfl rfl ?_; clear S a; intro a S
  refine c_end ?_
  refine wp_seq ?_
  refine c_region ?_
  refine s_move S rfl rfl ?_; clear S a; intro a S
  refine s_eqp S (b := true) rfl rfl Try.underlying43 rfl rfl ?_; clear S a; intro a S
  refine c_end ?_
  refine c_condT S rfl rfl ?_
  refine c_region ?_
  refine s_assign S rfl rfl ?_; clear S a; intro a S
  refine c_end ?_
  refine wp_ret ?_
  refine x_thenR ?_
  replace S := S.slot (u := 2) (d' := (.sl none (([] : List (List Int))).length 0 (RdS (Ty.arr .u64 4) none ([] : List (List Int))))) rfl rfl ok_nil
  obtain rfl := Option.some.inj h0
  exact b_ret1 (d := (.sl none (([] : List (List Int))).length 0 (RdS (Ty.arr .u64 4) none ([] : List (List Int))))) S rfl rfl fun ok => S.retX (Hx := []) hb _ _ ((none, 0) : (Option Addr) × Nat) .nil ok
end GW
