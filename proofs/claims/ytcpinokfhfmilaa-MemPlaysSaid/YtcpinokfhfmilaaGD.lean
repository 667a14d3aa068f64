/-
  Printed by a program of these sessions (wip/gw/gx.py): for each Go function a Lean function with the same answers, and the walk that shows it.
-/
import Derived.Test.YtcpinokfhfmilaaProg
import Derived.Test.YtcpinokfhfmilaaGC
set_option linter.unusedVariables false
set_option maxRecDepth 10000
namespace GW
open Go Go.RowKit Go.Proofs
/-! smithy/smithylaw10.MemPlays -/
abbrev smithylaw10_MemPlays.Ty : Type := (List (Int × Int × Int × Int × (List Int) × (List Int) × (List Int))) → Option Bool
def smithylaw10_MemPlays.Ctr (s : smithylaw10_MemPlays.Ty) : Prop := ∀ (x1 : List (Int × Int × Int × Int × (List Int) × (List Int) × (List Int))) (ch_0_0 : Option Addr) (ch_0_1 : Nat) (r : Bool) (h0 : s x1 = some r) (mi : Mem) (w0 : World), okL mi [(.sl ch_0_0 (x1).length ch_0_1 (RdS (Ty.prod (Ty.int .i64) (Ty.prod (Ty.int .i64) (Ty.prod (Ty.int .i64) (Ty.prod (Ty.int .i64) (Ty.prod (Ty.arr .u64 4) (Ty.prod (Ty.arr .u64 4) (Ty.slice (Ty.int .u8)))))))) ch_0_0 x1))] → Pre mi [] w0 → Calls Try.prog 7 (([(.sl ch_0_0 (x1).length ch_0_1 (RdS (Ty.prod (Ty.int .i64) (Ty.prod (Ty.int .i64) (Ty.prod (Ty.int .i64) (Ty.prod (Ty.int .i64) (Ty.prod (Ty.arr .u64 4) (Ty.prod (Ty.arr .u64 4) (Ty.slice (Ty.int .u8)))))))) ch_0_0 x1))] : List D).map D.val).toArray w0 (RetX mi [] (fun (ch : Unit) => ((.v (.bool r)) : D)) (fun (ch : Unit) => []) w0)
def smithylaw10_MemPlays.j1 (y1 : List Int) (y2 : List Int) : Option Bool := (mem_Memory_Read.f (y2) 0 ((y1).length : Int)).bind fun t4 => (some ((bstr t4).toList == (bstr y1).toList))
def smithylaw10_MemPlays.j2 (y17 : Int) (rec1 : (List Int) → Int → (List Int) → Option Bool) (y22 : List Int) (y23 : List Int) : Option Bool := (mem_Memory_Len.f (y23)).bind fun t74 => (if (t74 != ((y22).length : Int)) = true then (some false) else (rec1 y22 (wr .i64 (y17 + 1)) y23))
def smithylaw10_MemPlays.j3 (y16 : List Int) (y17 : Int) (rec1 : (List Int) → Int → (List Int) → Option Bool) (t75 : Int × Bool) (y24 : Bool) (y25 : List Int) : Option Bool := if y24 = true then (some false) else (if t75.2 = true then ((smithyref10_Grow.f y16 t75.1).bind fun t83 => (smithylaw10_MemPlays.j2 y17 rec1 t83 y25)) else (smithylaw10_MemPlays.j2 y17 rec1 y16 y25))
def smithylaw10_MemPlays.j4 (y16 : List Int) (y17 : Int) (y18 : List Int) (rec1 : (List Int) → Int → (List Int) → Option Bool) (y26 : Bool) : Option Bool := if y26 = true then (some false) else (smithylaw10_MemPlays.j2 y17 rec1 y16 y18)
def smithylaw10_MemPlays.b1 (k : Nat) (t5 : (List (Int × Int × Int × Int × (List Int) × (List Int) × (List Int)))) (rec1 : (List Int) → Int → (List Int) → Option Bool) (y16 : List Int) (y17 : Int) (y18 : List Int) : Option Bool := if (decide (y17 < ((t5).length : Int))) = true then (if 0 ≤ y17 ∧ y17 < ((t5).length : Int) then (if (((gt t5 y17).1) == 0) = true then ((smithyref10_Reach.f ((y16).length : Int) ((gt t5 y17).2.2.2.2.1) ((gt t5 y17).2.2.2.2.2.1)).bind fun t75 => ((mem_Memory_Cost.f (y18) ((gt t5 y17).2.2.2.2.1) ((gt t5 y17).2.2.2.2.2.1)).bind fun t76 => (if (!(t76.2 == t75.2)) = true then (smithylaw10_MemPlays.j3 y16 y17 rec1 t75 true y18) else (if t75.2 = true then ((smithyref10_Price.f (wr .u64 (wr .i64 (Int.tdiv t75.1 32)))).bind fun t84 => ((smithyref10_Price.f (wr .u64 (wr .i64 (Int.tdiv ((y16).length : Int) 32)))).bind fun t85 => (if (t76.1 != (wr .u64 (t84 - t85))) = true then (smithylaw10_MemPlays.j3 y16 y17 rec1 t75 true y18) else (if (!t75.2) = true then (if (t76.1 != 0) = true then (smithylaw10_MemPlays.j3 y16 y17 rec1 t75 true y18) else ((mem_Memory_Reach.f (y18) ((gt t5 y17).2.2.2.2.1) ((gt t5 y17).2.2.2.2.2.1)).bind fun t86 => (smithylaw10_MemPlays.j3 y16 y17 rec1 t75 (!(t86.1 == t75.2)) t86.2))) else ((mem_Memory_Reach.f (y18) ((gt t5 y17).2.2.2.2.1) ((gt t5 y17).2.2.2.2.2.1)).bind fun t87 => (smithylaw10_MemPlays.j3 y16 y17 rec1 t75 (!(t87.1 == t75.2)) t87.2)))))) else (if (!t75.2) = true then (if (t76.1 != 0) = true then (smithylaw10_MemPlays.j3 y16 y17 rec1 t75 true y18) else ((mem_Memory_Reach.f (y18) ((gt t5 y17).2.2.2.2.1) ((gt t5 y17).2.2.2.2.2.1)).bind fun t88 => (smithylaw10_MemPlays.j3 y16 y17 rec1 t75 (!(t88.1 == t75.2)) t88.2))) else ((mem_Memory_Reach.f (y18) ((gt t5 y17).2.2.2.2.1) ((gt t5 y17).2.2.2.2.2.1)).bind fun t89 => (smithylaw10_MemPlays.j3 y16 y17 rec1 t75 (!(t89.1 == t75.2)) t89.2))))))) else (if (((gt t5 y17).1) == 1) = true then ((mem_Memory_Write.f (y18) ((gt t5 y17).2.1) ((gt t5 y17).2.2.2.2.2.2)).bind fun t90 => ((smithyref10_Write.f k y16 ((gt t5 y17).2.1) ((gt t5 y17).2.2.2.2.2.2)).bind fun t91 => (smithylaw10_MemPlays.j2 y17 rec1 t91 t90))) else (if (((gt t5 y17).1) == 2) = true then ((mem_Memory_Copy.f (y18) ((gt t5 y17).2.1) ((gt t5 y17).2.2.1) ((gt t5 y17).2.2.2.1)).bind fun t92 => ((smithyref10_Read.f k y16 ((gt t5 y17).2.2.1) ((gt t5 y17).2.2.2.1)).bind fun t93 => ((smithyref10_Write.f k y16 ((gt t5 y17).2.1) t93).bind fun t94 => (smithylaw10_MemPlays.j2 y17 rec1 t94 t92)))) else (if (((gt t5 y17).1) == 3) = true then ((mem_Memory_SetWord.f k (y18) ((gt t5 y17).2.1) ((gt t5 y17).2.2.2.2.1)).bind fun t95 => ((smithyref10_SetWord.f k y16 ((gt t5 y17).2.1) ((gt t5 y17).2.2.2.2.1)).bind fun t96 => (smithylaw10_MemPlays.j2 y17 rec1 t96 t95))) else ((mem_Memory_Read.f (y18) ((gt t5 y17).2.1) ((gt t5 y17).2.2.2.1)).bind fun t101 => ((smithyref10_Read.f k y16 ((gt t5 y17).2.1) ((gt t5 y17).2.2.2.1)).bind fun t102 => (if (!((bstr t101).toList == (bstr t102).toList)) = true then (smithylaw10_MemPlays.j4 y16 y17 y18 rec1 true) else ((mem_Memory_Word.f k (y18) ((gt t5 y17).2.1)).bind fun t103 => ((smithyref10_Word.f k y16 ((gt t5 y17).2.1)).bind fun t104 => (smithylaw10_MemPlays.j4 y16 y17 y18 rec1 (!(decide (t103 = t104))))))))))))) else none) else (smithylaw10_MemPlays.j1 y16 y18)
def smithylaw10_MemPlays.l1 (k : Nat) (t5 : (List (Int × Int × Int × Int × (List Int) × (List Int) × (List Int)))) : Nat → (List Int) → Int → (List Int) → Option Bool
  | 0, _, _, _ => none
  | q + 1, y16, y17, y18 => smithylaw10_MemPlays.b1 k t5 (smithylaw10_MemPlays.l1 k t5 q) y16 y17 y18
def smithylaw10_MemPlays.f (k : Nat) (x1 : List (Int × Int × Int × Int × (List Int) × (List Int) × (List Int))) : Option Bool := (mem_New.f).bind fun t1 => ((smithylaw10_fixed.f).bind fun t2 => (if (!t2) = true then (some false) else ((smithylaw10_cut.f k x1).bind fun t5 => (smithylaw10_MemPlays.l1 k t5 k ([] : List Int) 0 t1))))
theorem smithylaw10_MemPlays.ok (k : Nat) : smithylaw10_MemPlays.Ctr (smithylaw10_MemPlays.f k) := by
  intro x1 ch_0_0 ch_0_1 r h0 mi w0 ok hm
  delta smithylaw10_MemPlays.f at h0
  refine c_enterX (n := 179) [(.sl ch_0_0 (x1).length ch_0_1 (RdS (Ty.prod (Ty.int .i64) (Ty.prod (Ty.int .i64) (Ty.prod (Ty.int .i64) (Ty.prod (Ty.int .i64) (Ty.prod (Ty.arr .u64 4) (Ty.prod (Ty.arr .u64 4) (Ty.slice (Ty.int .u8)))))))) ch_0_0 x1))] (l := [(0, (.sl ch_0_0 (x1).length ch_0_1 (RdS (Ty.prod (Ty.int .i64) (Ty.prod (Ty.int .i64) (Ty.prod (Ty.int .i64) (Ty.prod (Ty.int .i64) (Ty.prod (Ty.arr .u64 4) (Ty.prod (Ty.arr .u64 4) (Ty.slice (Ty.int .u8)))))))) ch_0_0 x1)))]) Try.func7 rfl rfl rfl rfl ok hm ?_
  clear ok hm
  intro b0 hb a S
  refine c_region ?_
  refine s_assign S rfl rfl ?_; clear S a; intro a S
  refine c_end ?_
  refine c_region ?_
  obtain ⟨t1, et1, h1⟩ := bind_of h0; clear h0
  refine s_callX S (ds' := []) (ds := []) [] [] (fun (ch : Nat × (Option Addr) × Nat × Nat) => ((.v (.pointer (some ⟨ch.1, 0, none⟩))) : D)) (fun (ch : Nat × (Option Addr) × Nat × Nat) => [Res.cells ch.1 72 [.one (.slice ch.2.1 ch.2.2.1 ch.2.2.2)], Res.row (Ty.int .u8) 5 ch.2.1 ch.2.2.1 ch.2.2.2 t1]) (fun (ch : Nat × (Option Addr) × Nat × Nat) => [Res.cells ch.1 72 [.one (.slice ch.2.1 ch.2.2.1 ch.2.2.2)], Res.row (Ty.int .u8) 5 ch.2.1 ch.2.2.1 ch.2.2.2 t1]) (fun _ => rfl) N15 rfl rfl (fun ok => ok) .nil rfl (mem_New.ok t1 et1 _ _) ?_; clear S a; intro ch1 m le1 a w S
  refine s_assign S rfl rfl ?_; clear S a; intro a S
  refine c_end ?_
  refine c_region ?_
  refine s_bldSl S (ty' := (Ty.int .u8)) (ds := []) (z := 0) (c0 := ()) (ys := ([] : List Int)) (cs := []) rfl Try.underlying38 J5 Z5 rfl ⟨rfl, trivial⟩ rfl rfl rfl rfl rfl rfl ?_; clear S a w; intro g1 a w S
  refine s_assign S rfl rfl ?_; clear S a; intro a S
  refine c_end ?_
  refine wp_seq ?_
  refine c_region ?_
  refine s_move S rfl rfl ?_; clear S a; intro a S
  refine s_eqp S (b := false) rfl rfl Try.underlying28 rfl rfl ?_; clear S a; intro a S
  refine s_move S rfl rfl ?_; clear S a; intro a S
  refine s_gT S (b := false) rfl rfl rfl ?_
  obtain ⟨t2, et2, h2⟩ := bind_of h1; clear h1
  refine s_callX S (ds' := []) (ds := []) [] [Res.row (Ty.int .u8) 5 (some ⟨g1, 0, none⟩) 0 0 ([] : List Int), Res.cells ch1.1 72 [.one (.slice ch1.2.1 ch1.2.2.1 ch1.2.2.2)], Res.row (Ty.int .u8) 5 ch1.2.1 ch1.2.2.1 ch1.2.2.2 t1] (fun (ch : Unit) => ((.v (.bool t2)) : D)) (fun (ch : Unit) => []) (fun (ch : Unit) => [Res.row (Ty.int .u8) 5 (some ⟨g1, 0, none⟩) 0 0 ([] : List Int), Res.cells ch1.1 72 [.one (.slice ch1.2.1 ch1.2.2.1 ch1.2.2.2)], Res.row (Ty.int .u8) 5 ch1.2.1 ch1.2.2.1 ch1.2.2.2 t1]) (fun _ => rfl) N12 rfl rfl (fun ok => ok) (.cons .here (.cons .here (.cons .here .nil))) rfl (smithylaw10_fixed.ok t2 et2 _ _) ?_; clear S a w; intro ch2 m le1 a w S
  refine s_gT S (b := false) rfl rfl rfl ?_
  refine s_not S rfl rfl ?_; clear S a; intro a S
  refine s_pick S (b := false) (hc_of rfl rfl) rfl rfl ?_; clear S a; intro a S
  refine c_end ?_
  rcases ite_of h2 with ⟨c1, h3⟩ | ⟨c1, h3⟩ <;> clear h2
  · refine c_condT S rfl c1 ?_
    refine c_region ?_
    refine s_assign S rfl rfl ?_; clear S a; intro a S
    refine c_end ?_
    refine wp_ret ?_
    refine x_thenR ?_
    obtain rfl := Option.some.inj h3
    exact b_ret1 (d := (.v (.bool false))) S rfl rfl fun ok => S.retX (Hx := []) hb _ _ (() : Unit) .nil ok
  · refine c_condF S rfl c1 ?_
    refine wp_skip ?_
    refine x_thenN ?_
    refine wp_seq_k ?_
    intro K1 hK1
    have j1 : ∀ (m : Mem) (A1 : Option Addr) (cp1 : Nat) (y1 : List Int) (g13 : Nat) (A2 : Option Addr) (nn1 : Nat) (cp2 : Nat) (y2 : List Int) (a : Act) (w : World), St 179 m b0 [(4, (.sl A1 (y1).length cp1 (RdS (Ty.int .u8) A1 y1))), (3, (.v (.pointer (some ⟨g13, 0, none⟩))))] [Res.cells g13 72 [.one (.slice A2 nn1 cp2)], Res.row (Ty.int .u8) 5 A2 nn1 cp2 y2] a w → smithylaw10_MemPlays.j1 y1 y2 = some r → K1 a w := by
      intro m A1 cp1 y1 g13 A2 nn1 cp2 y2 a w S h0
      delta smithylaw10_MemPlays.j1 at h0
      refine hK1 a w ?_
      refine wp_seq (c_heldS S (.take 0 (.take 1 (.take 2 (.take 5 (.take 6 (.alts (.run 3 true (.alts (.run 4 true (.take 7 (.take 8 .done)) .nil)) .nil))))))) 9 [Res.cells g13 72 [.one (.slice A2 nn1 cp2)], Res.row (Ty.int .u8) 5 A2 nn1 cp2 y2] (.cons .here (.cons .here .nil)) ⟨Res.stay_cells, Res.stay_row flat_int, trivial⟩ [(4, (.sl A1 (y1).length cp1 (RdS (Ty.int .u8) A1 y1))), (3, (.v (.pointer (some ⟨g13, 0, none⟩))))] ⟨rfl, rfl, trivial⟩ (by kernel_rfl) (by kernel_rfl) ?_); clear S; intro w S CL hw le
      refine h_move S CL hw le ⟨rfl, rfl, trivial⟩ rfl rfl rfl trivial ?_; clear S CL a; intro a S CL
      refine h_move S CL hw le ⟨rfl, rfl, rfl, trivial⟩ rfl rfl rfl trivial ?_; clear S CL a; intro a S CL
      refine h_lenS S CL hw le ⟨rfl, rfl, rfl, rfl, trivial⟩ rfl Try.underlying38 rfl rfl trivial ?_; clear S CL a; intro a S CL
      refine h_move S CL hw le ⟨rfl, rfl, rfl, rfl, rfl, trivial⟩ rfl rfl rfl trivial ?_; clear S CL a; intro a S CL
      refine h_strS S CL hw le ⟨rfl, rfl, rfl, rfl, rfl, rfl, trivial⟩ rfl rfl Try.underlying38 Try.underlying5 Try.underlying9 rfl rfl trivial ?_; clear S CL a; intro a S CL
      refine h_run' S rfl trivial ?_
      obtain ⟨t4, et4, h1⟩ := bind_of h0; clear h0
      refine s_callX S (ds' := [(.v (.pointer (some ⟨g13, 0, none⟩))), (.v (.int .i64 0)), (.v (.int .i64 ((y1).length : Int)))]) (ds := [(.v (.pointer (some ⟨g13, 0, none⟩))), (.v (.int .i64 0)), (.v (.int .i64 ((y1).length : Int)))]) [Res.cells g13 72 [.one (.slice A2 nn1 cp2)], Res.row (Ty.int .u8) 5 A2 nn1 cp2 y2] [] (fun (ch : (Option Addr) × Nat × Nat) => ((.v (.slice ch.1 ch.2.1 ch.2.2)) : D)) (fun (ch : (Option Addr) × Nat × Nat) => [Res.row (Ty.int .u8) 5 ch.1 ch.2.1 ch.2.2 t4, Res.cells g13 72 [.one (.slice A2 nn1 cp2)], Res.row (Ty.int .u8) 5 A2 nn1 cp2 y2]) (fun (ch : (Option Addr) × Nat × Nat) => [Res.row (Ty.int .u8) 5 ch.1 ch.2.1 ch.2.2 t4, Res.cells g13 72 [.one (.slice A2 nn1 cp2)], Res.row (Ty.int .u8) 5 A2 nn1 cp2 y2]) (fun _ => rfl) N34 rfl rfl (fun ok => ok) (.cons .here (.cons .here .nil)) rfl (mem_Memory_Read.ok (y2) 0 ((y1).length : Int) g13 A2 nn1 cp2 t4 et4 _ _) ?_; clear S a; intro ch3 m le1 a w S
      replace le := le.trans le1
      replace hw := CL.again hw S (.cons (.there .here) (.cons (.there .here) .nil)) le
      refine h_back ⟨fun _ => hw, ?_⟩
      refine h_run' S rfl trivial ?_
      replace S := S.rowfro .here
      obtain ⟨m, le1, S, hro⟩ := S
      replace le := le.trans le1
      replace S := S.slotro (u := 174) rfl hro
      refine s_strS S rfl rfl Try.underlying38 Try.underlying5 Try.underlying9 rfl ?_; clear S a; intro a S
      replace hw := CL.again hw S (.cons .here (.cons .here .nil)) le
      refine h_back ⟨fun _ => hw, ?_⟩
      replace CL := CL.add (t := 175) (d := (.v (.string (bstr t4)))) S rfl rfl
      refine h_eqT S CL hw le ⟨rfl, rfl, rfl, rfl, rfl, rfl, rfl, rfl, trivial⟩ rfl rfl rfl rfl trivial ?_; clear S CL a; intro a S CL
      refine h_assign S CL hw le ⟨rfl, rfl, rfl, rfl, rfl, rfl, rfl, rfl, rfl, trivial⟩ rfl rfl rfl trivial ?_; clear S CL a; intro a S CL
      refine h_done ?_; clear CL hw le
      refine x_thenN ?_
      refine wp_ret ?_
      obtain rfl := Option.some.inj h1
      exact b_ret1 (d := (.v (.bool ((bstr t4).toList == (bstr y1).toList)))) S rfl rfl fun ok => S.retX (Hx := []) hb _ _ (() : Unit) .nil ok
    refine c_region ?_
    refine s_move S rfl rfl ?_; clear S a; intro a S
    obtain ⟨t5, et5, h4⟩ := bind_of h3; clear h3
    refine s_callX S (ds' := [(.sl ch_0_0 (x1).length ch_0_1 (RdS (Ty.prod (Ty.int .i64) (Ty.prod (Ty.int .i64) (Ty.prod (Ty.int .i64) (Ty.prod (Ty.int .i64) (Ty.prod (Ty.arr .u64 4) (Ty.prod (Ty.arr .u64 4) (Ty.slice (Ty.int .u8)))))))) ch_0_0 x1))]) (ds := [(.sl ch_0_0 (x1).length ch_0_1 (RdS (Ty.prod (Ty.int .i64) (Ty.prod (Ty.int .i64) (Ty.prod (Ty.int .i64) (Ty.prod (Ty.int .i64) (Ty.prod (Ty.arr .u64 4) (Ty.prod (Ty.arr .u64 4) (Ty.slice (Ty.int .u8)))))))) ch_0_0 x1))]) [] [Res.row (Ty.int .u8) 5 (some ⟨g1, 0, none⟩) 0 0 ([] : List Int), Res.cells ch1.1 72 [.one (.slice ch1.2.1 ch1.2.2.1 ch1.2.2.2)], Res.row (Ty.int .u8) 5 ch1.2.1 ch1.2.2.1 ch1.2.2.2 t1] (fun (ch : (Option Addr) × Nat) => ((.sl ch.1 (t5).length ch.2 (RdS (Ty.prod (Ty.int .i64) (Ty.prod (Ty.int .i64) (Ty.prod (Ty.int .i64) (Ty.prod (Ty.int .i64) (Ty.prod (Ty.arr .u64 4) (Ty.prod (Ty.arr .u64 4) (Ty.slice (Ty.int .u8)))))))) ch.1 t5)) : D)) (fun (ch : (Option Addr) × Nat) => []) (fun (ch : (Option Addr) × Nat) => [Res.row (Ty.int .u8) 5 (some ⟨g1, 0, none⟩) 0 0 ([] : List Int), Res.cells ch1.1 72 [.one (.slice ch1.2.1 ch1.2.2.1 ch1.2.2.2)], Res.row (Ty.int .u8) 5 ch1.2.1 ch1.2.2.1 ch1.2.2.2 t1]) (fun _ => rfl) N20 rfl rfl (fun ok => ok) (.cons .here (.cons .here (.cons .here .nil))) rfl (smithylaw10_cut.ok k x1 ch_0_0 ch_0_1 t5 et5 _ _) ?_; clear S a w; intro ch4 m le1 a w S
    refine s_lenS S rfl Try.underlying36 rfl ?_; clear S a; intro a S
    refine s_move S rfl rfl ?_; clear S a; intro a S
    refine c_end ?_
    refine wp_block ?_
    replace S := S.rowfro .here
    obtain ⟨m, le1, S, hro⟩ := S
    replace S := S.slotro (u := 4) rfl hro
    replace S := S.slotro (u := 12) rfl hro
    refine c_loop (fun q1 a w => ∃ (m : Mem) (A3 : Option Addr) (cp14 : Nat) (y16 : List Int) (y17 : Int) (A4 : Option Addr) (cp15 : Nat) (g24 : Nat) (A5 : Option Addr) (nn8 : Nat) (cp16 : Nat) (y18 : List Int), St 179 m b0 [(4, (.sl A3 (y16).length cp14 (RdS (Ty.int .u8) A3 y16))), (22, (.v (.int .i64 y17))), (21, (.v (.int .i64 ((t5).length : Int)))), (20, (.sl A4 (t5).length cp15 (RdS (Ty.prod (Ty.int .i64) (Ty.prod (Ty.int .i64) (Ty.prod (Ty.int .i64) (Ty.prod (Ty.int .i64) (Ty.prod (Ty.arr .u64 4) (Ty.prod (Ty.arr .u64 4) (Ty.slice (Ty.int .u8)))))))) A4 t5))), (3, (.v (.pointer (some ⟨g24, 0, none⟩))))] [Res.cells g24 72 [.one (.slice A5 nn8 cp16)], Res.row (Ty.int .u8) 5 A5 nn8 cp16 y18] a w ∧ smithylaw10_MemPlays.l1 k t5 q1 y16 y17 y18 = some r) ?_ ?_ (k := k) ⟨_, (some ⟨g1, 0, none⟩), 0, ([] : List Int), 0, ch4.1, ch4.2, ch1.1, ch1.2.1, ch1.2.2.1, ch1.2.2.2, t1, (S.sub ⟨rfl, rfl, rfl, rfl, rfl, trivial⟩ (.cons .here (.cons .here .nil))), h4⟩
    · rintro a w ⟨m, A3, cp14, y16, y17, A4, cp15, g24, A5, nn8, cp16, y18, S, h0⟩
      exact (nomatch (show (none : Option Bool) = some r from h0))
    · clear S h4
      rintro q1 a w ⟨m, A3, cp14, y16, y17, A4, cp15, g24, A5, nn8, cp16, y18, S, h0⟩
      replace h0 : smithylaw10_MemPlays.b1 k t5 (smithylaw10_MemPlays.l1 k t5 q1) y16 y17 y18 = some r := h0
      delta smithylaw10_MemPlays.b1 at h0
      refine c_region ?_
      refine s_bin S rfl rfl rfl rfl ?_; clear S a; intro a S
      refine c_end ?_
      refine wp_seq ?_
      rcases ite_of h0 with ⟨c2, h1⟩ | ⟨c2, h1⟩ <;> clear h0
      · refine c_condT S rfl c2 ?_
        refine wp_skip ?_
        refine x_thenN ?_
        refine wp_seq ?_
        refine wp_block ?_
        refine c_region ?_
        obtain ⟨c3, h2⟩ := chk_of h1; clear h1
        refine s_iaddrS S rfl rfl rfl Try.underlying36 T40 c3.1 c3.2 rfl ?_; clear S a; intro p1 a S
        refine s_ldA S (fun (c : Unit × Unit × Unit × Unit × Unit × Unit × (Option Addr × Nat)) => [.one (.int .i64 ((gt t5 y17).1)), .one (.int .i64 ((gt t5 y17).2.1)), .one (.int .i64 ((gt t5 y17).2.2.1)), .one (.int .i64 ((gt t5 y17).2.2.2.1)), .ints .u64 ((gt t5 y17).2.2.2.2.1) 4, .ints .u64 ((gt t5 y17).2.2.2.2.2.1) 4, .sl c.2.2.2.2.2.2.1 ((gt t5 y17).2.2.2.2.2.2).length c.2.2.2.2.2.2.2 (RdS (Ty.int .u8) c.2.2.2.2.2.2.1 ((gt t5 y17).2.2.2.2.2.2))]) rfl T40 (fun _ => rfl) rfl ?_; clear S a; intro ch5 a S
        refine s_alloc S Z40 rfl ⟨rfl, rfl, rfl, rfl, rfl, rfl, rfl, trivial⟩ rfl ?_; clear S a w; intro g25 a w S
        refine s_store S rfl rfl rfl (s' := [.one (.int .i64 ((gt t5 y17).1)), .one (.int .i64 ((gt t5 y17).2.1)), .one (.int .i64 ((gt t5 y17).2.2.1)), .one (.int .i64 ((gt t5 y17).2.2.2.1)), .ints .u64 ((gt t5 y17).2.2.2.2.1) 4, .ints .u64 ((gt t5 y17).2.2.2.2.2.1) 4, .sl ch5.2.2.2.2.2.2.1 ((gt t5 y17).2.2.2.2.2.2).length ch5.2.2.2.2.2.2.2 (RdS (Ty.int .u8) ch5.2.2.2.2.2.2.1 ((gt t5 y17).2.2.2.2.2.2))]) .here T40 rfl rfl ?_; clear S w; intro w S
        refine c_end ?_
        refine wp_seq_k ?_
        intro K2 hK2
        have j2 : ∀ (m : Mem) (A6 : Option Addr) (cp18 : Nat) (y22 : List Int) (g28 : Nat) (A7 : Option Addr) (nn10 : Nat) (cp19 : Nat) (y23 : List Int) (a : Act) (w : World), St 179 m b0 [(4, (.sl A6 (y22).length cp18 (RdS (Ty.int .u8) A6 y22))), (22, (.v (.int .i64 y17))), (21, (.v (.int .i64 ((t5).length : Int)))), (20, (.sl A4 (t5).length cp15 (RdS (Ty.prod (Ty.int .i64) (Ty.prod (Ty.int .i64) (Ty.prod (Ty.int .i64) (Ty.prod (Ty.int .i64) (Ty.prod (Ty.arr .u64 4) (Ty.prod (Ty.arr .u64 4) (Ty.slice (Ty.int .u8)))))))) A4 t5))), (3, (.v (.pointer (some ⟨g28, 0, none⟩))))] [Res.cells g28 72 [.one (.slice A7 nn10 cp19)], Res.row (Ty.int .u8) 5 A7 nn10 cp19 y23] a w → smithylaw10_MemPlays.j2 y17 (smithylaw10_MemPlays.l1 k t5 q1) y22 y23 = some r → K2 a w := by
          intro m A6 cp18 y22 g28 A7 nn10 cp19 y23 a w S h0
          delta smithylaw10_MemPlays.j2 at h0
          refine hK2 a w ?_
          refine c_region ?_
          refine s_move S rfl rfl ?_; clear S a; intro a S
          obtain ⟨t74, et74, h1⟩ := bind_of h0; clear h0
          refine s_callX S (ds' := [(.v (.pointer (some ⟨g28, 0, none⟩)))]) (ds := [(.v (.pointer (some ⟨g28, 0, none⟩)))]) [Res.cells g28 72 [.one (.slice A7 nn10 cp19)], Res.row (Ty.int .u8) 5 A7 nn10 cp19 y23] [] (fun (ch : Unit) => ((.v (.int .i64 t74)) : D)) (fun (ch : Unit) => [Res.cells g28 72 [.one (.slice A7 nn10 cp19)], Res.row (Ty.int .u8) 5 A7 nn10 cp19 y23]) (fun (ch : Unit) => [Res.cells g28 72 [.one (.slice A7 nn10 cp19)], Res.row (Ty.int .u8) 5 A7 nn10 cp19 y23]) (fun _ => rfl) N19 rfl rfl (fun ok => ok) (.cons .here (.cons .here .nil)) rfl (mem_Memory_Len.ok (y23) g28 A7 nn10 cp19 t74 et74 _ _) ?_; clear S a w; intro ch28 m le1 a w S
          refine s_move S rfl rfl ?_; clear S a; intro a S
          refine s_lenS S rfl Try.underlying38 rfl ?_; clear S a; intro a S
          refine s_bin S rfl rfl rfl rfl ?_; clear S a; intro a S
          refine c_end ?_
          rcases ite_of h1 with ⟨c4, h2⟩ | ⟨c4, h2⟩ <;> clear h1
          · refine c_condT S rfl c4 ?_
            refine c_region ?_
            refine s_assign S rfl rfl ?_; clear S a; intro a S
            refine c_end ?_
            refine wp_ret ?_
            refine x_blockR ?_
            refine x_thenR ?_
            refine x_thenR ?_
            refine x_blockR ?_
            refine x_thenR ?_
            obtain rfl := Option.some.inj h2
            exact b_ret1 (d := (.v (.bool false))) S rfl rfl fun ok => S.retX (Hx := []) hb _ _ (() : Unit) .nil ok
          · refine c_condF S rfl c4 ?_
            refine wp_skip ?_
            refine x_blockN ?_
            refine x_thenN ?_
            refine c_region' ?_
            refine s_bin S rfl rfl rfl rfl ?_; clear S a; intro a S
            refine s_move S rfl rfl ?_; clear S a; intro a S
            refine c_end' ?_
            refine x_thenN ?_
            exact ⟨_, A6, cp18, y22, (wr .i64 (y17 + 1)), A4, cp15, g28, A7, nn10, cp19, y23, (S.sub ⟨rfl, rfl, rfl, rfl, rfl, trivial⟩ (.cons .here (.cons .here .nil))), h2⟩
        refine c_region ?_
        refine s_fieldAddr S rfl I40_0 T3 (by decide) rfl rfl ?_; clear S a; intro a S
        refine s_load1 S rfl .here T3 (v := (.int .i64 ((gt t5 y17).1))) rfl rfl ?_; clear S a; intro a S
        refine c_end ?_
        refine wp_block ?_
        refine c_region ?_
        refine s_bin S rfl rfl rfl rfl ?_; clear S a; intro a S
        refine s_assign S rfl rfl ?_; clear S a; intro a S
        refine c_end ?_
        rcases ite_of h2 with ⟨c5, h3⟩ | ⟨c5, h3⟩ <;> clear h2
        · refine c_condT S rfl c5 ?_
          refine c_region ?_
          refine s_move S rfl rfl ?_; clear S a; intro a S
          refine s_lenS S rfl Try.underlying38 rfl ?_; clear S a; intro a S
          refine s_fieldAddr S rfl I40_4 T27 (by decide) rfl rfl ?_; clear S a; intro a S
          refine s_loada S rfl .here T27 (s' := [.ints .u64 ((gt t5 y17).2.2.2.2.1) 4]) rfl rfl ?_; clear S a; intro a S
          refine s_fieldAddr S rfl I40_5 T27 (by decide) rfl rfl ?_; clear S a; intro a S
          refine s_loada S rfl .here T27 (s' := [.ints .u64 ((gt t5 y17).2.2.2.2.2.1) 4]) rfl rfl ?_; clear S a; intro a S
          obtain ⟨t75, et75, h4⟩ := bind_of h3; clear h3
          refine s_callX S (ds' := [(.v (.int .i64 ((y16).length : Int))), (.agg [.ints .u64 ((gt t5 y17).2.2.2.2.1) 4]), (.agg [.ints .u64 ((gt t5 y17).2.2.2.2.2.1) 4])]) (ds := [(.v (.int .i64 ((y16).length : Int))), (.agg [.ints .u64 ((gt t5 y17).2.2.2.2.1) 4]), (.agg [.ints .u64 ((gt t5 y17).2.2.2.2.2.1) 4])]) [] [Res.cells g25 40 [.one (.int .i64 ((gt t5 y17).1)), .one (.int .i64 ((gt t5 y17).2.1)), .one (.int .i64 ((gt t5 y17).2.2.1)), .one (.int .i64 ((gt t5 y17).2.2.2.1)), .ints .u64 ((gt t5 y17).2.2.2.2.1) 4, .ints .u64 ((gt t5 y17).2.2.2.2.2.1) 4, .sl ch5.2.2.2.2.2.2.1 ((gt t5 y17).2.2.2.2.2.2).length ch5.2.2.2.2.2.2.2 (RdS (Ty.int .u8) ch5.2.2.2.2.2.2.1 ((gt t5 y17).2.2.2.2.2.2))], Res.cells g24 72 [.one (.slice A5 nn8 cp16)], Res.row (Ty.int .u8) 5 A5 nn8 cp16 y18] (fun (ch : Unit) => ((.tup [(false, [.one (.int .i64 t75.1)]), (false, [.one (.bool t75.2)])]) : D)) (fun (ch : Unit) => []) (fun (ch : Unit) => [Res.cells g25 40 [.one (.int .i64 ((gt t5 y17).1)), .one (.int .i64 ((gt t5 y17).2.1)), .one (.int .i64 ((gt t5 y17).2.2.1)), .one (.int .i64 ((gt t5 y17).2.2.2.1)), .ints .u64 ((gt t5 y17).2.2.2.2.1) 4, .ints .u64 ((gt t5 y17).2.2.2.2.2.1) 4, .sl ch5.2.2.2.2.2.2.1 ((gt t5 y17).2.2.2.2.2.2).length ch5.2.2.2.2.2.2.2 (RdS (Ty.int .u8) ch5.2.2.2.2.2.2.1 ((gt t5 y17).2.2.2.2.2.2))], Res.cells g24 72 [.one (.slice A5 nn8 cp16)], Res.row (Ty.int .u8) 5 A5 nn8 cp16 y18]) (fun _ => rfl) N17 rfl rfl (fun ok => ok) (.cons .here (.cons .here (.cons .here .nil))) rfl (smithyref10_Reach.ok ((y16).length : Int) ((gt t5 y17).2.2.2.2.1) ((gt t5 y17).2.2.2.2.2.1) t75 et75 _ _) ?_; clear S a w; intro ch29 m le1 a w S
          refine s_move S rfl rfl ?_; clear S a; intro a S
          refine s_extract S rfl rfl rfl rfl ?_; clear S a; intro a S
          refine s_extract S rfl rfl rfl rfl ?_; clear S a; intro a S
          refine s_assign S rfl rfl ?_; clear S a; intro a S
          refine s_assign S rfl rfl ?_; clear S a; intro a S
          refine c_end ?_
          refine c_region ?_
          refine s_move S rfl rfl ?_; clear S a; intro a S
          refine s_fieldAddr S rfl I40_4 T27 (by decide) rfl rfl ?_; clear S a; intro a S
          refine s_loada S rfl .here T27 (s' := [.ints .u64 ((gt t5 y17).2.2.2.2.1) 4]) rfl rfl ?_; clear S a; intro a S
          refine s_fieldAddr S rfl I40_5 T27 (by decide) rfl rfl ?_; clear S a; intro a S
          refine s_loada S rfl .here T27 (s' := [.ints .u64 ((gt t5 y17).2.2.2.2.2.1) 4]) rfl rfl ?_; clear S a; intro a S
          obtain ⟨t76, et76, h5⟩ := bind_of h4; clear h4
          refine s_callX S (ds' := [(.v (.pointer (some ⟨g24, 0, none⟩))), (.agg [.ints .u64 ((gt t5 y17).2.2.2.2.1) 4]), (.agg [.ints .u64 ((gt t5 y17).2.2.2.2.2.1) 4])]) (ds := [(.v (.pointer (some ⟨g24, 0, none⟩))), (.agg [.ints .u64 ((gt t5 y17).2.2.2.2.1) 4]), (.agg [.ints .u64 ((gt t5 y17).2.2.2.2.2.1) 4])]) [Res.cells g24 72 [.one (.slice A5 nn8 cp16)], Res.row (Ty.int .u8) 5 A5 nn8 cp16 y18] [Res.cells g25 40 [.one (.int .i64 ((gt t5 y17).1)), .one (.int .i64 ((gt t5 y17).2.1)), .one (.int .i64 ((gt t5 y17).2.2.1)), .one (.int .i64 ((gt t5 y17).2.2.2.1)), .ints .u64 ((gt t5 y17).2.2.2.2.1) 4, .ints .u64 ((gt t5 y17).2.2.2.2.2.1) 4, .sl ch5.2.2.2.2.2.2.1 ((gt t5 y17).2.2.2.2.2.2).length ch5.2.2.2.2.2.2.2 (RdS (Ty.int .u8) ch5.2.2.2.2.2.2.1 ((gt t5 y17).2.2.2.2.2.2))]] (fun (ch : Unit) => ((.tup [(false, [.one (.int .u64 t76.1)]), (false, [.one (.bool t76.2)])]) : D)) (fun (ch : Unit) => [Res.cells g24 72 [.one (.slice A5 nn8 cp16)], Res.row (Ty.int .u8) 5 A5 nn8 cp16 y18]) (fun (ch : Unit) => [Res.cells g24 72 [.one (.slice A5 nn8 cp16)], Res.row (Ty.int .u8) 5 A5 nn8 cp16 y18, Res.cells g25 40 [.one (.int .i64 ((gt t5 y17).1)), .one (.int .i64 ((gt t5 y17).2.1)), .one (.int .i64 ((gt t5 y17).2.2.1)), .one (.int .i64 ((gt t5 y17).2.2.2.1)), .ints .u64 ((gt t5 y17).2.2.2.2.1) 4, .ints .u64 ((gt t5 y17).2.2.2.2.2.1) 4, .sl ch5.2.2.2.2.2.2.1 ((gt t5 y17).2.2.2.2.2.2).length ch5.2.2.2.2.2.2.2 (RdS (Ty.int .u8) ch5.2.2.2.2.2.2.1 ((gt t5 y17).2.2.2.2.2.2))]]) (fun _ => rfl) N18 rfl rfl (fun ok => ok) (.cons (.there .here) (.cons (.there .here) (.cons .here .nil))) rfl (mem_Memory_Cost.ok (y18) ((gt t5 y17).2.2.2.2.1) ((gt t5 y17).2.2.2.2.2.1) g24 A5 nn8 cp16 t76 et76 _ _) ?_; clear S a w; intro ch30 m le1 a w S
          refine s_move S rfl rfl ?_; clear S a; intro a S
          refine s_extract S rfl rfl rfl rfl ?_; clear S a; intro a S
          refine s_extract S rfl rfl rfl rfl ?_; clear S a; intro a S
          refine s_assign S rfl rfl ?_; clear S a; intro a S
          refine s_assign S rfl rfl ?_; clear S a; intro a S
          refine c_end ?_
          refine wp_seq ?_
          refine wp_seq_k ?_
          intro K3 hK3
          have j3 : ∀ (m : Mem) (y24 : Bool) (g29 : Nat) (A8 : Option Addr) (nn11 : Nat) (cp20 : Nat) (y25 : List Int) (a : Act) (w : World), St 179 m b0 [(112, (.v (.bool y24))), (8, (.v (.bool t75.2))), (7, (.v (.int .i64 t75.1))), (4, (.sl A3 (y16).length cp14 (RdS (Ty.int .u8) A3 y16))), (22, (.v (.int .i64 y17))), (21, (.v (.int .i64 ((t5).length : Int)))), (20, (.sl A4 (t5).length cp15 (RdS (Ty.prod (Ty.int .i64) (Ty.prod (Ty.int .i64) (Ty.prod (Ty.int .i64) (Ty.prod (Ty.int .i64) (Ty.prod (Ty.arr .u64 4) (Ty.prod (Ty.arr .u64 4) (Ty.slice (Ty.int .u8)))))))) A4 t5))), (3, (.v (.pointer (some ⟨g29, 0, none⟩))))] [Res.cells g29 72 [.one (.slice A8 nn11 cp20)], Res.row (Ty.int .u8) 5 A8 nn11 cp20 y25] a w → smithylaw10_MemPlays.j3 y16 y17 (smithylaw10_MemPlays.l1 k t5 q1) t75 y24 y25 = some r → K3 a w := by
            intro m y24 g29 A8 nn11 cp20 y25 a w S h0
            delta smithylaw10_MemPlays.j3 at h0
            refine hK3 a w ?_
            rcases ite_of h0 with ⟨c6, h1⟩ | ⟨c6, h1⟩ <;> clear h0
            · refine c_condT S rfl c6 ?_
              refine c_region ?_
              refine s_assign S rfl rfl ?_; clear S a; intro a S
              refine c_end ?_
              refine wp_ret ?_
              refine x_thenR ?_
              refine x_blockR ?_
              refine x_thenR ?_
              refine x_blockR ?_
              refine x_thenR ?_
              refine x_thenR ?_
              refine x_blockR ?_
              refine x_thenR ?_
              obtain rfl := Option.some.inj h1
              exact b_ret1 (d := (.v (.bool false))) S rfl rfl fun ok => S.retX (Hx := []) hb _ _ (() : Unit) .nil ok
            · refine c_condF S rfl c6 ?_
              refine wp_skip ?_
              refine x_thenN ?_
              refine c_region ?_
              refine s_move S rfl rfl ?_; clear S a; intro a S
              refine c_end ?_
              rcases ite_of h1 with ⟨c7, h2⟩ | ⟨c7, h2⟩ <;> clear h1
              · refine c_condT S rfl c7 ?_
                refine c_region' ?_
                refine s_move S rfl rfl ?_; clear S a; intro a S
                refine s_move S rfl rfl ?_; clear S a; intro a S
                obtain ⟨t83, et83, h3⟩ := bind_of h2; clear h2
                refine s_callX S (ds' := [(.sl A3 (y16).length cp14 (RdS (Ty.int .u8) A3 y16)), (.v (.int .i64 t75.1))]) (ds := [(.sl A3 (y16).length cp14 (RdS (Ty.int .u8) A3 y16)), (.v (.int .i64 t75.1))]) [] [Res.cells g29 72 [.one (.slice A8 nn11 cp20)], Res.row (Ty.int .u8) 5 A8 nn11 cp20 y25] (fun (ch : (Option Addr) × Nat × Nat) => ((.v (.slice ch.1 ch.2.1 ch.2.2)) : D)) (fun (ch : (Option Addr) × Nat × Nat) => [Res.row (Ty.int .u8) 5 ch.1 ch.2.1 ch.2.2 t83]) (fun (ch : (Option Addr) × Nat × Nat) => [Res.row (Ty.int .u8) 5 ch.1 ch.2.1 ch.2.2 t83, Res.cells g29 72 [.one (.slice A8 nn11 cp20)], Res.row (Ty.int .u8) 5 A8 nn11 cp20 y25]) (fun _ => rfl) N27 rfl rfl (fun ok => ok) (.cons .here (.cons .here .nil)) rfl (smithyref10_Grow.ok y16 t75.1 A3 cp14 t83 et83 _ _) ?_; clear S a w; intro ch37 m le1 a w S
                refine s_assign S rfl rfl ?_; clear S a; intro a S
                refine c_end' ?_
                refine x_blockN ?_
                refine x_thenN ?_
                replace S := S.rowfro .here
                obtain ⟨m, le1, S, hro⟩ := S
                replace S := S.slotro (u := 4) rfl hro
                replace S := S.slotro (u := 116) rfl hro
                exact j2 _ ch37.1 ch37.2.2 t83 g29 A8 nn11 cp20 y25 a w (S.sub ⟨rfl, rfl, rfl, rfl, rfl, trivial⟩ (.cons .here (.cons .here .nil))) h3
              · refine c_condF S rfl c7 ?_
                refine wp_skip ?_
                refine x_blockN ?_
                refine x_thenN ?_
                exact j2 _ A3 cp14 y16 g29 A8 nn11 cp20 y25 a w (S.sub ⟨rfl, rfl, rfl, rfl, rfl, trivial⟩ (.cons .here (.cons .here .nil))) h2
          refine c_region' ?_
          refine s_move S rfl rfl ?_; clear S a; intro a S
          refine s_move S rfl rfl ?_; clear S a; intro a S
          refine s_neb S rfl rfl Try.underlying4 rfl ?_; clear S a; intro a S
          refine s_move S rfl rfl ?_; clear S a; intro a S
          rcases ite_of h5 with ⟨c8, h6⟩ | ⟨c8, h6⟩ <;> clear h5
          · refine s_gF S (b := (!(t76.2 == t75.2))) rfl rfl c8 rfl ?_; clear S a; intro a S
            refine s_gF S (b := (!(t76.2 == t75.2))) rfl rfl c8 rfl ?_; clear S a; intro a S
            refine s_gU S rfl rfl rfl ?_; clear S a; intro a S
            refine s_gU S rfl rfl rfl ?_; clear S a; intro a S
            refine s_gU S rfl rfl rfl ?_; clear S a; intro a S
            refine s_gU S rfl rfl rfl ?_; clear S a; intro a S
            refine s_gU S rfl rfl rfl ?_; clear S a; intro a S
            refine s_gU S rfl rfl rfl ?_; clear S a; intro a S
            refine s_gU S rfl rfl rfl ?_; clear S a; intro a S
            refine s_gU S rfl rfl rfl ?_; clear S a; intro a S
            refine s_gU S rfl rfl rfl ?_; clear S a; intro a S
            refine s_gU S rfl rfl rfl ?_; clear S a; intro a S
            refine s_gU S rfl rfl rfl ?_; clear S a; intro a S
            refine s_gU S rfl rfl rfl ?_; clear S a; intro a S
            refine s_gF S (b := (!(t76.2 == t75.2))) rfl rfl c8 rfl ?_; clear S a; intro a S
            refine s_pick S (b := true) (hc_of rfl c8) rfl rfl ?_; clear S a; intro a S
            refine s_move S rfl rfl ?_; clear S a; intro a S
            refine s_gF S (b := true) rfl rfl rfl rfl ?_; clear S a; intro a S
            refine s_gF S (b := true) rfl rfl rfl rfl ?_; clear S a; intro a S
            refine s_gF S (b := true) rfl rfl rfl rfl ?_; clear S a; intro a S
            refine s_gU S rfl rfl rfl ?_; clear S a; intro a S
            refine s_gU S rfl rfl rfl ?_; clear S a; intro a S
            refine s_gF S (b := true) rfl rfl rfl rfl ?_; clear S a; intro a S
            refine s_pick S (b := true) (hc_of rfl rfl) rfl rfl ?_; clear S a; intro a S
            refine s_move S rfl rfl ?_; clear S a; intro a S
            refine s_gF S (b := true) rfl rfl rfl rfl ?_; clear S a; intro a S
            refine s_gF S (b := true) rfl rfl rfl rfl ?_; clear S a; intro a S
            refine s_gF S (b := true) rfl rfl rfl rfl ?_; clear S a; intro a S
            refine s_gF S (b := true) rfl rfl rfl rfl ?_; clear S a; intro a S
            refine s_gF S (b := true) rfl rfl rfl rfl ?_; clear S a; intro a S
            refine s_gF S (b := true) rfl rfl rfl rfl ?_; clear S a; intro a S
            refine s_gF S (b := true) rfl rfl rfl rfl ?_; clear S a; intro a S
            refine s_gF S (b := true) rfl rfl rfl rfl ?_; clear S a; intro a S
            refine s_pick S (b := true) (hc_of rfl rfl) rfl rfl ?_; clear S a; intro a S
            refine c_end' ?_
            refine x_thenN ?_
            exact j3 _ true g24 A5 nn8 cp16 y18 a w (S.sub ⟨rfl, rfl, rfl, rfl, rfl, rfl, rfl, rfl, trivial⟩ (.cons .here (.cons .here .nil))) h6
          · refine s_gT S (b := (!(t76.2 == t75.2))) rfl rfl c8 ?_
            refine s_move S rfl rfl ?_; clear S a; intro a S
            refine s_gT S (b := (!(t76.2 == t75.2))) rfl rfl c8 ?_
            refine s_move S rfl rfl ?_; clear S a; intro a S
            rcases ite_of h6 with ⟨c9, h7⟩ | ⟨c9, h7⟩ <;> clear h6
            · refine s_gT S (b := t75.2) rfl rfl c9 ?_
              refine s_move S rfl rfl ?_; clear S a; intro a S
              refine s_gT S (b := t75.2) rfl rfl c9 ?_
              refine s_move S rfl rfl ?_; clear S a; intro a S
              refine s_gT S (b := t75.2) rfl rfl c9 ?_
              refine s_quo S rfl rfl (by decide) rfl ?_; clear S a; intro a S
              refine s_gT S (b := t75.2) rfl rfl c9 ?_
              refine s_conv S rfl rfl Try.underlying22 rfl ?_; clear S a; intro a S
              refine s_gT S (b := t75.2) rfl rfl c9 ?_
              obtain ⟨t84, et84, h8⟩ := bind_of h7; clear h7
              refine s_callX S (ds' := [(.v (.int .u64 (wr .u64 (wr .i64 (Int.tdiv t75.1 32)))))]) (ds := [(.v (.int .u64 (wr .u64 (wr .i64 (Int.tdiv t75.1 32)))))]) [] [Res.cells g24 72 [.one (.slice A5 nn8 cp16)], Res.row (Ty.int .u8) 5 A5 nn8 cp16 y18, Res.cells g25 40 [.one (.int .i64 ((gt t5 y17).1)), .one (.int .i64 ((gt t5 y17).2.1)), .one (.int .i64 ((gt t5 y17).2.2.1)), .one (.int .i64 ((gt t5 y17).2.2.2.1)), .ints .u64 ((gt t5 y17).2.2.2.2.1) 4, .ints .u64 ((gt t5 y17).2.2.2.2.2.1) 4, .sl ch5.2.2.2.2.2.2.1 ((gt t5 y17).2.2.2.2.2.2).length ch5.2.2.2.2.2.2.2 (RdS (Ty.int .u8) ch5.2.2.2.2.2.2.1 ((gt t5 y17).2.2.2.2.2.2))]] (fun (ch : Unit) => ((.v (.int .u64 t84)) : D)) (fun (ch : Unit) => []) (fun (ch : Unit) => [Res.cells g24 72 [.one (.slice A5 nn8 cp16)], Res.row (Ty.int .u8) 5 A5 nn8 cp16 y18, Res.cells g25 40 [.one (.int .i64 ((gt t5 y17).1)), .one (.int .i64 ((gt t5 y17).2.1)), .one (.int .i64 ((gt t5 y17).2.2.1)), .one (.int .i64 ((gt t5 y17).2.2.2.1)), .ints .u64 ((gt t5 y17).2.2.2.2.1) 4, .ints .u64 ((gt t5 y17).2.2.2.2.2.1) 4, .sl ch5.2.2.2.2.2.2.1 ((gt t5 y17).2.2.2.2.2.2).length ch5.2.2.2.2.2.2.2 (RdS (Ty.int .u8) ch5.2.2.2.2.2.2.1 ((gt t5 y17).2.2.2.2.2.2))]]) (fun _ => rfl) N14 rfl rfl (fun ok => ok) (.cons .here (.cons .here (.cons .here .nil))) rfl (smithyref10_Price.ok (wr .u64 (wr .i64 (Int.tdiv t75.1 32))) t84 et84 _ _) ?_; clear S a w; intro ch38 m le1 a w S
              refine s_gT S (b := t75.2) rfl rfl c9 ?_
              refine s_move S rfl rfl ?_; clear S a; intro a S
              refine s_gT S (b := t75.2) rfl rfl c9 ?_
              refine s_lenS S rfl Try.underlying38 rfl ?_; clear S a; intro a S
              refine s_gT S (b := t75.2) rfl rfl c9 ?_
              refine s_quo S rfl rfl (by decide) rfl ?_; clear S a; intro a S
              refine s_gT S (b := t75.2) rfl rfl c9 ?_
              refine s_conv S rfl rfl Try.underlying22 rfl ?_; clear S a; intro a S
              refine s_gT S (b := t75.2) rfl rfl c9 ?_
              obtain ⟨t85, et85, h9⟩ := bind_of h8; clear h8
              refine s_callX S (ds' := [(.v (.int .u64 (wr .u64 (wr .i64 (Int.tdiv ((y16).length : Int) 32)))))]) (ds := [(.v (.int .u64 (wr .u64 (wr .i64 (Int.tdiv ((y16).length : Int) 32)))))]) [] [Res.cells g24 72 [.one (.slice A5 nn8 cp16)], Res.row (Ty.int .u8) 5 A5 nn8 cp16 y18, Res.cells g25 40 [.one (.int .i64 ((gt t5 y17).1)), .one (.int .i64 ((gt t5 y17).2.1)), .one (.int .i64 ((gt t5 y17).2.2.1)), .one (.int .i64 ((gt t5 y17).2.2.2.1)), .ints .u64 ((gt t5 y17).2.2.2.2.1) 4, .ints .u64 ((gt t5 y17).2.2.2.2.2.1) 4, .sl ch5.2.2.2.2.2.2.1 ((gt t5 y17).2.2.2.2.2.2).length ch5.2.2.2.2.2.2.2 (RdS (Ty.int .u8) ch5.2.2.2.2.2.2.1 ((gt t5 y17).2.2.2.2.2.2))]] (fun (ch : Unit) => ((.v (.int .u64 t85)) : D)) (fun (ch : Unit) => []) (fun (ch : Unit) => [Res.cells g24 72 [.one (.slice A5 nn8 cp16)], Res.row (Ty.int .u8) 5 A5 nn8 cp16 y18, Res.cells g25 40 [.one (.int .i64 ((gt t5 y17).1)), .one (.int .i64 ((gt t5 y17).2.1)), .one (.int .i64 ((gt t5 y17).2.2.1)), .one (.int .i64 ((gt t5 y17).2.2.2.1)), .ints .u64 ((gt t5 y17).2.2.2.2.1) 4, .ints .u64 ((gt t5 y17).2.2.2.2.2.1) 4, .sl ch5.2.2.2.2.2.2.1 ((gt t5 y17).2.2.2.2.2.2).length ch5.2.2.2.2.2.2.2 (RdS (Ty.int .u8) ch5.2.2.2.2.2.2.1 ((gt t5 y17).2.2.2.2.2.2))]]) (fun _ => rfl) N14 rfl rfl (fun ok => ok) (.cons .here (.cons .here (.cons .here .nil))) rfl (smithyref10_Price.ok (wr .u64 (wr .i64 (Int.tdiv ((y16).length : Int) 32))) t85 et85 _ _) ?_; clear S a w; intro ch39 m le1 a w S
              refine s_gT S (b := t75.2) rfl rfl c9 ?_
              refine s_bin S rfl rfl rfl rfl ?_; clear S a; intro a S
              refine s_gT S (b := t75.2) rfl rfl c9 ?_
              refine s_bin S rfl rfl rfl rfl ?_; clear S a; intro a S
              refine s_gT S (b := (!(t76.2 == t75.2))) rfl rfl c8 ?_
              refine s_pick S (b := true) (hc_of rfl c9) rfl rfl ?_; clear S a; intro a S
              refine s_pick S (b := false) (hc_of rfl c8) rfl rfl ?_; clear S a; intro a S
              refine s_move S rfl rfl ?_; clear S a; intro a S
              rcases ite_of h9 with ⟨c10, h10⟩ | ⟨c10, h10⟩ <;> clear h9
              · refine s_gF S (b := (t76.1 != (wr .u64 (t84 - t85)))) rfl rfl c10 rfl ?_; clear S a; intro a S
                refine s_gF S (b := (t76.1 != (wr .u64 (t84 - t85)))) rfl rfl c10 rfl ?_; clear S a; intro a S
                refine s_gF S (b := (t76.1 != (wr .u64 (t84 - t85)))) rfl rfl c10 rfl ?_; clear S a; intro a S
                refine s_gU S rfl rfl rfl ?_; clear S a; intro a S
                refine s_gU S rfl rfl rfl ?_; clear S a; intro a S
                refine s_gF S (b := (t76.1 != (wr .u64 (t84 - t85)))) rfl rfl c10 rfl ?_; clear S a; intro a S
                refine s_pick S (b := true) (hc_of rfl c10) rfl rfl ?_; clear S a; intro a S
                refine s_move S rfl rfl ?_; clear S a; intro a S
                refine s_gF S (b := true) rfl rfl rfl rfl ?_; clear S a; intro a S
                refine s_gF S (b := true) rfl rfl rfl rfl ?_; clear S a; intro a S
                refine s_gF S (b := true) rfl rfl rfl rfl ?_; clear S a; intro a S
                refine s_gF S (b := true) rfl rfl rfl rfl ?_; clear S a; intro a S
                refine s_gF S (b := true) rfl rfl rfl rfl ?_; clear S a; intro a S
                refine s_gF S (b := true) rfl rfl rfl rfl ?_; clear S a; intro a S
                refine s_gF S (b := true) rfl rfl rfl rfl ?_; clear S a; intro a S
                refine s_gF S (b := true) rfl rfl rfl rfl ?_; clear S a; intro a S
                refine s_pick S (b := true) (hc_of rfl rfl) rfl rfl ?_; clear S a; intro a S
                refine c_end' ?_
                refine x_thenN ?_
                exact j3 _ true g24 A5 nn8 cp16 y18 a w (S.sub ⟨rfl, rfl, rfl, rfl, rfl, rfl, rfl, rfl, trivial⟩ (.cons .here (.cons .here .nil))) h10
              · refine s_gT S (b := (t76.1 != (wr .u64 (t84 - t85)))) rfl rfl c10 ?_
                refine s_move S rfl rfl ?_; clear S a; intro a S
                refine s_gT S (b := (t76.1 != (wr .u64 (t84 - t85)))) rfl rfl c10 ?_
                refine s_not S rfl rfl ?_; clear S a; intro a S
                refine s_gT S (b := (t76.1 != (wr .u64 (t84 - t85)))) rfl rfl c10 ?_
                refine s_move S rfl rfl ?_; clear S a; intro a S
                rcases ite_of h10 with ⟨c11, h11⟩ | ⟨c11, h11⟩ <;> clear h10
                · refine s_gT S (b := (!t75.2)) rfl rfl c11 ?_
                  refine s_move S rfl rfl ?_; clear S a; intro a S
                  refine s_gT S (b := (!t75.2)) rfl rfl c11 ?_
                  refine s_bin S rfl rfl rfl rfl ?_; clear S a; intro a S
                  refine s_gT S (b := (t76.1 != (wr .u64 (t84 - t85)))) rfl rfl c10 ?_
                  refine s_pick S (b := true) (hc_of rfl c11) rfl rfl ?_; clear S a; intro a S
                  refine s_pick S (b := false) (hc_of rfl c10) rfl rfl ?_; clear S a; intro a S
                  refine s_move S rfl rfl ?_; clear S a; intro a S
                  rcases ite_of h11 with ⟨c12, h12⟩ | ⟨c12, h12⟩ <;> clear h11
                  · refine s_gF S (b := (t76.1 != 0)) rfl rfl c12 rfl ?_; clear S a; intro a S
                    refine s_gF S (b := (t76.1 != 0)) rfl rfl c12 rfl ?_; clear S a; intro a S
                    refine s_gF S (b := (t76.1 != 0)) rfl rfl c12 rfl ?_; clear S a; intro a S
                    refine s_gF S (b := (t76.1 != 0)) rfl rfl c12 rfl ?_; clear S a; intro a S
                    refine s_gF S (b := (t76.1 != 0)) rfl rfl c12 rfl ?_; clear S a; intro a S
                    refine s_gF S (b := (t76.1 != 0)) rfl rfl c12 rfl ?_; clear S a; intro a S
                    refine s_gF S (b := (t76.1 != 0)) rfl rfl c12 rfl ?_; clear S a; intro a S
                    refine s_gF S (b := (t76.1 != 0)) rfl rfl c12 rfl ?_; clear S a; intro a S
                    refine s_pick S (b := true) (hc_of rfl c12) rfl rfl ?_; clear S a; intro a S
                    refine c_end' ?_
                    refine x_thenN ?_
                    exact j3 _ true g24 A5 nn8 cp16 y18 a w (S.sub ⟨rfl, rfl, rfl, rfl, rfl, rfl, rfl, rfl, trivial⟩ (.cons .here (.cons .here .nil))) h12
                  · refine s_gT S (b := (t76.1 != 0)) rfl rfl c12 ?_
                    refine s_move S rfl rfl ?_; clear S a; intro a S
                    refine s_gT S (b := (t76.1 != 0)) rfl rfl c12 ?_
                    refine s_fieldAddr S rfl I40_4 T27 (by decide) rfl rfl ?_; clear S a; intro a S
                    refine s_gT S (b := (t76.1 != 0)) rfl rfl c12 ?_
                    refine s_loada S rfl (.there (.there .here)) T27 (s' := [.ints .u64 ((gt t5 y17).2.2.2.2.1) 4]) rfl rfl ?_; clear S a; intro a S
                    refine s_gT S (b := (t76.1 != 0)) rfl rfl c12 ?_
                    refine s_fieldAddr S rfl I40_5 T27 (by decide) rfl rfl ?_; clear S a; intro a S
                    refine s_gT S (b := (t76.1 != 0)) rfl rfl c12 ?_
                    refine s_loada S rfl (.there (.there .here)) T27 (s' := [.ints .u64 ((gt t5 y17).2.2.2.2.2.1) 4]) rfl rfl ?_; clear S a; intro a S
                    refine s_gT S (b := (t76.1 != 0)) rfl rfl c12 ?_
                    obtain ⟨t86, et86, h13⟩ := bind_of h12; clear h12
                    refine s_callX S (ds' := [(.v (.pointer (some ⟨g24, 0, none⟩))), (.agg [.ints .u64 ((gt t5 y17).2.2.2.2.1) 4]), (.agg [.ints .u64 ((gt t5 y17).2.2.2.2.2.1) 4])]) (ds := [(.v (.pointer (some ⟨g24, 0, none⟩))), (.agg [.ints .u64 ((gt t5 y17).2.2.2.2.1) 4]), (.agg [.ints .u64 ((gt t5 y17).2.2.2.2.2.1) 4])]) [Res.cells g24 72 [.one (.slice A5 nn8 cp16)], Res.row (Ty.int .u8) 5 A5 nn8 cp16 y18] [Res.cells g25 40 [.one (.int .i64 ((gt t5 y17).1)), .one (.int .i64 ((gt t5 y17).2.1)), .one (.int .i64 ((gt t5 y17).2.2.1)), .one (.int .i64 ((gt t5 y17).2.2.2.1)), .ints .u64 ((gt t5 y17).2.2.2.2.1) 4, .ints .u64 ((gt t5 y17).2.2.2.2.2.1) 4, .sl ch5.2.2.2.2.2.2.1 ((gt t5 y17).2.2.2.2.2.2).length ch5.2.2.2.2.2.2.2 (RdS (Ty.int .u8) ch5.2.2.2.2.2.2.1 ((gt t5 y17).2.2.2.2.2.2))]] (fun (ch : (Option Addr) × Nat × Nat) => ((.v (.bool t86.1)) : D)) (fun (ch : (Option Addr) × Nat × Nat) => [Res.cells g24 72 [.one (.slice ch.1 ch.2.1 ch.2.2)], Res.row (Ty.int .u8) 5 ch.1 ch.2.1 ch.2.2 t86.2]) (fun (ch : (Option Addr) × Nat × Nat) => [Res.cells g24 72 [.one (.slice ch.1 ch.2.1 ch.2.2)], Res.row (Ty.int .u8) 5 ch.1 ch.2.1 ch.2.2 t86.2, Res.cells g25 40 [.one (.int .i64 ((gt t5 y17).1)), .one (.int .i64 ((gt t5 y17).2.1)), .one (.int .i64 ((gt t5 y17).2.2.1)), .one (.int .i64 ((gt t5 y17).2.2.2.1)), .ints .u64 ((gt t5 y17).2.2.2.2.1) 4, .ints .u64 ((gt t5 y17).2.2.2.2.2.1) 4, .sl ch5.2.2.2.2.2.2.1 ((gt t5 y17).2.2.2.2.2.2).length ch5.2.2.2.2.2.2.2 (RdS (Ty.int .u8) ch5.2.2.2.2.2.2.1 ((gt t5 y17).2.2.2.2.2.2))]]) (fun _ => rfl) N16 rfl rfl (fun ok => ok) (.cons .here (.cons .here (.cons .here .nil))) rfl (mem_Memory_Reach.ok (y18) ((gt t5 y17).2.2.2.2.1) ((gt t5 y17).2.2.2.2.2.1) g24 A5 nn8 cp16 t86 et86 _ _) ?_; clear S a w; intro ch40 m le1 a w S
                    refine s_gT S (b := (t76.1 != 0)) rfl rfl c12 ?_
                    refine s_move S rfl rfl ?_; clear S a; intro a S
                    refine s_gT S (b := (t76.1 != 0)) rfl rfl c12 ?_
                    refine s_neb S rfl rfl Try.underlying4 rfl ?_; clear S a; intro a S
                    refine s_pick S (b := false) (hc_of rfl c12) rfl rfl ?_; clear S a; intro a S
                    refine c_end' ?_
                    refine x_thenN ?_
                    exact j3 _ (!(t86.1 == t75.2)) g24 ch40.1 ch40.2.1 ch40.2.2 t86.2 a w (S.sub ⟨rfl, rfl, rfl, rfl, rfl, rfl, rfl, rfl, trivial⟩ (.cons .here (.cons .here .nil))) h13
                · refine s_gF S (b := (!t75.2)) rfl rfl c11 rfl ?_; clear S a; intro a S
                  refine s_gF S (b := (!t75.2)) rfl rfl c11 rfl ?_; clear S a; intro a S
                  refine s_gT S (b := (t76.1 != (wr .u64 (t84 - t85)))) rfl rfl c10 ?_
                  refine s_pick S (b := false) (hc_of rfl c11) rfl rfl ?_; clear S a; intro a S
                  refine s_pick S (b := false) (hc_of rfl c10) rfl rfl ?_; clear S a; intro a S
                  refine s_move S rfl rfl ?_; clear S a; intro a S
                  refine s_gT S (b := false) rfl rfl rfl ?_
                  refine s_move S rfl rfl ?_; clear S a; intro a S
                  refine s_gT S (b := false) rfl rfl rfl ?_
                  refine s_fieldAddr S rfl I40_4 T27 (by decide) rfl rfl ?_; clear S a; intro a S
                  refine s_gT S (b := false) rfl rfl rfl ?_
                  refine s_loada S rfl (.there (.there .here)) T27 (s' := [.ints .u64 ((gt t5 y17).2.2.2.2.1) 4]) rfl rfl ?_; clear S a; intro a S
                  refine s_gT S (b := false) rfl rfl rfl ?_
                  refine s_fieldAddr S rfl I40_5 T27 (by decide) rfl rfl ?_; clear S a; intro a S
                  refine s_gT S (b := false) rfl rfl rfl ?_
                  refine s_loada S rfl (.there (.there .here)) T27 (s' := [.ints .u64 ((gt t5 y17).2.2.2.2.2.1) 4]) rfl rfl ?_; clear S a; intro a S
                  refine s_gT S (b := false) rfl rfl rfl ?_
                  obtain ⟨t87, et87, h12⟩ := bind_of h11; clear h11
                  refine s_callX S (ds' := [(.v (.pointer (some ⟨g24, 0, none⟩))), (.agg [.ints .u64 ((gt t5 y17).2.2.2.2.1) 4]), (.agg [.ints .u64 ((gt t5 y17).2.2.2.2.2.1) 4])]) (ds := [(.v (.pointer (some ⟨g24, 0, none⟩))), (.agg [.ints .u64 ((gt t5 y17).2.2.2.2.1) 4]), (.agg [.ints .u64 ((gt t5 y17).2.2.2.2.2.1) 4])]) [Res.cells g24 72 [.one (.slice A5 nn8 cp16)], Res.row (Ty.int .u8) 5 A5 nn8 cp16 y18] [Res.cells g25 40 [.one (.int .i64 ((gt t5 y17).1)), .one (.int .i64 ((gt t5 y17).2.1)), .one (.int .i64 ((gt t5 y17).2.2.1)), .one (.int .i64 ((gt t5 y17).2.2.2.1)), .ints .u64 ((gt t5 y17).2.2.2.2.1) 4, .ints .u64 ((gt t5 y17).2.2.2.2.2.1) 4, .sl ch5.2.2.2.2.2.2.1 ((gt t5 y17).2.2.2.2.2.2).length ch5.2.2.2.2.2.2.2 (RdS (Ty.int .u8) ch5.2.2.2.2.2.2.1 ((gt t5 y17).2.2.2.2.2.2))]] (fun (ch : (Option Addr) × Nat × Nat) => ((.v (.bool t87.1)) : D)) (fun (ch : (Option Addr) × Nat × Nat) => [Res.cells g24 72 [.one (.slice ch.1 ch.2.1 ch.2.2)], Res.row (Ty.int .u8) 5 ch.1 ch.2.1 ch.2.2 t87.2]) (fun (ch : (Option Addr) × Nat × Nat) => [Res.cells g24 72 [.one (.slice ch.1 ch.2.1 ch.2.2)], Res.row (Ty.int .u8) 5 ch.1 ch.2.1 ch.2.2 t87.2, Res.cells g25 40 [.one (.int .i64 ((gt t5 y17).1)), .one (.int .i64 ((gt t5 y17).2.1)), .one (.int .i64 ((gt t5 y17).2.2.1)), .one (.int .i64 ((gt t5 y17).2.2.2.1)), .ints .u64 ((gt t5 y17).2.2.2.2.1) 4, .ints .u64 ((gt t5 y17).2.2.2.2.2.1) 4, .sl ch5.2.2.2.2.2.2.1 ((gt t5 y17).2.2.2.2.2.2).length ch5.2.2.2.2.2.2.2 (RdS (Ty.int .u8) ch5.2.2.2.2.2.2.1 ((gt t5 y17).2.2.2.2.2.2))]]) (fun _ => rfl) N16 rfl rfl (fun ok => ok) (.cons .here (.cons .here (.cons .here .nil))) rfl (mem_Memory_Reach.ok (y18) ((gt t5 y17).2.2.2.2.1) ((gt t5 y17).2.2.2.2.2.1) g24 A5 nn8 cp16 t87 et87 _ _) ?_; clear S a w; intro ch41 m le1 a w S
                  refine s_gT S (b := false) rfl rfl rfl ?_
                  refine s_move S rfl rfl ?_; clear S a; intro a S
                  refine s_gT S (b := false) rfl rfl rfl ?_
                  refine s_neb S rfl rfl Try.underlying4 rfl ?_; clear S a; intro a S
                  refine s_pick S (b := false) (hc_of rfl rfl) rfl rfl ?_; clear S a; intro a S
                  refine c_end' ?_
                  refine x_thenN ?_
                  exact j3 _ (!(t87.1 == t75.2)) g24 ch41.1 ch41.2.1 ch41.2.2 t87.2 a w (S.sub ⟨rfl, rfl, rfl, rfl, rfl, rfl, rfl, rfl, trivial⟩ (.cons .here (.cons .here .nil))) h12
            · refine s_gF S (b := t75.2) rfl rfl c9 rfl ?_; clear S a; intro a S
              refine s_gF S (b := t75.2) rfl rfl c9 rfl ?_; clear S a; intro a S
              refine s_gF S (b := t75.2) rfl rfl c9 rfl ?_; clear S a; intro a S
              refine s_gF S (b := t75.2) rfl rfl c9 rfl ?_; clear S a; intro a S
              refine s_gF S (b := t75.2) rfl rfl c9 rfl ?_; clear S a; intro a S
              refine s_gF S (b := t75.2) rfl rfl c9 rfl ?_; clear S a; intro a S
              refine s_gF S (b := t75.2) rfl rfl c9 rfl ?_; clear S a; intro a S
              refine s_gF S (b := t75.2) rfl rfl c9 rfl ?_; clear S a; intro a S
              refine s_gF S (b := t75.2) rfl rfl c9 rfl ?_; clear S a; intro a S
              refine s_gF S (b := t75.2) rfl rfl c9 rfl ?_; clear S a; intro a S
              refine s_gF S (b := t75.2) rfl rfl c9 rfl ?_; clear S a; intro a S
              refine s_gF S (b := t75.2) rfl rfl c9 rfl ?_; clear S a; intro a S
              refine s_gT S (b := (!(t76.2 == t75.2))) rfl rfl c8 ?_
              refine s_pick S (b := false) (hc_of rfl c9) rfl rfl ?_; clear S a; intro a S
              refine s_pick S (b := false) (hc_of rfl c8) rfl rfl ?_; clear S a; intro a S
              refine s_move S rfl rfl ?_; clear S a; intro a S
              refine s_gT S (b := false) rfl rfl rfl ?_
              refine s_move S rfl rfl ?_; clear S a; intro a S
              refine s_gT S (b := false) rfl rfl rfl ?_
              refine s_not S rfl rfl ?_; clear S a; intro a S
              refine s_gT S (b := false) rfl rfl rfl ?_
              refine s_move S rfl rfl ?_; clear S a; intro a S
              rcases ite_of h7 with ⟨c13, h8⟩ | ⟨c13, h8⟩ <;> clear h7
              · refine s_gT S (b := (!t75.2)) rfl rfl c13 ?_
                refine s_move S rfl rfl ?_; clear S a; intro a S
                refine s_gT S (b := (!t75.2)) rfl rfl c13 ?_
                refine s_bin S rfl rfl rfl rfl ?_; clear S a; intro a S
                refine s_gT S (b := false) rfl rfl rfl ?_
                refine s_pick S (b := true) (hc_of rfl c13) rfl rfl ?_; clear S a; intro a S
                refine s_pick S (b := false) (hc_of rfl rfl) rfl rfl ?_; clear S a; intro a S
                refine s_move S rfl rfl ?_; clear S a; intro a S
                rcases ite_of h8 with ⟨c14, h9⟩ | ⟨c14, h9⟩ <;> clear h8
                · refine s_gF S (b := (t76.1 != 0)) rfl rfl c14 rfl ?_; clear S a; intro a S
                  refine s_gF S (b := (t76.1 != 0)) rfl rfl c14 rfl ?_; clear S a; intro a S
                  refine s_gF S (b := (t76.1 != 0)) rfl rfl c14 rfl ?_; clear S a; intro a S
                  refine s_gF S (b := (t76.1 != 0)) rfl rfl c14 rfl ?_; clear S a; intro a S
                  refine s_gF S (b := (t76.1 != 0)) rfl rfl c14 rfl ?_; clear S a; intro a S
                  refine s_gF S (b := (t76.1 != 0)) rfl rfl c14 rfl ?_; clear S a; intro a S
                  refine s_gF S (b := (t76.1 != 0)) rfl rfl c14 rfl ?_; clear S a; intro a S
                  refine s_gF S (b := (t76.1 != 0)) rfl rfl c14 rfl ?_; clear S a; intro a S
                  refine s_pick S (b := true) (hc_of rfl c14) rfl rfl ?_; clear S a; intro a S
                  refine c_end' ?_
                  refine x_thenN ?_
                  exact j3 _ true g24 A5 nn8 cp16 y18 a w (S.sub ⟨rfl, rfl, rfl, rfl, rfl, rfl, rfl, rfl, trivial⟩ (.cons .here (.cons .here .nil))) h9
                · refine s_gT S (b := (t76.1 != 0)) rfl rfl c14 ?_
                  refine s_move S rfl rfl ?_; clear S a; intro a S
                  refine s_gT S (b := (t76.1 != 0)) rfl rfl c14 ?_
                  refine s_fieldAddr S rfl I40_4 T27 (by decide) rfl rfl ?_; clear S a; intro a S
                  refine s_gT S (b := (t76.1 != 0)) rfl rfl c14 ?_
                  refine s_loada S rfl (.there (.there .here)) T27 (s' := [.ints .u64 ((gt t5 y17).2.2.2.2.1) 4]) rfl rfl ?_; clear S a; intro a S
                  refine s_gT S (b := (t76.1 != 0)) rfl rfl c14 ?_
                  refine s_fieldAddr S rfl I40_5 T27 (by decide) rfl rfl ?_; clear S a; intro a S
                  refine s_gT S (b := (t76.1 != 0)) rfl rfl c14 ?_
                  refine s_loada S rfl (.there (.there .here)) T27 (s' := [.ints .u64 ((gt t5 y17).2.2.2.2.2.1) 4]) rfl rfl ?_; clear S a; intro a S
                  refine s_gT S (b := (t76.1 != 0)) rfl rfl c14 ?_
                  obtain ⟨t88, et88, h10⟩ := bind_of h9; clear h9
                  refine s_callX S (ds' := [(.v (.pointer (some ⟨g24, 0, none⟩))), (.agg [.ints .u64 ((gt t5 y17).2.2.2.2.1) 4]), (.agg [.ints .u64 ((gt t5 y17).2.2.2.2.2.1) 4])]) (ds := [(.v (.pointer (some ⟨g24, 0, none⟩))), (.agg [.ints .u64 ((gt t5 y17).2.2.2.2.1) 4]), (.agg [.ints .u64 ((gt t5 y17).2.2.2.2.2.1) 4])]) [Res.cells g24 72 [.one (.slice A5 nn8 cp16)], Res.row (Ty.int .u8) 5 A5 nn8 cp16 y18] [Res.cells g25 40 [.one (.int .i64 ((gt t5 y17).1)), .one (.int .i64 ((gt t5 y17).2.1)), .one (.int .i64 ((gt t5 y17).2.2.1)), .one (.int .i64 ((gt t5 y17).2.2.2.1)), .ints .u64 ((gt t5 y17).2.2.2.2.1) 4, .ints .u64 ((gt t5 y17).2.2.2.2.2.1) 4, .sl ch5.2.2.2.2.2.2.1 ((gt t5 y17).2.2.2.2.2.2).length ch5.2.2.2.2.2.2.2 (RdS (Ty.int .u8) ch5.2.2.2.2.2.2.1 ((gt t5 y17).2.2.2.2.2.2))]] (fun (ch : (Option Addr) × Nat × Nat) => ((.v (.bool t88.1)) : D)) (fun (ch : (Option Addr) × Nat × Nat) => [Res.cells g24 72 [.one (.slice ch.1 ch.2.1 ch.2.2)], Res.row (Ty.int .u8) 5 ch.1 ch.2.1 ch.2.2 t88.2]) (fun (ch : (Option Addr) × Nat × Nat) => [Res.cells g24 72 [.one (.slice ch.1 ch.2.1 ch.2.2)], Res.row (Ty.int .u8) 5 ch.1 ch.2.1 ch.2.2 t88.2, Res.cells g25 40 [.one (.int .i64 ((gt t5 y17).1)), .one (.int .i64 ((gt t5 y17).2.1)), .one (.int .i64 ((gt t5 y17).2.2.1)), .one (.int .i64 ((gt t5 y17).2.2.2.1)), .ints .u64 ((gt t5 y17).2.2.2.2.1) 4, .ints .u64 ((gt t5 y17).2.2.2.2.2.1) 4, .sl ch5.2.2.2.2.2.2.1 ((gt t5 y17).2.2.2.2.2.2).length ch5.2.2.2.2.2.2.2 (RdS (Ty.int .u8) ch5.2.2.2.2.2.2.1 ((gt t5 y17).2.2.2.2.2.2))]]) (fun _ => rfl) N16 rfl rfl (fun ok => ok) (.cons .here (.cons .here (.cons .here .nil))) rfl (mem_Memory_Reach.ok (y18) ((gt t5 y17).2.2.2.2.1) ((gt t5 y17).2.2.2.2.2.1) g24 A5 nn8 cp16 t88 et88 _ _) ?_; clear S a w; intro ch42 m le1 a w S
                  refine s_gT S (b := (t76.1 != 0)) rfl rfl c14 ?_
                  refine s_move S rfl rfl ?_; clear S a; intro a S
                  refine s_gT S (b := (t76.1 != 0)) rfl rfl c14 ?_
                  refine s_neb S rfl rfl Try.underlying4 rfl ?_; clear S a; intro a S
                  refine s_pick S (b := false) (hc_of rfl c14) rfl rfl ?_; clear S a; intro a S
                  refine c_end' ?_
                  refine x_thenN ?_
                  exact j3 _ (!(t88.1 == t75.2)) g24 ch42.1 ch42.2.1 ch42.2.2 t88.2 a w (S.sub ⟨rfl, rfl, rfl, rfl, rfl, rfl, rfl, rfl, trivial⟩ (.cons .here (.cons .here .nil))) h10
              · refine s_gF S (b := (!t75.2)) rfl rfl c13 rfl ?_; clear S a; intro a S
                refine s_gF S (b := (!t75.2)) rfl rfl c13 rfl ?_; clear S a; intro a S
                refine s_gT S (b := false) rfl rfl rfl ?_
                refine s_pick S (b := false) (hc_of rfl c13) rfl rfl ?_; clear S a; intro a S
                refine s_pick S (b := false) (hc_of rfl rfl) rfl rfl ?_; clear S a; intro a S
                refine s_move S rfl rfl ?_; clear S a; intro a S
                refine s_gT S (b := false) rfl rfl rfl ?_
                refine s_move S rfl rfl ?_; clear S a; intro a S
                refine s_gT S (b := false) rfl rfl rfl ?_
                refine s_fieldAddr S rfl I40_4 T27 (by decide) rfl rfl ?_; clear S a; intro a S
                refine s_gT S (b := false) rfl rfl rfl ?_
                refine s_loada S rfl (.there (.there .here)) T27 (s' := [.ints .u64 ((gt t5 y17).2.2.2.2.1) 4]) rfl rfl ?_; clear S a; intro a S
                refine s_gT S (b := false) rfl rfl rfl ?_
                refine s_fieldAddr S rfl I40_5 T27 (by decide) rfl rfl ?_; clear S a; intro a S
                refine s_gT S (b := false) rfl rfl rfl ?_
                refine s_loada S rfl (.there (.there .here)) T27 (s' := [.ints .u64 ((gt t5 y17).2.2.2.2.2.1) 4]) rfl rfl ?_; clear S a; intro a S
                refine s_gT S (b := false) rfl rfl rfl ?_
                obtain ⟨t89, et89, h9⟩ := bind_of h8; clear h8
                refine s_callX S (ds' := [(.v (.pointer (some ⟨g24, 0, none⟩))), (.agg [.ints .u64 ((gt t5 y17).2.2.2.2.1) 4]), (.agg [.ints .u64 ((gt t5 y17).2.2.2.2.2.1) 4])]) (ds := [(.v (.pointer (some ⟨g24, 0, none⟩))), (.agg [.ints .u64 ((gt t5 y17).2.2.2.2.1) 4]), (.agg [.ints .u64 ((gt t5 y17).2.2.2.2.2.1) 4])]) [Res.cells g24 72 [.one (.slice A5 nn8 cp16)], Res.row (Ty.int .u8) 5 A5 nn8 cp16 y18] [Res.cells g25 40 [.one (.int .i64 ((gt t5 y17).1)), .one (.int .i64 ((gt t5 y17).2.1)), .one (.int .i64 ((gt t5 y17).2.2.1)), .one (.int .i64 ((gt t5 y17).2.2.2.1)), .ints .u64 ((gt t5 y17).2.2.2.2.1) 4, .ints .u64 ((gt t5 y17).2.2.2.2.2.1) 4, .sl ch5.2.2.2.2.2.2.1 ((gt t5 y17).2.2.2.2.2.2).length ch5.2.2.2.2.2.2.2 (RdS (Ty.int .u8) ch5.2.2.2.2.2.2.1 ((gt t5 y17).2.2.2.2.2.2))]] (fun (ch : (Option Addr) × Nat × Nat) => ((.v (.bool t89.1)) : D)) (fun (ch : (Option Addr) × Nat × Nat) => [Res.cells g24 72 [.one (.slice ch.1 ch.2.1 ch.2.2)], Res.row (Ty.int .u8) 5 ch.1 ch.2.1 ch.2.2 t89.2]) (fun (ch : (Option Addr) × Nat × Nat) => [Res.cells g24 72 [.one (.slice ch.1 ch.2.1 ch.2.2)], Res.row (Ty.int .u8) 5 ch.1 ch.2.1 ch.2.2 t89.2, Res.cells g25 40 [.one (.int .i64 ((gt t5 y17).1)), .one (.int .i64 ((gt t5 y17).2.1)), .one (.int .i64 ((gt t5 y17).2.2.1)), .one (.int .i64 ((gt t5 y17).2.2.2.1)), .ints .u64 ((gt t5 y17).2.2.2.2.1) 4, .ints .u64 ((gt t5 y17).2.2.2.2.2.1) 4, .sl ch5.2.2.2.2.2.2.1 ((gt t5 y17).2.2.2.2.2.2).length ch5.2.2.2.2.2.2.2 (RdS (Ty.int .u8) ch5.2.2.2.2.2.2.1 ((gt t5 y17).2.2.2.2.2.2))]]) (fun _ => rfl) N16 rfl rfl (fun ok => ok) (.cons .here (.cons .here (.cons .here .nil))) rfl (mem_Memory_Reach.ok (y18) ((gt t5 y17).2.2.2.2.1) ((gt t5 y17).2.2.2.2.2.1) g24 A5 nn8 cp16 t89 et89 _ _) ?_; clear S a w; intro ch43 m le1 a w S
                refine s_gT S (b := false) rfl rfl rfl ?_
                refine s_move S rfl rfl ?_; clear S a; intro a S
                refine s_gT S (b := false) rfl rfl rfl ?_
                refine s_neb S rfl rfl Try.underlying4 rfl ?_; clear S a; intro a S
                refine s_pick S (b := false) (hc_of rfl rfl) rfl rfl ?_; clear S a; intro a S
                refine c_end' ?_
                refine x_thenN ?_
                exact j3 _ (!(t89.1 == t75.2)) g24 ch43.1 ch43.2.1 ch43.2.2 t89.2 a w (S.sub ⟨rfl, rfl, rfl, rfl, rfl, rfl, rfl, rfl, trivial⟩ (.cons .here (.cons .here .nil))) h9
        · refine c_condF S rfl c5 ?_
          refine c_region ?_
          refine s_bin S rfl rfl rfl rfl ?_; clear S a; intro a S
          refine s_assign S rfl rfl ?_; clear S a; intro a S
          refine c_end ?_
          rcases ite_of h3 with ⟨c15, h4⟩ | ⟨c15, h4⟩ <;> clear h3
          · refine c_condT S rfl c15 ?_
            refine c_region ?_
            refine s_move S rfl rfl ?_; clear S a; intro a S
            refine s_fieldAddr S rfl I40_1 T3 (by decide) rfl rfl ?_; clear S a; intro a S
            refine s_load1 S rfl .here T3 (v := (.int .i64 ((gt t5 y17).2.1))) rfl rfl ?_; clear S a; intro a S
            refine s_fieldAddr S rfl I40_6 T38 (by decide) rfl rfl ?_; clear S a; intro a S
            refine s_loadSl S rfl .here T38 (A := ch5.2.2.2.2.2.2.1) (len := ((gt t5 y17).2.2.2.2.2.2).length) (cap := ch5.2.2.2.2.2.2.2) rfl rfl ?_; clear S a; intro a S
            obtain ⟨t90, et90, h5⟩ := bind_of h4; clear h4
            refine s_callX S (ds' := [(.v (.pointer (some ⟨g24, 0, none⟩))), (.v (.int .i64 ((gt t5 y17).2.1))), (.sl ch5.2.2.2.2.2.2.1 ((gt t5 y17).2.2.2.2.2.2).length ch5.2.2.2.2.2.2.2 (RdS (Ty.int .u8) ch5.2.2.2.2.2.2.1 ((gt t5 y17).2.2.2.2.2.2)))]) (ds := [(.v (.pointer (some ⟨g24, 0, none⟩))), (.v (.int .i64 ((gt t5 y17).2.1))), (.sl ch5.2.2.2.2.2.2.1 ((gt t5 y17).2.2.2.2.2.2).length ch5.2.2.2.2.2.2.2 (RdS (Ty.int .u8) ch5.2.2.2.2.2.2.1 ((gt t5 y17).2.2.2.2.2.2)))]) [Res.cells g24 72 [.one (.slice A5 nn8 cp16)], Res.row (Ty.int .u8) 5 A5 nn8 cp16 y18] [Res.cells g25 40 [.one (.int .i64 ((gt t5 y17).1)), .one (.int .i64 ((gt t5 y17).2.1)), .one (.int .i64 ((gt t5 y17).2.2.1)), .one (.int .i64 ((gt t5 y17).2.2.2.1)), .ints .u64 ((gt t5 y17).2.2.2.2.1) 4, .ints .u64 ((gt t5 y17).2.2.2.2.2.1) 4, .sl ch5.2.2.2.2.2.2.1 ((gt t5 y17).2.2.2.2.2.2).length ch5.2.2.2.2.2.2.2 (RdS (Ty.int .u8) ch5.2.2.2.2.2.2.1 ((gt t5 y17).2.2.2.2.2.2))]] (fun (ch : (Option Addr) × Nat × Nat) => ((.tup []) : D)) (fun (ch : (Option Addr) × Nat × Nat) => [Res.cells g24 72 [.one (.slice ch.1 ch.2.1 ch.2.2)], Res.row (Ty.int .u8) 5 ch.1 ch.2.1 ch.2.2 t90]) (fun (ch : (Option Addr) × Nat × Nat) => [Res.cells g24 72 [.one (.slice ch.1 ch.2.1 ch.2.2)], Res.row (Ty.int .u8) 5 ch.1 ch.2.1 ch.2.2 t90, Res.cells g25 40 [.one (.int .i64 ((gt t5 y17).1)), .one (.int .i64 ((gt t5 y17).2.1)), .one (.int .i64 ((gt t5 y17).2.2.1)), .one (.int .i64 ((gt t5 y17).2.2.2.1)), .ints .u64 ((gt t5 y17).2.2.2.2.1) 4, .ints .u64 ((gt t5 y17).2.2.2.2.2.1) 4, .sl ch5.2.2.2.2.2.2.1 ((gt t5 y17).2.2.2.2.2.2).length ch5.2.2.2.2.2.2.2 (RdS (Ty.int .u8) ch5.2.2.2.2.2.2.1 ((gt t5 y17).2.2.2.2.2.2))]]) (fun _ => rfl) N28 rfl rfl (fun ok => ok) (.cons (.there .here) (.cons (.there .here) (.cons .here .nil))) rfl (mem_Memory_Write.ok (y18) ((gt t5 y17).2.1) ((gt t5 y17).2.2.2.2.2.2) g24 A5 nn8 cp16 ch5.2.2.2.2.2.2.1 ch5.2.2.2.2.2.2.2 t90 et90 _ _) ?_; clear S a w; intro ch44 m le1 a w S
            refine c_end ?_
            refine c_region' ?_
            refine s_move S rfl rfl ?_; clear S a; intro a S
            refine s_fieldAddr S rfl I40_1 T3 (by decide) rfl rfl ?_; clear S a; intro a S
            refine s_load1 S rfl (.there (.there .here)) T3 (v := (.int .i64 ((gt t5 y17).2.1))) rfl rfl ?_; clear S a; intro a S
            refine s_fieldAddr S rfl I40_6 T38 (by decide) rfl rfl ?_; clear S a; intro a S
            refine s_loadSl S rfl (.there (.there .here)) T38 (A := ch5.2.2.2.2.2.2.1) (len := ((gt t5 y17).2.2.2.2.2.2).length) (cap := ch5.2.2.2.2.2.2.2) rfl rfl ?_; clear S a; intro a S
            obtain ⟨t91, et91, h6⟩ := bind_of h5; clear h5
            refine s_callX S (ds' := [(.sl A3 (y16).length cp14 (RdS (Ty.int .u8) A3 y16)), (.v (.int .i64 ((gt t5 y17).2.1))), (.sl ch5.2.2.2.2.2.2.1 ((gt t5 y17).2.2.2.2.2.2).length ch5.2.2.2.2.2.2.2 (RdS (Ty.int .u8) ch5.2.2.2.2.2.2.1 ((gt t5 y17).2.2.2.2.2.2)))]) (ds := [(.sl A3 (y16).length cp14 (RdS (Ty.int .u8) A3 y16)), (.v (.int .i64 ((gt t5 y17).2.1))), (.sl ch5.2.2.2.2.2.2.1 ((gt t5 y17).2.2.2.2.2.2).length ch5.2.2.2.2.2.2.2 (RdS (Ty.int .u8) ch5.2.2.2.2.2.2.1 ((gt t5 y17).2.2.2.2.2.2)))]) [] [Res.cells g24 72 [.one (.slice ch44.1 ch44.2.1 ch44.2.2)], Res.row (Ty.int .u8) 5 ch44.1 ch44.2.1 ch44.2.2 t90, Res.cells g25 40 [.one (.int .i64 ((gt t5 y17).1)), .one (.int .i64 ((gt t5 y17).2.1)), .one (.int .i64 ((gt t5 y17).2.2.1)), .one (.int .i64 ((gt t5 y17).2.2.2.1)), .ints .u64 ((gt t5 y17).2.2.2.2.1) 4, .ints .u64 ((gt t5 y17).2.2.2.2.2.1) 4, .sl ch5.2.2.2.2.2.2.1 ((gt t5 y17).2.2.2.2.2.2).length ch5.2.2.2.2.2.2.2 (RdS (Ty.int .u8) ch5.2.2.2.2.2.2.1 ((gt t5 y17).2.2.2.2.2.2))]] (fun (ch : (Option Addr) × Nat × Nat) => ((.v (.slice ch.1 ch.2.1 ch.2.2)) : D)) (fun (ch : (Option Addr) × Nat × Nat) => [Res.row (Ty.int .u8) 5 ch.1 ch.2.1 ch.2.2 t91]) (fun (ch : (Option Addr) × Nat × Nat) => [Res.row (Ty.int .u8) 5 ch.1 ch.2.1 ch.2.2 t91, Res.cells g24 72 [.one (.slice ch44.1 ch44.2.1 ch44.2.2)], Res.row (Ty.int .u8) 5 ch44.1 ch44.2.1 ch44.2.2 t90, Res.cells g25 40 [.one (.int .i64 ((gt t5 y17).1)), .one (.int .i64 ((gt t5 y17).2.1)), .one (.int .i64 ((gt t5 y17).2.2.1)), .one (.int .i64 ((gt t5 y17).2.2.2.1)), .ints .u64 ((gt t5 y17).2.2.2.2.1) 4, .ints .u64 ((gt t5 y17).2.2.2.2.2.1) 4, .sl ch5.2.2.2.2.2.2.1 ((gt t5 y17).2.2.2.2.2.2).length ch5.2.2.2.2.2.2.2 (RdS (Ty.int .u8) ch5.2.2.2.2.2.2.1 ((gt t5 y17).2.2.2.2.2.2))]]) (fun _ => rfl) N29 rfl rfl (fun ok => ok) (.cons .here (.cons .here (.cons .here .nil))) rfl (smithyref10_Write.ok k y16 ((gt t5 y17).2.1) ((gt t5 y17).2.2.2.2.2.2) A3 cp14 ch5.2.2.2.2.2.2.1 ch5.2.2.2.2.2.2.2 t91 et91 _ _) ?_; clear S a w; intro ch45 m le1 a w S
            refine s_assign S rfl rfl ?_; clear S a; intro a S
            refine c_end' ?_
            refine x_blockN ?_
            refine x_thenN ?_
            replace S := S.rowfro .here
            obtain ⟨m, le1, S, hro⟩ := S
            replace S := S.slotro (u := 4) rfl hro
            replace S := S.slotro (u := 130) rfl hro
            exact j2 _ ch45.1 ch45.2.2 t91 g24 ch44.1 ch44.2.1 ch44.2.2 t90 a w (S.sub ⟨rfl, rfl, rfl, rfl, rfl, trivial⟩ (.cons .here (.cons .here .nil))) h6
          · refine c_condF S rfl c15 ?_
            refine c_region ?_
            refine s_bin S rfl rfl rfl rfl ?_; clear S a; intro a S
            refine s_assign S rfl rfl ?_; clear S a; intro a S
            refine c_end ?_
            rcases ite_of h4 with ⟨c16, h5⟩ | ⟨c16, h5⟩ <;> clear h4
            · refine c_condT S rfl c16 ?_
              refine c_region ?_
              refine s_move S rfl rfl ?_; clear S a; intro a S
              refine s_fieldAddr S rfl I40_1 T3 (by decide) rfl rfl ?_; clear S a; intro a S
              refine s_load1 S rfl .here T3 (v := (.int .i64 ((gt t5 y17).2.1))) rfl rfl ?_; clear S a; intro a S
              refine s_fieldAddr S rfl I40_2 T3 (by decide) rfl rfl ?_; clear S a; intro a S
              refine s_load1 S rfl .here T3 (v := (.int .i64 ((gt t5 y17).2.2.1))) rfl rfl ?_; clear S a; intro a S
              refine s_fieldAddr S rfl I40_3 T3 (by decide) rfl rfl ?_; clear S a; intro a S
              refine s_load1 S rfl .here T3 (v := (.int .i64 ((gt t5 y17).2.2.2.1))) rfl rfl ?_; clear S a; intro a S
              obtain ⟨t92, et92, h6⟩ := bind_of h5; clear h5
              refine s_callX S (ds' := [(.v (.pointer (some ⟨g24, 0, none⟩))), (.v (.int .i64 ((gt t5 y17).2.1))), (.v (.int .i64 ((gt t5 y17).2.2.1))), (.v (.int .i64 ((gt t5 y17).2.2.2.1)))]) (ds := [(.v (.pointer (some ⟨g24, 0, none⟩))), (.v (.int .i64 ((gt t5 y17).2.1))), (.v (.int .i64 ((gt t5 y17).2.2.1))), (.v (.int .i64 ((gt t5 y17).2.2.2.1)))]) [Res.cells g24 72 [.one (.slice A5 nn8 cp16)], Res.row (Ty.int .u8) 5 A5 nn8 cp16 y18] [Res.cells g25 40 [.one (.int .i64 ((gt t5 y17).1)), .one (.int .i64 ((gt t5 y17).2.1)), .one (.int .i64 ((gt t5 y17).2.2.1)), .one (.int .i64 ((gt t5 y17).2.2.2.1)), .ints .u64 ((gt t5 y17).2.2.2.2.1) 4, .ints .u64 ((gt t5 y17).2.2.2.2.2.1) 4, .sl ch5.2.2.2.2.2.2.1 ((gt t5 y17).2.2.2.2.2.2).length ch5.2.2.2.2.2.2.2 (RdS (Ty.int .u8) ch5.2.2.2.2.2.2.1 ((gt t5 y17).2.2.2.2.2.2))]] (fun (ch : (Option Addr) × Nat × Nat) => ((.tup []) : D)) (fun (ch : (Option Addr) × Nat × Nat) => [Res.cells g24 72 [.one (.slice ch.1 ch.2.1 ch.2.2)], Res.row (Ty.int .u8) 5 ch.1 ch.2.1 ch.2.2 t92]) (fun (ch : (Option Addr) × Nat × Nat) => [Res.cells g24 72 [.one (.slice ch.1 ch.2.1 ch.2.2)], Res.row (Ty.int .u8) 5 ch.1 ch.2.1 ch.2.2 t92, Res.cells g25 40 [.one (.int .i64 ((gt t5 y17).1)), .one (.int .i64 ((gt t5 y17).2.1)), .one (.int .i64 ((gt t5 y17).2.2.1)), .one (.int .i64 ((gt t5 y17).2.2.2.1)), .ints .u64 ((gt t5 y17).2.2.2.2.1) 4, .ints .u64 ((gt t5 y17).2.2.2.2.2.1) 4, .sl ch5.2.2.2.2.2.2.1 ((gt t5 y17).2.2.2.2.2.2).length ch5.2.2.2.2.2.2.2 (RdS (Ty.int .u8) ch5.2.2.2.2.2.2.1 ((gt t5 y17).2.2.2.2.2.2))]]) (fun _ => rfl) N30 rfl rfl (fun ok => ok) (.cons (.there .here) (.cons (.there .here) (.cons .here .nil))) rfl (mem_Memory_Copy.ok (y18) ((gt t5 y17).2.1) ((gt t5 y17).2.2.1) ((gt t5 y17).2.2.2.1) g24 A5 nn8 cp16 t92 et92 _ _) ?_; clear S a w; intro ch46 m le1 a w S
              refine c_end ?_
              refine c_heldS S (.take 1 (.take 2 (.take 4 (.take 5 (.take 6 (.take 7 (.alts (.run 0 true (.alts (.run 3 true (.alts (.run 8 true (.alts (.run 9 true (.take 10 .done) .nil)) .nil)) .nil)) (.run 3 true (.alts (.run 0 true (.alts (.run 8 true (.alts (.run 9 true (.take 10 .done) .nil)) .nil)) (.run 8 true (.alts (.run 0 true (.alts (.run 9 true (.take 10 .done) .nil)) .nil)) .nil))) .nil))))))))) 11 [Res.cells g24 72 [.one (.slice ch46.1 ch46.2.1 ch46.2.2)], Res.row (Ty.int .u8) 5 ch46.1 ch46.2.1 ch46.2.2 t92, Res.cells g25 40 [.one (.int .i64 ((gt t5 y17).1)), .one (.int .i64 ((gt t5 y17).2.1)), .one (.int .i64 ((gt t5 y17).2.2.1)), .one (.int .i64 ((gt t5 y17).2.2.2.1)), .ints .u64 ((gt t5 y17).2.2.2.2.1) 4, .ints .u64 ((gt t5 y17).2.2.2.2.2.1) 4, .sl ch5.2.2.2.2.2.2.1 ((gt t5 y17).2.2.2.2.2.2).length ch5.2.2.2.2.2.2.2 (RdS (Ty.int .u8) ch5.2.2.2.2.2.2.1 ((gt t5 y17).2.2.2.2.2.2))]] (.cons .here (.cons .here (.cons .here .nil))) ⟨Res.stay_cells, Res.stay_row flat_int, Res.stay_cells, trivial⟩ [(6, (.v (.pointer (some ⟨g25, 0, none⟩))))] ⟨rfl, trivial⟩ (by kernel_rfl) (by kernel_rfl) ?_; clear S; intro w S CL hw le
              refine h_fieldAddr S CL hw le ⟨rfl, trivial⟩ rfl I40_1 T3 (by decide) rfl rfl rfl trivial ?_; clear S CL a; intro a S CL
              refine h_load1 S CL hw le ⟨rfl, rfl, trivial⟩ rfl (.there (.there .here)) T3 (v := (.int .i64 ((gt t5 y17).2.1))) rfl rfl rfl trivial ?_; clear S CL a; intro a S CL
              refine h_fieldAddr S CL hw le ⟨rfl, rfl, rfl, trivial⟩ rfl I40_2 T3 (by decide) rfl rfl rfl trivial ?_; clear S CL a; intro a S CL
              refine h_load1 S CL hw le ⟨rfl, rfl, rfl, rfl, trivial⟩ rfl (.there (.there .here)) T3 (v := (.int .i64 ((gt t5 y17).2.2.1))) rfl rfl rfl trivial ?_; clear S CL a; intro a S CL
              refine h_fieldAddr S CL hw le ⟨rfl, rfl, rfl, rfl, rfl, trivial⟩ rfl I40_3 T3 (by decide) rfl rfl rfl trivial ?_; clear S CL a; intro a S CL
              refine h_load1 S CL hw le ⟨rfl, rfl, rfl, rfl, rfl, rfl, trivial⟩ rfl (.there (.there .here)) T3 (v := (.int .i64 ((gt t5 y17).2.2.2.1))) rfl rfl rfl trivial ?_; clear S CL a; intro a S CL
              obtain ⟨t93, et93, h7⟩ := bind_of h6; clear h6
              obtain ⟨t94, et94, h8⟩ := bind_of h7; clear h7
              refine h_alts ?_
              refine h_runO S rfl trivial ?_ ?_
              · refine s_move S rfl rfl ?_; clear S a; intro a S
                replace hw := CL.again hw S (.cons .here (.cons .here (.cons .here .nil))) le
                refine h_back ⟨fun _ => hw, ?_⟩
                refine h_run' S rfl trivial ?_
                refine s_move S rfl rfl ?_; clear S a; intro a S
                replace hw := CL.again hw S (.cons .here (.cons .here (.cons .here .nil))) le
                refine h_back ⟨fun _ => hw, ?_⟩
                refine h_run' S rfl trivial ?_
                refine s_callX S (ds' := [(.sl A3 (y16).length cp14 (RdS (Ty.int .u8) A3 y16)), (.v (.int .i64 ((gt t5 y17).2.2.1))), (.v (.int .i64 ((gt t5 y17).2.2.2.1)))]) (ds := [(.sl A3 (y16).length cp14 (RdS (Ty.int .u8) A3 y16)), (.v (.int .i64 ((gt t5 y17).2.2.1))), (.v (.int .i64 ((gt t5 y17).2.2.2.1)))]) [] [Res.cells g24 72 [.one (.slice ch46.1 ch46.2.1 ch46.2.2)], Res.row (Ty.int .u8) 5 ch46.1 ch46.2.1 ch46.2.2 t92, Res.cells g25 40 [.one (.int .i64 ((gt t5 y17).1)), .one (.int .i64 ((gt t5 y17).2.1)), .one (.int .i64 ((gt t5 y17).2.2.1)), .one (.int .i64 ((gt t5 y17).2.2.2.1)), .ints .u64 ((gt t5 y17).2.2.2.2.1) 4, .ints .u64 ((gt t5 y17).2.2.2.2.2.1) 4, .sl ch5.2.2.2.2.2.2.1 ((gt t5 y17).2.2.2.2.2.2).length ch5.2.2.2.2.2.2.2 (RdS (Ty.int .u8) ch5.2.2.2.2.2.2.1 ((gt t5 y17).2.2.2.2.2.2))]] (fun (ch : (Option Addr) × Nat × Nat) => ((.v (.slice ch.1 ch.2.1 ch.2.2)) : D)) (fun (ch : (Option Addr) × Nat × Nat) => [Res.row (Ty.int .u8) 5 ch.1 ch.2.1 ch.2.2 t93]) (fun (ch : (Option Addr) × Nat × Nat) => [Res.row (Ty.int .u8) 5 ch.1 ch.2.1 ch.2.2 t93, Res.cells g24 72 [.one (.slice ch46.1 ch46.2.1 ch46.2.2)], Res.row (Ty.int .u8) 5 ch46.1 ch46.2.1 ch46.2.2 t92, Res.cells g25 40 [.one (.int .i64 ((gt t5 y17).1)), .one (.int .i64 ((gt t5 y17).2.1)), .one (.int .i64 ((gt t5 y17).2.2.1)), .one (.int .i64 ((gt t5 y17).2.2.2.1)), .ints .u64 ((gt t5 y17).2.2.2.2.1) 4, .ints .u64 ((gt t5 y17).2.2.2.2.2.1) 4, .sl ch5.2.2.2.2.2.2.1 ((gt t5 y17).2.2.2.2.2.2).length ch5.2.2.2.2.2.2.2 (RdS (Ty.int .u8) ch5.2.2.2.2.2.2.1 ((gt t5 y17).2.2.2.2.2.2))]]) (fun _ => rfl) N31 rfl rfl (fun ok => ok) (.cons .here (.cons .here (.cons .here .nil))) rfl (smithyref10_Read.ok k y16 ((gt t5 y17).2.2.1) ((gt t5 y17).2.2.2.1) A3 cp14 t93 et93 _ _) ?_; clear S a; intro ch47 m le1 a w S
                replace le := le.trans le1
                replace hw := CL.again hw S (.cons (.there .here) (.cons (.there .here) (.cons (.there .here) .nil))) le
                refine h_back ⟨fun _ => hw, ?_⟩
                refine h_run' S rfl trivial ?_
                replace S := S.rowfro .here
                obtain ⟨m, le1, S, hro⟩ := S
                replace le := le.trans le1
                replace S := S.slotro (u := 149) rfl hro
                refine s_callX S (ds' := [(.sl A3 (y16).length cp14 (RdS (Ty.int .u8) A3 y16)), (.v (.int .i64 ((gt t5 y17).2.1))), (.sl ch47.1 (t93).length ch47.2.2 (RdS (Ty.int .u8) ch47.1 t93))]) (ds := [(.sl A3 (y16).length cp14 (RdS (Ty.int .u8) A3 y16)), (.v (.int .i64 ((gt t5 y17).2.1))), (.sl ch47.1 (t93).length ch47.2.2 (RdS (Ty.int .u8) ch47.1 t93))]) [] [Res.cells g24 72 [.one (.slice ch46.1 ch46.2.1 ch46.2.2)], Res.row (Ty.int .u8) 5 ch46.1 ch46.2.1 ch46.2.2 t92, Res.cells g25 40 [.one (.int .i64 ((gt t5 y17).1)), .one (.int .i64 ((gt t5 y17).2.1)), .one (.int .i64 ((gt t5 y17).2.2.1)), .one (.int .i64 ((gt t5 y17).2.2.2.1)), .ints .u64 ((gt t5 y17).2.2.2.2.1) 4, .ints .u64 ((gt t5 y17).2.2.2.2.2.1) 4, .sl ch5.2.2.2.2.2.2.1 ((gt t5 y17).2.2.2.2.2.2).length ch5.2.2.2.2.2.2.2 (RdS (Ty.int .u8) ch5.2.2.2.2.2.2.1 ((gt t5 y17).2.2.2.2.2.2))]] (fun (ch : (Option Addr) × Nat × Nat) => ((.v (.slice ch.1 ch.2.1 ch.2.2)) : D)) (fun (ch : (Option Addr) × Nat × Nat) => [Res.row (Ty.int .u8) 5 ch.1 ch.2.1 ch.2.2 t94]) (fun (ch : (Option Addr) × Nat × Nat) => [Res.row (Ty.int .u8) 5 ch.1 ch.2.1 ch.2.2 t94, Res.cells g24 72 [.one (.slice ch46.1 ch46.2.1 ch46.2.2)], Res.row (Ty.int .u8) 5 ch46.1 ch46.2.1 ch46.2.2 t92, Res.cells g25 40 [.one (.int .i64 ((gt t5 y17).1)), .one (.int .i64 ((gt t5 y17).2.1)), .one (.int .i64 ((gt t5 y17).2.2.1)), .one (.int .i64 ((gt t5 y17).2.2.2.1)), .ints .u64 ((gt t5 y17).2.2.2.2.1) 4, .ints .u64 ((gt t5 y17).2.2.2.2.2.1) 4, .sl ch5.2.2.2.2.2.2.1 ((gt t5 y17).2.2.2.2.2.2).length ch5.2.2.2.2.2.2.2 (RdS (Ty.int .u8) ch5.2.2.2.2.2.2.1 ((gt t5 y17).2.2.2.2.2.2))]]) (fun _ => rfl) N29 rfl rfl (fun ok => ok) (.cons .here (.cons .here (.cons .here .nil))) rfl (smithyref10_Write.ok k y16 ((gt t5 y17).2.1) t93 A3 cp14 ch47.1 ch47.2.2 t94 et94 _ _) ?_; clear S a; intro ch48 m le1 a w S
                replace le := le.trans le1
                replace hw := CL.again hw S (.cons (.there .here) (.cons (.there .here) (.cons (.there .here) .nil))) le
                refine h_back ⟨fun _ => hw, ?_⟩
                replace CL := CL.add (t := 150) (d := (.v (.slice ch48.1 ch48.2.1 ch48.2.2))) S rfl rfl
                refine h_assign S CL hw le ⟨rfl, rfl, rfl, rfl, rfl, rfl, rfl, rfl, trivial⟩ rfl rfl rfl trivial ?_; clear S CL a; intro a S CL
                refine h_done ?_; clear CL hw le
                refine x_blockN ?_
                refine x_thenN ?_
                replace S := S.rowfro .here
                obtain ⟨m, le1, S, hro⟩ := S
                replace S := S.slotro (u := 4) rfl hro
                replace S := S.slotro (u := 150) rfl hro
                exact j2 _ ch48.1 ch48.2.2 t94 g24 ch46.1 ch46.2.1 ch46.2.2 t92 a w (S.sub ⟨rfl, rfl, rfl, rfl, rfl, trivial⟩ (.cons .here (.cons .here .nil))) h8
              refine h_runO S rfl trivial ?_ ?_
              · refine s_move S rfl rfl ?_; clear S a; intro a S
                replace hw := CL.again hw S (.cons .here (.cons .here (.cons .here .nil))) le
                refine h_back ⟨fun _ => hw, ?_⟩
                refine h_alts ?_
                refine h_runO S rfl trivial ?_ ?_
                · refine s_move S rfl rfl ?_; clear S a; intro a S
                  replace hw := CL.again hw S (.cons .here (.cons .here (.cons .here .nil))) le
                  refine h_back ⟨fun _ => hw, ?_⟩
                  refine h_run' S rfl trivial ?_
                  refine s_callX S (ds' := [(.sl A3 (y16).length cp14 (RdS (Ty.int .u8) A3 y16)), (.v (.int .i64 ((gt t5 y17).2.2.1))), (.v (.int .i64 ((gt t5 y17).2.2.2.1)))]) (ds := [(.sl A3 (y16).length cp14 (RdS (Ty.int .u8) A3 y16)), (.v (.int .i64 ((gt t5 y17).2.2.1))), (.v (.int .i64 ((gt t5 y17).2.2.2.1)))]) [] [Res.cells g24 72 [.one (.slice ch46.1 ch46.2.1 ch46.2.2)], Res.row (Ty.int .u8) 5 ch46.1 ch46.2.1 ch46.2.2 t92, Res.cells g25 40 [.one (.int .i64 ((gt t5 y17).1)), .one (.int .i64 ((gt t5 y17).2.1)), .one (.int .i64 ((gt t5 y17).2.2.1)), .one (.int .i64 ((gt t5 y17).2.2.2.1)), .ints .u64 ((gt t5 y17).2.2.2.2.1) 4, .ints .u64 ((gt t5 y17).2.2.2.2.2.1) 4, .sl ch5.2.2.2.2.2.2.1 ((gt t5 y17).2.2.2.2.2.2).length ch5.2.2.2.2.2.2.2 (RdS (Ty.int .u8) ch5.2.2.2.2.2.2.1 ((gt t5 y17).2.2.2.2.2.2))]] (fun (ch : (Option Addr) × Nat × Nat) => ((.v (.slice ch.1 ch.2.1 ch.2.2)) : D)) (fun (ch : (Option Addr) × Nat × Nat) => [Res.row (Ty.int .u8) 5 ch.1 ch.2.1 ch.2.2 t93]) (fun (ch : (Option Addr) × Nat × Nat) => [Res.row (Ty.int .u8) 5 ch.1 ch.2.1 ch.2.2 t93, Res.cells g24 72 [.one (.slice ch46.1 ch46.2.1 ch46.2.2)], Res.row (Ty.int .u8) 5 ch46.1 ch46.2.1 ch46.2.2 t92, Res.cells g25 40 [.one (.int .i64 ((gt t5 y17).1)), .one (.int .i64 ((gt t5 y17).2.1)), .one (.int .i64 ((gt t5 y17).2.2.1)), .one (.int .i64 ((gt t5 y17).2.2.2.1)), .ints .u64 ((gt t5 y17).2.2.2.2.1) 4, .ints .u64 ((gt t5 y17).2.2.2.2.2.1) 4, .sl ch5.2.2.2.2.2.2.1 ((gt t5 y17).2.2.2.2.2.2).length ch5.2.2.2.2.2.2.2 (RdS (Ty.int .u8) ch5.2.2.2.2.2.2.1 ((gt t5 y17).2.2.2.2.2.2))]]) (fun _ => rfl) N31 rfl rfl (fun ok => ok) (.cons .here (.cons .here (.cons .here .nil))) rfl (smithyref10_Read.ok k y16 ((gt t5 y17).2.2.1) ((gt t5 y17).2.2.2.1) A3 cp14 t93 et93 _ _) ?_; clear S a; intro ch47 m le1 a w S
                  replace le := le.trans le1
                  replace hw := CL.again hw S (.cons (.there .here) (.cons (.there .here) (.cons (.there .here) .nil))) le
                  refine h_back ⟨fun _ => hw, ?_⟩
                  refine h_run' S rfl trivial ?_
                  replace S := S.rowfro .here
                  obtain ⟨m, le1, S, hro⟩ := S
                  replace le := le.trans le1
                  replace S := S.slotro (u := 149) rfl hro
                  refine s_callX S (ds' := [(.sl A3 (y16).length cp14 (RdS (Ty.int .u8) A3 y16)), (.v (.int .i64 ((gt t5 y17).2.1))), (.sl ch47.1 (t93).length ch47.2.2 (RdS (Ty.int .u8) ch47.1 t93))]) (ds := [(.sl A3 (y16).length cp14 (RdS (Ty.int .u8) A3 y16)), (.v (.int .i64 ((gt t5 y17).2.1))), (.sl ch47.1 (t93).length ch47.2.2 (RdS (Ty.int .u8) ch47.1 t93))]) [] [Res.cells g24 72 [.one (.slice ch46.1 ch46.2.1 ch46.2.2)], Res.row (Ty.int .u8) 5 ch46.1 ch46.2.1 ch46.2.2 t92, Res.cells g25 40 [.one (.int .i64 ((gt t5 y17).1)), .one (.int .i64 ((gt t5 y17).2.1)), .one (.int .i64 ((gt t5 y17).2.2.1)), .one (.int .i64 ((gt t5 y17).2.2.2.1)), .ints .u64 ((gt t5 y17).2.2.2.2.1) 4, .ints .u64 ((gt t5 y17).2.2.2.2.2.1) 4, .sl ch5.2.2.2.2.2.2.1 ((gt t5 y17).2.2.2.2.2.2).length ch5.2.2.2.2.2.2.2 (RdS (Ty.int .u8) ch5.2.2.2.2.2.2.1 ((gt t5 y17).2.2.2.2.2.2))]] (fun (ch : (Option Addr) × Nat × Nat) => ((.v (.slice ch.1 ch.2.1 ch.2.2)) : D)) (fun (ch : (Option Addr) × Nat × Nat) => [Res.row (Ty.int .u8) 5 ch.1 ch.2.1 ch.2.2 t94]) (fun (ch : (Option Addr) × Nat × Nat) => [Res.row (Ty.int .u8) 5 ch.1 ch.2.1 ch.2.2 t94, Res.cells g24 72 [.one (.slice ch46.1 ch46.2.1 ch46.2.2)], Res.row (Ty.int .u8) 5 ch46.1 ch46.2.1 ch46.2.2 t92, Res.cells g25 40 [.one (.int .i64 ((gt t5 y17).1)), .one (.int .i64 ((gt t5 y17).2.1)), .one (.int .i64 ((gt t5 y17).2.2.1)), .one (.int .i64 ((gt t5 y17).2.2.2.1)), .ints .u64 ((gt t5 y17).2.2.2.2.1) 4, .ints .u64 ((gt t5 y17).2.2.2.2.2.1) 4, .sl ch5.2.2.2.2.2.2.1 ((gt t5 y17).2.2.2.2.2.2).length ch5.2.2.2.2.2.2.2 (RdS (Ty.int .u8) ch5.2.2.2.2.2.2.1 ((gt t5 y17).2.2.2.2.2.2))]]) (fun _ => rfl) N29 rfl rfl (fun ok => ok) (.cons .here (.cons .here (.cons .here .nil))) rfl (smithyref10_Write.ok k y16 ((gt t5 y17).2.1) t93 A3 cp14 ch47.1 ch47.2.2 t94 et94 _ _) ?_; clear S a; intro ch48 m le1 a w S
                  replace le := le.trans le1
                  replace hw := CL.again hw S (.cons (.there .here) (.cons (.there .here) (.cons (.there .here) .nil))) le
                  refine h_back ⟨fun _ => hw, ?_⟩
                  replace CL := CL.add (t := 150) (d := (.v (.slice ch48.1 ch48.2.1 ch48.2.2))) S rfl rfl
                  refine h_assign S CL hw le ⟨rfl, rfl, rfl, rfl, rfl, rfl, rfl, rfl, trivial⟩ rfl rfl rfl trivial ?_; clear S CL a; intro a S CL
                  refine h_done ?_; clear CL hw le
                  refine x_blockN ?_
                  refine x_thenN ?_
                  replace S := S.rowfro .here
                  obtain ⟨m, le1, S, hro⟩ := S
                  replace S := S.slotro (u := 4) rfl hro
                  replace S := S.slotro (u := 150) rfl hro
                  exact j2 _ ch48.1 ch48.2.2 t94 g24 ch46.1 ch46.2.1 ch46.2.2 t92 a w (S.sub ⟨rfl, rfl, rfl, rfl, rfl, trivial⟩ (.cons .here (.cons .here .nil))) h8
                refine h_runO S rfl trivial ?_ ?_
                · refine s_callX S (ds' := [(.sl A3 (y16).length cp14 (RdS (Ty.int .u8) A3 y16)), (.v (.int .i64 ((gt t5 y17).2.2.1))), (.v (.int .i64 ((gt t5 y17).2.2.2.1)))]) (ds := [(.sl A3 (y16).length cp14 (RdS (Ty.int .u8) A3 y16)), (.v (.int .i64 ((gt t5 y17).2.2.1))), (.v (.int .i64 ((gt t5 y17).2.2.2.1)))]) [] [Res.cells g24 72 [.one (.slice ch46.1 ch46.2.1 ch46.2.2)], Res.row (Ty.int .u8) 5 ch46.1 ch46.2.1 ch46.2.2 t92, Res.cells g25 40 [.one (.int .i64 ((gt t5 y17).1)), .one (.int .i64 ((gt t5 y17).2.1)), .one (.int .i64 ((gt t5 y17).2.2.1)), .one (.int .i64 ((gt t5 y17).2.2.2.1)), .ints .u64 ((gt t5 y17).2.2.2.2.1) 4, .ints .u64 ((gt t5 y17).2.2.2.2.2.1) 4, .sl ch5.2.2.2.2.2.2.1 ((gt t5 y17).2.2.2.2.2.2).length ch5.2.2.2.2.2.2.2 (RdS (Ty.int .u8) ch5.2.2.2.2.2.2.1 ((gt t5 y17).2.2.2.2.2.2))]] (fun (ch : (Option Addr) × Nat × Nat) => ((.v (.slice ch.1 ch.2.1 ch.2.2)) : D)) (fun (ch : (Option Addr) × Nat × Nat) => [Res.row (Ty.int .u8) 5 ch.1 ch.2.1 ch.2.2 t93]) (fun (ch : (Option Addr) × Nat × Nat) => [Res.row (Ty.int .u8) 5 ch.1 ch.2.1 ch.2.2 t93, Res.cells g24 72 [.one (.slice ch46.1 ch46.2.1 ch46.2.2)], Res.row (Ty.int .u8) 5 ch46.1 ch46.2.1 ch46.2.2 t92, Res.cells g25 40 [.one (.int .i64 ((gt t5 y17).1)), .one (.int .i64 ((gt t5 y17).2.1)), .one (.int .i64 ((gt t5 y17).2.2.1)), .one (.int .i64 ((gt t5 y17).2.2.2.1)), .ints .u64 ((gt t5 y17).2.2.2.2.1) 4, .ints .u64 ((gt t5 y17).2.2.2.2.2.1) 4, .sl ch5.2.2.2.2.2.2.1 ((gt t5 y17).2.2.2.2.2.2).length ch5.2.2.2.2.2.2.2 (RdS (Ty.int .u8) ch5.2.2.2.2.2.2.1 ((gt t5 y17).2.2.2.2.2.2))]]) (fun _ => rfl) N31 rfl rfl (fun ok => ok) (.cons .here (.cons .here (.cons .here .nil))) rfl (smithyref10_Read.ok k y16 ((gt t5 y17).2.2.1) ((gt t5 y17).2.2.2.1) A3 cp14 t93 et93 _ _) ?_; clear S a; intro ch47 m le1 a w S
                  replace le := le.trans le1
                  replace hw := CL.again hw S (.cons (.there .here) (.cons (.there .here) (.cons (.there .here) .nil))) le
                  refine h_back ⟨fun _ => hw, ?_⟩
                  refine h_run' S rfl trivial ?_
                  refine s_move S rfl rfl ?_; clear S a; intro a S
                  replace hw := CL.again hw S (.cons (.there .here) (.cons (.there .here) (.cons (.there .here) .nil))) le
                  refine h_back ⟨fun _ => hw, ?_⟩
                  refine h_run' S rfl trivial ?_
                  replace S := S.rowfro .here
                  obtain ⟨m, le1, S, hro⟩ := S
                  replace le := le.trans le1
                  replace S := S.slotro (u := 149) rfl hro
                  refine s_callX S (ds' := [(.sl A3 (y16).length cp14 (RdS (Ty.int .u8) A3 y16)), (.v (.int .i64 ((gt t5 y17).2.1))), (.sl ch47.1 (t93).length ch47.2.2 (RdS (Ty.int .u8) ch47.1 t93))]) (ds := [(.sl A3 (y16).length cp14 (RdS (Ty.int .u8) A3 y16)), (.v (.int .i64 ((gt t5 y17).2.1))), (.sl ch47.1 (t93).length ch47.2.2 (RdS (Ty.int .u8) ch47.1 t93))]) [] [Res.cells g24 72 [.one (.slice ch46.1 ch46.2.1 ch46.2.2)], Res.row (Ty.int .u8) 5 ch46.1 ch46.2.1 ch46.2.2 t92, Res.cells g25 40 [.one (.int .i64 ((gt t5 y17).1)), .one (.int .i64 ((gt t5 y17).2.1)), .one (.int .i64 ((gt t5 y17).2.2.1)), .one (.int .i64 ((gt t5 y17).2.2.2.1)), .ints .u64 ((gt t5 y17).2.2.2.2.1) 4, .ints .u64 ((gt t5 y17).2.2.2.2.2.1) 4, .sl ch5.2.2.2.2.2.2.1 ((gt t5 y17).2.2.2.2.2.2).length ch5.2.2.2.2.2.2.2 (RdS (Ty.int .u8) ch5.2.2.2.2.2.2.1 ((gt t5 y17).2.2.2.2.2.2))]] (fun (ch : (Option Addr) × Nat × Nat) => ((.v (.slice ch.1 ch.2.1 ch.2.2)) : D)) (fun (ch : (Option Addr) × Nat × Nat) => [Res.row (Ty.int .u8) 5 ch.1 ch.2.1 ch.2.2 t94]) (fun (ch : (Option Addr) × Nat × Nat) => [Res.row (Ty.int .u8) 5 ch.1 ch.2.1 ch.2.2 t94, Res.cells g24 72 [.one (.slice ch46.1 ch46.2.1 ch46.2.2)], Res.row (Ty.int .u8) 5 ch46.1 ch46.2.1 ch46.2.2 t92, Res.cells g25 40 [.one (.int .i64 ((gt t5 y17).1)), .one (.int .i64 ((gt t5 y17).2.1)), .one (.int .i64 ((gt t5 y17).2.2.1)), .one (.int .i64 ((gt t5 y17).2.2.2.1)), .ints .u64 ((gt t5 y17).2.2.2.2.1) 4, .ints .u64 ((gt t5 y17).2.2.2.2.2.1) 4, .sl ch5.2.2.2.2.2.2.1 ((gt t5 y17).2.2.2.2.2.2).length ch5.2.2.2.2.2.2.2 (RdS (Ty.int .u8) ch5.2.2.2.2.2.2.1 ((gt t5 y17).2.2.2.2.2.2))]]) (fun _ => rfl) N29 rfl rfl (fun ok => ok) (.cons .here (.cons .here (.cons .here .nil))) rfl (smithyref10_Write.ok k y16 ((gt t5 y17).2.1) t93 A3 cp14 ch47.1 ch47.2.2 t94 et94 _ _) ?_; clear S a; intro ch48 m le1 a w S
                  replace le := le.trans le1
                  replace hw := CL.again hw S (.cons (.there .here) (.cons (.there .here) (.cons (.there .here) .nil))) le
                  refine h_back ⟨fun _ => hw, ?_⟩
                  replace CL := CL.add (t := 150) (d := (.v (.slice ch48.1 ch48.2.1 ch48.2.2))) S rfl rfl
                  refine h_assign S CL hw le ⟨rfl, rfl, rfl, rfl, rfl, rfl, rfl, rfl, trivial⟩ rfl rfl rfl trivial ?_; clear S CL a; intro a S CL
                  refine h_done ?_; clear CL hw le
                  refine x_blockN ?_
                  refine x_thenN ?_
                  replace S := S.rowfro .here
                  obtain ⟨m, le1, S, hro⟩ := S
                  replace S := S.slotro (u := 4) rfl hro
                  replace S := S.slotro (u := 150) rfl hro
                  exact j2 _ ch48.1 ch48.2.2 t94 g24 ch46.1 ch46.2.1 ch46.2.2 t92 a w (S.sub ⟨rfl, rfl, rfl, rfl, rfl, trivial⟩ (.cons .here (.cons .here .nil))) h8
                exact h_nil
              exact h_nil
            · refine c_condF S rfl c16 ?_
              refine c_region ?_
              refine s_bin S rfl rfl rfl rfl ?_; clear S a; intro a S
              refine s_assign S rfl rfl ?_; clear S a; intro a S
              refine c_end ?_
              rcases ite_of h5 with ⟨c17, h6⟩ | ⟨c17, h6⟩ <;> clear h5
              · refine c_condT S rfl c17 ?_
                refine c_region ?_
                refine s_move S rfl rfl ?_; clear S a; intro a S
                refine s_fieldAddr S rfl I40_1 T3 (by decide) rfl rfl ?_; clear S a; intro a S
                refine s_load1 S rfl .here T3 (v := (.int .i64 ((gt t5 y17).2.1))) rfl rfl ?_; clear S a; intro a S
                refine s_fieldAddr S rfl I40_4 T27 (by decide) rfl rfl ?_; clear S a; intro a S
                refine s_loada S rfl .here T27 (s' := [.ints .u64 ((gt t5 y17).2.2.2.2.1) 4]) rfl rfl ?_; clear S a; intro a S
                obtain ⟨t95, et95, h7⟩ := bind_of h6; clear h6
                refine s_callX S (ds' := [(.v (.pointer (some ⟨g24, 0, none⟩))), (.v (.int .i64 ((gt t5 y17).2.1))), (.agg [.ints .u64 ((gt t5 y17).2.2.2.2.1) 4])]) (ds := [(.v (.pointer (some ⟨g24, 0, none⟩))), (.v (.int .i64 ((gt t5 y17).2.1))), (.agg [.ints .u64 ((gt t5 y17).2.2.2.2.1) 4])]) [Res.cells g24 72 [.one (.slice A5 nn8 cp16)], Res.row (Ty.int .u8) 5 A5 nn8 cp16 y18] [Res.cells g25 40 [.one (.int .i64 ((gt t5 y17).1)), .one (.int .i64 ((gt t5 y17).2.1)), .one (.int .i64 ((gt t5 y17).2.2.1)), .one (.int .i64 ((gt t5 y17).2.2.2.1)), .ints .u64 ((gt t5 y17).2.2.2.2.1) 4, .ints .u64 ((gt t5 y17).2.2.2.2.2.1) 4, .sl ch5.2.2.2.2.2.2.1 ((gt t5 y17).2.2.2.2.2.2).length ch5.2.2.2.2.2.2.2 (RdS (Ty.int .u8) ch5.2.2.2.2.2.2.1 ((gt t5 y17).2.2.2.2.2.2))]] (fun (ch : (Option Addr) × Nat × Nat) => ((.tup []) : D)) (fun (ch : (Option Addr) × Nat × Nat) => [Res.cells g24 72 [.one (.slice ch.1 ch.2.1 ch.2.2)], Res.row (Ty.int .u8) 5 ch.1 ch.2.1 ch.2.2 t95]) (fun (ch : (Option Addr) × Nat × Nat) => [Res.cells g24 72 [.one (.slice ch.1 ch.2.1 ch.2.2)], Res.row (Ty.int .u8) 5 ch.1 ch.2.1 ch.2.2 t95, Res.cells g25 40 [.one (.int .i64 ((gt t5 y17).1)), .one (.int .i64 ((gt t5 y17).2.1)), .one (.int .i64 ((gt t5 y17).2.2.1)), .one (.int .i64 ((gt t5 y17).2.2.2.1)), .ints .u64 ((gt t5 y17).2.2.2.2.1) 4, .ints .u64 ((gt t5 y17).2.2.2.2.2.1) 4, .sl ch5.2.2.2.2.2.2.1 ((gt t5 y17).2.2.2.2.2.2).length ch5.2.2.2.2.2.2.2 (RdS (Ty.int .u8) ch5.2.2.2.2.2.2.1 ((gt t5 y17).2.2.2.2.2.2))]]) (fun _ => rfl) N32 rfl rfl (fun ok => ok) (.cons (.there .here) (.cons (.there .here) (.cons .here .nil))) rfl (mem_Memory_SetWord.ok k (y18) ((gt t5 y17).2.1) ((gt t5 y17).2.2.2.2.1) g24 A5 nn8 cp16 t95 et95 _ _) ?_; clear S a w; intro ch49 m le1 a w S
                refine c_end ?_
                refine c_region' ?_
                refine s_move S rfl rfl ?_; clear S a; intro a S
                refine s_fieldAddr S rfl I40_1 T3 (by decide) rfl rfl ?_; clear S a; intro a S
                refine s_load1 S rfl (.there (.there .here)) T3 (v := (.int .i64 ((gt t5 y17).2.1))) rfl rfl ?_; clear S a; intro a S
                refine s_fieldAddr S rfl I40_4 T27 (by decide) rfl rfl ?_; clear S a; intro a S
                refine s_loada S rfl (.there (.there .here)) T27 (s' := [.ints .u64 ((gt t5 y17).2.2.2.2.1) 4]) rfl rfl ?_; clear S a; intro a S
                obtain ⟨t96, et96, h8⟩ := bind_of h7; clear h7
                refine s_callX S (ds' := [(.sl A3 (y16).length cp14 (RdS (Ty.int .u8) A3 y16)), (.v (.int .i64 ((gt t5 y17).2.1))), (.agg [.ints .u64 ((gt t5 y17).2.2.2.2.1) 4])]) (ds := [(.sl A3 (y16).length cp14 (RdS (Ty.int .u8) A3 y16)), (.v (.int .i64 ((gt t5 y17).2.1))), (.agg [.ints .u64 ((gt t5 y17).2.2.2.2.1) 4])]) [] [Res.cells g24 72 [.one (.slice ch49.1 ch49.2.1 ch49.2.2)], Res.row (Ty.int .u8) 5 ch49.1 ch49.2.1 ch49.2.2 t95, Res.cells g25 40 [.one (.int .i64 ((gt t5 y17).1)), .one (.int .i64 ((gt t5 y17).2.1)), .one (.int .i64 ((gt t5 y17).2.2.1)), .one (.int .i64 ((gt t5 y17).2.2.2.1)), .ints .u64 ((gt t5 y17).2.2.2.2.1) 4, .ints .u64 ((gt t5 y17).2.2.2.2.2.1) 4, .sl ch5.2.2.2.2.2.2.1 ((gt t5 y17).2.2.2.2.2.2).length ch5.2.2.2.2.2.2.2 (RdS (Ty.int .u8) ch5.2.2.2.2.2.2.1 ((gt t5 y17).2.2.2.2.2.2))]] (fun (ch : (Option Addr) × Nat × Nat) => ((.v (.slice ch.1 ch.2.1 ch.2.2)) : D)) (fun (ch : (Option Addr) × Nat × Nat) => [Res.row (Ty.int .u8) 5 ch.1 ch.2.1 ch.2.2 t96]) (fun (ch : (Option Addr) × Nat × Nat) => [Res.row (Ty.int .u8) 5 ch.1 ch.2.1 ch.2.2 t96, Res.cells g24 72 [.one (.slice ch49.1 ch49.2.1 ch49.2.2)], Res.row (Ty.int .u8) 5 ch49.1 ch49.2.1 ch49.2.2 t95, Res.cells g25 40 [.one (.int .i64 ((gt t5 y17).1)), .one (.int .i64 ((gt t5 y17).2.1)), .one (.int .i64 ((gt t5 y17).2.2.1)), .one (.int .i64 ((gt t5 y17).2.2.2.1)), .ints .u64 ((gt t5 y17).2.2.2.2.1) 4, .ints .u64 ((gt t5 y17).2.2.2.2.2.1) 4, .sl ch5.2.2.2.2.2.2.1 ((gt t5 y17).2.2.2.2.2.2).length ch5.2.2.2.2.2.2.2 (RdS (Ty.int .u8) ch5.2.2.2.2.2.2.1 ((gt t5 y17).2.2.2.2.2.2))]]) (fun _ => rfl) N33 rfl rfl (fun ok => ok) (.cons .here (.cons .here (.cons .here .nil))) rfl (smithyref10_SetWord.ok k y16 ((gt t5 y17).2.1) ((gt t5 y17).2.2.2.2.1) A3 cp14 t96 et96 _ _) ?_; clear S a w; intro ch50 m le1 a w S
                refine s_assign S rfl rfl ?_; clear S a; intro a S
                refine c_end' ?_
                refine x_blockN ?_
                refine x_thenN ?_
                replace S := S.rowfro .here
                obtain ⟨m, le1, S, hro⟩ := S
                replace S := S.slotro (u := 4) rfl hro
                replace S := S.slotro (u := 164) rfl hro
                exact j2 _ ch50.1 ch50.2.2 t96 g24 ch49.1 ch49.2.1 ch49.2.2 t95 a w (S.sub ⟨rfl, rfl, rfl, rfl, rfl, trivial⟩ (.cons .here (.cons .here .nil))) h8
              · refine c_condF S rfl c17 ?_
                refine wp_seq_k ?_
                intro K4 hK4
                have j4 : ∀ (m : Mem) (y26 : Bool) (g30 : Nat) (a : Act) (w : World), St 179 m b0 [(53, (.v (.bool y26))), (4, (.sl A3 (y16).length cp14 (RdS (Ty.int .u8) A3 y16))), (22, (.v (.int .i64 y17))), (21, (.v (.int .i64 ((t5).length : Int)))), (20, (.sl A4 (t5).length cp15 (RdS (Ty.prod (Ty.int .i64) (Ty.prod (Ty.int .i64) (Ty.prod (Ty.int .i64) (Ty.prod (Ty.int .i64) (Ty.prod (Ty.arr .u64 4) (Ty.prod (Ty.arr .u64 4) (Ty.slice (Ty.int .u8)))))))) A4 t5))), (3, (.v (.pointer (some ⟨g30, 0, none⟩))))] [Res.cells g30 72 [.one (.slice A5 nn8 cp16)], Res.row (Ty.int .u8) 5 A5 nn8 cp16 y18] a w → smithylaw10_MemPlays.j4 y16 y17 y18 (smithylaw10_MemPlays.l1 k t5 q1) y26 = some r → K4 a w := by
                  intro m y26 g30 a w S h0
                  delta smithylaw10_MemPlays.j4 at h0
                  refine hK4 a w ?_
                  rcases ite_of h0 with ⟨c18, h1⟩ | ⟨c18, h1⟩ <;> clear h0
                  · refine c_condT S rfl c18 ?_
                    refine c_region ?_
                    refine s_assign S rfl rfl ?_; clear S a; intro a S
                    refine c_end ?_
                    refine wp_ret ?_
                    refine x_blockR ?_
                    refine x_thenR ?_
                    refine x_blockR ?_
                    refine x_thenR ?_
                    refine x_thenR ?_
                    refine x_blockR ?_
                    refine x_thenR ?_
                    obtain rfl := Option.some.inj h1
                    exact b_ret1 (d := (.v (.bool false))) S rfl rfl fun ok => S.retX (Hx := []) hb _ _ (() : Unit) .nil ok
                  · refine c_condF S rfl c18 ?_
                    refine wp_skip ?_
                    refine x_blockN ?_
                    refine x_thenN ?_
                    exact j2 _ A3 cp14 y16 g30 A5 nn8 cp16 y18 a w (S.sub ⟨rfl, rfl, rfl, rfl, rfl, trivial⟩ (.cons .here (.cons .here .nil))) h1
                refine c_heldS S (.take 0 (.take 1 (.take 2 (.take 3 (.take 4 (.take 7 (.take 8 (.take 9 (.take 10 (.take 11 (.alts (.run 5 true (.alts (.run 6 true (.alts (.run 12 true (.alts (.run 13 true (.take 14 (.take 15 (.take 16 (.take 17 (.take 18 (.take 20 (.take 21 (.take 22 (.alts (.run 19 true (.alts (.run 23 true (.take 24 (.take 25 .done)) .nil)) .nil)))))))))) .nil)) .nil)) (.run 12 true (.alts (.run 6 true (.alts (.run 13 true (.take 14 (.take 15 (.take 16 (.take 17 (.take 18 (.take 20 (.take 21 (.take 22 (.alts (.run 19 true (.alts (.run 23 true (.take 24 (.take 25 .done)) .nil)) .nil)))))))))) .nil)) (.run 13 true (.alts (.run 6 true (.take 14 (.take 15 (.take 16 (.take 17 (.take 18 (.take 20 (.take 21 (.take 22 (.alts (.run 19 true (.alts (.run 23 true (.take 24 (.take 25 .done)) .nil)) .nil)))))))))) .nil)) .nil))) .nil))) .nil)))))))))))) 26 [Res.cells g25 40 [.one (.int .i64 ((gt t5 y17).1)), .one (.int .i64 ((gt t5 y17).2.1)), .one (.int .i64 ((gt t5 y17).2.2.1)), .one (.int .i64 ((gt t5 y17).2.2.2.1)), .ints .u64 ((gt t5 y17).2.2.2.2.1) 4, .ints .u64 ((gt t5 y17).2.2.2.2.2.1) 4, .sl ch5.2.2.2.2.2.2.1 ((gt t5 y17).2.2.2.2.2.2).length ch5.2.2.2.2.2.2.2 (RdS (Ty.int .u8) ch5.2.2.2.2.2.2.1 ((gt t5 y17).2.2.2.2.2.2))], Res.cells g24 72 [.one (.slice A5 nn8 cp16)], Res.row (Ty.int .u8) 5 A5 nn8 cp16 y18] (.cons .here (.cons .here (.cons .here .nil))) ⟨Res.stay_cells, Res.stay_cells, Res.stay_row flat_int, trivial⟩ [(6, (.v (.pointer (some ⟨g25, 0, none⟩)))), (4, (.sl A3 (y16).length cp14 (RdS (Ty.int .u8) A3 y16))), (3, (.v (.pointer (some ⟨g24, 0, none⟩))))] ⟨rfl, rfl, rfl, trivial⟩ (by kernel_rfl) (by kernel_rfl) ?_; clear S; intro w S CL hw le
                refine h_move S CL hw le ⟨rfl, rfl, rfl, trivial⟩ rfl rfl rfl trivial ?_; clear S CL a; intro a S CL
                refine h_fieldAddr S CL hw le ⟨rfl, rfl, rfl, rfl, trivial⟩ rfl I40_1 T3 (by decide) rfl rfl rfl trivial ?_; clear S CL a; intro a S CL
                refine h_load1 S CL hw le ⟨rfl, rfl, rfl, rfl, rfl, trivial⟩ rfl .here T3 (v := (.int .i64 ((gt t5 y17).2.1))) rfl rfl rfl trivial ?_; clear S CL a; intro a S CL
                refine h_fieldAddr S CL hw le ⟨rfl, rfl, rfl, rfl, rfl, rfl, trivial⟩ rfl I40_3 T3 (by decide) rfl rfl rfl trivial ?_; clear S CL a; intro a S CL
                refine h_load1 S CL hw le ⟨rfl, rfl, rfl, rfl, rfl, rfl, rfl, trivial⟩ rfl .here T3 (v := (.int .i64 ((gt t5 y17).2.2.2.1))) rfl rfl rfl trivial ?_; clear S CL a; intro a S CL
                refine h_move S CL hw le ⟨rfl, rfl, rfl, rfl, rfl, rfl, rfl, rfl, trivial⟩ rfl rfl rfl trivial ?_; clear S CL a; intro a S CL
                refine h_fieldAddr S CL hw le ⟨rfl, rfl, rfl, rfl, rfl, rfl, rfl, rfl, rfl, trivial⟩ rfl I40_1 T3 (by decide) rfl rfl rfl trivial ?_; clear S CL a; intro a S CL
                refine h_load1 S CL hw le ⟨rfl, rfl, rfl, rfl, rfl, rfl, rfl, rfl, rfl, rfl, trivial⟩ rfl .here T3 (v := (.int .i64 ((gt t5 y17).2.1))) rfl rfl rfl trivial ?_; clear S CL a; intro a S CL
                refine h_fieldAddr S CL hw le ⟨rfl, rfl, rfl, rfl, rfl, rfl, rfl, rfl, rfl, rfl, rfl, trivial⟩ rfl I40_3 T3 (by decide) rfl rfl rfl trivial ?_; clear S CL a; intro a S CL
                refine h_load1 S CL hw le ⟨rfl, rfl, rfl, rfl, rfl, rfl, rfl, rfl, rfl, rfl, rfl, rfl, trivial⟩ rfl .here T3 (v := (.int .i64 ((gt t5 y17).2.2.2.1))) rfl rfl rfl trivial ?_; clear S CL a; intro a S CL
                refine h_run' S rfl trivial ?_
                obtain ⟨t101, et101, h7⟩ := bind_of h6; clear h6
                refine s_callX S (ds' := [(.v (.pointer (some ⟨g24, 0, none⟩))), (.v (.int .i64 ((gt t5 y17).2.1))), (.v (.int .i64 ((gt t5 y17).2.2.2.1)))]) (ds := [(.v (.pointer (some ⟨g24, 0, none⟩))), (.v (.int .i64 ((gt t5 y17).2.1))), (.v (.int .i64 ((gt t5 y17).2.2.2.1)))]) [Res.cells g24 72 [.one (.slice A5 nn8 cp16)], Res.row (Ty.int .u8) 5 A5 nn8 cp16 y18] [Res.cells g25 40 [.one (.int .i64 ((gt t5 y17).1)), .one (.int .i64 ((gt t5 y17).2.1)), .one (.int .i64 ((gt t5 y17).2.2.1)), .one (.int .i64 ((gt t5 y17).2.2.2.1)), .ints .u64 ((gt t5 y17).2.2.2.2.1) 4, .ints .u64 ((gt t5 y17).2.2.2.2.2.1) 4, .sl ch5.2.2.2.2.2.2.1 ((gt t5 y17).2.2.2.2.2.2).length ch5.2.2.2.2.2.2.2 (RdS (Ty.int .u8) ch5.2.2.2.2.2.2.1 ((gt t5 y17).2.2.2.2.2.2))]] (fun (ch : (Option Addr) × Nat × Nat) => ((.v (.slice ch.1 ch.2.1 ch.2.2)) : D)) (fun (ch : (Option Addr) × Nat × Nat) => [Res.row (Ty.int .u8) 5 ch.1 ch.2.1 ch.2.2 t101, Res.cells g24 72 [.one (.slice A5 nn8 cp16)], Res.row (Ty.int .u8) 5 A5 nn8 cp16 y18]) (fun (ch : (Option Addr) × Nat × Nat) => [Res.row (Ty.int .u8) 5 ch.1 ch.2.1 ch.2.2 t101, Res.cells g24 72 [.one (.slice A5 nn8 cp16)], Res.row (Ty.int .u8) 5 A5 nn8 cp16 y18, Res.cells g25 40 [.one (.int .i64 ((gt t5 y17).1)), .one (.int .i64 ((gt t5 y17).2.1)), .one (.int .i64 ((gt t5 y17).2.2.1)), .one (.int .i64 ((gt t5 y17).2.2.2.1)), .ints .u64 ((gt t5 y17).2.2.2.2.1) 4, .ints .u64 ((gt t5 y17).2.2.2.2.2.1) 4, .sl ch5.2.2.2.2.2.2.1 ((gt t5 y17).2.2.2.2.2.2).length ch5.2.2.2.2.2.2.2 (RdS (Ty.int .u8) ch5.2.2.2.2.2.2.1 ((gt t5 y17).2.2.2.2.2.2))]]) (fun _ => rfl) N34 rfl rfl (fun ok => ok) (.cons (.there .here) (.cons (.there .here) (.cons .here .nil))) rfl (mem_Memory_Read.ok (y18) ((gt t5 y17).2.1) ((gt t5 y17).2.2.2.1) g24 A5 nn8 cp16 t101 et101 _ _) ?_; clear S a; intro ch53 m le1 a w S
                replace le := le.trans le1
                replace hw := CL.again hw S (.cons (.there (.there (.there .here))) (.cons (.there .here) (.cons (.there .here) .nil))) le
                refine h_back ⟨fun _ => hw, ?_⟩
                obtain ⟨t102, et102, h8⟩ := bind_of h7; clear h7
                refine h_alts ?_
                refine h_runO S rfl trivial ?_ ?_
                · replace S := S.rowfro .here
                  obtain ⟨m, le1, S, hro⟩ := S
                  replace le := le.trans le1
                  replace S := S.slotro (u := 33) rfl hro
                  refine s_strS S rfl rfl Try.underlying38 Try.underlying5 Try.underlying9 rfl ?_; clear S a; intro a S
                  replace hw := CL.again hw S (.cons (.there (.there .here)) (.cons .here (.cons .here .nil))) le
                  refine h_back ⟨fun _ => hw, ?_⟩
                  replace CL := CL.add (t := 34) (d := (.v (.string (bstr t101)))) S rfl rfl
                  refine h_run' S rfl trivial ?_
                  refine s_callX S (ds' := [(.sl A3 (y16).length cp14 (RdS (Ty.int .u8) A3 y16)), (.v (.int .i64 ((gt t5 y17).2.1))), (.v (.int .i64 ((gt t5 y17).2.2.2.1)))]) (ds := [(.sl A3 (y16).length cp14 (RdS (Ty.int .u8) A3 y16)), (.v (.int .i64 ((gt t5 y17).2.1))), (.v (.int .i64 ((gt t5 y17).2.2.2.1)))]) [] [Res.cells g24 72 [.one (.slice A5 nn8 cp16)], Res.row (Ty.int .u8) 5 A5 nn8 cp16 y18, Res.cells g25 40 [.one (.int .i64 ((gt t5 y17).1)), .one (.int .i64 ((gt t5 y17).2.1)), .one (.int .i64 ((gt t5 y17).2.2.1)), .one (.int .i64 ((gt t5 y17).2.2.2.1)), .ints .u64 ((gt t5 y17).2.2.2.2.1) 4, .ints .u64 ((gt t5 y17).2.2.2.2.2.1) 4, .sl ch5.2.2.2.2.2.2.1 ((gt t5 y17).2.2.2.2.2.2).length ch5.2.2.2.2.2.2.2 (RdS (Ty.int .u8) ch5.2.2.2.2.2.2.1 ((gt t5 y17).2.2.2.2.2.2))]] (fun (ch : (Option Addr) × Nat × Nat) => ((.v (.slice ch.1 ch.2.1 ch.2.2)) : D)) (fun (ch : (Option Addr) × Nat × Nat) => [Res.row (Ty.int .u8) 5 ch.1 ch.2.1 ch.2.2 t102]) (fun (ch : (Option Addr) × Nat × Nat) => [Res.row (Ty.int .u8) 5 ch.1 ch.2.1 ch.2.2 t102, Res.cells g24 72 [.one (.slice A5 nn8 cp16)], Res.row (Ty.int .u8) 5 A5 nn8 cp16 y18, Res.cells g25 40 [.one (.int .i64 ((gt t5 y17).1)), .one (.int .i64 ((gt t5 y17).2.1)), .one (.int .i64 ((gt t5 y17).2.2.1)), .one (.int .i64 ((gt t5 y17).2.2.2.1)), .ints .u64 ((gt t5 y17).2.2.2.2.1) 4, .ints .u64 ((gt t5 y17).2.2.2.2.2.1) 4, .sl ch5.2.2.2.2.2.2.1 ((gt t5 y17).2.2.2.2.2.2).length ch5.2.2.2.2.2.2.2 (RdS (Ty.int .u8) ch5.2.2.2.2.2.2.1 ((gt t5 y17).2.2.2.2.2.2))]]) (fun _ => rfl) N31 rfl rfl (fun ok => ok) (.cons .here (.cons .here (.cons .here .nil))) rfl (smithyref10_Read.ok k y16 ((gt t5 y17).2.1) ((gt t5 y17).2.2.2.1) A3 cp14 t102 et102 _ _) ?_; clear S a; intro ch54 m le1 a w S
                  replace le := le.trans le1
                  replace hw := CL.again hw S (.cons (.there (.there (.there .here))) (.cons (.there .here) (.cons (.there .here) .nil))) le
                  refine h_back ⟨fun _ => hw, ?_⟩
                  refine h_run' S rfl trivial ?_
                  replace S := S.rowfro .here
                  obtain ⟨m, le1, S, hro⟩ := S
                  replace le := le.trans le1
                  replace S := S.slotro (u := 40) rfl hro
                  refine s_strS S rfl rfl Try.underlying38 Try.underlying5 Try.underlying9 rfl ?_; clear S a; intro a S
                  replace hw := CL.again hw S (.cons (.there (.there .here)) (.cons .here (.cons .here .nil))) le
                  refine h_back ⟨fun _ => hw, ?_⟩
                  replace CL := CL.add (t := 41) (d := (.v (.string (bstr t102)))) S rfl rfl
                  refine h_neT S CL hw le ⟨rfl, rfl, rfl, rfl, rfl, rfl, rfl, rfl, rfl, rfl, rfl, rfl, rfl, rfl, rfl, trivial⟩ rfl rfl rfl rfl trivial ?_; clear S CL a; intro a S CL
                  refine h_move S CL hw le ⟨rfl, rfl, rfl, rfl, rfl, rfl, rfl, rfl, rfl, rfl, rfl, rfl, rfl, rfl, rfl, rfl, trivial⟩ rfl rfl rfl trivial ?_; clear S CL a; intro a S CL
                  rcases ite_of h8 with ⟨c19, h9⟩ | ⟨c19, h9⟩ <;> clear h8
                  · refine h_skip S CL rfl rfl rfl (ne_bool c19) rfl ?_; clear S CL a; intro a S CL
                    refine h_skip S CL rfl rfl rfl (ne_bool c19) rfl ?_; clear S CL a; intro a S CL
                    refine h_skip S CL rfl rfl rfl (ne_bool c19) rfl ?_; clear S CL a; intro a S CL
                    refine h_skip S CL rfl rfl rfl (ne_bool c19) rfl ?_; clear S CL a; intro a S CL
                    refine h_skip S CL rfl rfl rfl (ne_bool c19) rfl ?_; clear S CL a; intro a S CL
                    refine h_skip S CL rfl rfl rfl (ne_bool c19) rfl ?_; clear S CL a; intro a S CL
                    refine h_skipRt S rfl rfl rfl (ne_bool c19) rfl ?_; clear S a; intro a S
                    replace hw := CL.again hw S (.cons (.there (.there .here)) (.cons .here (.cons .here .nil))) le
                    refine h_back ⟨fun _ => hw, ?_⟩
                    replace CL := CL.add (t := 47) (d := .u) S rfl rfl
                    refine h_skipRt S rfl rfl rfl (ne_bool c19) rfl ?_; clear S a; intro a S
                    replace hw := CL.again hw S (.cons (.there (.there .here)) (.cons .here (.cons .here .nil))) le
                    refine h_back ⟨fun _ => hw, ?_⟩
                    replace CL := CL.add (t := 51) (d := .u) S rfl rfl
                    refine h_skip S CL rfl rfl rfl (ne_bool c19) rfl ?_; clear S CL a; intro a S CL
                    refine h_pick S CL hw le ⟨rfl, rfl, rfl, rfl, rfl, rfl, rfl, rfl, rfl, rfl, rfl, rfl, rfl, rfl, rfl, rfl, rfl, rfl, rfl, rfl, rfl, rfl, rfl, rfl, rfl, rfl, trivial⟩ (b := true) (hc_of rfl c19) rfl rfl rfl trivial ?_; clear S CL a; intro a S CL
                    refine h_done ?_; clear CL hw le
                    refine x_thenN ?_
                    exact j4 _ true g24 a w (S.sub ⟨rfl, rfl, rfl, rfl, rfl, rfl, trivial⟩ (.cons .here (.cons .here .nil))) h9
                  · refine h_move S CL hw le ⟨rfl, rfl, rfl, rfl, rfl, rfl, rfl, rfl, rfl, rfl, rfl, rfl, rfl, rfl, rfl, rfl, rfl, trivial⟩ rfl rfl rfl ⟨_, _, rfl, rfl, c19⟩ ?_; clear S CL a; intro a S CL
                    refine h_fieldAddr S CL hw le ⟨rfl, rfl, rfl, rfl, rfl, rfl, rfl, rfl, rfl, rfl, rfl, rfl, rfl, rfl, rfl, rfl, rfl, rfl, trivial⟩ rfl I40_1 T3 (by decide) rfl rfl rfl ⟨_, _, rfl, rfl, c19⟩ ?_; clear S CL a; intro a S CL
                    refine h_load1 S CL hw le ⟨rfl, rfl, rfl, rfl, rfl, rfl, rfl, rfl, rfl, rfl, rfl, rfl, rfl, rfl, rfl, rfl, rfl, rfl, rfl, trivial⟩ rfl .here T3 (v := (.int .i64 ((gt t5 y17).2.1))) rfl rfl rfl ⟨_, _, rfl, rfl, c19⟩ ?_; clear S CL a; intro a S CL
                    refine h_move S CL hw le ⟨rfl, rfl, rfl, rfl, rfl, rfl, rfl, rfl, rfl, rfl, rfl, rfl, rfl, rfl, rfl, rfl, rfl, rfl, rfl, rfl, trivial⟩ rfl rfl rfl ⟨_, _, rfl, rfl, c19⟩ ?_; clear S CL a; intro a S CL
                    refine h_fieldAddr S CL hw le ⟨rfl, rfl, rfl, rfl, rfl, rfl, rfl, rfl, rfl, rfl, rfl, rfl, rfl, rfl, rfl, rfl, rfl, rfl, rfl, rfl, rfl, trivial⟩ rfl I40_1 T3 (by decide) rfl rfl rfl ⟨_, _, rfl, rfl, c19⟩ ?_; clear S CL a; intro a S CL
                    refine h_load1 S CL hw le ⟨rfl, rfl, rfl, rfl, rfl, rfl, rfl, rfl, rfl, rfl, rfl, rfl, rfl, rfl, rfl, rfl, rfl, rfl, rfl, rfl, rfl, rfl, trivial⟩ rfl .here T3 (v := (.int .i64 ((gt t5 y17).2.1))) rfl rfl rfl ⟨_, _, rfl, rfl, c19⟩ ?_; clear S CL a; intro a S CL
                    refine h_run' S rfl ⟨_, _, rfl, rfl, c19⟩ ?_
                    obtain ⟨t103, et103, h10⟩ := bind_of h9; clear h9
                    refine s_callX S (ds' := [(.v (.pointer (some ⟨g24, 0, none⟩))), (.v (.int .i64 ((gt t5 y17).2.1)))]) (ds := [(.v (.pointer (some ⟨g24, 0, none⟩))), (.v (.int .i64 ((gt t5 y17).2.1)))]) [Res.cells g24 72 [.one (.slice A5 nn8 cp16)], Res.row (Ty.int .u8) 5 A5 nn8 cp16 y18] [Res.cells g25 40 [.one (.int .i64 ((gt t5 y17).1)), .one (.int .i64 ((gt t5 y17).2.1)), .one (.int .i64 ((gt t5 y17).2.2.1)), .one (.int .i64 ((gt t5 y17).2.2.2.1)), .ints .u64 ((gt t5 y17).2.2.2.2.1) 4, .ints .u64 ((gt t5 y17).2.2.2.2.2.1) 4, .sl ch5.2.2.2.2.2.2.1 ((gt t5 y17).2.2.2.2.2.2).length ch5.2.2.2.2.2.2.2 (RdS (Ty.int .u8) ch5.2.2.2.2.2.2.1 ((gt t5 y17).2.2.2.2.2.2))]] (fun (ch : Unit) => ((.agg [.ints .u64 t103 4]) : D)) (fun (ch : Unit) => [Res.cells g24 72 [.one (.slice A5 nn8 cp16)], Res.row (Ty.int .u8) 5 A5 nn8 cp16 y18]) (fun (ch : Unit) => [Res.cells g24 72 [.one (.slice A5 nn8 cp16)], Res.row (Ty.int .u8) 5 A5 nn8 cp16 y18, Res.cells g25 40 [.one (.int .i64 ((gt t5 y17).1)), .one (.int .i64 ((gt t5 y17).2.1)), .one (.int .i64 ((gt t5 y17).2.2.1)), .one (.int .i64 ((gt t5 y17).2.2.2.1)), .ints .u64 ((gt t5 y17).2.2.2.2.1) 4, .ints .u64 ((gt t5 y17).2.2.2.2.2.1) 4, .sl ch5.2.2.2.2.2.2.1 ((gt t5 y17).2.2.2.2.2.2).length ch5.2.2.2.2.2.2.2 (RdS (Ty.int .u8) ch5.2.2.2.2.2.2.1 ((gt t5 y17).2.2.2.2.2.2))]]) (fun _ => rfl) N35 rfl rfl (fun ok => ok) (.cons .here (.cons .here (.cons .here .nil))) rfl (mem_Memory_Word.ok k (y18) ((gt t5 y17).2.1) g24 A5 nn8 cp16 t103 et103 _ _) ?_; clear S a; intro ch55 m le1 a w S
                    replace le := le.trans le1
                    replace hw := CL.again hw S (.cons (.there (.there .here)) (.cons .here (.cons .here .nil))) le
                    refine h_back ⟨fun _ => hw, ?_⟩
                    replace CL := CL.add (t := 47) (d := (.agg [.ints .u64 t103 4])) S rfl rfl
                    refine h_run' S rfl ⟨_, _, rfl, rfl, c19⟩ ?_
                    obtain ⟨t104, et104, h11⟩ := bind_of h10; clear h10
                    refine s_callX S (ds' := [(.sl A3 (y16).length cp14 (RdS (Ty.int .u8) A3 y16)), (.v (.int .i64 ((gt t5 y17).2.1)))]) (ds := [(.sl A3 (y16).length cp14 (RdS (Ty.int .u8) A3 y16)), (.v (.int .i64 ((gt t5 y17).2.1)))]) [] [Res.cells g24 72 [.one (.slice A5 nn8 cp16)], Res.row (Ty.int .u8) 5 A5 nn8 cp16 y18, Res.cells g25 40 [.one (.int .i64 ((gt t5 y17).1)), .one (.int .i64 ((gt t5 y17).2.1)), .one (.int .i64 ((gt t5 y17).2.2.1)), .one (.int .i64 ((gt t5 y17).2.2.2.1)), .ints .u64 ((gt t5 y17).2.2.2.2.1) 4, .ints .u64 ((gt t5 y17).2.2.2.2.2.1) 4, .sl ch5.2.2.2.2.2.2.1 ((gt t5 y17).2.2.2.2.2.2).length ch5.2.2.2.2.2.2.2 (RdS (Ty.int .u8) ch5.2.2.2.2.2.2.1 ((gt t5 y17).2.2.2.2.2.2))]] (fun (ch : Unit) => ((.agg [.ints .u64 t104 4]) : D)) (fun (ch : Unit) => []) (fun (ch : Unit) => [Res.cells g24 72 [.one (.slice A5 nn8 cp16)], Res.row (Ty.int .u8) 5 A5 nn8 cp16 y18, Res.cells g25 40 [.one (.int .i64 ((gt t5 y17).1)), .one (.int .i64 ((gt t5 y17).2.1)), .one (.int .i64 ((gt t5 y17).2.2.1)), .one (.int .i64 ((gt t5 y17).2.2.2.1)), .ints .u64 ((gt t5 y17).2.2.2.2.1) 4, .ints .u64 ((gt t5 y17).2.2.2.2.2.1) 4, .sl ch5.2.2.2.2.2.2.1 ((gt t5 y17).2.2.2.2.2.2).length ch5.2.2.2.2.2.2.2 (RdS (Ty.int .u8) ch5.2.2.2.2.2.2.1 ((gt t5 y17).2.2.2.2.2.2))]]) (fun _ => rfl) N36 rfl rfl (fun ok => ok) (.cons .here (.cons .here (.cons .here .nil))) rfl (smithyref10_Word.ok k y16 ((gt t5 y17).2.1) A3 cp14 t104 et104 _ _) ?_; clear S a; intro ch56 m le1 a w S
                    replace le := le.trans le1
                    replace hw := CL.again hw S (.cons (.there (.there .here)) (.cons .here (.cons .here .nil))) le
                    refine h_back ⟨fun _ => hw, ?_⟩
                    replace CL := CL.add (t := 51) (d := (.agg [.ints .u64 t104 4])) S rfl rfl
                    refine h_nea S CL hw le ⟨rfl, rfl, rfl, rfl, rfl, rfl, rfl, rfl, rfl, rfl, rfl, rfl, rfl, rfl, rfl, rfl, rfl, rfl, rfl, rfl, rfl, rfl, rfl, rfl, rfl, trivial⟩ rfl rfl Try.underlying27 Try.underlying22 T22 Q27 rfl rfl ⟨_, _, rfl, rfl, c19⟩ ?_; clear S CL a; intro a S CL
                    refine h_pick S CL hw le ⟨rfl, rfl, rfl, rfl, rfl, rfl, rfl, rfl, rfl, rfl, rfl, rfl, rfl, rfl, rfl, rfl, rfl, rfl, rfl, rfl, rfl, rfl, rfl, rfl, rfl, rfl, trivial⟩ (b := false) (hc_of rfl c19) rfl rfl rfl trivial ?_; clear S CL a; intro a S CL
                    refine h_done ?_; clear CL hw le
                    refine x_thenN ?_
                    exact j4 _ (!(decide (t103 = t104))) g24 a w (S.sub ⟨rfl, rfl, rfl, rfl, rfl, rfl, trivial⟩ (.cons .here (.cons .here .nil))) h11
                refine h_runO S rfl trivial ?_ ?_
                · refine s_callX S (ds' := [(.sl A3 (y16).length cp14 (RdS (Ty.int .u8) A3 y16)), (.v (.int .i64 ((gt t5 y17).2.1))), (.v (.int .i64 ((gt t5 y17).2.2.2.1)))]) (ds := [(.sl A3 (y16).length cp14 (RdS (Ty.int .u8) A3 y16)), (.v (.int .i64 ((gt t5 y17).2.1))), (.v (.int .i64 ((gt t5 y17).2.2.2.1)))]) [] [Res.row (Ty.int .u8) 5 ch53.1 ch53.2.1 ch53.2.2 t101, Res.cells g24 72 [.one (.slice A5 nn8 cp16)], Res.row (Ty.int .u8) 5 A5 nn8 cp16 y18, Res.cells g25 40 [.one (.int .i64 ((gt t5 y17).1)), .one (.int .i64 ((gt t5 y17).2.1)), .one (.int .i64 ((gt t5 y17).2.2.1)), .one (.int .i64 ((gt t5 y17).2.2.2.1)), .ints .u64 ((gt t5 y17).2.2.2.2.1) 4, .ints .u64 ((gt t5 y17).2.2.2.2.2.1) 4, .sl ch5.2.2.2.2.2.2.1 ((gt t5 y17).2.2.2.2.2.2).length ch5.2.2.2.2.2.2.2 (RdS (Ty.int .u8) ch5.2.2.2.2.2.2.1 ((gt t5 y17).2.2.2.2.2.2))]] (fun (ch : (Option Addr) × Nat × Nat) => ((.v (.slice ch.1 ch.2.1 ch.2.2)) : D)) (fun (ch : (Option Addr) × Nat × Nat) => [Res.row (Ty.int .u8) 5 ch.1 ch.2.1 ch.2.2 t102]) (fun (ch : (Option Addr) × Nat × Nat) => [Res.row (Ty.int .u8) 5 ch.1 ch.2.1 ch.2.2 t102, Res.row (Ty.int .u8) 5 ch53.1 ch53.2.1 ch53.2.2 t101, Res.cells g24 72 [.one (.slice A5 nn8 cp16)], Res.row (Ty.int .u8) 5 A5 nn8 cp16 y18, Res.cells g25 40 [.one (.int .i64 ((gt t5 y17).1)), .one (.int .i64 ((gt t5 y17).2.1)), .one (.int .i64 ((gt t5 y17).2.2.1)), .one (.int .i64 ((gt t5 y17).2.2.2.1)), .ints .u64 ((gt t5 y17).2.2.2.2.1) 4, .ints .u64 ((gt t5 y17).2.2.2.2.2.1) 4, .sl ch5.2.2.2.2.2.2.1 ((gt t5 y17).2.2.2.2.2.2).length ch5.2.2.2.2.2.2.2 (RdS (Ty.int .u8) ch5.2.2.2.2.2.2.1 ((gt t5 y17).2.2.2.2.2.2))]]) (fun _ => rfl) N31 rfl rfl (fun ok => ok) (.cons .here (.cons .here (.cons .here (.cons .here .nil)))) rfl (smithyref10_Read.ok k y16 ((gt t5 y17).2.1) ((gt t5 y17).2.2.2.1) A3 cp14 t102 et102 _ _) ?_; clear S a; intro ch54 m le1 a w S
                  replace le := le.trans le1
                  replace hw := CL.again hw S (.cons (.there (.there (.there (.there .here)))) (.cons (.there (.there .here)) (.cons (.there (.there .here)) .nil))) le
                  refine h_back ⟨fun _ => hw, ?_⟩
                  refine h_alts ?_
                  refine h_runO S rfl trivial ?_ ?_
                  · replace S := S.rowfro (.there .here)
                    obtain ⟨m, le1, S, hro⟩ := S
                    replace le := le.trans le1
                    replace S := S.slotro (u := 33) rfl hro
                    refine s_strS S rfl rfl Try.underlying38 Try.underlying5 Try.underlying9 rfl ?_; clear S a; intro a S
                    replace hw := CL.again hw S (.cons (.there (.there (.there .here))) (.cons (.there .here) (.cons (.there .here) .nil))) le
                    refine h_back ⟨fun _ => hw, ?_⟩
                    replace CL := CL.add (t := 34) (d := (.v (.string (bstr t101)))) S rfl rfl
                    refine h_run' S rfl trivial ?_
                    replace S := S.rowfro .here
                    obtain ⟨m, le1, S, hro⟩ := S
                    replace le := le.trans le1
                    replace S := S.slotro (u := 40) rfl hro
                    refine s_strS S rfl rfl Try.underlying38 Try.underlying5 Try.underlying9 rfl ?_; clear S a; intro a S
                    replace hw := CL.again hw S (.cons (.there (.there .here)) (.cons .here (.cons .here .nil))) le
                    refine h_back ⟨fun _ => hw, ?_⟩
                    replace CL := CL.add (t := 41) (d := (.v (.string (bstr t102)))) S rfl rfl
                    refine h_neT S CL hw le ⟨rfl, rfl, rfl, rfl, rfl, rfl, rfl, rfl, rfl, rfl, rfl, rfl, rfl, rfl, rfl, trivial⟩ rfl rfl rfl rfl trivial ?_; clear S CL a; intro a S CL
                    refine h_move S CL hw le ⟨rfl, rfl, rfl, rfl, rfl, rfl, rfl, rfl, rfl, rfl, rfl, rfl, rfl, rfl, rfl, rfl, trivial⟩ rfl rfl rfl trivial ?_; clear S CL a; intro a S CL
                    rcases ite_of h8 with ⟨c19, h9⟩ | ⟨c19, h9⟩ <;> clear h8
                    · refine h_skip S CL rfl rfl rfl (ne_bool c19) rfl ?_; clear S CL a; intro a S CL
                      refine h_skip S CL rfl rfl rfl (ne_bool c19) rfl ?_; clear S CL a; intro a S CL
                      refine h_skip S CL rfl rfl rfl (ne_bool c19) rfl ?_; clear S CL a; intro a S CL
                      refine h_skip S CL rfl rfl rfl (ne_bool c19) rfl ?_; clear S CL a; intro a S CL
                      refine h_skip S CL rfl rfl rfl (ne_bool c19) rfl ?_; clear S CL a; intro a S CL
                      refine h_skip S CL rfl rfl rfl (ne_bool c19) rfl ?_; clear S CL a; intro a S CL
                      refine h_skipRt S rfl rfl rfl (ne_bool c19) rfl ?_; clear S a; intro a S
                      replace hw := CL.again hw S (.cons (.there (.there .here)) (.cons .here (.cons .here .nil))) le
                      refine h_back ⟨fun _ => hw, ?_⟩
                      replace CL := CL.add (t := 47) (d := .u) S rfl rfl
                      refine h_skipRt S rfl rfl rfl (ne_bool c19) rfl ?_; clear S a; intro a S
                      replace hw := CL.again hw S (.cons (.there (.there .here)) (.cons .here (.cons .here .nil))) le
                      refine h_back ⟨fun _ => hw, ?_⟩
                      replace CL := CL.add (t := 51) (d := .u) S rfl rfl
                      refine h_skip S CL rfl rfl rfl (ne_bool c19) rfl ?_; clear S CL a; intro a S CL
                      refine h_pick S CL hw le ⟨rfl, rfl, rfl, rfl, rfl, rfl, rfl, rfl, rfl, rfl, rfl, rfl, rfl, rfl, rfl, rfl, rfl, rfl, rfl, rfl, rfl, rfl, rfl, rfl, rfl, rfl, trivial⟩ (b := true) (hc_of rfl c19) rfl rfl rfl trivial ?_; clear S CL a; intro a S CL
                      refine h_done ?_; clear CL hw le
                      refine x_thenN ?_
                      exact j4 _ true g24 a w (S.sub ⟨rfl, rfl, rfl, rfl, rfl, rfl, trivial⟩ (.cons .here (.cons .here .nil))) h9
                    · refine h_move S CL hw le ⟨rfl, rfl, rfl, rfl, rfl, rfl, rfl, rfl, rfl, rfl, rfl, rfl, rfl, rfl, rfl, rfl, rfl, trivial⟩ rfl rfl rfl ⟨_, _, rfl, rfl, c19⟩ ?_; clear S CL a; intro a S CL
                      refine h_fieldAddr S CL hw le ⟨rfl, rfl, rfl, rfl, rfl, rfl, rfl, rfl, rfl, rfl, rfl, rfl, rfl, rfl, rfl, rfl, rfl, rfl, trivial⟩ rfl I40_1 T3 (by decide) rfl rfl rfl ⟨_, _, rfl, rfl, c19⟩ ?_; clear S CL a; intro a S CL
                      refine h_load1 S CL hw le ⟨rfl, rfl, rfl, rfl, rfl, rfl, rfl, rfl, rfl, rfl, rfl, rfl, rfl, rfl, rfl, rfl, rfl, rfl, rfl, trivial⟩ rfl .here T3 (v := (.int .i64 ((gt t5 y17).2.1))) rfl rfl rfl ⟨_, _, rfl, rfl, c19⟩ ?_; clear S CL a; intro a S CL
                      refine h_move S CL hw le ⟨rfl, rfl, rfl, rfl, rfl, rfl, rfl, rfl, rfl, rfl, rfl, rfl, rfl, rfl, rfl, rfl, rfl, rfl, rfl, rfl, trivial⟩ rfl rfl rfl ⟨_, _, rfl, rfl, c19⟩ ?_; clear S CL a; intro a S CL
                      refine h_fieldAddr S CL hw le ⟨rfl, rfl, rfl, rfl, rfl, rfl, rfl, rfl, rfl, rfl, rfl, rfl, rfl, rfl, rfl, rfl, rfl, rfl, rfl, rfl, rfl, trivial⟩ rfl I40_1 T3 (by decide) rfl rfl rfl ⟨_, _, rfl, rfl, c19⟩ ?_; clear S CL a; intro a S CL
                      refine h_load1 S CL hw le ⟨rfl, rfl, rfl, rfl, rfl, rfl, rfl, rfl, rfl, rfl, rfl, rfl, rfl, rfl, rfl, rfl, rfl, rfl, rfl, rfl, rfl, rfl, trivial⟩ rfl .here T3 (v := (.int .i64 ((gt t5 y17).2.1))) rfl rfl rfl ⟨_, _, rfl, rfl, c19⟩ ?_; clear S CL a; intro a S CL
                      refine h_run' S rfl ⟨_, _, rfl, rfl, c19⟩ ?_
                      obtain ⟨t103, et103, h10⟩ := bind_of h9; clear h9
                      refine s_callX S (ds' := [(.v (.pointer (some ⟨g24, 0, none⟩))), (.v (.int .i64 ((gt t5 y17).2.1)))]) (ds := [(.v (.pointer (some ⟨g24, 0, none⟩))), (.v (.int .i64 ((gt t5 y17).2.1)))]) [Res.cells g24 72 [.one (.slice A5 nn8 cp16)], Res.row (Ty.int .u8) 5 A5 nn8 cp16 y18] [Res.cells g25 40 [.one (.int .i64 ((gt t5 y17).1)), .one (.int .i64 ((gt t5 y17).2.1)), .one (.int .i64 ((gt t5 y17).2.2.1)), .one (.int .i64 ((gt t5 y17).2.2.2.1)), .ints .u64 ((gt t5 y17).2.2.2.2.1) 4, .ints .u64 ((gt t5 y17).2.2.2.2.2.1) 4, .sl ch5.2.2.2.2.2.2.1 ((gt t5 y17).2.2.2.2.2.2).length ch5.2.2.2.2.2.2.2 (RdS (Ty.int .u8) ch5.2.2.2.2.2.2.1 ((gt t5 y17).2.2.2.2.2.2))]] (fun (ch : Unit) => ((.agg [.ints .u64 t103 4]) : D)) (fun (ch : Unit) => [Res.cells g24 72 [.one (.slice A5 nn8 cp16)], Res.row (Ty.int .u8) 5 A5 nn8 cp16 y18]) (fun (ch : Unit) => [Res.cells g24 72 [.one (.slice A5 nn8 cp16)], Res.row (Ty.int .u8) 5 A5 nn8 cp16 y18, Res.cells g25 40 [.one (.int .i64 ((gt t5 y17).1)), .one (.int .i64 ((gt t5 y17).2.1)), .one (.int .i64 ((gt t5 y17).2.2.1)), .one (.int .i64 ((gt t5 y17).2.2.2.1)), .ints .u64 ((gt t5 y17).2.2.2.2.1) 4, .ints .u64 ((gt t5 y17).2.2.2.2.2.1) 4, .sl ch5.2.2.2.2.2.2.1 ((gt t5 y17).2.2.2.2.2.2).length ch5.2.2.2.2.2.2.2 (RdS (Ty.int .u8) ch5.2.2.2.2.2.2.1 ((gt t5 y17).2.2.2.2.2.2))]]) (fun _ => rfl) N35 rfl rfl (fun ok => ok) (.cons .here (.cons .here (.cons .here .nil))) rfl (mem_Memory_Word.ok k (y18) ((gt t5 y17).2.1) g24 A5 nn8 cp16 t103 et103 _ _) ?_; clear S a; intro ch55 m le1 a w S
                      replace le := le.trans le1
                      replace hw := CL.again hw S (.cons (.there (.there .here)) (.cons .here (.cons .here .nil))) le
                      refine h_back ⟨fun _ => hw, ?_⟩
                      replace CL := CL.add (t := 47) (d := (.agg [.ints .u64 t103 4])) S rfl rfl
                      refine h_run' S rfl ⟨_, _, rfl, rfl, c19⟩ ?_
                      obtain ⟨t104, et104, h11⟩ := bind_of h10; clear h10
                      refine s_callX S (ds' := [(.sl A3 (y16).length cp14 (RdS (Ty.int .u8) A3 y16)), (.v (.int .i64 ((gt t5 y17).2.1)))]) (ds := [(.sl A3 (y16).length cp14 (RdS (Ty.int .u8) A3 y16)), (.v (.int .i64 ((gt t5 y17).2.1)))]) [] [Res.cells g24 72 [.one (.slice A5 nn8 cp16)], Res.row (Ty.int .u8) 5 A5 nn8 cp16 y18, Res.cells g25 40 [.one (.int .i64 ((gt t5 y17).1)), .one (.int .i64 ((gt t5 y17).2.1)), .one (.int .i64 ((gt t5 y17).2.2.1)), .one (.int .i64 ((gt t5 y17).2.2.2.1)), .ints .u64 ((gt t5 y17).2.2.2.2.1) 4, .ints .u64 ((gt t5 y17).2.2.2.2.2.1) 4, .sl ch5.2.2.2.2.2.2.1 ((gt t5 y17).2.2.2.2.2.2).length ch5.2.2.2.2.2.2.2 (RdS (Ty.int .u8) ch5.2.2.2.2.2.2.1 ((gt t5 y17).2.2.2.2.2.2))]] (fun (ch : Unit) => ((.agg [.ints .u64 t104 4]) : D)) (fun (ch : Unit) => []) (fun (ch : Unit) => [Res.cells g24 72 [.one (.slice A5 nn8 cp16)], Res.row (Ty.int .u8) 5 A5 nn8 cp16 y18, Res.cells g25 40 [.one (.int .i64 ((gt t5 y17).1)), .one (.int .i64 ((gt t5 y17).2.1)), .one (.int .i64 ((gt t5 y17).2.2.1)), .one (.int .i64 ((gt t5 y17).2.2.2.1)), .ints .u64 ((gt t5 y17).2.2.2.2.1) 4, .ints .u64 ((gt t5 y17).2.2.2.2.2.1) 4, .sl ch5.2.2.2.2.2.2.1 ((gt t5 y17).2.2.2.2.2.2).length ch5.2.2.2.2.2.2.2 (RdS (Ty.int .u8) ch5.2.2.2.2.2.2.1 ((gt t5 y17).2.2.2.2.2.2))]]) (fun _ => rfl) N36 rfl rfl (fun ok => ok) (.cons .here (.cons .here (.cons .here .nil))) rfl (smithyref10_Word.ok k y16 ((gt t5 y17).2.1) A3 cp14 t104 et104 _ _) ?_; clear S a; intro ch56 m le1 a w S
                      replace le := le.trans le1
                      replace hw := CL.again hw S (.cons (.there (.there .here)) (.cons .here (.cons .here .nil))) le
                      refine h_back ⟨fun _ => hw, ?_⟩
                      replace CL := CL.add (t := 51) (d := (.agg [.ints .u64 t104 4])) S rfl rfl
                      refine h_nea S CL hw le ⟨rfl, rfl, rfl, rfl, rfl, rfl, rfl, rfl, rfl, rfl, rfl, rfl, rfl, rfl, rfl, rfl, rfl, rfl, rfl, rfl, rfl, rfl, rfl, rfl, rfl, trivial⟩ rfl rfl Try.underlying27 Try.underlying22 T22 Q27 rfl rfl ⟨_, _, rfl, rfl, c19⟩ ?_; clear S CL a; intro a S CL
                      refine h_pick S CL hw le ⟨rfl, rfl, rfl, rfl, rfl, rfl, rfl, rfl, rfl, rfl, rfl, rfl, rfl, rfl, rfl, rfl, rfl, rfl, rfl, rfl, rfl, rfl, rfl, rfl, rfl, rfl, trivial⟩ (b := false) (hc_of rfl c19) rfl rfl rfl trivial ?_; clear S CL a; intro a S CL
                      refine h_done ?_; clear CL hw le
                      refine x_thenN ?_
                      exact j4 _ (!(decide (t103 = t104))) g24 a w (S.sub ⟨rfl, rfl, rfl, rfl, rfl, rfl, trivial⟩ (.cons .here (.cons .here .nil))) h11
                  refine h_runO S rfl trivial ?_ ?_
                  · replace S := S.rowfro .here
                    obtain ⟨m, le1, S, hro⟩ := S
                    replace le := le.trans le1
                    replace S := S.slotro (u := 40) rfl hro
                    refine s_strS S rfl rfl Try.underlying38 Try.underlying5 Try.underlying9 rfl ?_; clear S a; intro a S
                    replace hw := CL.again hw S (.cons (.there (.there (.there .here))) (.cons (.there .here) (.cons (.there .here) .nil))) le
                    refine h_back ⟨fun _ => hw, ?_⟩
                    replace CL := CL.add (t := 41) (d := (.v (.string (bstr t102)))) S rfl rfl
                    refine h_run' S rfl trivial ?_
                    replace S := S.rowfro .here
                    obtain ⟨m, le1, S, hro⟩ := S
                    replace le := le.trans le1
                    replace S := S.slotro (u := 33) rfl hro
                    refine s_strS S rfl rfl Try.underlying38 Try.underlying5 Try.underlying9 rfl ?_; clear S a; intro a S
                    replace hw := CL.again hw S (.cons (.there (.there .here)) (.cons .here (.cons .here .nil))) le
                    refine h_back ⟨fun _ => hw, ?_⟩
                    replace CL := CL.add (t := 34) (d := (.v (.string (bstr t101)))) S rfl rfl
                    refine h_neT S CL hw le ⟨rfl, rfl, rfl, rfl, rfl, rfl, rfl, rfl, rfl, rfl, rfl, rfl, rfl, rfl, rfl, trivial⟩ rfl rfl rfl rfl trivial ?_; clear S CL a; intro a S CL
                    refine h_move S CL hw le ⟨rfl, rfl, rfl, rfl, rfl, rfl, rfl, rfl, rfl, rfl, rfl, rfl, rfl, rfl, rfl, rfl, trivial⟩ rfl rfl rfl trivial ?_; clear S CL a; intro a S CL
                    rcases ite_of h8 with ⟨c19, h9⟩ | ⟨c19, h9⟩ <;> clear h8
                    · refine h_skip S CL rfl rfl rfl (ne_bool c19) rfl ?_; clear S CL a; intro a S CL
                      refine h_skip S CL rfl rfl rfl (ne_bool c19) rfl ?_; clear S CL a; intro a S CL
                      refine h_skip S CL rfl rfl rfl (ne_bool c19) rfl ?_; clear S CL a; intro a S CL
                      refine h_skip S CL rfl rfl rfl (ne_bool c19) rfl ?_; clear S CL a; intro a S CL
                      refine h_skip S CL rfl rfl rfl (ne_bool c19) rfl ?_; clear S CL a; intro a S CL
                      refine h_skip S CL rfl rfl rfl (ne_bool c19) rfl ?_; clear S CL a; intro a S CL
                      refine h_skipRt S rfl rfl rfl (ne_bool c19) rfl ?_; clear S a; intro a S
                      replace hw := CL.again hw S (.cons (.there (.there .here)) (.cons .here (.cons .here .nil))) le
                      refine h_back ⟨fun _ => hw, ?_⟩
                      replace CL := CL.add (t := 47) (d := .u) S rfl rfl
                      refine h_skipRt S rfl rfl rfl (ne_bool c19) rfl ?_; clear S a; intro a S
                      replace hw := CL.again hw S (.cons (.there (.there .here)) (.cons .here (.cons .here .nil))) le
                      refine h_back ⟨fun _ => hw, ?_⟩
                      replace CL := CL.add (t := 51) (d := .u) S rfl rfl
                      refine h_skip S CL rfl rfl rfl (ne_bool c19) rfl ?_; clear S CL a; intro a S CL
                      refine h_pick S CL hw le ⟨rfl, rfl, rfl, rfl, rfl, rfl, rfl, rfl, rfl, rfl, rfl, rfl, rfl, rfl, rfl, rfl, rfl, rfl, rfl, rfl, rfl, rfl, rfl, rfl, rfl, rfl, trivial⟩ (b := true) (hc_of rfl c19) rfl rfl rfl trivial ?_; clear S CL a; intro a S CL
                      refine h_done ?_; clear CL hw le
                      refine x_thenN ?_
                      exact j4 _ true g24 a w (S.sub ⟨rfl, rfl, rfl, rfl, rfl, rfl, trivial⟩ (.cons .here (.cons .here .nil))) h9
                    · refine h_move S CL hw le ⟨rfl, rfl, rfl, rfl, rfl, rfl, rfl, rfl, rfl, rfl, rfl, rfl, rfl, rfl, rfl, rfl, rfl, trivial⟩ rfl rfl rfl ⟨_, _, rfl, rfl, c19⟩ ?_; clear S CL a; intro a S CL
                      refine h_fieldAddr S CL hw le ⟨rfl, rfl, rfl, rfl, rfl, rfl, rfl, rfl, rfl, rfl, rfl, rfl, rfl, rfl, rfl, rfl, rfl, rfl, trivial⟩ rfl I40_1 T3 (by decide) rfl rfl rfl ⟨_, _, rfl, rfl, c19⟩ ?_; clear S CL a; intro a S CL
                      refine h_load1 S CL hw le ⟨rfl, rfl, rfl, rfl, rfl, rfl, rfl, rfl, rfl, rfl, rfl, rfl, rfl, rfl, rfl, rfl, rfl, rfl, rfl, trivial⟩ rfl .here T3 (v := (.int .i64 ((gt t5 y17).2.1))) rfl rfl rfl ⟨_, _, rfl, rfl, c19⟩ ?_; clear S CL a; intro a S CL
                      refine h_move S CL hw le ⟨rfl, rfl, rfl, rfl, rfl, rfl, rfl, rfl, rfl, rfl, rfl, rfl, rfl, rfl, rfl, rfl, rfl, rfl, rfl, rfl, trivial⟩ rfl rfl rfl ⟨_, _, rfl, rfl, c19⟩ ?_; clear S CL a; intro a S CL
                      refine h_fieldAddr S CL hw le ⟨rfl, rfl, rfl, rfl, rfl, rfl, rfl, rfl, rfl, rfl, rfl, rfl, rfl, rfl, rfl, rfl, rfl, rfl, rfl, rfl, rfl, trivial⟩ rfl I40_1 T3 (by decide) rfl rfl rfl ⟨_, _, rfl, rfl, c19⟩ ?_; clear S CL a; intro a S CL
                      refine h_load1 S CL hw le ⟨rfl, rfl, rfl, rfl, rfl, rfl, rfl, rfl, rfl, rfl, rfl, rfl, rfl, rfl, rfl, rfl, rfl, rfl, rfl, rfl, rfl, rfl, trivial⟩ rfl .here T3 (v := (.int .i64 ((gt t5 y17).2.1))) rfl rfl rfl ⟨_, _, rfl, rfl, c19⟩ ?_; clear S CL a; intro a S CL
                      refine h_run' S rfl ⟨_, _, rfl, rfl, c19⟩ ?_
                      obtain ⟨t103, et103, h10⟩ := bind_of h9; clear h9
                      refine s_callX S (ds' := [(.v (.pointer (some ⟨g24, 0, none⟩))), (.v (.int .i64 ((gt t5 y17).2.1)))]) (ds := [(.v (.pointer (some ⟨g24, 0, none⟩))), (.v (.int .i64 ((gt t5 y17).2.1)))]) [Res.cells g24 72 [.one (.slice A5 nn8 cp16)], Res.row (Ty.int .u8) 5 A5 nn8 cp16 y18] [Res.cells g25 40 [.one (.int .i64 ((gt t5 y17).1)), .one (.int .i64 ((gt t5 y17).2.1)), .one (.int .i64 ((gt t5 y17).2.2.1)), .one (.int .i64 ((gt t5 y17).2.2.2.1)), .ints .u64 ((gt t5 y17).2.2.2.2.1) 4, .ints .u64 ((gt t5 y17).2.2.2.2.2.1) 4, .sl ch5.2.2.2.2.2.2.1 ((gt t5 y17).2.2.2.2.2.2).length ch5.2.2.2.2.2.2.2 (RdS (Ty.int .u8) ch5.2.2.2.2.2.2.1 ((gt t5 y17).2.2.2.2.2.2))]] (fun (ch : Unit) => ((.agg [.ints .u64 t103 4]) : D)) (fun (ch : Unit) => [Res.cells g24 72 [.one (.slice A5 nn8 cp16)], Res.row (Ty.int .u8) 5 A5 nn8 cp16 y18]) (fun (ch : Unit) => [Res.cells g24 72 [.one (.slice A5 nn8 cp16)], Res.row (Ty.int .u8) 5 A5 nn8 cp16 y18, Res.cells g25 40 [.one (.int .i64 ((gt t5 y17).1)), .one (.int .i64 ((gt t5 y17).2.1)), .one (.int .i64 ((gt t5 y17).2.2.1)), .one (.int .i64 ((gt t5 y17).2.2.2.1)), .ints .u64 ((gt t5 y17).2.2.2.2.1) 4, .ints .u64 ((gt t5 y17).2.2.2.2.2.1) 4, .sl ch5.2.2.2.2.2.2.1 ((gt t5 y17).2.2.2.2.2.2).length ch5.2.2.2.2.2.2.2 (RdS (Ty.int .u8) ch5.2.2.2.2.2.2.1 ((gt t5 y17).2.2.2.2.2.2))]]) (fun _ => rfl) N35 rfl rfl (fun ok => ok) (.cons .here (.cons .here (.cons .here .nil))) rfl (mem_Memory_Word.ok k (y18) ((gt t5 y17).2.1) g24 A5 nn8 cp16 t103 et103 _ _) ?_; clear S a; intro ch55 m le1 a w S
                      replace le := le.trans le1
                      replace hw := CL.again hw S (.cons (.there (.there .here)) (.cons .here (.cons .here .nil))) le
                      refine h_back ⟨fun _ => hw, ?_⟩
                      replace CL := CL.add (t := 47) (d := (.agg [.ints .u64 t103 4])) S rfl rfl
                      refine h_run' S rfl ⟨_, _, rfl, rfl, c19⟩ ?_
                      obtain ⟨t104, et104, h11⟩ := bind_of h10; clear h10
                      refine s_callX S (ds' := [(.sl A3 (y16).length cp14 (RdS (Ty.int .u8) A3 y16)), (.v (.int .i64 ((gt t5 y17).2.1)))]) (ds := [(.sl A3 (y16).length cp14 (RdS (Ty.int .u8) A3 y16)), (.v (.int .i64 ((gt t5 y17).2.1)))]) [] [Res.cells g24 72 [.one (.slice A5 nn8 cp16)], Res.row (Ty.int .u8) 5 A5 nn8 cp16 y18, Res.cells g25 40 [.one (.int .i64 ((gt t5 y17).1)), .one (.int .i64 ((gt t5 y17).2.1)), .one (.int .i64 ((gt t5 y17).2.2.1)), .one (.int .i64 ((gt t5 y17).2.2.2.1)), .ints .u64 ((gt t5 y17).2.2.2.2.1) 4, .ints .u64 ((gt t5 y17).2.2.2.2.2.1) 4, .sl ch5.2.2.2.2.2.2.1 ((gt t5 y17).2.2.2.2.2.2).length ch5.2.2.2.2.2.2.2 (RdS (Ty.int .u8) ch5.2.2.2.2.2.2.1 ((gt t5 y17).2.2.2.2.2.2))]] (fun (ch : Unit) => ((.agg [.ints .u64 t104 4]) : D)) (fun (ch : Unit) => []) (fun (ch : Unit) => [Res.cells g24 72 [.one (.slice A5 nn8 cp16)], Res.row (Ty.int .u8) 5 A5 nn8 cp16 y18, Res.cells g25 40 [.one (.int .i64 ((gt t5 y17).1)), .one (.int .i64 ((gt t5 y17).2.1)), .one (.int .i64 ((gt t5 y17).2.2.1)), .one (.int .i64 ((gt t5 y17).2.2.2.1)), .ints .u64 ((gt t5 y17).2.2.2.2.1) 4, .ints .u64 ((gt t5 y17).2.2.2.2.2.1) 4, .sl ch5.2.2.2.2.2.2.1 ((gt t5 y17).2.2.2.2.2.2).length ch5.2.2.2.2.2.2.2 (RdS (Ty.int .u8) ch5.2.2.2.2.2.2.1 ((gt t5 y17).2.2.2.2.2.2))]]) (fun _ => rfl) N36 rfl rfl (fun ok => ok) (.cons .here (.cons .here (.cons .here .nil))) rfl (smithyref10_Word.ok k y16 ((gt t5 y17).2.1) A3 cp14 t104 et104 _ _) ?_; clear S a; intro ch56 m le1 a w S
                      replace le := le.trans le1
                      replace hw := CL.again hw S (.cons (.there (.there .here)) (.cons .here (.cons .here .nil))) le
                      refine h_back ⟨fun _ => hw, ?_⟩
                      replace CL := CL.add (t := 51) (d := (.agg [.ints .u64 t104 4])) S rfl rfl
                      refine h_nea S CL hw le ⟨rfl, rfl, rfl, rfl, rfl, rfl, rfl, rfl, rfl, rfl, rfl, rfl, rfl, rfl, rfl, rfl, rfl, rfl, rfl, rfl, rfl, rfl, rfl, rfl, rfl, trivial⟩ rfl rfl Try.underlying27 Try.underlying22 T22 Q27 rfl rfl ⟨_, _, rfl, rfl, c19⟩ ?_; clear S CL a; intro a S CL
                      refine h_pick S CL hw le ⟨rfl, rfl, rfl, rfl, rfl, rfl, rfl, rfl, rfl, rfl, rfl, rfl, rfl, rfl, rfl, rfl, rfl, rfl, rfl, rfl, rfl, rfl, rfl, rfl, rfl, rfl, trivial⟩ (b := false) (hc_of rfl c19) rfl rfl rfl trivial ?_; clear S CL a; intro a S CL
                      refine h_done ?_; clear CL hw le
                      refine x_thenN ?_
                      exact j4 _ (!(decide (t103 = t104))) g24 a w (S.sub ⟨rfl, rfl, rfl, rfl, rfl, rfl, trivial⟩ (.cons .here (.cons .here .nil))) h11
                  exact h_nil
                exact h_nil
      · refine c_condF S rfl c2 ?_
        refine wp_exit ?_
        refine x_thenX ?_
        refine x_thenX ?_
        refine x_blockX ?_
        refine x_thenN ?_
        exact j1 _ A3 cp14 y16 g24 A5 nn8 cp16 y18 a w (S.sub ⟨rfl, rfl, trivial⟩ (.cons .here (.cons .here .nil))) h1
/-! slices.Clone[[]smithy/api.Word,smithy/api.Word] -/
abbrev api_Word.Ty : Type := (List (List Int)) → Option ((List (List Int)))
def api_Word.Ctr (s : api_Word.Ty) : Prop := ∀ (x1 : List (List Int)) (ch_0_0 : Option Addr) (ch_0_1 : Nat) (r : (List (List Int))) (h0 : s x1 = some r) (mi : Mem) (w0 : World), okL mi [(.sl ch_0_0 (x1).length ch_0_1 (RdS (Ty.arr .u64 4) ch_0_0 x1))] → Pre mi [] w0 → Calls Try.prog 49 (([(.sl ch_0_0 (x1).length ch_0_1 (RdS (Ty.arr .u64 4) ch_0_0 x1))] : List D).map D.val).toArray w0 (RetX mi [] (fun (ch : (Option Addr) × Nat × Nat) => ((.v (.slice ch.1 ch.2.1 ch.2.2)) : D)) (fun (ch : (Option Addr) × Nat × Nat) => [Res.row (Ty.arr .u64 4) 27 ch.1 ch.2.1 ch.2.2 r]) w0)
def api_Word.f (x1 : List (List Int)) : Option ((List (List Int))) := if ((([] : List (List Int))).length + (x1).length) * 32 ≤ 140737488355328 then (some (([] : List (List Int)) ++ x1)) else none
theorem api_Word.ok : api_Word.Ctr (api_Word.f) := by
  intro x1 ch_0_0 ch_0_1 r h0 mi w0 ok hm
  delta api_Word.f at h0
  refine c_enterX (n := 8) [(.sl ch_0_0 (x1).length ch_0_1 (RdS (Ty.arr .u64 4) ch_0_0 x1))] (l := [(0, (.sl ch_0_0 (x1).length ch_0_1 (RdS (Ty.arr .u64 4) ch_0_0 x1)))]) Try.func49 rfl rfl rfl rfl ok hm ?_
  clear ok hm
  intro b0 hb a S
  refine c_region ?_
  refine s_assign S rfl rfl ?_; clear S a; intro a S
  refine c_end ?_
  refine wp_seq ?_
  refine c_region ?_
  refine s_move S rfl rfl ?_; clear S a; intro a S
  refine s_eqnil S (b := (ch_0_0).isNone) (d := (.sl ch_0_0 (x1).length ch_0_1 (RdS (Ty.arr .u64 4) ch_0_0 x1))) rfl rfl Try.underlying42 rfl rfl rfl ?_; clear S a; intro a S
  refine c_end ?_
  cases hc : (ch_0_0).isNone
  · refine c_condF S rfl hc ?_
    refine wp_skip ?_
    refine x_thenN ?_
    refine c_region ?_
    refine s_bldSl S (ty' := (Ty.arr .u64 4)) (ds := []) (z := [0, 0, 0, 0]) (c0 := ()) (ys := ([] : List (List Int))) (cs := []) rfl Try.underlying42 J27 Z27 rfl ⟨rfl, trivial⟩ rfl rfl rfl rfl rfl rfl ?_; clear S a; intro g1 a w S
    refine s_move S rfl rfl ?_; clear S a; intro a S
    obtain ⟨c1, h1⟩ := chk_of h0; clear h0
    refine s_app S (k2 := ((x1).length)) (ys := x1) rfl (fun _ _ => .here) rfl rfl rfl (RdS.src (S.get 6 (.sl ch_0_0 (x1).length ch_0_1 (RdS (Ty.arr .u64 4) ch_0_0 x1)) rfl).2.2.2.1 (by decide) S.frz) Try.underlying42 J27 c1 rfl ?_; clear S a w; intro A1 cp1 a w S
    refine s_assign S rfl rfl ?_; clear S a; intro a S
    refine c_end ?_
    refine wp_ret ?_
    obtain rfl := Option.some.inj h1
    exact b_ret1 (d := (.v (.slice A1 (0 + ((x1).length)) cp1))) S rfl rfl fun ok => S.retX (Hx := []) hb _ _ ((A1, 0 + ((x1).length), cp1) : (Option Addr) × Nat × Nat) (.cons .here .nil) ok
  · have hxs : x1 = [] := rd_nil hc (S.get 3 (.sl ch_0_0 (x1).length ch_0_1 (RdS (Ty.arr .u64 4) ch_0_0 x1)) rfl).2.2.2.1
    have h1 : (some ([] : List (List Int))) = some r := by simpa [hxs] using h0
    clear h0
    refine c_condT S rfl hc ?_
    refine c_region ?_
    refine s_assign S rfl rfl ?_; clear S a; intro a S
    refine c_end ?_
    refine wp_ret ?_
    refine x_thenR ?_
    replace S := S.nilrow (Ty.arr .u64 4) 27
    replace S := S.slot (u := 2) (d' := (.v (.slice none 0 0))) rfl rfl (S.get 2 (.v (.slice none 0 0)) rfl).2
    obtain rfl := Option.some.inj h1
    exact b_ret1 (d := (.v (.slice none 0 0))) S rfl rfl fun ok => S.retX (Hx := []) hb _ _ ((none, 0, 0) : (Option Addr) × Nat × Nat) (.cons .here .nil) ok
/-! (*smithy/mem.Stack).All -/
abbrev mem_Stack_All.Ty : Type := ((List (List Int))) → Option ((List (List Int)) × ((List (List Int))))
def mem_Stack_All.Ctr (s : mem_Stack_All.Ty) : Prop := ∀ (x1 : (List (List Int))) (ch_0_0 : Nat) (ch_0_1 : Option Addr) (ch_0_2 : Nat) (ch_0_3 : Nat) (r : (List (List Int)) × ((List (List Int)))) (h0 : s x1 = some r) (mi : Mem) (w0 : World), okL mi [(.v (.pointer (some ⟨ch_0_0, 0, none⟩)))] → Pre mi [Res.cells ch_0_0 75 [.one (.slice ch_0_1 ch_0_2 ch_0_3)], Res.row (Ty.arr .u64 4) 27 ch_0_1 ch_0_2 ch_0_3 x1] w0 → Calls Try.prog 38 (([(.v (.pointer (some ⟨ch_0_0, 0, none⟩)))] : List D).map D.val).toArray w0 (RetX mi [Res.cells ch_0_0 75 [.one (.slice ch_0_1 ch_0_2 ch_0_3)], Res.row (Ty.arr .u64 4) 27 ch_0_1 ch_0_2 ch_0_3 x1] (fun (ch : (Option Addr) × Nat × Nat × (Option Addr) × Nat) => ((.v (.slice ch.1 ch.2.1 ch.2.2.1)) : D)) (fun (ch : (Option Addr) × Nat × Nat × (Option Addr) × Nat) => [Res.row (Ty.arr .u64 4) 27 ch.1 ch.2.1 ch.2.2.1 r.1, Res.cells ch_0_0 75 [.sl ch.2.2.2.1 (r.2).length ch.2.2.2.2 (RdS (Ty.arr .u64 4) ch.2.2.2.1 r.2)]]) w0)
def mem_Stack_All.f (x1 : (List (List Int))) : Option ((List (List Int)) × ((List (List Int)))) := (api_Word.f x1).bind fun t1 => (some (t1, (x1)))
theorem mem_Stack_All.ok : mem_Stack_All.Ctr (mem_Stack_All.f) := by
  intro x1 ch_0_0 ch_0_1 ch_0_2 ch_0_3 r h0 mi w0 ok hm
  delta mem_Stack_All.f at h0
  refine c_enterX (n := 10) [(.v (.pointer (some ⟨ch_0_0, 0, none⟩)))] (l := [(0, (.v (.pointer (some ⟨ch_0_0, 0, none⟩))))]) Try.func38 rfl rfl rfl rfl ok hm ?_
  clear ok hm
  intro b0 hb a S
  refine c_region ?_
  refine s_assign S rfl rfl ?_; clear S a; intro a S
  refine c_end ?_
  refine wp_seq ?_
  refine c_region ?_
  refine s_move S rfl rfl ?_; clear S a; intro a S
  refine s_eqp S (b := false) rfl rfl Try.underlying43 rfl rfl ?_; clear S a; intro a S
  refine c_end ?_
  refine c_condF S rfl rfl ?_
  refine wp_skip ?_
  refine x_thenN ?_
  refine c_region ?_
  refine s_move S rfl rfl ?_; clear S a; intro a S
  refine s_nilchk S rfl rfl ?_; clear S a; intro a S
  refine s_fieldAddr S rfl I75_0 T42 (by decide) rfl rfl ?_; clear S a; intro a S
  refine s_load1 S rfl .here T42 (v := (.slice ch_0_1 ch_0_2 ch_0_3)) rfl rfl ?_; clear S a; intro a S
  replace S := S.rowfro (.there .here)
  obtain ⟨m, le1, S, hro⟩ := S
  replace S := S.slotro (u := 8) rfl hro
  replace S := S.cellro (s' := [.sl ch_0_1 (x1).length ch_0_3 (RdS (Ty.arr .u64 4) ch_0_1 x1)]) .here (by simp [cellsOf, Seg.cells, hro.2.1]) (fun h => ⟨⟨by have := hro.2.2.1; omega, hro.2.2.2, hro.1, RdS.mono _ _ _⟩, trivial⟩)
  obtain ⟨t1, et1, h1⟩ := bind_of h0; clear h0
  refine s_callX S (ds' := [(.sl ch_0_1 (x1).length ch_0_3 (RdS (Ty.arr .u64 4) ch_0_1 x1))]) (ds := [(.sl ch_0_1 (x1).length ch_0_3 (RdS (Ty.arr .u64 4) ch_0_1 x1))]) [] [Res.cells ch_0_0 75 [.sl ch_0_1 (x1).length ch_0_3 (RdS (Ty.arr .u64 4) ch_0_1 x1)]] (fun (ch : (Option Addr) × Nat × Nat) => ((.v (.slice ch.1 ch.2.1 ch.2.2)) : D)) (fun (ch : (Option Addr) × Nat × Nat) => [Res.row (Ty.arr .u64 4) 27 ch.1 ch.2.1 ch.2.2 t1]) (fun (ch : (Option Addr) × Nat × Nat) => [Res.row (Ty.arr .u64 4) 27 ch.1 ch.2.1 ch.2.2 t1, Res.cells ch_0_0 75 [.sl ch_0_1 (x1).length ch_0_3 (RdS (Ty.arr .u64 4) ch_0_1 x1)]]) (fun _ => rfl) N49 rfl rfl (fun ok => ok) (.cons .here .nil) rfl (api_Word.ok x1 ch_0_1 ch_0_3 t1 et1 _ _) ?_; clear S a; intro ch1 m le1 a w S
  refine s_assign S rfl rfl ?_; clear S a; intro a S
  refine c_end ?_
  refine wp_ret ?_
  obtain rfl := Option.some.inj h1
  exact b_ret1 (d := (.v (.slice ch1.1 ch1.2.1 ch1.2.2))) S rfl rfl fun ok => S.retX (Hx := []) hb _ _ ((ch1.1, ch1.2.1, ch1.2.2, ch_0_1, ch_0_3) : (Option Addr) × Nat × Nat × (Option Addr) × Nat) (.cons .here (.cons .here .nil)) ok
/-! smithy/smithyref10.Same -/
abbrev smithyref10_Same.Ty : Type := (List (List Int)) → (List (List Int)) → Option Bool
def smithyref10_Same.Ctr (s : smithyref10_Same.Ty) : Prop := ∀ (x1 : List (List Int)) (x2 : List (List Int)) (ch_0_0 : Option Addr) (ch_0_1 : Nat) (ch_1_0 : Option Addr) (ch_1_1 : Nat) (r : Bool) (h0 : s x1 x2 = some r) (mi : Mem) (w0 : World), okL mi [(.sl ch_0_0 (x1).length ch_0_1 (RdS (Ty.arr .u64 4) ch_0_0 x1)), (.sl ch_1_0 (x2).length ch_1_1 (RdS (Ty.arr .u64 4) ch_1_0 x2))] → Pre mi [] w0 → Calls Try.prog 37 (([(.sl ch_0_0 (x1).length ch_0_1 (RdS (Ty.arr .u64 4) ch_0_0 x1)), (.sl ch_1_0 (x2).length ch_1_1 (RdS (Ty.arr .u64 4) ch_1_0 x2))] : List D).map D.val).toArray w0 (RetX mi [] (fun (ch : Unit) => ((.v (.bool r)) : D)) (fun (ch : Unit) => []) w0)
def smithyref10_Same.j1 : Option Bool := some true
def smithyref10_Same.b1 (x1 : List (List Int)) (x2 : List (List Int)) (rec1 : Int → Option Bool) (y1 : Int) : Option Bool := if (decide (y1 < ((x1).length : Int))) = true then (if 0 ≤ y1 ∧ y1 < ((x1).length : Int) then (if 0 ≤ y1 ∧ y1 < ((x2).length : Int) then (if (!(decide (gt x1 y1 = gt x2 y1))) = true then (some false) else (rec1 (wr .i64 (y1 + 1)))) else none) else none) else smithyref10_Same.j1
def smithyref10_Same.l1 (x1 : List (List Int)) (x2 : List (List Int)) : Nat → Int → Option Bool
  | 0, _ => none
  | q + 1, y1 => smithyref10_Same.b1 x1 x2 (smithyref10_Same.l1 x1 x2 q) y1
def smithyref10_Same.f (k : Nat) (x1 : List (List Int)) (x2 : List (List Int)) : Option Bool := if (((x1).length : Int) != ((x2).length : Int)) = true then (some false) else (smithyref10_Same.l1 x1 x2 k 0)
theorem smithyref10_Same.ok (k : Nat) : smithyref10_Same.Ctr (smithyref10_Same.f k) := by
  intro x1 x2 ch_0_0 ch_0_1 ch_1_0 ch_1_1 r h0 mi w0 ok hm
  delta smithyref10_Same.f at h0
  refine c_enterX (n := 26) [(.sl ch_0_0 (x1).length ch_0_1 (RdS (Ty.arr .u64 4) ch_0_0 x1)), (.sl ch_1_0 (x2).length ch_1_1 (RdS (Ty.arr .u64 4) ch_1_0 x2))] (l := [(0, (.sl ch_0_0 (x1).length ch_0_1 (RdS (Ty.arr .u64 4) ch_0_0 x1))), (1, (.sl ch_1_0 (x2).length ch_1_1 (RdS (Ty.arr .u64 4) ch_1_0 x2)))]) Try.func37 rfl rfl rfl rfl ok hm ?_
  clear ok hm
  intro b0 hb a S
  refine c_region ?_
  refine s_assign S rfl rfl ?_; clear S a; intro a S
  refine c_end ?_
  refine wp_seq ?_
  refine c_region ?_
  refine s_move S rfl rfl ?_; clear S a; intro a S
  refine s_lenS S rfl Try.underlying42 rfl ?_; clear S a; intro a S
  refine s_move S rfl rfl ?_; clear S a; intro a S
  refine s_lenS S rfl Try.underlying42 rfl ?_; clear S a; intro a S
  refine s_bin S rfl rfl rfl rfl ?_; clear S a; intro a S
  refine c_end ?_
  rcases ite_of h0 with ⟨c1, h1⟩ | ⟨c1, h1⟩ <;> clear h0
  · refine c_condT S rfl c1 ?_
    refine c_region ?_
    refine s_assign S rfl rfl ?_; clear S a; intro a S
    refine c_end ?_
    refine wp_ret ?_
    refine x_thenR ?_
    obtain rfl := Option.some.inj h1
    exact b_ret1 (d := (.v (.bool false))) S rfl rfl fun ok => S.retX (Hx := []) hb _ _ (() : Unit) .nil ok
  · refine c_condF S rfl c1 ?_
    refine wp_skip ?_
    refine x_thenN ?_
    refine wp_seq_k ?_
    intro K1 hK1
    have j1 : ∀ (m : Mem) (a : Act) (w : World), St 26 m b0 [] [] a w → smithyref10_Same.j1 = some r → K1 a w := by
      intro m a w S h0
      delta smithyref10_Same.j1 at h0
      refine hK1 a w ?_
      refine c_region ?_
      refine s_assign S rfl rfl ?_; clear S a; intro a S
      refine c_end ?_
      refine wp_ret ?_
      obtain rfl := Option.some.inj h0
      exact b_ret1 (d := (.v (.bool true))) S rfl rfl fun ok => S.retX (Hx := []) hb _ _ (() : Unit) .nil ok
    refine c_region ?_
    refine s_move S rfl rfl ?_; clear S a; intro a S
    refine s_lenS S rfl Try.underlying42 rfl ?_; clear S a; intro a S
    refine s_move S rfl rfl ?_; clear S a; intro a S
    refine c_end ?_
    refine wp_block ?_
    refine c_loop (fun q1 a w => ∃ (m : Mem) (y1 : Int), St 26 m b0 [(13, (.v (.int .i64 y1))), (12, (.v (.int .i64 ((x1).length : Int)))), (0, (.sl ch_0_0 (x1).length ch_0_1 (RdS (Ty.arr .u64 4) ch_0_0 x1))), (1, (.sl ch_1_0 (x2).length ch_1_1 (RdS (Ty.arr .u64 4) ch_1_0 x2)))] [] a w ∧ smithyref10_Same.l1 x1 x2 q1 y1 = some r) ?_ ?_ (k := k) ⟨_, 0, (S.sub ⟨rfl, rfl, rfl, rfl, trivial⟩ .nil), h1⟩
    · rintro a w ⟨m, y1, S, h0⟩
      exact (nomatch (show (none : Option Bool) = some r from h0))
    · clear S h1
      rintro q1 a w ⟨m, y1, S, h0⟩
      replace h0 : smithyref10_Same.b1 x1 x2 (smithyref10_Same.l1 x1 x2 q1) y1 = some r := h0
      delta smithyref10_Same.b1 at h0
      refine c_region ?_
      refine s_bin S rfl rfl rfl rfl ?_; clear S a; intro a S
      refine c_end ?_
      refine wp_seq ?_
      rcases ite_of h0 with ⟨c2, h1⟩ | ⟨c2, h1⟩ <;> clear h0
      · refine c_condT S rfl c2 ?_
        refine wp_skip ?_
        refine x_thenN ?_
        refine wp_seq ?_
        refine wp_block ?_
        refine c_region ?_
        refine s_move S rfl rfl ?_; clear S a; intro a S
        refine s_assign S rfl rfl ?_; clear S a; intro a S
        refine c_end ?_
        refine wp_seq (c_heldS S (.take 0 (.take 1 (.take 2 (.take 3 (.take 4 (.take 5 (.take 6 (.take 7 (.take 8 .done))))))))) 9 [] .nil trivial [(5, (.v (.int .i64 y1))), (0, (.sl ch_0_0 (x1).length ch_0_1 (RdS (Ty.arr .u64 4) ch_0_0 x1))), (1, (.sl ch_1_0 (x2).length ch_1_1 (RdS (Ty.arr .u64 4) ch_1_0 x2)))] ⟨rfl, rfl, rfl, trivial⟩ (by kernel_rfl) (by kernel_rfl) ?_); clear S; intro w S CL hw le
        refine h_move S CL hw le ⟨rfl, rfl, rfl, trivial⟩ rfl rfl rfl trivial ?_; clear S CL a; intro a S CL
        refine h_move S CL hw le ⟨rfl, rfl, rfl, rfl, trivial⟩ rfl rfl rfl trivial ?_; clear S CL a; intro a S CL
        obtain ⟨c3, h2⟩ := chk_of h1; clear h1
        refine h_iaddrS S CL hw le ⟨rfl, rfl, rfl, rfl, rfl, trivial⟩ rfl rfl rfl Try.underlying42 T27 c3.1 c3.2 rfl rfl trivial ?_; clear S CL a; intro p1 a S CL
        refine h_ldA S CL hw le ⟨rfl, rfl, rfl, rfl, rfl, rfl, trivial⟩ (fun (c : Unit) => [.ints .u64 (gt x1 y1) 4]) rfl T27 (fun _ => rfl) rfl rfl trivial ?_; clear S CL a; intro ch1 a S CL
        refine h_move S CL hw le ⟨rfl, rfl, rfl, rfl, rfl, rfl, rfl, trivial⟩ rfl rfl rfl trivial ?_; clear S CL a; intro a S CL
        refine h_move S CL hw le ⟨rfl, rfl, rfl, rfl, rfl, rfl, rfl, rfl, trivial⟩ rfl rfl rfl trivial ?_; clear S CL a; intro a S CL
        obtain ⟨c4, h3⟩ := chk_of h2; clear h2
        refine h_iaddrS S CL hw le ⟨rfl, rfl, rfl, rfl, rfl, rfl, rfl, rfl, rfl, trivial⟩ rfl rfl rfl Try.underlying42 T27 c4.1 c4.2 rfl rfl trivial ?_; clear S CL a; intro p2 a S CL
        refine h_ldA S CL hw le ⟨rfl, rfl, rfl, rfl, rfl, rfl, rfl, rfl, rfl, rfl, trivial⟩ (fun (c : Unit) => [.ints .u64 (gt x2 y1) 4]) rfl T27 (fun _ => rfl) rfl rfl trivial ?_; clear S CL a; intro ch2 a S CL
        refine h_nea S CL hw le ⟨rfl, rfl, rfl, rfl, rfl, rfl, rfl, rfl, rfl, rfl, rfl, trivial⟩ rfl rfl Try.underlying27 Try.underlying22 T22 Q27 rfl rfl trivial ?_; clear S CL a; intro a S CL
        refine h_done ?_; clear CL hw le
        refine x_thenN ?_
        rcases ite_of h3 with ⟨c5, h4⟩ | ⟨c5, h4⟩ <;> clear h3
        · refine c_condT S rfl c5 ?_
          refine c_region ?_
          refine s_assign S rfl rfl ?_; clear S a; intro a S
          refine c_end ?_
          refine wp_ret ?_
          refine x_blockR ?_
          refine x_thenR ?_
          refine x_thenR ?_
          refine x_blockR ?_
          refine x_thenR ?_
          obtain rfl := Option.some.inj h4
          exact b_ret1 (d := (.v (.bool false))) S rfl rfl fun ok => S.retX (Hx := []) hb _ _ (() : Unit) .nil ok
        · refine c_condF S rfl c5 ?_
          refine wp_skip ?_
          refine x_blockN ?_
          refine x_thenN ?_
          refine c_region' ?_
          refine s_bin S rfl rfl rfl rfl ?_; clear S a; intro a S
          refine s_move S rfl rfl ?_; clear S a; intro a S
          refine c_end' ?_
          refine x_thenN ?_
          exact ⟨_, (wr .i64 (y1 + 1)), (S.sub ⟨rfl, rfl, rfl, rfl, trivial⟩ .nil), h4⟩
      · refine c_condF S rfl c2 ?_
        refine wp_exit ?_
        refine x_thenX ?_
        refine x_thenX ?_
        refine x_blockX ?_
        refine x_thenN ?_
        exact j1 _ a w (S.sub trivial .nil) h1
end GW
