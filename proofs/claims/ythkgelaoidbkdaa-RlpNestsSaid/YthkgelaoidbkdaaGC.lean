/-
  Printed by a program of these sessions (wip/gw/gx.py): for each Go function a Lean function with the same answers, and the walk that shows it.
-/
import Derived.Test.YthkgelaoidbkdaaProg
import Derived.Test.YthkgelaoidbkdaaGB
set_option linter.unusedVariables false
set_option maxRecDepth 10000
namespace GW
open Go Go.RowKit Go.Proofs
/-! (*smithy/rlp.reader).item -/
abbrev rlp_reader_item.Ty : Type := ((List Int) × (List (Bool × (List Int) × Int))) → Int → Int → Option (Int × ((List Int) × (List (Bool × (List Int) × Int))))
def rlp_reader_item.Ctr (s : rlp_reader_item.Ty) : Prop := ∀ (x1 : (List Int) × (List (Bool × (List Int) × Int))) (x2 : Int) (x3 : Int) (ch_0_0 : Nat) (ch_0_1 : Option Addr) (ch_0_2 : Nat) (ch_0_3 : Option Addr) (ch_0_4 : Nat) (ch_0_5 : Nat) (r : Int × ((List Int) × (List (Bool × (List Int) × Int)))) (h0 : s x1 x2 x3 = some r) (mi : Mem) (w0 : World), okL mi [(.v (.pointer (some ⟨ch_0_0, 0, none⟩))), (.v (.int .i64 x2)), (.v (.int .i64 x3))] → Pre mi [Res.cells ch_0_0 61 [.sl ch_0_1 (x1.1).length ch_0_2 (RdS (Ty.int .u8) ch_0_1 x1.1), .one (.slice ch_0_3 ch_0_4 ch_0_5)], Res.row (Ty.prod Ty.bool (Ty.prod (Ty.slice (Ty.int .u8)) (Ty.int .i64))) 43 ch_0_3 ch_0_4 ch_0_5 x1.2] w0 → Calls Try.prog 25 (([(.v (.pointer (some ⟨ch_0_0, 0, none⟩))), (.v (.int .i64 x2)), (.v (.int .i64 x3))] : List D).map D.val).toArray w0 (RetX mi [Res.cells ch_0_0 61 [.sl ch_0_1 (x1.1).length ch_0_2 (RdS (Ty.int .u8) ch_0_1 x1.1), .one (.slice ch_0_3 ch_0_4 ch_0_5)], Res.row (Ty.prod Ty.bool (Ty.prod (Ty.slice (Ty.int .u8)) (Ty.int .i64))) 43 ch_0_3 ch_0_4 ch_0_5 x1.2] (fun (ch : (Option Addr) × Nat × (Option Addr) × Nat × Nat) => ((.v (.int .i64 r.1)) : D)) (fun (ch : (Option Addr) × Nat × (Option Addr) × Nat × Nat) => [Res.cells ch_0_0 61 [.sl ch.1 (r.2.1).length ch.2.1 (RdS (Ty.int .u8) ch.1 r.2.1), .one (.slice ch.2.2.1 ch.2.2.2.1 ch.2.2.2.2)], Res.row (Ty.prod Ty.bool (Ty.prod (Ty.slice (Ty.int .u8)) (Ty.int .i64))) 43 ch.2.2.1 ch.2.2.2.1 ch.2.2.2.2 r.2.2]) w0)
abbrev rlp_reader_list.Ty : Type := ((List Int) × (List (Bool × (List Int) × Int))) → Int → Int → Option (Int × ((List Int) × (List (Bool × (List Int) × Int))))
def rlp_reader_list.Ctr (s : rlp_reader_list.Ty) : Prop := ∀ (x1 : (List Int) × (List (Bool × (List Int) × Int))) (x2 : Int) (x3 : Int) (ch_0_0 : Nat) (ch_0_1 : Option Addr) (ch_0_2 : Nat) (ch_0_3 : Option Addr) (ch_0_4 : Nat) (ch_0_5 : Nat) (r : Int × ((List Int) × (List (Bool × (List Int) × Int)))) (h0 : s x1 x2 x3 = some r) (mi : Mem) (w0 : World), okL mi [(.v (.pointer (some ⟨ch_0_0, 0, none⟩))), (.v (.int .i64 x2)), (.v (.int .i64 x3))] → Pre mi [Res.cells ch_0_0 61 [.sl ch_0_1 (x1.1).length ch_0_2 (RdS (Ty.int .u8) ch_0_1 x1.1), .one (.slice ch_0_3 ch_0_4 ch_0_5)], Res.row (Ty.prod Ty.bool (Ty.prod (Ty.slice (Ty.int .u8)) (Ty.int .i64))) 43 ch_0_3 ch_0_4 ch_0_5 x1.2] w0 → Calls Try.prog 32 (([(.v (.pointer (some ⟨ch_0_0, 0, none⟩))), (.v (.int .i64 x2)), (.v (.int .i64 x3))] : List D).map D.val).toArray w0 (RetX mi [Res.cells ch_0_0 61 [.sl ch_0_1 (x1.1).length ch_0_2 (RdS (Ty.int .u8) ch_0_1 x1.1), .one (.slice ch_0_3 ch_0_4 ch_0_5)], Res.row (Ty.prod Ty.bool (Ty.prod (Ty.slice (Ty.int .u8)) (Ty.int .i64))) 43 ch_0_3 ch_0_4 ch_0_5 x1.2] (fun (ch : (Option Addr) × Nat × (Option Addr) × Nat × Nat) => ((.v (.int .i64 r.1)) : D)) (fun (ch : (Option Addr) × Nat × (Option Addr) × Nat × Nat) => [Res.cells ch_0_0 61 [.sl ch.1 (r.2.1).length ch.2.1 (RdS (Ty.int .u8) ch.1 r.2.1), .one (.slice ch.2.2.1 ch.2.2.2.1 ch.2.2.2.2)], Res.row (Ty.prod Ty.bool (Ty.prod (Ty.slice (Ty.int .u8)) (Ty.int .i64))) 43 ch.2.2.1 ch.2.2.2.1 ch.2.2.2.2 r.2.2]) w0)
def rlp_reader_item.j1 (t1 : Bool × Int × Int × ((List Int) × (List (Bool × (List Int) × Int)))) (y1 : Bool) : Option (Int × ((List Int) × (List (Bool × (List Int) × Int)))) := if y1 = true then (some (2, (t1.2.2.2.1, t1.2.2.2.2))) else (if (0 : Int) ≤ 0 ∧ (0 : Int) ≤ t1.2.1 ∧ t1.2.1 ≤ ((t1.2.2.2.1).length : Int) then (if ((([] : List Int)).length + (t1.2.2.2.1.take (Int.toNat t1.2.1)).length) * 1 ≤ 140737488355328 then (if ((t1.2.2.2.2).length + ([(false, ([] : List Int) ++ (t1.2.2.2.1.take (Int.toNat t1.2.1)), 0)]).length) * 40 ≤ 140737488355328 then (if (0 : Int) ≤ t1.2.1 ∧ (t1.2.1 : Int) ≤ ((t1.2.2.2.1).length : Int) ∧ ((t1.2.2.2.1).length : Int) ≤ ((t1.2.2.2.1).length : Int) then (some (0, (t1.2.2.2.1.drop (Int.toNat t1.2.1), t1.2.2.2.2 ++ [(false, ([] : List Int) ++ (t1.2.2.2.1.take (Int.toNat t1.2.1)), 0)]))) else none) else none) else none) else none)
def rlp_reader_item.body (self0 : rlp_reader_item.Ty) (self1 : rlp_reader_list.Ty) (k : Nat) (x1 : (List Int) × (List (Bool × (List Int) × Int))) (x2 : Int) (x3 : Int) : Option (Int × ((List Int) × (List (Bool × (List Int) × Int)))) := if (((x1.1).length : Int) == 0) = true then (some (3, (x1.1, x1.2))) else (if (0 : Int) ≤ 0 ∧ 0 < ((x1.1).length : Int) then (if (decide ((rd x1.1 0) < 128)) = true then (if ((x1.2).length + ([(false, [rd x1.1 0], 0)]).length) * 40 ≤ 140737488355328 then (if (0 : Int) ≤ 1 ∧ (1 : Int) ≤ ((x1.1).length : Int) ∧ ((x1.1).length : Int) ≤ ((x1.1).length : Int) then (some (0, (x1.1.drop (Int.toNat 1), x1.2 ++ [(false, [rd x1.1 0], 0)]))) else none) else none) else ((rlp_reader_size.f k (x1.1, x1.2)).bind fun t1 => (if (t1.2.2.1 != 0) = true then (some (t1.2.2.1, (t1.2.2.2.1, t1.2.2.2.2))) else (if (decide (((t1.2.2.2.1).length : Int) < t1.2.1)) = true then (some (3, (t1.2.2.2.1, t1.2.2.2.2))) else (if (decide (x2 < (wr .i64 ((wr .i64 (((x1.1).length : Int) - ((t1.2.2.2.1).length : Int))) + t1.2.1)))) = true then (some (2, (t1.2.2.2.1, t1.2.2.2.2))) else (if (!t1.1) = true then (if (t1.2.1 == 1) = true then (if (0 : Int) ≤ 0 ∧ 0 < ((t1.2.2.2.1).length : Int) then (rlp_reader_item.j1 t1 (decide ((rd t1.2.2.2.1 0) < 128))) else none) else (rlp_reader_item.j1 t1 false)) else ((self1 (t1.2.2.2.1, t1.2.2.2.2) t1.2.1 x3).bind fun t2 => (some (t2.1, (t2.2.1, t2.2.2)))))))))) else none)
theorem rlp_reader_item.okb (self0 : rlp_reader_item.Ty) (self1 : rlp_reader_list.Ty) (c_0 : rlp_reader_item.Ctr self0) (c_1 : rlp_reader_list.Ctr self1) (k : Nat) : rlp_reader_item.Ctr (rlp_reader_item.body self0 self1 k) := by
  intro x1 x2 x3 ch_0_0 ch_0_1 ch_0_2 ch_0_3 ch_0_4 ch_0_5 r h0 mi w0 ok hm
  delta rlp_reader_item.body at h0
  refine c_enterX (n := 128) [(.v (.pointer (some ⟨ch_0_0, 0, none⟩))), (.v (.int .i64 x2)), (.v (.int .i64 x3))] (l := [(0, (.v (.pointer (some ⟨ch_0_0, 0, none⟩)))), (1, (.v (.int .i64 x2))), (2, (.v (.int .i64 x3)))]) Try.func25 rfl rfl rfl rfl ok hm ?_
  clear ok hm
  intro b0 hb a S
  refine c_region ?_
  refine s_assign S rfl rfl ?_; clear S a; intro a S
  refine c_end ?_
  refine wp_seq ?_
  refine c_region ?_
  refine s_move S rfl rfl ?_; clear S a; intro a S
  refine s_nilchk S rfl rfl ?_; clear S a; intro a S
  refine s_fieldAddr S rfl I61_0 T25 (by decide) rfl rfl ?_; clear S a; intro a S
  refine s_loadSl S rfl .here T25 (A := ch_0_1) (len := (x1.1).length) (cap := ch_0_2) rfl rfl ?_; clear S a; intro a S
  refine s_lenS S rfl Try.underlying25 rfl ?_; clear S a; intro a S
  refine s_bin S rfl rfl rfl rfl ?_; clear S a; intro a S
  refine c_end ?_
  rcases ite_of h0 with ⟨c1, h1⟩ | ⟨c1, h1⟩ <;> clear h0
  · refine c_condT S rfl c1 ?_
    refine c_region ?_
    refine s_assign S rfl rfl ?_; clear S a; intro a S
    refine c_end ?_
    refine wp_ret ?_
    refine x_thenR ?_
    obtain rfl := Option.some.inj h1
    exact b_ret1 (d := (.v (.int .i64 3))) S rfl rfl fun ok => S.retX (Hx := []) hb _ _ ((ch_0_1, ch_0_2, ch_0_3, ch_0_4, ch_0_5) : (Option Addr) × Nat × (Option Addr) × Nat × Nat) (.cons .here (.cons .here .nil)) ok
  · refine c_condF S rfl c1 ?_
    refine wp_skip ?_
    refine x_thenN ?_
    refine c_region ?_
    refine s_move S rfl rfl ?_; clear S a; intro a S
    refine s_nilchk S rfl rfl ?_; clear S a; intro a S
    refine s_fieldAddr S rfl I61_0 T25 (by decide) rfl rfl ?_; clear S a; intro a S
    refine s_loadSl S rfl .here T25 (A := ch_0_1) (len := (x1.1).length) (cap := ch_0_2) rfl rfl ?_; clear S a; intro a S
    refine s_lenS S rfl Try.underlying25 rfl ?_; clear S a; intro a S
    refine s_assign S rfl rfl ?_; clear S a; intro a S
    refine c_end ?_
    refine wp_seq ?_
    refine c_region ?_
    refine s_move S rfl rfl ?_; clear S a; intro a S
    refine s_nilchk S rfl rfl ?_; clear S a; intro a S
    refine s_fieldAddr S rfl I61_0 T25 (by decide) rfl rfl ?_; clear S a; intro a S
    refine s_loadSl S rfl .here T25 (A := ch_0_1) (len := (x1.1).length) (cap := ch_0_2) rfl rfl ?_; clear S a; intro a S
    obtain ⟨c2, h2⟩ := chk_of h1; clear h1
    refine s_iaddrS S rfl rfl rfl Try.underlying25 T5 c2.1 c2.2 rfl ?_; clear S a; intro p1 a S
    refine s_ld1 S (v := (.int .u8 (rd x1.1 0))) rfl T5 (fun _ => rfl) rfl ?_; clear S a; intro a S
    refine s_bin S rfl rfl rfl rfl ?_; clear S a; intro a S
    refine c_end ?_
    rcases ite_of h2 with ⟨c3, h3⟩ | ⟨c3, h3⟩ <;> clear h2
    · refine c_condT S rfl c3 ?_
      refine wp_seq (c_heldS S (.take 0 (.take 1 (.take 2 (.take 3 (.take 4 (.take 5 (.take 6 (.take 7 (.take 8 (.take 9 (.take 10 (.alts (.run 11 true (.take 12 (.alts (.run 13 true (.alts (.run 14 true (.alts (.run 15 true (.take 16 (.alts (.run 17 false .done .nil))) .nil)) .nil)) .nil))) .nil))))))))))))) 17 [Res.cells ch_0_0 61 [.sl ch_0_1 (x1.1).length ch_0_2 (RdS (Ty.int .u8) ch_0_1 x1.1), .one (.slice ch_0_3 ch_0_4 ch_0_5)]] (.cons .here .nil) ⟨Res.stay_cells, trivial⟩ [(0, (.v (.pointer (some ⟨ch_0_0, 0, none⟩))))] ⟨rfl, trivial⟩ (by kernel_rfl) (by kernel_rfl) ?_); clear S; intro w S CL hw le
      refine h_move S CL hw le ⟨rfl, trivial⟩ rfl rfl rfl trivial ?_; clear S CL a; intro a S CL
      refine h_move S CL hw le ⟨rfl, rfl, trivial⟩ rfl rfl rfl trivial ?_; clear S CL a; intro a S CL
      refine h_nilchk S CL hw le ⟨rfl, rfl, rfl, trivial⟩ rfl rfl rfl rfl trivial ?_; clear S CL a; intro a S CL
      refine h_fieldAddr S CL hw le ⟨rfl, rfl, rfl, rfl, trivial⟩ rfl I61_1 T29 (by decide) rfl rfl rfl trivial ?_; clear S CL a; intro a S CL
      refine h_load1 S CL hw le ⟨rfl, rfl, rfl, rfl, rfl, trivial⟩ rfl .here T29 (v := (.slice ch_0_3 ch_0_4 ch_0_5)) rfl rfl rfl trivial ?_; clear S CL a; intro a S CL
      refine h_move S CL hw le ⟨rfl, rfl, rfl, rfl, rfl, rfl, trivial⟩ rfl rfl rfl trivial ?_; clear S CL a; intro a S CL
      refine h_nilchk S CL hw le ⟨rfl, rfl, rfl, rfl, rfl, rfl, rfl, trivial⟩ rfl rfl rfl rfl trivial ?_; clear S CL a; intro a S CL
      refine h_fieldAddr S CL hw le ⟨rfl, rfl, rfl, rfl, rfl, rfl, rfl, rfl, trivial⟩ rfl I61_0 T25 (by decide) rfl rfl rfl trivial ?_; clear S CL a; intro a S CL
      refine h_loadSl S CL hw le ⟨rfl, rfl, rfl, rfl, rfl, rfl, rfl, rfl, rfl, trivial⟩ rfl .here T25 (A := ch_0_1) (len := (x1.1).length) (cap := ch_0_2) rfl rfl rfl trivial ?_; clear S CL a; intro a S CL
      refine h_iaddrS S CL hw le ⟨rfl, rfl, rfl, rfl, rfl, rfl, rfl, rfl, rfl, rfl, trivial⟩ rfl rfl rfl Try.underlying25 T5 c2.1 c2.2 rfl rfl trivial ?_; clear S CL a; intro p2 a S CL
      refine h_ld1 S CL hw le ⟨rfl, rfl, rfl, rfl, rfl, rfl, rfl, rfl, rfl, rfl, rfl, trivial⟩ (v := (.int .u8 (rd x1.1 0))) rfl T5 (fun _ => rfl) rfl rfl trivial ?_; clear S CL a; intro a S CL
      refine h_run' S rfl trivial ?_
      refine s_bldSl S (ty' := (Ty.int .u8)) (ds := [(0, (.v (.int .u8 (rd x1.1 0))))]) (z := 0) (c0 := ()) (ys := [rd x1.1 0]) (cs := [()]) rfl Try.underlying25 J5 Z5 rfl ⟨rfl, trivial⟩ rfl rfl rfl rfl rfl rfl ?_; clear S a; intro g1 a w S
      replace hw := CL.again hw S (.cons (.there .here) .nil) le
      refine h_back ⟨fun _ => hw, ?_⟩
      replace CL := CL.add (t := 40) (d := (.v (.slice (some ⟨g1, 0, none⟩) 1 1))) S rfl rfl
      refine h_bldS S CL hw le ⟨rfl, rfl, rfl, rfl, rfl, rfl, rfl, rfl, rfl, rfl, rfl, rfl, rfl, trivial⟩ (ds := [(1, (.v (.slice (some ⟨g1, 0, none⟩) 1 1)))]) (zs := [.one (.bool false), .one (.slice none 0 0), .one (.int .i64 0)]) (s' := [.one (.bool false), .one (.slice (some ⟨g1, 0, none⟩) 1 1), .one (.int .i64 0)]) rfl Try.underlying43 P43 Z43 ⟨rfl, rfl, rfl, trivial⟩ rfl rfl rfl trivial ?_; clear S CL a; intro a S CL
      refine h_run' S rfl trivial ?_
      replace S := S.rowfro .here
      obtain ⟨m, le1, S, hro⟩ := S
      replace le := le.trans le1
      replace S := S.slot (u := 41) (d' := (.agg [.one (.bool false), .sl (some ⟨g1, 0, none⟩) ([rd x1.1 0]).length 1 (RdS (Ty.int .u8) (some ⟨g1, 0, none⟩) [rd x1.1 0]), .one (.int .i64 0)])) rfl (by simp [D.val, cellsOf, Seg.cells, hro.2.1]) (by have h := (S.get 41 (.agg [.one (.bool false), .one (.slice (some ⟨g1, 0, none⟩) 1 1), .one (.int .i64 0)]) rfl).2; exact ⟨h.1, ⟨by have := hro.2.2.1; omega, hro.2.2.2, hro.1, RdS.mono _ _ _⟩, h.2.2.1, trivial⟩)
      replace S := S.slotro (u := 40) rfl hro
      replace CL := CL.drop (lq' := [(39, (.v (.int .u8 (rd x1.1 0)))), (38, (.pt p2 (At (Ty.int .u8) p2 (rd x1.1 0)))), (37, (.sl ch_0_1 (x1.1).length ch_0_2 (RdS (Ty.int .u8) ch_0_1 x1.1))), (36, (.v (.pointer (some ⟨ch_0_0, 0, none⟩)))), (35, (.v (.pointer (some ⟨ch_0_0, 0, none⟩)))), (34, (.v (.pointer (some ⟨ch_0_0, 0, none⟩)))), (33, (.v (.slice ch_0_3 ch_0_4 ch_0_5))), (32, (.v (.pointer (some ⟨ch_0_0, 1, none⟩)))), (31, (.v (.pointer (some ⟨ch_0_0, 0, none⟩)))), (30, (.v (.pointer (some ⟨ch_0_0, 0, none⟩)))), (29, (.v (.pointer (some ⟨ch_0_0, 0, none⟩)))), (0, (.v (.pointer (some ⟨ch_0_0, 0, none⟩))))]) ⟨rfl, rfl, rfl, rfl, rfl, rfl, rfl, rfl, rfl, rfl, rfl, rfl, trivial⟩
      refine s_bldSl S (ty' := (Ty.prod Ty.bool (Ty.prod (Ty.slice (Ty.int .u8)) (Ty.int .i64)))) (ds := [(0, (.agg [.one (.bool false), .sl (some ⟨g1, 0, none⟩) ([rd x1.1 0]).length 1 (RdS (Ty.int .u8) (some ⟨g1, 0, none⟩) [rd x1.1 0]), .one (.int .i64 0)]))]) (z := (false, ([] : List Int), 0)) (c0 := ((), (none, 0), ())) (ys := [(false, [rd x1.1 0], 0)]) (cs := [((), ((some ⟨g1, 0, none⟩), 1), ())]) rfl Try.underlying29 J43 Z43 rfl ⟨rfl, ⟨Nat.le_refl _, Nat.zero_le _, RdS.nil _ _ _, RdS.mono _ _ _⟩, rfl, trivial⟩ rfl rfl rfl rfl rfl rfl ?_; clear S a; intro g2 a w S
      replace hw := CL.again hw S (.cons (.there .here) .nil) le
      refine h_back ⟨fun _ => hw, ?_⟩
      refine h_run' S rfl trivial ?_
      obtain ⟨c4, h4⟩ := chk_of h3; clear h3
      refine s_app S (k2 := 1) (ys := [(false, [rd x1.1 0], 0)]) rfl (fun _ _ => (.there (.there .here))) rfl rfl (S.holds _ (Pull.mem .here).1).1 (Res.row.src (S.holds _ (Pull.mem .here).1)) Try.underlying29 J43 c4 rfl ?_; clear S a; intro A1 cp1 a w S
      replace hw := CL.again hw S (.cons (.there .here) .nil) le
      refine h_back ⟨fun _ => hw, ?_⟩
      refine h_run' S rfl trivial ?_
      refine s_nilchk S rfl rfl ?_; clear S a; intro a S
      replace hw := CL.again hw S (.cons (.there .here) .nil) le
      refine h_back ⟨fun _ => hw, ?_⟩
      replace CL := CL.add (t := 44) (d := (.v (.pointer (some ⟨ch_0_0, 0, none⟩)))) S rfl rfl
      refine h_fieldAddr S CL hw le ⟨rfl, rfl, rfl, rfl, rfl, rfl, rfl, rfl, rfl, rfl, rfl, rfl, rfl, trivial⟩ rfl I61_1 T29 (by decide) rfl rfl rfl trivial ?_; clear S CL a; intro a S CL
      refine h_run' S rfl trivial ?_
      refine s_store S rfl rfl rfl (s' := [.sl ch_0_1 (x1.1).length ch_0_2 (RdS (Ty.int .u8) ch_0_1 x1.1), .one (.slice A1 (ch_0_4 + 1) cp1)]) (.there .here) T29 rfl rfl ?_; clear S; intro w S
      refine h_back ⟨fun h => (nomatch h), ?_⟩
      refine h_done ?_; clear CL hw le
      refine x_thenN ?_
      refine c_region ?_
      refine s_move S rfl rfl ?_; clear S a; intro a S
      refine s_move S rfl rfl ?_; clear S a; intro a S
      refine s_nilchk S rfl rfl ?_; clear S a; intro a S
      refine s_fieldAddr S rfl I61_0 T25 (by decide) rfl rfl ?_; clear S a; intro a S
      refine s_loadSl S rfl (.there .here) T25 (A := ch_0_1) (len := (x1.1).length) (cap := ch_0_2) rfl rfl ?_; clear S a; intro a S
      obtain ⟨c5, h5⟩ := chk_of h4; clear h4
      refine s_cutS S (i := 1) (j := ((x1.1).length : Int)) (ys := x1.1.drop (Int.toNat 1)) rfl rfl Try.underlying25 T5 (.inr ⟨_, _, rfl, rfl⟩) (.inl ⟨rfl, rfl⟩) c5 rfl (cut_end rfl) ?_; clear S a; intro A2 cp2 a S
      refine s_nilchk S rfl rfl ?_; clear S a; intro a S
      refine s_fieldAddr S rfl I61_0 T25 (by decide) rfl rfl ?_; clear S a; intro a S
      refine s_store S rfl rfl rfl (s' := [.sl A2 (x1.1.drop (Int.toNat 1)).length cp2 (RdS (Ty.int .u8) A2 (x1.1.drop (Int.toNat 1))), .one (.slice A1 (ch_0_4 + 1) cp1)]) (.there .here) T25 rfl rfl ?_; clear S w; intro w S
      refine c_end ?_
      refine c_region ?_
      refine s_assign S rfl rfl ?_; clear S a; intro a S
      refine c_end ?_
      refine wp_ret ?_
      refine x_thenR ?_
      obtain rfl := Option.some.inj h5
      exact b_ret1 (d := (.v (.int .i64 0))) S rfl rfl fun ok => S.retX (Hx := []) hb _ _ ((A2, cp2, A1, ch_0_4 + 1, cp1) : (Option Addr) × Nat × (Option Addr) × Nat × Nat) (.cons (.there .here) (.cons (.there .here) .nil)) ok
    · refine c_condF S rfl c3 ?_
      refine wp_skip ?_
      refine x_thenN ?_
      refine c_region ?_
      refine s_move S rfl rfl ?_; clear S a; intro a S
      obtain ⟨t1, et1, h4⟩ := bind_of h3; clear h3
      refine s_callX S (ds' := [(.v (.pointer (some ⟨ch_0_0, 0, none⟩)))]) (ds := [(.v (.pointer (some ⟨ch_0_0, 0, none⟩)))]) [Res.cells ch_0_0 61 [.sl ch_0_1 (x1.1).length ch_0_2 (RdS (Ty.int .u8) ch_0_1 x1.1), .one (.slice ch_0_3 ch_0_4 ch_0_5)], Res.row (Ty.prod Ty.bool (Ty.prod (Ty.slice (Ty.int .u8)) (Ty.int .i64))) 43 ch_0_3 ch_0_4 ch_0_5 x1.2] [] (fun (ch : (Option Addr) × Nat × (Option Addr) × Nat × Nat) => ((.tup [(false, [.one (.bool t1.1)]), (false, [.one (.int .i64 t1.2.1)]), (false, [.one (.int .i64 t1.2.2.1)])]) : D)) (fun (ch : (Option Addr) × Nat × (Option Addr) × Nat × Nat) => [Res.cells ch_0_0 61 [.sl ch.1 (t1.2.2.2.1).length ch.2.1 (RdS (Ty.int .u8) ch.1 t1.2.2.2.1), .one (.slice ch.2.2.1 ch.2.2.2.1 ch.2.2.2.2)], Res.row (Ty.prod Ty.bool (Ty.prod (Ty.slice (Ty.int .u8)) (Ty.int .i64))) 43 ch.2.2.1 ch.2.2.2.1 ch.2.2.2.2 t1.2.2.2.2]) (fun (ch : (Option Addr) × Nat × (Option Addr) × Nat × Nat) => [Res.cells ch_0_0 61 [.sl ch.1 (t1.2.2.2.1).length ch.2.1 (RdS (Ty.int .u8) ch.1 t1.2.2.2.1), .one (.slice ch.2.2.1 ch.2.2.2.1 ch.2.2.2.2)], Res.row (Ty.prod Ty.bool (Ty.prod (Ty.slice (Ty.int .u8)) (Ty.int .i64))) 43 ch.2.2.1 ch.2.2.2.1 ch.2.2.2.2 t1.2.2.2.2]) (fun _ => rfl) N31 rfl rfl (fun ok => ok) (.cons .here (.cons .here .nil)) rfl (rlp_reader_size.ok k (x1.1, x1.2) ch_0_0 ch_0_1 ch_0_2 ch_0_3 ch_0_4 ch_0_5 t1 et1 _ _) ?_; clear S a; intro ch1 m le1 a w S
      refine s_move S rfl rfl ?_; clear S a; intro a S
      refine s_extract S rfl rfl rfl rfl ?_; clear S a; intro a S
      refine s_extract S rfl rfl rfl rfl ?_; clear S a; intro a S
      refine s_extract S rfl rfl rfl rfl ?_; clear S a; intro a S
      refine s_assign S rfl rfl ?_; clear S a; intro a S
      refine s_assign S rfl rfl ?_; clear S a; intro a S
      refine s_assign S rfl rfl ?_; clear S a; intro a S
      refine c_end ?_
      refine wp_seq ?_
      refine wp_block ?_
      refine c_region ?_
      refine s_move S rfl rfl ?_; clear S a; intro a S
      refine s_bin S rfl rfl rfl rfl ?_; clear S a; intro a S
      refine s_assign S rfl rfl ?_; clear S a; intro a S
      refine c_end ?_
      rcases ite_of h4 with ⟨c6, h5⟩ | ⟨c6, h5⟩ <;> clear h4
      · refine c_condT S rfl c6 ?_
        refine c_region ?_
        refine s_move S rfl rfl ?_; clear S a; intro a S
        refine s_assign S rfl rfl ?_; clear S a; intro a S
        refine c_end ?_
        refine wp_ret ?_
        refine x_blockR ?_
        refine x_thenR ?_
        obtain rfl := Option.some.inj h5
        exact b_ret1 (d := (.v (.int .i64 t1.2.2.1))) S rfl rfl fun ok => S.retX (Hx := []) hb _ _ ((ch1.1, ch1.2.1, ch1.2.2.1, ch1.2.2.2.1, ch1.2.2.2.2) : (Option Addr) × Nat × (Option Addr) × Nat × Nat) (.cons .here (.cons .here .nil)) ok
      · refine c_condF S rfl c6 ?_
        refine c_region ?_
        refine s_move S rfl rfl ?_; clear S a; intro a S
        refine s_move S rfl rfl ?_; clear S a; intro a S
        refine s_nilchk S rfl rfl ?_; clear S a; intro a S
        refine s_fieldAddr S rfl I61_0 T25 (by decide) rfl rfl ?_; clear S a; intro a S
        refine s_loadSl S rfl .here T25 (A := ch1.1) (len := (t1.2.2.2.1).length) (cap := ch1.2.1) rfl rfl ?_; clear S a; intro a S
        refine s_lenS S rfl Try.underlying25 rfl ?_; clear S a; intro a S
        refine s_bin S rfl rfl rfl rfl ?_; clear S a; intro a S
        refine s_assign S rfl rfl ?_; clear S a; intro a S
        refine c_end ?_
        rcases ite_of h5 with ⟨c7, h6⟩ | ⟨c7, h6⟩ <;> clear h5
        · refine c_condT S rfl c7 ?_
          refine c_region ?_
          refine s_assign S rfl rfl ?_; clear S a; intro a S
          refine c_end ?_
          refine wp_ret ?_
          refine x_blockR ?_
          refine x_thenR ?_
          obtain rfl := Option.some.inj h6
          exact b_ret1 (d := (.v (.int .i64 3))) S rfl rfl fun ok => S.retX (Hx := []) hb _ _ ((ch1.1, ch1.2.1, ch1.2.2.1, ch1.2.2.2.1, ch1.2.2.2.2) : (Option Addr) × Nat × (Option Addr) × Nat × Nat) (.cons .here (.cons .here .nil)) ok
        · refine c_condF S rfl c7 ?_
          refine c_region ?_
          refine s_move S rfl rfl ?_; clear S a; intro a S
          refine s_move S rfl rfl ?_; clear S a; intro a S
          refine s_nilchk S rfl rfl ?_; clear S a; intro a S
          refine s_fieldAddr S rfl I61_0 T25 (by decide) rfl rfl ?_; clear S a; intro a S
          refine s_loadSl S rfl .here T25 (A := ch1.1) (len := (t1.2.2.2.1).length) (cap := ch1.2.1) rfl rfl ?_; clear S a; intro a S
          refine s_lenS S rfl Try.underlying25 rfl ?_; clear S a; intro a S
          refine s_bin S rfl rfl rfl rfl ?_; clear S a; intro a S
          refine s_move S rfl rfl ?_; clear S a; intro a S
          refine s_bin S rfl rfl rfl rfl ?_; clear S a; intro a S
          refine s_move S rfl rfl ?_; clear S a; intro a S
          refine s_bin S rfl rfl rfl rfl ?_; clear S a; intro a S
          refine s_assign S rfl rfl ?_; clear S a; intro a S
          refine c_end ?_
          rcases ite_of h6 with ⟨c8, h7⟩ | ⟨c8, h7⟩ <;> clear h6
          · refine c_condT S rfl c8 ?_
            refine c_region ?_
            refine s_assign S rfl rfl ?_; clear S a; intro a S
            refine c_end ?_
            refine wp_ret ?_
            refine x_blockR ?_
            refine x_thenR ?_
            obtain rfl := Option.some.inj h7
            exact b_ret1 (d := (.v (.int .i64 2))) S rfl rfl fun ok => S.retX (Hx := []) hb _ _ ((ch1.1, ch1.2.1, ch1.2.2.1, ch1.2.2.2.1, ch1.2.2.2.2) : (Option Addr) × Nat × (Option Addr) × Nat × Nat) (.cons .here (.cons .here .nil)) ok
          · refine c_condF S rfl c8 ?_
            refine wp_skip ?_
            refine x_blockN ?_
            refine x_thenN ?_
            refine wp_seq ?_
            refine c_region ?_
            refine s_move S rfl rfl ?_; clear S a; intro a S
            refine s_not S rfl rfl ?_; clear S a; intro a S
            refine c_end ?_
            rcases ite_of h7 with ⟨c9, h8⟩ | ⟨c9, h8⟩ <;> clear h7
            · refine c_condT S rfl c9 ?_
              refine wp_seq ?_
              refine wp_seq_k ?_
              intro K1 hK1
              have j1 : ∀ (m : Mem) (y1 : Bool) (A3 : Option Addr) (cp3 : Nat) (A4 : Option Addr) (nn1 : Nat) (cp4 : Nat) (a : Act) (w : World), St 128 m b0 [(96, (.v (.bool y1))), (9, (.v (.int .i64 t1.2.1))), (0, (.v (.pointer (some ⟨ch_0_0, 0, none⟩))))] [Res.cells ch_0_0 61 [.sl A3 (t1.2.2.2.1).length cp3 (RdS (Ty.int .u8) A3 t1.2.2.2.1), .one (.slice A4 nn1 cp4)], Res.row (Ty.prod Ty.bool (Ty.prod (Ty.slice (Ty.int .u8)) (Ty.int .i64))) 43 A4 nn1 cp4 t1.2.2.2.2] a w → rlp_reader_item.j1 t1 y1 = some r → K1 a w := by
                intro m y1 A3 cp3 A4 nn1 cp4 a w S h0
                delta rlp_reader_item.j1 at h0
                refine hK1 a w ?_
                rcases ite_of h0 with ⟨c10, h1⟩ | ⟨c10, h1⟩ <;> clear h0
                · refine c_condT S rfl c10 ?_
                  refine c_region ?_
                  refine s_assign S rfl rfl ?_; clear S a; intro a S
                  refine c_end ?_
                  refine wp_ret ?_
                  refine x_thenR ?_
                  refine x_thenR ?_
                  obtain rfl := Option.some.inj h1
                  exact b_ret1 (d := (.v (.int .i64 2))) S rfl rfl fun ok => S.retX (Hx := []) hb _ _ ((A3, cp3, A4, nn1, cp4) : (Option Addr) × Nat × (Option Addr) × Nat × Nat) (.cons .here (.cons .here .nil)) ok
                · refine c_condF S rfl c10 ?_
                  refine wp_skip ?_
                  refine x_thenN ?_
                  refine wp_seq (c_heldS S (.take 0 (.take 1 (.take 2 (.take 3 (.take 4 (.take 6 (.take 7 (.take 8 (.take 9 (.take 10 (.take 11 (.alts (.run 5 true (.alts (.run 12 true (.take 13 (.alts (.run 14 true (.alts (.run 15 true (.alts (.run 16 true (.take 17 (.alts (.run 18 false .done .nil))) .nil)) .nil)) .nil))) .nil)) .nil))))))))))))) 18 [Res.cells ch_0_0 61 [.sl A3 (t1.2.2.2.1).length cp3 (RdS (Ty.int .u8) A3 t1.2.2.2.1), .one (.slice A4 nn1 cp4)]] (.cons .here .nil) ⟨Res.stay_cells, trivial⟩ [(9, (.v (.int .i64 t1.2.1))), (0, (.v (.pointer (some ⟨ch_0_0, 0, none⟩))))] ⟨rfl, rfl, trivial⟩ (by kernel_rfl) (by kernel_rfl) ?_); clear S; intro w S CL hw le
                  refine h_move S CL hw le ⟨rfl, rfl, trivial⟩ rfl rfl rfl trivial ?_; clear S CL a; intro a S CL
                  refine h_move S CL hw le ⟨rfl, rfl, rfl, trivial⟩ rfl rfl rfl trivial ?_; clear S CL a; intro a S CL
                  refine h_nilchk S CL hw le ⟨rfl, rfl, rfl, rfl, trivial⟩ rfl rfl rfl rfl trivial ?_; clear S CL a; intro a S CL
                  refine h_fieldAddr S CL hw le ⟨rfl, rfl, rfl, rfl, rfl, trivial⟩ rfl I61_1 T29 (by decide) rfl rfl rfl trivial ?_; clear S CL a; intro a S CL
                  refine h_load1 S CL hw le ⟨rfl, rfl, rfl, rfl, rfl, rfl, trivial⟩ rfl .here T29 (v := (.slice A4 nn1 cp4)) rfl rfl rfl trivial ?_; clear S CL a; intro a S CL
                  refine h_move S CL hw le ⟨rfl, rfl, rfl, rfl, rfl, rfl, rfl, trivial⟩ rfl rfl rfl trivial ?_; clear S CL a; intro a S CL
                  refine h_nilchk S CL hw le ⟨rfl, rfl, rfl, rfl, rfl, rfl, rfl, rfl, trivial⟩ rfl rfl rfl rfl trivial ?_; clear S CL a; intro a S CL
                  refine h_fieldAddr S CL hw le ⟨rfl, rfl, rfl, rfl, rfl, rfl, rfl, rfl, rfl, trivial⟩ rfl I61_0 T25 (by decide) rfl rfl rfl trivial ?_; clear S CL a; intro a S CL
                  refine h_loadSl S CL hw le ⟨rfl, rfl, rfl, rfl, rfl, rfl, rfl, rfl, rfl, rfl, trivial⟩ rfl .here T25 (A := A3) (len := (t1.2.2.2.1).length) (cap := cp3) rfl rfl rfl trivial ?_; clear S CL a; intro a S CL
                  refine h_move S CL hw le ⟨rfl, rfl, rfl, rfl, rfl, rfl, rfl, rfl, rfl, rfl, rfl, trivial⟩ rfl rfl rfl trivial ?_; clear S CL a; intro a S CL
                  obtain ⟨c11, h2⟩ := chk_of h1; clear h1
                  refine h_cutS S CL hw le ⟨rfl, rfl, rfl, rfl, rfl, rfl, rfl, rfl, rfl, rfl, rfl, rfl, trivial⟩ (i := 0) (j := t1.2.1) (ys := t1.2.2.2.1.take (Int.toNat t1.2.1)) rfl rfl Try.underlying25 T5 (.inl ⟨rfl, rfl⟩) (.inr ⟨_, _, rfl, rfl⟩) c11 rfl (cut_pre rfl) rfl trivial ?_; clear S CL a; intro A5 cp5 a S CL
                  refine h_run' S rfl trivial ?_
                  refine s_bldSl S (ty' := (Ty.int .u8)) (ds := []) (z := 0) (c0 := ()) (ys := ([] : List Int)) (cs := []) rfl Try.underlying25 J5 Z5 rfl ⟨rfl, trivial⟩ rfl rfl rfl rfl rfl rfl ?_; clear S a; intro g3 a w S
                  replace hw := CL.again hw S (.cons (.there .here) .nil) le
                  refine h_back ⟨fun _ => hw, ?_⟩
                  refine h_run' S rfl trivial ?_
                  obtain ⟨c12, h3⟩ := chk_of h2; clear h2
                  refine s_app S (k2 := ((t1.2.2.2.1.take (Int.toNat t1.2.1)).length)) (ys := (t1.2.2.2.1.take (Int.toNat t1.2.1))) rfl (fun _ _ => .here) rfl rfl rfl (RdS.src (S.get 108 (.sl A5 (t1.2.2.2.1.take (Int.toNat t1.2.1)).length cp5 (RdS (Ty.int .u8) A5 (t1.2.2.2.1.take (Int.toNat t1.2.1)))) rfl).2.2.2.1 (by decide) S.frz) Try.underlying25 J5 c12 rfl ?_; clear S a; intro A6 cp6 a w S
                  replace hw := CL.again hw S (.cons (.there .here) .nil) le
                  refine h_back ⟨fun _ => hw, ?_⟩
                  replace CL := CL.add (t := 109) (d := (.v (.slice A6 (0 + ((t1.2.2.2.1.take (Int.toNat t1.2.1)).length)) cp6))) S rfl rfl
                  refine h_bldS S CL hw le ⟨rfl, rfl, rfl, rfl, rfl, rfl, rfl, rfl, rfl, rfl, rfl, rfl, rfl, rfl, trivial⟩ (ds := [(1, (.v (.slice A6 (0 + ((t1.2.2.2.1.take (Int.toNat t1.2.1)).length)) cp6)))]) (zs := [.one (.bool false), .one (.slice none 0 0), .one (.int .i64 0)]) (s' := [.one (.bool false), .one (.slice A6 (0 + ((t1.2.2.2.1.take (Int.toNat t1.2.1)).length)) cp6), .one (.int .i64 0)]) rfl Try.underlying43 P43 Z43 ⟨rfl, rfl, rfl, trivial⟩ rfl rfl rfl trivial ?_; clear S CL a; intro a S CL
                  refine h_run' S rfl trivial ?_
                  replace S := S.rowfro .here
                  obtain ⟨m, le1, S, hro⟩ := S
                  replace le := le.trans le1
                  replace S := S.slot (u := 110) (d' := (.agg [.one (.bool false), .sl A6 (([] : List Int) ++ (t1.2.2.2.1.take (Int.toNat t1.2.1))).length cp6 (RdS (Ty.int .u8) A6 (([] : List Int) ++ (t1.2.2.2.1.take (Int.toNat t1.2.1)))), .one (.int .i64 0)])) rfl (by simp [D.val, cellsOf, Seg.cells, hro.2.1]) (by have h := (S.get 110 (.agg [.one (.bool false), .one (.slice A6 (0 + ((t1.2.2.2.1.take (Int.toNat t1.2.1)).length)) cp6), .one (.int .i64 0)]) rfl).2; exact ⟨h.1, ⟨by have := hro.2.2.1; omega, hro.2.2.2, hro.1, RdS.mono _ _ _⟩, h.2.2.1, trivial⟩)
                  replace S := S.slotro (u := 109) rfl hro
                  replace CL := CL.drop (lq' := [(108, (.sl A5 (t1.2.2.2.1.take (Int.toNat t1.2.1)).length cp5 (RdS (Ty.int .u8) A5 (t1.2.2.2.1.take (Int.toNat t1.2.1))))), (107, (.v (.int .i64 t1.2.1))), (106, (.sl A3 (t1.2.2.2.1).length cp3 (RdS (Ty.int .u8) A3 t1.2.2.2.1))), (105, (.v (.pointer (some ⟨ch_0_0, 0, none⟩)))), (104, (.v (.pointer (some ⟨ch_0_0, 0, none⟩)))), (103, (.v (.pointer (some ⟨ch_0_0, 0, none⟩)))), (101, (.v (.slice A4 nn1 cp4))), (100, (.v (.pointer (some ⟨ch_0_0, 1, none⟩)))), (99, (.v (.pointer (some ⟨ch_0_0, 0, none⟩)))), (98, (.v (.pointer (some ⟨ch_0_0, 0, none⟩)))), (97, (.v (.pointer (some ⟨ch_0_0, 0, none⟩)))), (9, (.v (.int .i64 t1.2.1))), (0, (.v (.pointer (some ⟨ch_0_0, 0, none⟩))))]) ⟨rfl, rfl, rfl, rfl, rfl, rfl, rfl, rfl, rfl, rfl, rfl, rfl, rfl, trivial⟩
                  refine s_bldSl S (ty' := (Ty.prod Ty.bool (Ty.prod (Ty.slice (Ty.int .u8)) (Ty.int .i64)))) (ds := [(0, (.agg [.one (.bool false), .sl A6 (([] : List Int) ++ (t1.2.2.2.1.take (Int.toNat t1.2.1))).length cp6 (RdS (Ty.int .u8) A6 (([] : List Int) ++ (t1.2.2.2.1.take (Int.toNat t1.2.1)))), .one (.int .i64 0)]))]) (z := (false, ([] : List Int), 0)) (c0 := ((), (none, 0), ())) (ys := [(false, ([] : List Int) ++ (t1.2.2.2.1.take (Int.toNat t1.2.1)), 0)]) (cs := [((), (A6, cp6), ())]) rfl Try.underlying29 J43 Z43 rfl ⟨rfl, ⟨Nat.le_refl _, Nat.zero_le _, RdS.nil _ _ _, RdS.mono _ _ _⟩, rfl, trivial⟩ rfl rfl rfl rfl rfl rfl ?_; clear S a; intro g4 a w S
                  replace hw := CL.again hw S (.cons (.there .here) .nil) le
                  refine h_back ⟨fun _ => hw, ?_⟩
                  refine h_run' S rfl trivial ?_
                  obtain ⟨c13, h4⟩ := chk_of h3; clear h3
                  refine s_app S (k2 := 1) (ys := [(false, ([] : List Int) ++ (t1.2.2.2.1.take (Int.toNat t1.2.1)), 0)]) rfl (fun _ _ => (.there (.there .here))) rfl rfl (S.holds _ (Pull.mem .here).1).1 (Res.row.src (S.holds _ (Pull.mem .here).1)) Try.underlying29 J43 c13 rfl ?_; clear S a; intro A7 cp7 a w S
                  replace hw := CL.again hw S (.cons (.there .here) .nil) le
                  refine h_back ⟨fun _ => hw, ?_⟩
                  refine h_run' S rfl trivial ?_
                  refine s_nilchk S rfl rfl ?_; clear S a; intro a S
                  replace hw := CL.again hw S (.cons (.there .here) .nil) le
                  refine h_back ⟨fun _ => hw, ?_⟩
                  replace CL := CL.add (t := 113) (d := (.v (.pointer (some ⟨ch_0_0, 0, none⟩)))) S rfl rfl
                  refine h_fieldAddr S CL hw le ⟨rfl, rfl, rfl, rfl, rfl, rfl, rfl, rfl, rfl, rfl, rfl, rfl, rfl, rfl, trivial⟩ rfl I61_1 T29 (by decide) rfl rfl rfl trivial ?_; clear S CL a; intro a S CL
                  refine h_run' S rfl trivial ?_
                  refine s_store S rfl rfl rfl (s' := [.sl A3 (t1.2.2.2.1).length cp3 (RdS (Ty.int .u8) A3 t1.2.2.2.1), .one (.slice A7 (nn1 + 1) cp7)]) (.there .here) T29 rfl rfl ?_; clear S; intro w S
                  refine h_back ⟨fun h => (nomatch h), ?_⟩
                  refine h_done ?_; clear CL hw le
                  refine x_thenN ?_
                  refine c_region ?_
                  refine s_move S rfl rfl ?_; clear S a; intro a S
                  refine s_move S rfl rfl ?_; clear S a; intro a S
                  refine s_nilchk S rfl rfl ?_; clear S a; intro a S
                  refine s_fieldAddr S rfl I61_0 T25 (by decide) rfl rfl ?_; clear S a; intro a S
                  refine s_loadSl S rfl (.there .here) T25 (A := A3) (len := (t1.2.2.2.1).length) (cap := cp3) rfl rfl ?_; clear S a; intro a S
                  refine s_move S rfl rfl ?_; clear S a; intro a S
                  obtain ⟨c14, h5⟩ := chk_of h4; clear h4
                  refine s_cutS S (i := t1.2.1) (j := ((t1.2.2.2.1).length : Int)) (ys := t1.2.2.2.1.drop (Int.toNat t1.2.1)) rfl rfl Try.underlying25 T5 (.inr ⟨_, _, rfl, rfl⟩) (.inl ⟨rfl, rfl⟩) c14 rfl (cut_end rfl) ?_; clear S a; intro A8 cp8 a S
                  refine s_nilchk S rfl rfl ?_; clear S a; intro a S
                  refine s_fieldAddr S rfl I61_0 T25 (by decide) rfl rfl ?_; clear S a; intro a S
                  refine s_store S rfl rfl rfl (s' := [.sl A8 (t1.2.2.2.1.drop (Int.toNat t1.2.1)).length cp8 (RdS (Ty.int .u8) A8 (t1.2.2.2.1.drop (Int.toNat t1.2.1))), .one (.slice A7 (nn1 + 1) cp7)]) (.there .here) T25 rfl rfl ?_; clear S w; intro w S
                  refine c_end ?_
                  refine c_region ?_
                  refine s_assign S rfl rfl ?_; clear S a; intro a S
                  refine c_end ?_
                  refine wp_ret ?_
                  refine x_thenR ?_
                  obtain rfl := Option.some.inj h5
                  exact b_ret1 (d := (.v (.int .i64 0))) S rfl rfl fun ok => S.retX (Hx := []) hb _ _ ((A8, cp8, A7, nn1 + 1, cp7) : (Option Addr) × Nat × (Option Addr) × Nat × Nat) (.cons (.there .here) (.cons (.there .here) .nil)) ok
              refine c_region' ?_
              refine s_move S rfl rfl ?_; clear S a; intro a S
              refine s_bin S rfl rfl rfl rfl ?_; clear S a; intro a S
              refine s_move S rfl rfl ?_; clear S a; intro a S
              rcases ite_of h8 with ⟨c15, h9⟩ | ⟨c15, h9⟩ <;> clear h8
              · refine s_gT S (b := (t1.2.1 == 1)) rfl rfl c15 ?_
                refine s_move S rfl rfl ?_; clear S a; intro a S
                refine s_gT S (b := (t1.2.1 == 1)) rfl rfl c15 ?_
                refine s_nilchk S rfl rfl ?_; clear S a; intro a S
                refine s_gT S (b := (t1.2.1 == 1)) rfl rfl c15 ?_
                refine s_fieldAddr S rfl I61_0 T25 (by decide) rfl rfl ?_; clear S a; intro a S
                refine s_gT S (b := (t1.2.1 == 1)) rfl rfl c15 ?_
                refine s_loadSl S rfl .here T25 (A := ch1.1) (len := (t1.2.2.2.1).length) (cap := ch1.2.1) rfl rfl ?_; clear S a; intro a S
                refine s_gT S (b := (t1.2.1 == 1)) rfl rfl c15 ?_
                obtain ⟨c16, h10⟩ := chk_of h9; clear h9
                refine s_iaddrS S rfl rfl rfl Try.underlying25 T5 c16.1 c16.2 rfl ?_; clear S a; intro p4 a S
                refine s_gT S (b := (t1.2.1 == 1)) rfl rfl c15 ?_
                refine s_ld1 S (v := (.int .u8 (rd t1.2.2.2.1 0))) rfl T5 (fun _ => rfl) rfl ?_; clear S a; intro a S
                refine s_gT S (b := (t1.2.1 == 1)) rfl rfl c15 ?_
                refine s_bin S rfl rfl rfl rfl ?_; clear S a; intro a S
                refine s_pick S (b := true) (hc_of rfl c15) rfl rfl ?_; clear S a; intro a S
                refine c_end' ?_
                refine x_thenN ?_
                exact j1 _ (decide ((rd t1.2.2.2.1 0) < 128)) ch1.1 ch1.2.1 ch1.2.2.1 ch1.2.2.2.1 ch1.2.2.2.2 a w (S.sub ⟨rfl, rfl, rfl, trivial⟩ (.cons .here (.cons .here .nil))) h10
              · refine s_gF S (b := (t1.2.1 == 1)) rfl rfl c15 rfl ?_; clear S a; intro a S
                refine s_gF S (b := (t1.2.1 == 1)) rfl rfl c15 rfl ?_; clear S a; intro a S
                refine s_gF S (b := (t1.2.1 == 1)) rfl rfl c15 rfl ?_; clear S a; intro a S
                refine s_gF S (b := (t1.2.1 == 1)) rfl rfl c15 rfl ?_; clear S a; intro a S
                refine s_gF S (b := (t1.2.1 == 1)) rfl rfl c15 rfl ?_; clear S a; intro a S
                refine s_gF S (b := (t1.2.1 == 1)) rfl rfl c15 rfl ?_; clear S a; intro a S
                refine s_gF S (b := (t1.2.1 == 1)) rfl rfl c15 rfl ?_; clear S a; intro a S
                refine s_pick S (b := false) (hc_of rfl c15) rfl rfl ?_; clear S a; intro a S
                refine c_end' ?_
                refine x_thenN ?_
                exact j1 _ false ch1.1 ch1.2.1 ch1.2.2.1 ch1.2.2.2.1 ch1.2.2.2.2 a w (S.sub ⟨rfl, rfl, rfl, trivial⟩ (.cons .here (.cons .here .nil))) h9
            · refine c_condF S rfl c9 ?_
              refine wp_skip ?_
              refine x_thenN ?_
              refine c_region ?_
              refine s_move S rfl rfl ?_; clear S a; intro a S
              refine s_move S rfl rfl ?_; clear S a; intro a S
              refine s_move S rfl rfl ?_; clear S a; intro a S
              obtain ⟨t2, et2, h9⟩ := bind_of h8; clear h8
              refine s_callX S (ds' := [(.v (.pointer (some ⟨ch_0_0, 0, none⟩))), (.v (.int .i64 t1.2.1)), (.v (.int .i64 x3))]) (ds := [(.v (.pointer (some ⟨ch_0_0, 0, none⟩))), (.v (.int .i64 t1.2.1)), (.v (.int .i64 x3))]) [Res.cells ch_0_0 61 [.sl ch1.1 (t1.2.2.2.1).length ch1.2.1 (RdS (Ty.int .u8) ch1.1 t1.2.2.2.1), .one (.slice ch1.2.2.1 ch1.2.2.2.1 ch1.2.2.2.2)], Res.row (Ty.prod Ty.bool (Ty.prod (Ty.slice (Ty.int .u8)) (Ty.int .i64))) 43 ch1.2.2.1 ch1.2.2.2.1 ch1.2.2.2.2 t1.2.2.2.2] [] (fun (ch : (Option Addr) × Nat × (Option Addr) × Nat × Nat) => ((.v (.int .i64 t2.1)) : D)) (fun (ch : (Option Addr) × Nat × (Option Addr) × Nat × Nat) => [Res.cells ch_0_0 61 [.sl ch.1 (t2.2.1).length ch.2.1 (RdS (Ty.int .u8) ch.1 t2.2.1), .one (.slice ch.2.2.1 ch.2.2.2.1 ch.2.2.2.2)], Res.row (Ty.prod Ty.bool (Ty.prod (Ty.slice (Ty.int .u8)) (Ty.int .i64))) 43 ch.2.2.1 ch.2.2.2.1 ch.2.2.2.2 t2.2.2]) (fun (ch : (Option Addr) × Nat × (Option Addr) × Nat × Nat) => [Res.cells ch_0_0 61 [.sl ch.1 (t2.2.1).length ch.2.1 (RdS (Ty.int .u8) ch.1 t2.2.1), .one (.slice ch.2.2.1 ch.2.2.2.1 ch.2.2.2.2)], Res.row (Ty.prod Ty.bool (Ty.prod (Ty.slice (Ty.int .u8)) (Ty.int .i64))) 43 ch.2.2.1 ch.2.2.2.1 ch.2.2.2.2 t2.2.2]) (fun _ => rfl) N32 rfl rfl (fun ok => ok) (.cons .here (.cons .here .nil)) rfl (c_1 (t1.2.2.2.1, t1.2.2.2.2) t1.2.1 x3 ch_0_0 ch1.1 ch1.2.1 ch1.2.2.1 ch1.2.2.2.1 ch1.2.2.2.2 t2 et2 _ _) ?_; clear S a w; intro ch2 m le1 a w S
              refine s_assign S rfl rfl ?_; clear S a; intro a S
              refine c_end ?_
              refine wp_ret ?_
              obtain rfl := Option.some.inj h9
              exact b_ret1 (d := (.v (.int .i64 t2.1))) S rfl rfl fun ok => S.retX (Hx := []) hb _ _ ((ch2.1, ch2.2.1, ch2.2.2.1, ch2.2.2.2.1, ch2.2.2.2.2) : (Option Addr) × Nat × (Option Addr) × Nat × Nat) (.cons .here (.cons .here .nil)) ok
/-! (*smithy/rlp.reader).list -/
def rlp_reader_list.j1 (x1 : (List Int) × (List (Bool × (List Int) × Int))) (y1 : List Int) (y2 : List (Bool × (List Int) × Int)) : Option (Int × ((List Int) × (List (Bool × (List Int) × Int)))) := if (0 : Int) ≤ ((x1.2).length : Int) ∧ ((x1.2).length : Int) < ((y2).length : Int) then (some (0, (y1, y2.set (Int.toNat ((x1.2).length : Int)) ((gt y2 ((x1.2).length : Int)).1, (gt y2 ((x1.2).length : Int)).2.1, wr .i64 ((wr .i64 (((y2).length : Int) - ((x1.2).length : Int))) - 1))))) else none
def rlp_reader_list.b1 (self0 : rlp_reader_item.Ty) (x1 : (List Int) × (List (Bool × (List Int) × Int))) (x2 : Int) (x3 : Int) (rec1 : (List Int) → (List (Bool × (List Int) × Int)) → Option (Int × ((List Int) × (List (Bool × (List Int) × Int))))) (y4 : List Int) (y5 : List (Bool × (List Int) × Int)) : Option (Int × ((List Int) × (List (Bool × (List Int) × Int)))) := if (decide ((wr .i64 (((x1.1).length : Int) - x2)) < ((y4).length : Int))) = true then ((self0 (y4, y5) (wr .i64 (((y4).length : Int) - (wr .i64 (((x1.1).length : Int) - x2)))) (wr .i64 (x3 + 1))).bind fun t1 => (if (t1.1 != 0) = true then (some (t1.1, (t1.2.1, t1.2.2))) else (rec1 t1.2.1 t1.2.2))) else (rlp_reader_list.j1 x1 y4 y5)
def rlp_reader_list.l1 (self0 : rlp_reader_item.Ty) (x1 : (List Int) × (List (Bool × (List Int) × Int))) (x2 : Int) (x3 : Int) : Nat → (List Int) → (List (Bool × (List Int) × Int)) → Option (Int × ((List Int) × (List (Bool × (List Int) × Int))))
  | 0, _, _ => none
  | q + 1, y4, y5 => rlp_reader_list.b1 self0 x1 x2 x3 (rlp_reader_list.l1 self0 x1 x2 x3 q) y4 y5
def rlp_reader_list.body (self0 : rlp_reader_item.Ty) (self1 : rlp_reader_list.Ty) (k : Nat) (x1 : (List Int) × (List (Bool × (List Int) × Int))) (x2 : Int) (x3 : Int) : Option (Int × ((List Int) × (List (Bool × (List Int) × Int)))) := if (x3 == 64) = true then (some (4, (x1.1, x1.2))) else (if ((x1.2).length + ([(true, ([] : List Int), 0)]).length) * 40 ≤ 140737488355328 then (rlp_reader_list.l1 self0 x1 x2 x3 k x1.1 (x1.2 ++ [(true, ([] : List Int), 0)])) else none)
theorem rlp_reader_list.okb (self0 : rlp_reader_item.Ty) (self1 : rlp_reader_list.Ty) (c_0 : rlp_reader_item.Ctr self0) (c_1 : rlp_reader_list.Ctr self1) (k : Nat) : rlp_reader_list.Ctr (rlp_reader_list.body self0 self1 k) := by
  intro x1 x2 x3 ch_0_0 ch_0_1 ch_0_2 ch_0_3 ch_0_4 ch_0_5 r h0 mi w0 ok hm
  delta rlp_reader_list.body at h0
  refine c_enterX (n := 70) [(.v (.pointer (some ⟨ch_0_0, 0, none⟩))), (.v (.int .i64 x2)), (.v (.int .i64 x3))] (l := [(0, (.v (.pointer (some ⟨ch_0_0, 0, none⟩)))), (1, (.v (.int .i64 x2))), (2, (.v (.int .i64 x3)))]) Try.func32 rfl rfl rfl rfl ok hm ?_
  clear ok hm
  intro b0 hb a S
  refine c_region ?_
  refine s_assign S rfl rfl ?_; clear S a; intro a S
  refine c_end ?_
  refine wp_seq ?_
  refine c_region ?_
  refine s_move S rfl rfl ?_; clear S a; intro a S
  refine s_bin S rfl rfl rfl rfl ?_; clear S a; intro a S
  refine c_end ?_
  rcases ite_of h0 with ⟨c1, h1⟩ | ⟨c1, h1⟩ <;> clear h0
  · refine c_condT S rfl c1 ?_
    refine c_region ?_
    refine s_assign S rfl rfl ?_; clear S a; intro a S
    refine c_end ?_
    refine wp_ret ?_
    refine x_thenR ?_
    obtain rfl := Option.some.inj h1
    exact b_ret1 (d := (.v (.int .i64 4))) S rfl rfl fun ok => S.retX (Hx := []) hb _ _ ((ch_0_1, ch_0_2, ch_0_3, ch_0_4, ch_0_5) : (Option Addr) × Nat × (Option Addr) × Nat × Nat) (.cons .here (.cons .here .nil)) ok
  · refine c_condF S rfl c1 ?_
    refine wp_skip ?_
    refine x_thenN ?_
    refine c_region ?_
    refine s_move S rfl rfl ?_; clear S a; intro a S
    refine s_nilchk S rfl rfl ?_; clear S a; intro a S
    refine s_fieldAddr S rfl I61_1 T29 (by decide) rfl rfl ?_; clear S a; intro a S
    refine s_load1 S rfl .here T29 (v := (.slice ch_0_3 ch_0_4 ch_0_5)) rfl rfl ?_; clear S a; intro a S
    refine s_lenO S rfl (.there .here) Try.underlying29 rfl ?_; clear S a; intro a S
    refine s_assign S rfl rfl ?_; clear S a; intro a S
    refine c_end ?_
    refine c_region ?_
    refine s_move S rfl rfl ?_; clear S a; intro a S
    refine s_move S rfl rfl ?_; clear S a; intro a S
    refine s_nilchk S rfl rfl ?_; clear S a; intro a S
    refine s_fieldAddr S rfl I61_1 T29 (by decide) rfl rfl ?_; clear S a; intro a S
    refine s_load1 S rfl .here T29 (v := (.slice ch_0_3 ch_0_4 ch_0_5)) rfl rfl ?_; clear S a; intro a S
    refine s_bldS S (ds := [(0, (.v (.bool true)))]) (zs := [.one (.bool false), .one (.slice none 0 0), .one (.int .i64 0)]) (s' := [.one (.bool true), .one (.slice none 0 0), .one (.int .i64 0)]) rfl Try.underlying43 P43 Z43 ⟨rfl, rfl, rfl, trivial⟩ rfl rfl ?_; clear S a; intro a S
    replace S := S.slot (u := 22) (d' := (.agg [.one (.bool true), .sl none (([] : List Int)).length 0 (RdS (Ty.int .u8) none ([] : List Int)), .one (.int .i64 0)])) rfl rfl (by have h := (S.get 22 (.agg [.one (.bool true), .one (.slice none 0 0), .one (.int .i64 0)]) rfl).2; exact ⟨h.1, ok_nil, h.2.2.1, trivial⟩)
    refine s_bldSl S (ty' := (Ty.prod Ty.bool (Ty.prod (Ty.slice (Ty.int .u8)) (Ty.int .i64)))) (ds := [(0, (.agg [.one (.bool true), .sl none (([] : List Int)).length 0 (RdS (Ty.int .u8) none ([] : List Int)), .one (.int .i64 0)]))]) (z := (false, ([] : List Int), 0)) (c0 := ((), (none, 0), ())) (ys := [(true, ([] : List Int), 0)]) (cs := [((), (none, 0), ())]) rfl Try.underlying29 J43 Z43 rfl ⟨rfl, ⟨Nat.le_refl _, Nat.zero_le _, RdS.nil _ _ _, RdS.mono _ _ _⟩, rfl, trivial⟩ rfl rfl rfl rfl rfl rfl ?_; clear S a; intro g1 a w S
    obtain ⟨c2, h2⟩ := chk_of h1; clear h1
    refine s_app S (k2 := 1) (ys := [(true, ([] : List Int), 0)]) rfl (fun _ _ => (.there (.there .here))) rfl rfl (S.holds _ (Pull.mem .here).1).1 (Res.row.src (S.holds _ (Pull.mem .here).1)) Try.underlying29 J43 c2 rfl ?_; clear S a w; intro A1 cp1 a w S
    refine s_nilchk S rfl rfl ?_; clear S a; intro a S
    refine s_fieldAddr S rfl I61_1 T29 (by decide) rfl rfl ?_; clear S a; intro a S
    refine s_store S rfl rfl rfl (s' := [.sl ch_0_1 (x1.1).length ch_0_2 (RdS (Ty.int .u8) ch_0_1 x1.1), .one (.slice A1 (ch_0_4 + 1) cp1)]) (.there .here) T29 rfl rfl ?_; clear S w; intro w S
    refine c_end ?_
    refine c_region ?_
    refine s_move S rfl rfl ?_; clear S a; intro a S
    refine s_nilchk S rfl rfl ?_; clear S a; intro a S
    refine s_fieldAddr S rfl I61_0 T25 (by decide) rfl rfl ?_; clear S a; intro a S
    refine s_loadSl S rfl (.there .here) T25 (A := ch_0_1) (len := (x1.1).length) (cap := ch_0_2) rfl rfl ?_; clear S a; intro a S
    refine s_lenS S rfl Try.underlying25 rfl ?_; clear S a; intro a S
    refine s_move S rfl rfl ?_; clear S a; intro a S
    refine s_bin S rfl rfl rfl rfl ?_; clear S a; intro a S
    refine s_assign S rfl rfl ?_; clear S a; intro a S
    refine c_end ?_
    refine wp_seq_k ?_
    intro K1 hK1
    have j1 : ∀ (m : Mem) (A2 : Option Addr) (cp5 : Nat) (y1 : List Int) (A3 : Option Addr) (nn1 : Nat) (cp6 : Nat) (y2 : List (Bool × (List Int) × Int)) (a : Act) (w : World), St 70 m b0 [(7, (.v (.int .i64 ((x1.2).length : Int)))), (0, (.v (.pointer (some ⟨ch_0_0, 0, none⟩))))] [Res.cells ch_0_0 61 [.sl A2 (y1).length cp5 (RdS (Ty.int .u8) A2 y1), .one (.slice A3 nn1 cp6)], Res.row (Ty.prod Ty.bool (Ty.prod (Ty.slice (Ty.int .u8)) (Ty.int .i64))) 43 A3 nn1 cp6 y2] a w → rlp_reader_list.j1 x1 y1 y2 = some r → K1 a w := by
      intro m A2 cp5 y1 A3 nn1 cp6 y2 a w S h0
      delta rlp_reader_list.j1 at h0
      refine hK1 a w ?_
      refine wp_seq (c_heldS S (.take 0 (.take 1 (.take 2 (.take 3 (.take 4 (.take 5 (.take 6 (.take 7 (.take 8 (.take 10 (.alts (.run 9 true (.take 11 (.take 12 (.alts (.run 13 true (.take 14 (.alts (.run 15 false .done .nil))) .nil)))) .nil)))))))))))) 15 [Res.cells ch_0_0 61 [.sl A2 (y1).length cp5 (RdS (Ty.int .u8) A2 y1), .one (.slice A3 nn1 cp6)]] (.cons .here .nil) ⟨Res.stay_cells, trivial⟩ [(7, (.v (.int .i64 ((x1.2).length : Int)))), (0, (.v (.pointer (some ⟨ch_0_0, 0, none⟩))))] ⟨rfl, rfl, trivial⟩ (by kernel_rfl) (by kernel_rfl) ?_); clear S; intro w S CL hw le
      refine h_move S CL hw le ⟨rfl, rfl, trivial⟩ rfl rfl rfl trivial ?_; clear S CL a; intro a S CL
      refine h_nilchk S CL hw le ⟨rfl, rfl, rfl, trivial⟩ rfl rfl rfl rfl trivial ?_; clear S CL a; intro a S CL
      refine h_fieldAddr S CL hw le ⟨rfl, rfl, rfl, rfl, trivial⟩ rfl I61_1 T29 (by decide) rfl rfl rfl trivial ?_; clear S CL a; intro a S CL
      refine h_load1 S CL hw le ⟨rfl, rfl, rfl, rfl, rfl, trivial⟩ rfl .here T29 (v := (.slice A3 nn1 cp6)) rfl rfl rfl trivial ?_; clear S CL a; intro a S CL
      refine h_move S CL hw le ⟨rfl, rfl, rfl, rfl, rfl, rfl, trivial⟩ rfl rfl rfl trivial ?_; clear S CL a; intro a S CL
      refine h_move S CL hw le ⟨rfl, rfl, rfl, rfl, rfl, rfl, rfl, trivial⟩ rfl rfl rfl trivial ?_; clear S CL a; intro a S CL
      refine h_nilchk S CL hw le ⟨rfl, rfl, rfl, rfl, rfl, rfl, rfl, rfl, trivial⟩ rfl rfl rfl rfl trivial ?_; clear S CL a; intro a S CL
      refine h_fieldAddr S CL hw le ⟨rfl, rfl, rfl, rfl, rfl, rfl, rfl, rfl, rfl, trivial⟩ rfl I61_1 T29 (by decide) rfl rfl rfl trivial ?_; clear S CL a; intro a S CL
      refine h_load1 S CL hw le ⟨rfl, rfl, rfl, rfl, rfl, rfl, rfl, rfl, rfl, rfl, trivial⟩ rfl .here T29 (v := (.slice A3 nn1 cp6)) rfl rfl rfl trivial ?_; clear S CL a; intro a S CL
      refine h_move S CL hw le ⟨rfl, rfl, rfl, rfl, rfl, rfl, rfl, rfl, rfl, rfl, rfl, trivial⟩ rfl rfl rfl trivial ?_; clear S CL a; intro a S CL
      refine h_run' S rfl trivial ?_
      refine s_lenO S rfl (.there .here) Try.underlying29 rfl ?_; clear S a; intro a S
      replace hw := CL.again hw S (.cons .here .nil) le
      refine h_back ⟨fun _ => hw, ?_⟩
      replace CL := CL.add (t := 64) (d := (.v (.int .i64 ((y2).length : Int)))) S rfl rfl
      refine h_bin S CL hw le ⟨rfl, rfl, rfl, rfl, rfl, rfl, rfl, rfl, rfl, rfl, rfl, rfl, rfl, trivial⟩ rfl rfl rfl rfl rfl trivial ?_; clear S CL a; intro a S CL
      refine h_bin S CL hw le ⟨rfl, rfl, rfl, rfl, rfl, rfl, rfl, rfl, rfl, rfl, rfl, rfl, rfl, rfl, trivial⟩ rfl rfl rfl rfl rfl trivial ?_; clear S CL a; intro a S CL
      refine h_run' S rfl trivial ?_
      obtain ⟨c3, h1⟩ := chk_of h0; clear h0
      refine s_iaddrO S (ty' := (Ty.prod Ty.bool (Ty.prod (Ty.slice (Ty.int .u8)) (Ty.int .i64)))) rfl (.there .here) rfl Try.underlying29 T43 c3.1 c3.2 rfl ?_; clear S a; intro g2 a hA1 S
      replace hw := CL.again hw S (.cons .here .nil) le
      refine h_back ⟨fun _ => hw, ?_⟩
      replace CL := CL.add (t := 68) (d := (.v (.pointer (some ⟨g2, Int.toNat ((x1.2).length : Int) * ((Ty.prod Ty.bool (Ty.prod (Ty.slice (Ty.int .u8)) (Ty.int .i64)))).size, none⟩)))) S rfl rfl
      refine h_fieldAddr S CL hw le ⟨rfl, rfl, rfl, rfl, rfl, rfl, rfl, rfl, rfl, rfl, rfl, rfl, rfl, rfl, rfl, rfl, trivial⟩ rfl I43_2 T3 (by decide) rfl rfl rfl trivial ?_; clear S CL a; intro a S CL
      refine h_run' S rfl trivial ?_
      refine s_stR S (ty' := (Ty.prod Ty.bool (Ty.prod (Ty.slice (Ty.int .u8)) (Ty.int .i64)))) (i := ((x1.2).length : Int)) (off := 2) (u := ((gt y2 ((x1.2).length : Int)).1, (gt y2 ((x1.2).length : Int)).2.1, wr .i64 ((wr .i64 (((y2).length : Int) - ((x1.2).length : Int))) - 1))) (fun (c : Unit × (Option Addr × Nat) × Unit) => ((), (c.2.1.1, c.2.1.2), ())) rfl rfl rfl hA1 (.there .here) T3 c3.1 c3.2 rfl (by decide) rfl (fun _ => rfl) ?_; clear S; intro w S
      refine h_back ⟨fun h => (nomatch h), ?_⟩
      refine h_done ?_; clear CL hw le
      refine x_thenN ?_
      refine c_region ?_
      refine s_assign S rfl rfl ?_; clear S a; intro a S
      refine c_end ?_
      refine wp_ret ?_
      obtain rfl := Option.some.inj h1
      exact b_ret1 (d := (.v (.int .i64 0))) S rfl rfl fun ok => S.retX (Hx := []) hb _ _ ((A2, cp5, A3, nn1, cp6) : (Option Addr) × Nat × (Option Addr) × Nat × Nat) (.cons .here (.cons .here .nil)) ok
    refine wp_block ?_
    refine c_loop (fun q1 a w => ∃ (m : Mem) (A4 : Option Addr) (cp8 : Nat) (y4 : List Int) (A5 : Option Addr) (nn2 : Nat) (cp9 : Nat) (y5 : List (Bool × (List Int) × Int)), St 70 m b0 [(8, (.v (.int .i64 (wr .i64 (((x1.1).length : Int) - x2))))), (7, (.v (.int .i64 ((x1.2).length : Int)))), (0, (.v (.pointer (some ⟨ch_0_0, 0, none⟩)))), (2, (.v (.int .i64 x3)))] [Res.cells ch_0_0 61 [.sl A4 (y4).length cp8 (RdS (Ty.int .u8) A4 y4), .one (.slice A5 nn2 cp9)], Res.row (Ty.prod Ty.bool (Ty.prod (Ty.slice (Ty.int .u8)) (Ty.int .i64))) 43 A5 nn2 cp9 y5] a w ∧ rlp_reader_list.l1 self0 x1 x2 x3 q1 y4 y5 = some r) ?_ ?_ (k := k) ⟨_, ch_0_1, ch_0_2, x1.1, A1, (ch_0_4 + 1), cp1, (x1.2 ++ [(true, ([] : List Int), 0)]), (S.sub ⟨rfl, rfl, rfl, rfl, trivial⟩ (.cons (.there .here) (.cons (.there .here) .nil))), h2⟩
    · rintro a w ⟨m, A4, cp8, y4, A5, nn2, cp9, y5, S, h0⟩
      exact (nomatch (show (none : Option (Int × ((List Int) × (List (Bool × (List Int) × Int))))) = some r from h0))
    · clear S h2
      rintro q1 a w ⟨m, A4, cp8, y4, A5, nn2, cp9, y5, S, h0⟩
      replace h0 : rlp_reader_list.b1 self0 x1 x2 x3 (rlp_reader_list.l1 self0 x1 x2 x3 q1) y4 y5 = some r := h0
      delta rlp_reader_list.b1 at h0
      refine wp_seq ?_
      refine c_region ?_
      refine s_move S rfl rfl ?_; clear S a; intro a S
      refine s_nilchk S rfl rfl ?_; clear S a; intro a S
      refine s_fieldAddr S rfl I61_0 T25 (by decide) rfl rfl ?_; clear S a; intro a S
      refine s_loadSl S rfl .here T25 (A := A4) (len := (y4).length) (cap := cp8) rfl rfl ?_; clear S a; intro a S
      refine s_lenS S rfl Try.underlying25 rfl ?_; clear S a; intro a S
      refine s_move S rfl rfl ?_; clear S a; intro a S
      refine s_bin S rfl rfl rfl rfl ?_; clear S a; intro a S
      refine c_end ?_
      rcases ite_of h0 with ⟨c4, h1⟩ | ⟨c4, h1⟩ <;> clear h0
      · refine c_condT S rfl c4 ?_
        refine wp_skip ?_
        refine x_thenN ?_
        refine wp_block ?_
        refine c_region ?_
        refine s_move S rfl rfl ?_; clear S a; intro a S
        refine s_move S rfl rfl ?_; clear S a; intro a S
        refine s_nilchk S rfl rfl ?_; clear S a; intro a S
        refine s_fieldAddr S rfl I61_0 T25 (by decide) rfl rfl ?_; clear S a; intro a S
        refine s_loadSl S rfl .here T25 (A := A4) (len := (y4).length) (cap := cp8) rfl rfl ?_; clear S a; intro a S
        refine s_lenS S rfl Try.underlying25 rfl ?_; clear S a; intro a S
        refine s_move S rfl rfl ?_; clear S a; intro a S
        refine s_bin S rfl rfl rfl rfl ?_; clear S a; intro a S
        refine s_move S rfl rfl ?_; clear S a; intro a S
        refine s_bin S rfl rfl rfl rfl ?_; clear S a; intro a S
        obtain ⟨t1, et1, h2⟩ := bind_of h1; clear h1
        refine s_callX S (ds' := [(.v (.pointer (some ⟨ch_0_0, 0, none⟩))), (.v (.int .i64 (wr .i64 (((y4).length : Int) - (wr .i64 (((x1.1).length : Int) - x2)))))), (.v (.int .i64 (wr .i64 (x3 + 1))))]) (ds := [(.v (.pointer (some ⟨ch_0_0, 0, none⟩))), (.v (.int .i64 (wr .i64 (((y4).length : Int) - (wr .i64 (((x1.1).length : Int) - x2)))))), (.v (.int .i64 (wr .i64 (x3 + 1))))]) [Res.cells ch_0_0 61 [.sl A4 (y4).length cp8 (RdS (Ty.int .u8) A4 y4), .one (.slice A5 nn2 cp9)], Res.row (Ty.prod Ty.bool (Ty.prod (Ty.slice (Ty.int .u8)) (Ty.int .i64))) 43 A5 nn2 cp9 y5] [] (fun (ch : (Option Addr) × Nat × (Option Addr) × Nat × Nat) => ((.v (.int .i64 t1.1)) : D)) (fun (ch : (Option Addr) × Nat × (Option Addr) × Nat × Nat) => [Res.cells ch_0_0 61 [.sl ch.1 (t1.2.1).length ch.2.1 (RdS (Ty.int .u8) ch.1 t1.2.1), .one (.slice ch.2.2.1 ch.2.2.2.1 ch.2.2.2.2)], Res.row (Ty.prod Ty.bool (Ty.prod (Ty.slice (Ty.int .u8)) (Ty.int .i64))) 43 ch.2.2.1 ch.2.2.2.1 ch.2.2.2.2 t1.2.2]) (fun (ch : (Option Addr) × Nat × (Option Addr) × Nat × Nat) => [Res.cells ch_0_0 61 [.sl ch.1 (t1.2.1).length ch.2.1 (RdS (Ty.int .u8) ch.1 t1.2.1), .one (.slice ch.2.2.1 ch.2.2.2.1 ch.2.2.2.2)], Res.row (Ty.prod Ty.bool (Ty.prod (Ty.slice (Ty.int .u8)) (Ty.int .i64))) 43 ch.2.2.1 ch.2.2.2.1 ch.2.2.2.2 t1.2.2]) (fun _ => rfl) N25 rfl rfl (fun ok => ok) (.cons .here (.cons .here .nil)) rfl (c_0 (y4, y5) (wr .i64 (((y4).length : Int) - (wr .i64 (((x1.1).length : Int) - x2)))) (wr .i64 (x3 + 1)) ch_0_0 A4 cp8 A5 nn2 cp9 t1 et1 _ _) ?_; clear S a w; intro ch1 m le1 a w S
        refine s_assign S rfl rfl ?_; clear S a; intro a S
        refine c_end ?_
        refine c_region ?_
        refine s_move S rfl rfl ?_; clear S a; intro a S
        refine s_bin S rfl rfl rfl rfl ?_; clear S a; intro a S
        refine c_end ?_
        rcases ite_of h2 with ⟨c5, h3⟩ | ⟨c5, h3⟩ <;> clear h2
        · refine c_condT S rfl c5 ?_
          refine c_region ?_
          refine s_move S rfl rfl ?_; clear S a; intro a S
          refine s_assign S rfl rfl ?_; clear S a; intro a S
          refine c_end ?_
          refine wp_ret ?_
          refine x_blockR ?_
          refine x_thenR ?_
          refine x_blockR ?_
          refine x_thenR ?_
          obtain rfl := Option.some.inj h3
          exact b_ret1 (d := (.v (.int .i64 t1.1))) S rfl rfl fun ok => S.retX (Hx := []) hb _ _ ((ch1.1, ch1.2.1, ch1.2.2.1, ch1.2.2.2.1, ch1.2.2.2.2) : (Option Addr) × Nat × (Option Addr) × Nat × Nat) (.cons .here (.cons .here .nil)) ok
        · refine c_condF S rfl c5 ?_
          refine wp_skip ?_
          refine x_blockN ?_
          refine x_thenN ?_
          exact ⟨_, ch1.1, ch1.2.1, t1.2.1, ch1.2.2.1, ch1.2.2.2.1, ch1.2.2.2.2, t1.2.2, (S.sub ⟨rfl, rfl, rfl, rfl, trivial⟩ (.cons .here (.cons .here .nil))), h3⟩
      · refine c_condF S rfl c4 ?_
        refine wp_exit ?_
        refine x_thenX ?_
        refine x_thenX ?_
        refine x_blockX ?_
        refine x_thenN ?_
        exact j1 _ A4 cp8 y4 A5 nn2 cp9 y5 a w (S.sub ⟨rfl, rfl, trivial⟩ (.cons .here (.cons .here .nil))) h1
mutual
def rlp_reader_item.f : Nat → rlp_reader_item.Ty
  | 0 => fun _ _ _ => none
  | k + 1 => rlp_reader_item.body (rlp_reader_item.f k) (rlp_reader_list.f k) k
def rlp_reader_list.f : Nat → rlp_reader_list.Ty
  | 0 => fun _ _ _ => none
  | k + 1 => rlp_reader_list.body (rlp_reader_item.f k) (rlp_reader_list.f k) k
end
theorem rlp_reader_item.f_succ (k : Nat) : rlp_reader_item.f (k + 1) = rlp_reader_item.body (rlp_reader_item.f k) (rlp_reader_list.f k) k := rfl
theorem rlp_reader_list.f_succ (k : Nat) : rlp_reader_list.f (k + 1) = rlp_reader_list.body (rlp_reader_item.f k) (rlp_reader_list.f k) k := rfl
theorem rlp_reader_item.oks : ∀ k : Nat, rlp_reader_item.Ctr (rlp_reader_item.f k) ∧ rlp_reader_list.Ctr (rlp_reader_list.f k)
  | 0 => ⟨fun _ _ _ _ _ _ _ _ _ r h0 => (nomatch (show (none : Option (Int × ((List Int) × (List (Bool × (List Int) × Int))))) = some r from h0)), fun _ _ _ _ _ _ _ _ _ r h0 => (nomatch (show (none : Option (Int × ((List Int) × (List (Bool × (List Int) × Int))))) = some r from h0))⟩
  | k + 1 => by
    have ih := rlp_reader_item.oks k
    exact ⟨rlp_reader_item.okb (rlp_reader_item.f k) (rlp_reader_list.f k) ih.1 ih.2 k, rlp_reader_list.okb (rlp_reader_item.f k) (rlp_reader_list.f k) ih.1 ih.2 k⟩
theorem rlp_reader_item.ok (k : Nat) : rlp_reader_item.Ctr (rlp_reader_item.f k) := (rlp_reader_item.oks k).1
theorem rlp_reader_list.ok (k : Nat) : rlp_reader_list.Ctr (rlp_reader_list.f k) := (rlp_reader_item.oks k).2
/-! smithy/rlp.Decode -/
abbrev rlp_Decode.Ty : Type := (List Int) → Option ((List (Bool × (List Int) × Int)) × Int)
def rlp_Decode.Ctr (s : rlp_Decode.Ty) : Prop := ∀ (x1 : List Int) (ch_0_0 : Option Addr) (ch_0_1 : Nat) (r : (List (Bool × (List Int) × Int)) × Int) (h0 : s x1 = some r) (mi : Mem) (w0 : World), okL mi [(.sl ch_0_0 (x1).length ch_0_1 (RdS (Ty.int .u8) ch_0_0 x1))] → Pre mi [] w0 → Calls Try.prog 13 (([(.sl ch_0_0 (x1).length ch_0_1 (RdS (Ty.int .u8) ch_0_0 x1))] : List D).map D.val).toArray w0 (RetX mi [] (fun (ch : (Option Addr) × Nat × Nat) => ((.tup [(false, [.one (.slice ch.1 ch.2.1 ch.2.2)]), (false, [.one (.int .i64 r.2)])]) : D)) (fun (ch : (Option Addr) × Nat × Nat) => [Res.row (Ty.prod Ty.bool (Ty.prod (Ty.slice (Ty.int .u8)) (Ty.int .i64))) 43 ch.1 ch.2.1 ch.2.2 r.1]) w0)
def rlp_Decode.f (k : Nat) (x1 : List Int) : Option ((List (Bool × (List Int) × Int)) × Int) := if (decide (1048576 < ((x1).length : Int))) = true then (some (([] : List (Bool × (List Int) × Int)), 4)) else ((rlp_reader_item.f k (x1, ([] : List (Bool × (List Int) × Int))) ((x1).length : Int) 0).bind fun t1 => (if (t1.1 != 0) = true then (some (([] : List (Bool × (List Int) × Int)), t1.1)) else (if (decide (0 < ((t1.2.1).length : Int))) = true then (some (([] : List (Bool × (List Int) × Int)), 2)) else (some (t1.2.2, 0)))))
theorem rlp_Decode.ok (k : Nat) : rlp_Decode.Ctr (rlp_Decode.f k) := by
  intro x1 ch_0_0 ch_0_1 r h0 mi w0 ok hm
  delta rlp_Decode.f at h0
  refine c_enterX (n := 29) [(.sl ch_0_0 (x1).length ch_0_1 (RdS (Ty.int .u8) ch_0_0 x1))] (l := [(0, (.sl ch_0_0 (x1).length ch_0_1 (RdS (Ty.int .u8) ch_0_0 x1)))]) Try.func13 rfl rfl rfl rfl ok hm ?_
  clear ok hm
  intro b0 hb a S
  refine c_region ?_
  refine s_assign S rfl rfl ?_; clear S a; intro a S
  refine s_assign S rfl rfl ?_; clear S a; intro a S
  refine c_end ?_
  refine wp_seq ?_
  refine c_region ?_
  refine s_move S rfl rfl ?_; clear S a; intro a S
  refine s_lenS S rfl Try.underlying25 rfl ?_; clear S a; intro a S
  refine s_bin S rfl rfl rfl rfl ?_; clear S a; intro a S
  refine c_end ?_
  rcases ite_of h0 with ⟨c1, h1⟩ | ⟨c1, h1⟩ <;> clear h0
  · refine c_condT S rfl c1 ?_
    refine c_region ?_
    refine s_assign S rfl rfl ?_; clear S a; intro a S
    refine s_assign S rfl rfl ?_; clear S a; intro a S
    refine c_end ?_
    refine wp_ret ?_
    refine x_thenR ?_
    replace S := S.nilrow (Ty.prod Ty.bool (Ty.prod (Ty.slice (Ty.int .u8)) (Ty.int .i64))) 43
    replace S := S.slot (u := 2) (d' := (.v (.slice none 0 0))) rfl rfl (S.get 2 (.v (.slice none 0 0)) rfl).2
    obtain rfl := Option.some.inj h1
    exact b_ret2 (d1 := (.v (.slice none 0 0))) (d2 := (.v (.int .i64 4))) S rfl rfl rfl fun ok1 ok2 => S.retX (Hx := []) hb _ _ ((none, 0, 0) : (Option Addr) × Nat × Nat) (.cons .here .nil) ⟨⟨ok1, trivial⟩, ⟨ok2, trivial⟩, trivial⟩
  · refine c_condF S rfl c1 ?_
    refine wp_skip ?_
    refine x_thenN ?_
    refine c_region ?_
    refine s_move S rfl rfl ?_; clear S a; intro a S
    refine s_bldS S (ds := [(0, (.sl ch_0_0 (x1).length ch_0_1 (RdS (Ty.int .u8) ch_0_0 x1)))]) (zs := [.one (.slice none 0 0), .one (.slice none 0 0)]) (s' := [.sl ch_0_0 (x1).length ch_0_1 (RdS (Ty.int .u8) ch_0_0 x1), .one (.slice none 0 0)]) rfl Try.underlying61 P61 Z61 ⟨rfl, rfl, trivial⟩ rfl rfl ?_; clear S a; intro a S
    refine s_box S rfl rfl rfl ?_; clear S a; intro g1 a w S
    refine s_assign S rfl rfl ?_; clear S a; intro a S
    refine c_end ?_
    refine wp_seq ?_
    refine c_region ?_
    refine s_move S rfl rfl ?_; clear S a; intro a S
    refine s_move S rfl rfl ?_; clear S a; intro a S
    refine s_lenS S rfl Try.underlying25 rfl ?_; clear S a; intro a S
    replace S := S.nilrow (Ty.prod Ty.bool (Ty.prod (Ty.slice (Ty.int .u8)) (Ty.int .i64))) 43
    obtain ⟨t1, et1, h2⟩ := bind_of h1; clear h1
    refine s_callX S (ds' := [(.v (.pointer (some ⟨g1, 0, none⟩))), (.v (.int .i64 ((x1).length : Int))), (.v (.int .i64 0))]) (ds := [(.v (.pointer (some ⟨g1, 0, none⟩))), (.v (.int .i64 ((x1).length : Int))), (.v (.int .i64 0))]) [Res.cells g1 61 [.sl ch_0_0 (x1).length ch_0_1 (RdS (Ty.int .u8) ch_0_0 x1), .one (.slice none 0 0)], Res.row (Ty.prod Ty.bool (Ty.prod (Ty.slice (Ty.int .u8)) (Ty.int .i64))) 43 none 0 0 ([] : List (Bool × (List Int) × Int))] [] (fun (ch : (Option Addr) × Nat × (Option Addr) × Nat × Nat) => ((.v (.int .i64 t1.1)) : D)) (fun (ch : (Option Addr) × Nat × (Option Addr) × Nat × Nat) => [Res.cells g1 61 [.sl ch.1 (t1.2.1).length ch.2.1 (RdS (Ty.int .u8) ch.1 t1.2.1), .one (.slice ch.2.2.1 ch.2.2.2.1 ch.2.2.2.2)], Res.row (Ty.prod Ty.bool (Ty.prod (Ty.slice (Ty.int .u8)) (Ty.int .i64))) 43 ch.2.2.1 ch.2.2.2.1 ch.2.2.2.2 t1.2.2]) (fun (ch : (Option Addr) × Nat × (Option Addr) × Nat × Nat) => [Res.cells g1 61 [.sl ch.1 (t1.2.1).length ch.2.1 (RdS (Ty.int .u8) ch.1 t1.2.1), .one (.slice ch.2.2.1 ch.2.2.2.1 ch.2.2.2.2)], Res.row (Ty.prod Ty.bool (Ty.prod (Ty.slice (Ty.int .u8)) (Ty.int .i64))) 43 ch.2.2.1 ch.2.2.2.1 ch.2.2.2.2 t1.2.2]) (fun _ => rfl) N25 rfl rfl (fun ok => ok) (.cons (.there .here) (.cons .here .nil)) rfl (rlp_reader_item.ok k (x1, ([] : List (Bool × (List Int) × Int))) ((x1).length : Int) 0 g1 ch_0_0 ch_0_1 none 0 0 t1 et1 _ _) ?_; clear S a w; intro ch1 m le1 a w S
    refine s_assign S rfl rfl ?_; clear S a; intro a S
    refine c_end ?_
    refine c_region ?_
    refine s_move S rfl rfl ?_; clear S a; intro a S
    refine s_bin S rfl rfl rfl rfl ?_; clear S a; intro a S
    refine c_end ?_
    rcases ite_of h2 with ⟨c2, h3⟩ | ⟨c2, h3⟩ <;> clear h2
    · refine c_condT S rfl c2 ?_
      refine c_region ?_
      refine s_move S rfl rfl ?_; clear S a; intro a S
      refine s_assign S rfl rfl ?_; clear S a; intro a S
      refine s_assign S rfl rfl ?_; clear S a; intro a S
      refine c_end ?_
      refine wp_ret ?_
      refine x_thenR ?_
      replace S := S.nilrow (Ty.prod Ty.bool (Ty.prod (Ty.slice (Ty.int .u8)) (Ty.int .i64))) 43
      replace S := S.slot (u := 2) (d' := (.v (.slice none 0 0))) rfl rfl (S.get 2 (.v (.slice none 0 0)) rfl).2
      obtain rfl := Option.some.inj h3
      exact b_ret2 (d1 := (.v (.slice none 0 0))) (d2 := (.v (.int .i64 t1.1))) S rfl rfl rfl fun ok1 ok2 => S.retX (Hx := []) hb _ _ ((none, 0, 0) : (Option Addr) × Nat × Nat) (.cons .here .nil) ⟨⟨ok1, trivial⟩, ⟨ok2, trivial⟩, trivial⟩
    · refine c_condF S rfl c2 ?_
      refine wp_skip ?_
      refine x_thenN ?_
      refine wp_seq ?_
      refine c_region ?_
      refine s_move S rfl rfl ?_; clear S a; intro a S
      refine s_nilchk S rfl rfl ?_; clear S a; intro a S
      refine s_fieldAddr S rfl I61_0 T25 (by decide) rfl rfl ?_; clear S a; intro a S
      refine s_loadSl S rfl .here T25 (A := ch1.1) (len := (t1.2.1).length) (cap := ch1.2.1) rfl rfl ?_; clear S a; intro a S
      refine s_lenS S rfl Try.underlying25 rfl ?_; clear S a; intro a S
      refine s_bin S rfl rfl rfl rfl ?_; clear S a; intro a S
      refine c_end ?_
      rcases ite_of h3 with ⟨c3, h4⟩ | ⟨c3, h4⟩ <;> clear h3
      · refine c_condT S rfl c3 ?_
        refine c_region ?_
        refine s_assign S rfl rfl ?_; clear S a; intro a S
        refine s_assign S rfl rfl ?_; clear S a; intro a S
        refine c_end ?_
        refine wp_ret ?_
        refine x_thenR ?_
        replace S := S.nilrow (Ty.prod Ty.bool (Ty.prod (Ty.slice (Ty.int .u8)) (Ty.int .i64))) 43
        replace S := S.slot (u := 2) (d' := (.v (.slice none 0 0))) rfl rfl (S.get 2 (.v (.slice none 0 0)) rfl).2
        obtain rfl := Option.some.inj h4
        exact b_ret2 (d1 := (.v (.slice none 0 0))) (d2 := (.v (.int .i64 2))) S rfl rfl rfl fun ok1 ok2 => S.retX (Hx := []) hb _ _ ((none, 0, 0) : (Option Addr) × Nat × Nat) (.cons .here .nil) ⟨⟨ok1, trivial⟩, ⟨ok2, trivial⟩, trivial⟩
      · refine c_condF S rfl c3 ?_
        refine wp_skip ?_
        refine x_thenN ?_
        refine c_region ?_
        refine s_move S rfl rfl ?_; clear S a; intro a S
        refine s_nilchk S rfl rfl ?_; clear S a; intro a S
        refine s_fieldAddr S rfl I61_1 T29 (by decide) rfl rfl ?_; clear S a; intro a S
        refine s_load1 S rfl .here T29 (v := (.slice ch1.2.2.1 ch1.2.2.2.1 ch1.2.2.2.2)) rfl rfl ?_; clear S a; intro a S
        refine s_assign S rfl rfl ?_; clear S a; intro a S
        refine s_assign S rfl rfl ?_; clear S a; intro a S
        refine c_end ?_
        refine wp_ret ?_
        obtain rfl := Option.some.inj h4
        exact b_ret2 (d1 := (.v (.slice ch1.2.2.1 ch1.2.2.2.1 ch1.2.2.2.2))) (d2 := (.v (.int .i64 0))) S rfl rfl rfl fun ok1 ok2 => S.retX (Hx := []) hb _ _ ((ch1.2.2.1, ch1.2.2.2.1, ch1.2.2.2.2) : (Option Addr) × Nat × Nat) (.cons (.there .here) .nil) ⟨⟨ok1, trivial⟩, ⟨ok2, trivial⟩, trivial⟩
/-! smithy/smithyref07.Same -/
abbrev smithyref07_Same.Ty : Type := (List (Bool × (List Int) × Int)) → (List (Bool × (List Int) × Int)) → Option Bool
def smithyref07_Same.Ctr (s : smithyref07_Same.Ty) : Prop := ∀ (x1 : List (Bool × (List Int) × Int)) (x2 : List (Bool × (List Int) × Int)) (ch_0_0 : Option Addr) (ch_0_1 : Nat) (ch_1_0 : Option Addr) (ch_1_1 : Nat) (r : Bool) (h0 : s x1 x2 = some r) (mi : Mem) (w0 : World), okL mi [(.sl ch_0_0 (x1).length ch_0_1 (RdS (Ty.prod Ty.bool (Ty.prod (Ty.slice (Ty.int .u8)) (Ty.int .i64))) ch_0_0 x1)), (.sl ch_1_0 (x2).length ch_1_1 (RdS (Ty.prod Ty.bool (Ty.prod (Ty.slice (Ty.int .u8)) (Ty.int .i64))) ch_1_0 x2))] → Pre mi [] w0 → Calls Try.prog 14 (([(.sl ch_0_0 (x1).length ch_0_1 (RdS (Ty.prod Ty.bool (Ty.prod (Ty.slice (Ty.int .u8)) (Ty.int .i64))) ch_0_0 x1)), (.sl ch_1_0 (x2).length ch_1_1 (RdS (Ty.prod Ty.bool (Ty.prod (Ty.slice (Ty.int .u8)) (Ty.int .i64))) ch_1_0 x2))] : List D).map D.val).toArray w0 (RetX mi [] (fun (ch : Unit) => ((.v (.bool r)) : D)) (fun (ch : Unit) => []) w0)
def smithyref07_Same.j1 : Option Bool := some true
def smithyref07_Same.j2 (y1 : Int) (rec1 : Int → Option Bool) (y2 : Bool) : Option Bool := if y2 = true then (some false) else (rec1 (wr .i64 (y1 + 1)))
def smithyref07_Same.b1 (x1 : List (Bool × (List Int) × Int)) (x2 : List (Bool × (List Int) × Int)) (rec1 : Int → Option Bool) (y1 : Int) : Option Bool := if (decide (y1 < ((x1).length : Int))) = true then (if (0 : Int) ≤ y1 ∧ y1 < ((x1).length : Int) then (if (0 : Int) ≤ y1 ∧ y1 < ((x2).length : Int) then (if (!(((gt x1 y1).1) == ((gt x2 y1).1))) = true then (smithyref07_Same.j2 y1 rec1 true) else (if (((gt x1 y1).2.2) != ((gt x2 y1).2.2)) = true then (smithyref07_Same.j2 y1 rec1 true) else (smithyref07_Same.j2 y1 rec1 (!((bstr ((gt x1 y1).2.1)).toList == (bstr ((gt x2 y1).2.1)).toList))))) else none) else none) else smithyref07_Same.j1
def smithyref07_Same.l1 (x1 : List (Bool × (List Int) × Int)) (x2 : List (Bool × (List Int) × Int)) : Nat → Int → Option Bool
  | 0, _ => none
  | q + 1, y1 => smithyref07_Same.b1 x1 x2 (smithyref07_Same.l1 x1 x2 q) y1
def smithyref07_Same.f (k : Nat) (x1 : List (Bool × (List Int) × Int)) (x2 : List (Bool × (List Int) × Int)) : Option Bool := if (((x1).length : Int) != ((x2).length : Int)) = true then (some false) else (smithyref07_Same.l1 x1 x2 k 0)
theorem smithyref07_Same.ok (k : Nat) : smithyref07_Same.Ctr (smithyref07_Same.f k) := by
  intro x1 x2 ch_0_0 ch_0_1 ch_1_0 ch_1_1 r h0 mi w0 ok hm
  delta smithyref07_Same.f at h0
  refine c_enterX (n := 56) [(.sl ch_0_0 (x1).length ch_0_1 (RdS (Ty.prod Ty.bool (Ty.prod (Ty.slice (Ty.int .u8)) (Ty.int .i64))) ch_0_0 x1)), (.sl ch_1_0 (x2).length ch_1_1 (RdS (Ty.prod Ty.bool (Ty.prod (Ty.slice (Ty.int .u8)) (Ty.int .i64))) ch_1_0 x2))] (l := [(0, (.sl ch_0_0 (x1).length ch_0_1 (RdS (Ty.prod Ty.bool (Ty.prod (Ty.slice (Ty.int .u8)) (Ty.int .i64))) ch_0_0 x1))), (1, (.sl ch_1_0 (x2).length ch_1_1 (RdS (Ty.prod Ty.bool (Ty.prod (Ty.slice (Ty.int .u8)) (Ty.int .i64))) ch_1_0 x2)))]) Try.func14 rfl rfl rfl rfl ok hm ?_
  clear ok hm
  intro b0 hb a S
  refine c_region ?_
  refine s_assign S rfl rfl ?_; clear S a; intro a S
  refine c_end ?_
  refine wp_seq ?_
  refine c_region ?_
  refine s_move S rfl rfl ?_; clear S a; intro a S
  refine s_lenS S rfl Try.underlying29 rfl ?_; clear S a; intro a S
  refine s_move S rfl rfl ?_; clear S a; intro a S
  refine s_lenS S rfl Try.underlying29 rfl ?_; clear S a; intro a S
  refine s_bin S rfl rfl rfl rfl ?_; clear S a; intro a S
  refine c_end ?_
  rcases ite_of h0 with ⟨c1, h1⟩ | ⟨c1, h1⟩ <;> clear h0
  · refine c_condT S rfl c1 ?_
    refine c_region ?_
    refine s_assign S rfl rfl ?_; clear S a; intro a S
    refine c_end ?_
    refine wp_ret ?_
    refine x_thenR ?_
    obtain rfl := Option.some.inj h1
    exact b_ret1 (d := (.v (.bool false))) S rfl rfl fun ok => S.retX (Hx := []) hb _ _ (() : Unit) .nil ok
  · refine c_condF S rfl c1 ?_
    refine wp_skip ?_
    refine x_thenN ?_
    refine wp_seq_k ?_
    intro K1 hK1
    have j1 : ∀ (m : Mem) (a : Act) (w : World), St 56 m b0 [] [] a w → smithyref07_Same.j1 = some r → K1 a w := by
      intro m a w S h0
      delta smithyref07_Same.j1 at h0
      refine hK1 a w ?_
      refine c_region ?_
      refine s_assign S rfl rfl ?_; clear S a; intro a S
      refine c_end ?_
      refine wp_ret ?_
      obtain rfl := Option.some.inj h0
      exact b_ret1 (d := (.v (.bool true))) S rfl rfl fun ok => S.retX (Hx := []) hb _ _ (() : Unit) .nil ok
    refine c_region ?_
    refine s_move S rfl rfl ?_; clear S a; intro a S
    refine s_lenS S rfl Try.underlying29 rfl ?_; clear S a; intro a S
    refine s_move S rfl rfl ?_; clear S a; intro a S
    refine c_end ?_
    refine wp_block ?_
    refine c_loop (fun q1 a w => ∃ (m : Mem) (y1 : Int), St 56 m b0 [(13, (.v (.int .i64 y1))), (12, (.v (.int .i64 ((x1).length : Int)))), (0, (.sl ch_0_0 (x1).length ch_0_1 (RdS (Ty.prod Ty.bool (Ty.prod (Ty.slice (Ty.int .u8)) (Ty.int .i64))) ch_0_0 x1))), (1, (.sl ch_1_0 (x2).length ch_1_1 (RdS (Ty.prod Ty.bool (Ty.prod (Ty.slice (Ty.int .u8)) (Ty.int .i64))) ch_1_0 x2)))] [] a w ∧ smithyref07_Same.l1 x1 x2 q1 y1 = some r) ?_ ?_ (k := k) ⟨_, 0, (S.sub ⟨rfl, rfl, rfl, rfl, trivial⟩ .nil), h1⟩
    · rintro a w ⟨m, y1, S, h0⟩
      exact (nomatch (show (none : Option Bool) = some r from h0))
    · clear S h1
      rintro q1 a w ⟨m, y1, S, h0⟩
      replace h0 : smithyref07_Same.b1 x1 x2 (smithyref07_Same.l1 x1 x2 q1) y1 = some r := h0
      delta smithyref07_Same.b1 at h0
      refine c_region ?_
      refine s_bin S rfl rfl rfl rfl ?_; clear S a; intro a S
      refine c_end ?_
      refine wp_seq ?_
      rcases ite_of h0 with ⟨c2, h1⟩ | ⟨c2, h1⟩ <;> clear h0
      · refine c_condT S rfl c2 ?_
        refine wp_skip ?_
        refine x_thenN ?_
        refine wp_seq ?_
        refine wp_block ?_
        refine c_region ?_
        refine s_move S rfl rfl ?_; clear S a; intro a S
        refine s_assign S rfl rfl ?_; clear S a; intro a S
        refine c_end ?_
        refine wp_seq_k ?_
        intro K2 hK2
        have j2 : ∀ (m : Mem) (y2 : Bool) (a : Act) (w : World), St 56 m b0 [(54, (.v (.bool y2))), (13, (.v (.int .i64 y1))), (12, (.v (.int .i64 ((x1).length : Int)))), (0, (.sl ch_0_0 (x1).length ch_0_1 (RdS (Ty.prod Ty.bool (Ty.prod (Ty.slice (Ty.int .u8)) (Ty.int .i64))) ch_0_0 x1))), (1, (.sl ch_1_0 (x2).length ch_1_1 (RdS (Ty.prod Ty.bool (Ty.prod (Ty.slice (Ty.int .u8)) (Ty.int .i64))) ch_1_0 x2)))] [] a w → smithyref07_Same.j2 y1 (smithyref07_Same.l1 x1 x2 q1) y2 = some r → K2 a w := by
          intro m y2 a w S h0
          delta smithyref07_Same.j2 at h0
          refine hK2 a w ?_
          rcases ite_of h0 with ⟨c3, h1⟩ | ⟨c3, h1⟩ <;> clear h0
          · refine c_condT S rfl c3 ?_
            refine c_region ?_
            refine s_assign S rfl rfl ?_; clear S a; intro a S
            refine c_end ?_
            refine wp_ret ?_
            refine x_blockR ?_
            refine x_thenR ?_
            refine x_thenR ?_
            refine x_blockR ?_
            refine x_thenR ?_
            obtain rfl := Option.some.inj h1
            exact b_ret1 (d := (.v (.bool false))) S rfl rfl fun ok => S.retX (Hx := []) hb _ _ (() : Unit) .nil ok
          · refine c_condF S rfl c3 ?_
            refine wp_skip ?_
            refine x_blockN ?_
            refine x_thenN ?_
            refine c_region' ?_
            refine s_bin S rfl rfl rfl rfl ?_; clear S a; intro a S
            refine s_move S rfl rfl ?_; clear S a; intro a S
            refine c_end' ?_
            refine x_thenN ?_
            exact ⟨_, (wr .i64 (y1 + 1)), (S.sub ⟨rfl, rfl, rfl, rfl, trivial⟩ .nil), h1⟩
        refine c_heldS S (.take 0 (.take 1 (.take 2 (.take 3 (.take 4 (.take 5 (.take 6 (.take 7 (.take 8 (.take 9 (.take 10 (.take 11 (.take 12 (.take 13 (.take 14 (.take 15 (.take 16 (.take 17 (.take 18 (.take 19 (.take 20 (.take 21 (.take 22 (.take 23 (.take 24 (.take 25 (.take 26 (.take 27 (.take 28 (.take 29 (.take 30 (.take 31 (.take 32 (.take 33 (.take 34 (.take 35 (.take 36 (.take 37 (.take 38 .done))))))))))))))))))))))))))))))))))))))) 39 [] .nil trivial [(5, (.v (.int .i64 y1))), (0, (.sl ch_0_0 (x1).length ch_0_1 (RdS (Ty.prod Ty.bool (Ty.prod (Ty.slice (Ty.int .u8)) (Ty.int .i64))) ch_0_0 x1))), (1, (.sl ch_1_0 (x2).length ch_1_1 (RdS (Ty.prod Ty.bool (Ty.prod (Ty.slice (Ty.int .u8)) (Ty.int .i64))) ch_1_0 x2)))] ⟨rfl, rfl, rfl, trivial⟩ (by kernel_rfl) (by kernel_rfl) ?_; clear S; intro w S CL hw le
        refine h_move S CL hw le ⟨rfl, rfl, rfl, trivial⟩ rfl rfl rfl trivial ?_; clear S CL a; intro a S CL
        refine h_move S CL hw le ⟨rfl, rfl, rfl, rfl, trivial⟩ rfl rfl rfl trivial ?_; clear S CL a; intro a S CL
        obtain ⟨c4, h2⟩ := chk_of h1; clear h1
        refine h_iaddrS S CL hw le ⟨rfl, rfl, rfl, rfl, rfl, trivial⟩ rfl rfl rfl Try.underlying29 T43 c4.1 c4.2 rfl rfl trivial ?_; clear S CL a; intro p1 a S CL
        refine h_faddrP S CL hw le ⟨rfl, rfl, rfl, rfl, rfl, rfl, trivial⟩ (tF := Ty.bool) (y := (gt x1 y1).1) rfl I43_0 T4 (by decide) (fun m h => (at_fst (at_0 h))) rfl rfl trivial ?_; clear S CL a; intro a S CL
        refine h_ld1 S CL hw le ⟨rfl, rfl, rfl, rfl, rfl, rfl, rfl, trivial⟩ (v := (.bool ((gt x1 y1).1))) rfl T4 (fun _ => rfl) rfl rfl trivial ?_; clear S CL a; intro a S CL
        refine h_move S CL hw le ⟨rfl, rfl, rfl, rfl, rfl, rfl, rfl, rfl, trivial⟩ rfl rfl rfl trivial ?_; clear S CL a; intro a S CL
        refine h_move S CL hw le ⟨rfl, rfl, rfl, rfl, rfl, rfl, rfl, rfl, rfl, trivial⟩ rfl rfl rfl trivial ?_; clear S CL a; intro a S CL
        obtain ⟨c5, h3⟩ := chk_of h2; clear h2
        refine h_iaddrS S CL hw le ⟨rfl, rfl, rfl, rfl, rfl, rfl, rfl, rfl, rfl, rfl, trivial⟩ rfl rfl rfl Try.underlying29 T43 c5.1 c5.2 rfl rfl trivial ?_; clear S CL a; intro p2 a S CL
        refine h_faddrP S CL hw le ⟨rfl, rfl, rfl, rfl, rfl, rfl, rfl, rfl, rfl, rfl, rfl, trivial⟩ (tF := Ty.bool) (y := (gt x2 y1).1) rfl I43_0 T4 (by decide) (fun m h => (at_fst (at_0 h))) rfl rfl trivial ?_; clear S CL a; intro a S CL
        refine h_ld1 S CL hw le ⟨rfl, rfl, rfl, rfl, rfl, rfl, rfl, rfl, rfl, rfl, rfl, rfl, trivial⟩ (v := (.bool ((gt x2 y1).1))) rfl T4 (fun _ => rfl) rfl rfl trivial ?_; clear S CL a; intro a S CL
        refine h_neb S CL hw le ⟨rfl, rfl, rfl, rfl, rfl, rfl, rfl, rfl, rfl, rfl, rfl, rfl, rfl, trivial⟩ rfl rfl Try.underlying4 rfl rfl trivial ?_; clear S CL a; intro a S CL
        refine h_move S CL hw le ⟨rfl, rfl, rfl, rfl, rfl, rfl, rfl, rfl, rfl, rfl, rfl, rfl, rfl, rfl, trivial⟩ rfl rfl rfl trivial ?_; clear S CL a; intro a S CL
        rcases ite_of h3 with ⟨c6, h4⟩ | ⟨c6, h4⟩ <;> clear h3
        · refine h_skip S CL rfl rfl rfl (ne_bool c6) rfl ?_; clear S CL a; intro a S CL
          refine h_skip S CL rfl rfl rfl (ne_bool c6) rfl ?_; clear S CL a; intro a S CL
          refine h_skip S CL rfl rfl rfl (ne_bool c6) rfl ?_; clear S CL a; intro a S CL
          refine h_skip S CL rfl rfl rfl (ne_bool c6) rfl ?_; clear S CL a; intro a S CL
          refine h_skip S CL rfl rfl rfl (ne_bool c6) rfl ?_; clear S CL a; intro a S CL
          refine h_skip S CL rfl rfl rfl (ne_bool c6) rfl ?_; clear S CL a; intro a S CL
          refine h_skip S CL rfl rfl rfl (ne_bool c6) rfl ?_; clear S CL a; intro a S CL
          refine h_skip S CL rfl rfl rfl (ne_bool c6) rfl ?_; clear S CL a; intro a S CL
          refine h_skip S CL rfl rfl rfl (ne_bool c6) rfl ?_; clear S CL a; intro a S CL
          refine h_skip S CL rfl rfl rfl (ne_bool c6) rfl ?_; clear S CL a; intro a S CL
          refine h_skip S CL rfl rfl rfl (ne_bool c6) rfl ?_; clear S CL a; intro a S CL
          refine h_pick S CL hw le ⟨rfl, rfl, rfl, rfl, rfl, rfl, rfl, rfl, rfl, rfl, rfl, rfl, rfl, rfl, rfl, rfl, rfl, rfl, rfl, rfl, rfl, rfl, rfl, rfl, rfl, rfl, trivial⟩ (b := true) (hc_of rfl c6) rfl rfl rfl trivial ?_; clear S CL a; intro a S CL
          refine h_move S CL hw le ⟨rfl, rfl, rfl, rfl, rfl, rfl, rfl, rfl, rfl, rfl, rfl, rfl, rfl, rfl, rfl, rfl, rfl, rfl, rfl, rfl, rfl, rfl, rfl, rfl, rfl, rfl, rfl, trivial⟩ rfl rfl rfl trivial ?_; clear S CL a; intro a S CL
          refine h_skip S CL rfl rfl rfl (ne_bool rfl) rfl ?_; clear S CL a; intro a S CL
          refine h_skip S CL rfl rfl rfl (ne_bool rfl) rfl ?_; clear S CL a; intro a S CL
          refine h_skip S CL rfl rfl rfl (ne_bool rfl) rfl ?_; clear S CL a; intro a S CL
          refine h_skip S CL rfl rfl rfl (ne_bool rfl) rfl ?_; clear S CL a; intro a S CL
          refine h_skip S CL rfl rfl rfl (ne_bool rfl) rfl ?_; clear S CL a; intro a S CL
          refine h_skip S CL rfl rfl rfl (ne_bool rfl) rfl ?_; clear S CL a; intro a S CL
          refine h_skip S CL rfl rfl rfl (ne_bool rfl) rfl ?_; clear S CL a; intro a S CL
          refine h_skip S CL rfl rfl rfl (ne_bool rfl) rfl ?_; clear S CL a; intro a S CL
          refine h_skip S CL rfl rfl rfl (ne_bool rfl) rfl ?_; clear S CL a; intro a S CL
          refine h_skip S CL rfl rfl rfl (ne_bool rfl) rfl ?_; clear S CL a; intro a S CL
          refine h_skip S CL rfl rfl rfl (ne_bool rfl) rfl ?_; clear S CL a; intro a S CL
          refine h_skip S CL rfl rfl rfl (ne_bool rfl) rfl ?_; clear S CL a; intro a S CL
          refine h_skip S CL rfl rfl rfl (ne_bool rfl) rfl ?_; clear S CL a; intro a S CL
          refine h_pick S CL hw le ⟨rfl, rfl, rfl, rfl, rfl, rfl, rfl, rfl, rfl, rfl, rfl, rfl, rfl, rfl, rfl, rfl, rfl, rfl, rfl, rfl, rfl, rfl, rfl, rfl, rfl, rfl, rfl, rfl, rfl, rfl, rfl, rfl, rfl, rfl, rfl, rfl, rfl, rfl, rfl, rfl, rfl, trivial⟩ (b := true) (hc_of rfl rfl) rfl rfl rfl trivial ?_; clear S CL a; intro a S CL
          refine h_done ?_; clear CL hw le
          refine x_thenN ?_
          exact j2 _ true a w (S.sub ⟨rfl, rfl, rfl, rfl, rfl, trivial⟩ .nil) h4
        · refine h_move S CL hw le ⟨rfl, rfl, rfl, rfl, rfl, rfl, rfl, rfl, rfl, rfl, rfl, rfl, rfl, rfl, rfl, trivial⟩ rfl rfl rfl ⟨_, _, rfl, rfl, c6⟩ ?_; clear S CL a; intro a S CL
          refine h_move S CL hw le ⟨rfl, rfl, rfl, rfl, rfl, rfl, rfl, rfl, rfl, rfl, rfl, rfl, rfl, rfl, rfl, rfl, trivial⟩ rfl rfl rfl ⟨_, _, rfl, rfl, c6⟩ ?_; clear S CL a; intro a S CL
          refine h_iaddrS S CL hw le ⟨rfl, rfl, rfl, rfl, rfl, rfl, rfl, rfl, rfl, rfl, rfl, rfl, rfl, rfl, rfl, rfl, rfl, trivial⟩ rfl rfl rfl Try.underlying29 T43 c4.1 c4.2 rfl rfl ⟨_, _, rfl, rfl, c6⟩ ?_; clear S CL a; intro p3 a S CL
          refine h_faddrP S CL hw le ⟨rfl, rfl, rfl, rfl, rfl, rfl, rfl, rfl, rfl, rfl, rfl, rfl, rfl, rfl, rfl, rfl, rfl, rfl, trivial⟩ (tF := (Ty.int .i64)) (y := (gt x1 y1).2.2) rfl I43_2 T3 (by decide) (fun m h => (at_snd (at_snd (at_0 h)))) rfl rfl ⟨_, _, rfl, rfl, c6⟩ ?_; clear S CL a; intro a S CL
          refine h_ld1 S CL hw le ⟨rfl, rfl, rfl, rfl, rfl, rfl, rfl, rfl, rfl, rfl, rfl, rfl, rfl, rfl, rfl, rfl, rfl, rfl, rfl, trivial⟩ (v := (.int .i64 ((gt x1 y1).2.2))) rfl T3 (fun _ => rfl) rfl rfl ⟨_, _, rfl, rfl, c6⟩ ?_; clear S CL a; intro a S CL
          refine h_move S CL hw le ⟨rfl, rfl, rfl, rfl, rfl, rfl, rfl, rfl, rfl, rfl, rfl, rfl, rfl, rfl, rfl, rfl, rfl, rfl, rfl, rfl, trivial⟩ rfl rfl rfl ⟨_, _, rfl, rfl, c6⟩ ?_; clear S CL a; intro a S CL
          refine h_move S CL hw le ⟨rfl, rfl, rfl, rfl, rfl, rfl, rfl, rfl, rfl, rfl, rfl, rfl, rfl, rfl, rfl, rfl, rfl, rfl, rfl, rfl, rfl, trivial⟩ rfl rfl rfl ⟨_, _, rfl, rfl, c6⟩ ?_; clear S CL a; intro a S CL
          refine h_iaddrS S CL hw le ⟨rfl, rfl, rfl, rfl, rfl, rfl, rfl, rfl, rfl, rfl, rfl, rfl, rfl, rfl, rfl, rfl, rfl, rfl, rfl, rfl, rfl, rfl, trivial⟩ rfl rfl rfl Try.underlying29 T43 c5.1 c5.2 rfl rfl ⟨_, _, rfl, rfl, c6⟩ ?_; clear S CL a; intro p4 a S CL
          refine h_faddrP S CL hw le ⟨rfl, rfl, rfl, rfl, rfl, rfl, rfl, rfl, rfl, rfl, rfl, rfl, rfl, rfl, rfl, rfl, rfl, rfl, rfl, rfl, rfl, rfl, rfl, trivial⟩ (tF := (Ty.int .i64)) (y := (gt x2 y1).2.2) rfl I43_2 T3 (by decide) (fun m h => (at_snd (at_snd (at_0 h)))) rfl rfl ⟨_, _, rfl, rfl, c6⟩ ?_; clear S CL a; intro a S CL
          refine h_ld1 S CL hw le ⟨rfl, rfl, rfl, rfl, rfl, rfl, rfl, rfl, rfl, rfl, rfl, rfl, rfl, rfl, rfl, rfl, rfl, rfl, rfl, rfl, rfl, rfl, rfl, rfl, trivial⟩ (v := (.int .i64 ((gt x2 y1).2.2))) rfl T3 (fun _ => rfl) rfl rfl ⟨_, _, rfl, rfl, c6⟩ ?_; clear S CL a; intro a S CL
          refine h_bin S CL hw le ⟨rfl, rfl, rfl, rfl, rfl, rfl, rfl, rfl, rfl, rfl, rfl, rfl, rfl, rfl, rfl, rfl, rfl, rfl, rfl, rfl, rfl, rfl, rfl, rfl, rfl, trivial⟩ rfl rfl rfl rfl rfl ⟨_, _, rfl, rfl, c6⟩ ?_; clear S CL a; intro a S CL
          refine h_pick S CL hw le ⟨rfl, rfl, rfl, rfl, rfl, rfl, rfl, rfl, rfl, rfl, rfl, rfl, rfl, rfl, rfl, rfl, rfl, rfl, rfl, rfl, rfl, rfl, rfl, rfl, rfl, rfl, trivial⟩ (b := false) (hc_of rfl c6) rfl rfl rfl trivial ?_; clear S CL a; intro a S CL
          refine h_move S CL hw le ⟨rfl, rfl, rfl, rfl, rfl, rfl, rfl, rfl, rfl, rfl, rfl, rfl, rfl, rfl, rfl, rfl, rfl, rfl, rfl, rfl, rfl, rfl, rfl, rfl, rfl, rfl, rfl, trivial⟩ rfl rfl rfl trivial ?_; clear S CL a; intro a S CL
          rcases ite_of h4 with ⟨c7, h5⟩ | ⟨c7, h5⟩ <;> clear h4
          · refine h_skip S CL rfl rfl rfl (ne_bool c7) rfl ?_; clear S CL a; intro a S CL
            refine h_skip S CL rfl rfl rfl (ne_bool c7) rfl ?_; clear S CL a; intro a S CL
            refine h_skip S CL rfl rfl rfl (ne_bool c7) rfl ?_; clear S CL a; intro a S CL
            refine h_skip S CL rfl rfl rfl (ne_bool c7) rfl ?_; clear S CL a; intro a S CL
            refine h_skip S CL rfl rfl rfl (ne_bool c7) rfl ?_; clear S CL a; intro a S CL
            refine h_skip S CL rfl rfl rfl (ne_bool c7) rfl ?_; clear S CL a; intro a S CL
            refine h_skip S CL rfl rfl rfl (ne_bool c7) rfl ?_; clear S CL a; intro a S CL
            refine h_skip S CL rfl rfl rfl (ne_bool c7) rfl ?_; clear S CL a; intro a S CL
            refine h_skip S CL rfl rfl rfl (ne_bool c7) rfl ?_; clear S CL a; intro a S CL
            refine h_skip S CL rfl rfl rfl (ne_bool c7) rfl ?_; clear S CL a; intro a S CL
            refine h_skip S CL rfl rfl rfl (ne_bool c7) rfl ?_; clear S CL a; intro a S CL
            refine h_skip S CL rfl rfl rfl (ne_bool c7) rfl ?_; clear S CL a; intro a S CL
            refine h_skip S CL rfl rfl rfl (ne_bool c7) rfl ?_; clear S CL a; intro a S CL
            refine h_pick S CL hw le ⟨rfl, rfl, rfl, rfl, rfl, rfl, rfl, rfl, rfl, rfl, rfl, rfl, rfl, rfl, rfl, rfl, rfl, rfl, rfl, rfl, rfl, rfl, rfl, rfl, rfl, rfl, rfl, rfl, rfl, rfl, rfl, rfl, rfl, rfl, rfl, rfl, rfl, rfl, rfl, rfl, rfl, trivial⟩ (b := true) (hc_of rfl c7) rfl rfl rfl trivial ?_; clear S CL a; intro a S CL
            refine h_done ?_; clear CL hw le
            refine x_thenN ?_
            exact j2 _ true a w (S.sub ⟨rfl, rfl, rfl, rfl, rfl, trivial⟩ .nil) h5
          · refine h_move S CL hw le ⟨rfl, rfl, rfl, rfl, rfl, rfl, rfl, rfl, rfl, rfl, rfl, rfl, rfl, rfl, rfl, rfl, rfl, rfl, rfl, rfl, rfl, rfl, rfl, rfl, rfl, rfl, rfl, rfl, trivial⟩ rfl rfl rfl ⟨_, _, rfl, rfl, c7⟩ ?_; clear S CL a; intro a S CL
            refine h_move S CL hw le ⟨rfl, rfl, rfl, rfl, rfl, rfl, rfl, rfl, rfl, rfl, rfl, rfl, rfl, rfl, rfl, rfl, rfl, rfl, rfl, rfl, rfl, rfl, rfl, rfl, rfl, rfl, rfl, rfl, rfl, trivial⟩ rfl rfl rfl ⟨_, _, rfl, rfl, c7⟩ ?_; clear S CL a; intro a S CL
            refine h_iaddrS S CL hw le ⟨rfl, rfl, rfl, rfl, rfl, rfl, rfl, rfl, rfl, rfl, rfl, rfl, rfl, rfl, rfl, rfl, rfl, rfl, rfl, rfl, rfl, rfl, rfl, rfl, rfl, rfl, rfl, rfl, rfl, rfl, trivial⟩ rfl rfl rfl Try.underlying29 T43 c4.1 c4.2 rfl rfl ⟨_, _, rfl, rfl, c7⟩ ?_; clear S CL a; intro p5 a S CL
            refine h_faddrP S CL hw le ⟨rfl, rfl, rfl, rfl, rfl, rfl, rfl, rfl, rfl, rfl, rfl, rfl, rfl, rfl, rfl, rfl, rfl, rfl, rfl, rfl, rfl, rfl, rfl, rfl, rfl, rfl, rfl, rfl, rfl, rfl, rfl, trivial⟩ (tF := (Ty.slice (Ty.int .u8))) (y := (gt x1 y1).2.1) rfl I43_1 T25 (by decide) (fun m h => (at_fst (at_snd (at_0 h)))) rfl rfl ⟨_, _, rfl, rfl, c7⟩ ?_; clear S CL a; intro a S CL
            refine h_ldS S CL hw le ⟨rfl, rfl, rfl, rfl, rfl, rfl, rfl, rfl, rfl, rfl, rfl, rfl, rfl, rfl, rfl, rfl, rfl, rfl, rfl, rfl, rfl, rfl, rfl, rfl, rfl, rfl, rfl, rfl, rfl, rfl, rfl, rfl, trivial⟩ (fun c => c) rfl T25 (fun _ => rfl) rfl rfl ⟨_, _, rfl, rfl, c7⟩ ?_; clear S CL a; intro A1 cp1 a S CL
            refine h_strS S CL hw le ⟨rfl, rfl, rfl, rfl, rfl, rfl, rfl, rfl, rfl, rfl, rfl, rfl, rfl, rfl, rfl, rfl, rfl, rfl, rfl, rfl, rfl, rfl, rfl, rfl, rfl, rfl, rfl, rfl, rfl, rfl, rfl, rfl, rfl, trivial⟩ rfl rfl Try.underlying25 Try.underlying5 Try.underlying9 rfl rfl ⟨_, _, rfl, rfl, c7⟩ ?_; clear S CL a; intro a S CL
            refine h_move S CL hw le ⟨rfl, rfl, rfl, rfl, rfl, rfl, rfl, rfl, rfl, rfl, rfl, rfl, rfl, rfl, rfl, rfl, rfl, rfl, rfl, rfl, rfl, rfl, rfl, rfl, rfl, rfl, rfl, rfl, rfl, rfl, rfl, rfl, rfl, rfl, trivial⟩ rfl rfl rfl ⟨_, _, rfl, rfl, c7⟩ ?_; clear S CL a; intro a S CL
            refine h_move S CL hw le ⟨rfl, rfl, rfl, rfl, rfl, rfl, rfl, rfl, rfl, rfl, rfl, rfl, rfl, rfl, rfl, rfl, rfl, rfl, rfl, rfl, rfl, rfl, rfl, rfl, rfl, rfl, rfl, rfl, rfl, rfl, rfl, rfl, rfl, rfl, rfl, trivial⟩ rfl rfl rfl ⟨_, _, rfl, rfl, c7⟩ ?_; clear S CL a; intro a S CL
            refine h_iaddrS S CL hw le ⟨rfl, rfl, rfl, rfl, rfl, rfl, rfl, rfl, rfl, rfl, rfl, rfl, rfl, rfl, rfl, rfl, rfl, rfl, rfl, rfl, rfl, rfl, rfl, rfl, rfl, rfl, rfl, rfl, rfl, rfl, rfl, rfl, rfl, rfl, rfl, rfl, trivial⟩ rfl rfl rfl Try.underlying29 T43 c5.1 c5.2 rfl rfl ⟨_, _, rfl, rfl, c7⟩ ?_; clear S CL a; intro p6 a S CL
            refine h_faddrP S CL hw le ⟨rfl, rfl, rfl, rfl, rfl, rfl, rfl, rfl, rfl, rfl, rfl, rfl, rfl, rfl, rfl, rfl, rfl, rfl, rfl, rfl, rfl, rfl, rfl, rfl, rfl, rfl, rfl, rfl, rfl, rfl, rfl, rfl, rfl, rfl, rfl, rfl, rfl, trivial⟩ (tF := (Ty.slice (Ty.int .u8))) (y := (gt x2 y1).2.1) rfl I43_1 T25 (by decide) (fun m h => (at_fst (at_snd (at_0 h)))) rfl rfl ⟨_, _, rfl, rfl, c7⟩ ?_; clear S CL a; intro a S CL
            refine h_ldS S CL hw le ⟨rfl, rfl, rfl, rfl, rfl, rfl, rfl, rfl, rfl, rfl, rfl, rfl, rfl, rfl, rfl, rfl, rfl, rfl, rfl, rfl, rfl, rfl, rfl, rfl, rfl, rfl, rfl, rfl, rfl, rfl, rfl, rfl, rfl, rfl, rfl, rfl, rfl, rfl, trivial⟩ (fun c => c) rfl T25 (fun _ => rfl) rfl rfl ⟨_, _, rfl, rfl, c7⟩ ?_; clear S CL a; intro A2 cp2 a S CL
            refine h_strS S CL hw le ⟨rfl, rfl, rfl, rfl, rfl, rfl, rfl, rfl, rfl, rfl, rfl, rfl, rfl, rfl, rfl, rfl, rfl, rfl, rfl, rfl, rfl, rfl, rfl, rfl, rfl, rfl, rfl, rfl, rfl, rfl, rfl, rfl, rfl, rfl, rfl, rfl, rfl, rfl, rfl, trivial⟩ rfl rfl Try.underlying25 Try.underlying5 Try.underlying9 rfl rfl ⟨_, _, rfl, rfl, c7⟩ ?_; clear S CL a; intro a S CL
            refine h_neT S CL hw le ⟨rfl, rfl, rfl, rfl, rfl, rfl, rfl, rfl, rfl, rfl, rfl, rfl, rfl, rfl, rfl, rfl, rfl, rfl, rfl, rfl, rfl, rfl, rfl, rfl, rfl, rfl, rfl, rfl, rfl, rfl, rfl, rfl, rfl, rfl, rfl, rfl, rfl, rfl, rfl, rfl, trivial⟩ rfl rfl rfl rfl ⟨_, _, rfl, rfl, c7⟩ ?_; clear S CL a; intro a S CL
            refine h_pick S CL hw le ⟨rfl, rfl, rfl, rfl, rfl, rfl, rfl, rfl, rfl, rfl, rfl, rfl, rfl, rfl, rfl, rfl, rfl, rfl, rfl, rfl, rfl, rfl, rfl, rfl, rfl, rfl, rfl, rfl, rfl, rfl, rfl, rfl, rfl, rfl, rfl, rfl, rfl, rfl, rfl, rfl, rfl, trivial⟩ (b := false) (hc_of rfl c7) rfl rfl rfl trivial ?_; clear S CL a; intro a S CL
            refine h_done ?_; clear CL hw le
            refine x_thenN ?_
            exact j2 _ (!((bstr ((gt x1 y1).2.1)).toList == (bstr ((gt x2 y1).2.1)).toList)) a w (S.sub ⟨rfl, rfl, rfl, rfl, rfl, trivial⟩ .nil) h5
      · refine c_condF S rfl c2 ?_
        refine wp_exit ?_
        refine x_thenX ?_
        refine x_thenX ?_
        refine x_blockX ?_
        refine x_thenN ?_
        exact j1 _ a w (S.sub trivial .nil) h1
/-! smithy/smithylaw07.RlpEncodes -/
abbrev smithylaw07_RlpEncodes.Ty : Type := (List (Bool × (List Int) × Int)) → Option Bool
def smithylaw07_RlpEncodes.Ctr (s : smithylaw07_RlpEncodes.Ty) : Prop := ∀ (x1 : List (Bool × (List Int) × Int)) (ch_0_0 : Option Addr) (ch_0_1 : Nat) (r : Bool) (h0 : s x1 = some r) (mi : Mem) (w0 : World), okL mi [(.sl ch_0_0 (x1).length ch_0_1 (RdS (Ty.prod Ty.bool (Ty.prod (Ty.slice (Ty.int .u8)) (Ty.int .i64))) ch_0_0 x1))] → Pre mi [] w0 → Calls Try.prog 4 (([(.sl ch_0_0 (x1).length ch_0_1 (RdS (Ty.prod Ty.bool (Ty.prod (Ty.slice (Ty.int .u8)) (Ty.int .i64))) ch_0_0 x1))] : List D).map D.val).toArray w0 (RetX mi [] (fun (ch : Unit) => ((.v (.bool r)) : D)) (fun (ch : Unit) => []) w0)
def smithylaw07_RlpEncodes.j1 (k : Nat) (x1 : List (Bool × (List Int) × Int)) (t3 : (List Int) × Int) (y1 : Bool) : Option Bool := if y1 = true then (some false) else (if (t3.2 != 0) = true then (some true) else ((rlp_Decode.f k t3.1).bind fun t6 => (if (t6.2 == 0) = true then ((smithyref07_Same.f k t6.1 x1).bind fun t7 => (some t7)) else (some false))))
def smithylaw07_RlpEncodes.f (k : Nat) (x1 : List (Bool × (List Int) × Int)) : Option Bool := (smithyref07_Great.f k x1).bind fun t1 => (if t1 = true then ((smithylaw07_fixed.f k).bind fun t2 => (some t2)) else ((rlp_Encode.f k x1).bind fun t3 => ((smithyref07_Encode.f k x1).bind fun t4 => ((smithylaw07_fixed.f k).bind fun t8 => (if (!t8) = true then (smithylaw07_RlpEncodes.j1 k x1 t3 true) else (if (!((bstr t3.1).toList == (bstr t4.1).toList)) = true then (smithylaw07_RlpEncodes.j1 k x1 t3 true) else (smithylaw07_RlpEncodes.j1 k x1 t3 (t3.2 != t4.2))))))))
theorem smithylaw07_RlpEncodes.ok (k : Nat) : smithylaw07_RlpEncodes.Ctr (smithylaw07_RlpEncodes.f k) := by
  intro x1 ch_0_0 ch_0_1 r h0 mi w0 ok hm
  delta smithylaw07_RlpEncodes.f at h0
  refine c_enterX (n := 50) [(.sl ch_0_0 (x1).length ch_0_1 (RdS (Ty.prod Ty.bool (Ty.prod (Ty.slice (Ty.int .u8)) (Ty.int .i64))) ch_0_0 x1))] (l := [(0, (.sl ch_0_0 (x1).length ch_0_1 (RdS (Ty.prod Ty.bool (Ty.prod (Ty.slice (Ty.int .u8)) (Ty.int .i64))) ch_0_0 x1)))]) Try.func4 rfl rfl rfl rfl ok hm ?_
  clear ok hm
  intro b0 hb a S
  refine c_region ?_
  refine s_assign S rfl rfl ?_; clear S a; intro a S
  refine c_end ?_
  refine wp_seq ?_
  refine c_region ?_
  refine s_move S rfl rfl ?_; clear S a; intro a S
  obtain ⟨t1, et1, h1⟩ := bind_of h0; clear h0
  refine s_callX S (ds' := [(.sl ch_0_0 (x1).length ch_0_1 (RdS (Ty.prod Ty.bool (Ty.prod (Ty.slice (Ty.int .u8)) (Ty.int .i64))) ch_0_0 x1))]) (ds := [(.sl ch_0_0 (x1).length ch_0_1 (RdS (Ty.prod Ty.bool (Ty.prod (Ty.slice (Ty.int .u8)) (Ty.int .i64))) ch_0_0 x1))]) [] [] (fun (ch : Unit) => ((.v (.bool t1)) : D)) (fun (ch : Unit) => []) (fun (ch : Unit) => []) (fun _ => rfl) N10 rfl rfl (fun ok => ok) .nil rfl (smithyref07_Great.ok k x1 ch_0_0 ch_0_1 t1 et1 _ _) ?_; clear S a; intro ch1 m le1 a w S
  refine c_end ?_
  rcases ite_of h1 with ⟨c1, h2⟩ | ⟨c1, h2⟩ <;> clear h1
  · refine c_condT S rfl c1 ?_
    refine c_region ?_
    obtain ⟨t2, et2, h3⟩ := bind_of h2; clear h2
    refine s_callX S (ds' := []) (ds := []) [] [] (fun (ch : Unit) => ((.v (.bool t2)) : D)) (fun (ch : Unit) => []) (fun (ch : Unit) => []) (fun _ => rfl) N8 rfl rfl (fun ok => ok) .nil rfl (smithylaw07_fixed.ok k t2 et2 _ _) ?_; clear S a w; intro ch2 m le1 a w S
    refine s_assign S rfl rfl ?_; clear S a; intro a S
    refine c_end ?_
    refine wp_ret ?_
    refine x_thenR ?_
    obtain rfl := Option.some.inj h3
    exact b_ret1 (d := (.v (.bool t2))) S rfl rfl fun ok => S.retX (Hx := []) hb _ _ (() : Unit) .nil ok
  · refine c_condF S rfl c1 ?_
    refine wp_skip ?_
    refine x_thenN ?_
    refine c_region ?_
    refine s_move S rfl rfl ?_; clear S a; intro a S
    obtain ⟨t3, et3, h3⟩ := bind_of h2; clear h2
    refine s_callX S (ds' := [(.sl ch_0_0 (x1).length ch_0_1 (RdS (Ty.prod Ty.bool (Ty.prod (Ty.slice (Ty.int .u8)) (Ty.int .i64))) ch_0_0 x1))]) (ds := [(.sl ch_0_0 (x1).length ch_0_1 (RdS (Ty.prod Ty.bool (Ty.prod (Ty.slice (Ty.int .u8)) (Ty.int .i64))) ch_0_0 x1))]) [] [] (fun (ch : (Option Addr) × Nat) => ((.tup [(false, [.sl ch.1 (t3.1).length ch.2 (RdS (Ty.int .u8) ch.1 t3.1)]), (false, [.one (.int .i64 t3.2)])]) : D)) (fun (ch : (Option Addr) × Nat) => []) (fun (ch : (Option Addr) × Nat) => []) (fun _ => rfl) N11 rfl rfl (fun ok => ok) .nil rfl (rlp_Encode.ok k x1 ch_0_0 ch_0_1 t3 et3 _ _) ?_; clear S a w; intro ch3 m le1 a w S
    refine s_move S rfl rfl ?_; clear S a; intro a S
    refine s_extract S rfl rfl rfl rfl ?_; clear S a; intro a S
    refine s_extract S rfl rfl rfl rfl ?_; clear S a; intro a S
    refine s_assign S rfl rfl ?_; clear S a; intro a S
    refine s_assign S rfl rfl ?_; clear S a; intro a S
    refine c_end ?_
    refine c_region ?_
    refine s_move S rfl rfl ?_; clear S a; intro a S
    obtain ⟨t4, et4, h4⟩ := bind_of h3; clear h3
    refine s_callX S (ds' := [(.sl ch_0_0 (x1).length ch_0_1 (RdS (Ty.prod Ty.bool (Ty.prod (Ty.slice (Ty.int .u8)) (Ty.int .i64))) ch_0_0 x1))]) (ds := [(.sl ch_0_0 (x1).length ch_0_1 (RdS (Ty.prod Ty.bool (Ty.prod (Ty.slice (Ty.int .u8)) (Ty.int .i64))) ch_0_0 x1))]) [] [] (fun (ch : (Option Addr) × Nat × Nat) => ((.tup [(false, [.one (.slice ch.1 ch.2.1 ch.2.2)]), (false, [.one (.int .i64 t4.2)])]) : D)) (fun (ch : (Option Addr) × Nat × Nat) => [Res.row (Ty.int .u8) 5 ch.1 ch.2.1 ch.2.2 t4.1]) (fun (ch : (Option Addr) × Nat × Nat) => [Res.row (Ty.int .u8) 5 ch.1 ch.2.1 ch.2.2 t4.1]) (fun _ => rfl) N12 rfl rfl (fun ok => ok) .nil rfl (smithyref07_Encode.ok k x1 ch_0_0 ch_0_1 t4 et4 _ _) ?_; clear S a w; intro ch4 m le1 a w S
    refine s_move S rfl rfl ?_; clear S a; intro a S
    refine s_extract S rfl rfl rfl rfl ?_; clear S a; intro a S
    refine s_extract S rfl rfl rfl rfl ?_; clear S a; intro a S
    refine s_assign S rfl rfl ?_; clear S a; intro a S
    refine s_assign S rfl rfl ?_; clear S a; intro a S
    refine c_end ?_
    refine wp_seq ?_
    refine wp_seq_k ?_
    intro K1 hK1
    have j1 : ∀ (m : Mem) (y1 : Bool) (A1 : Option Addr) (cp1 : Nat) (a : Act) (w : World), St 50 m b0 [(35, (.v (.bool y1))), (4, (.v (.int .i64 t3.2))), (3, (.sl A1 (t3.1).length cp1 (RdS (Ty.int .u8) A1 t3.1))), (0, (.sl ch_0_0 (x1).length ch_0_1 (RdS (Ty.prod Ty.bool (Ty.prod (Ty.slice (Ty.int .u8)) (Ty.int .i64))) ch_0_0 x1)))] [] a w → smithylaw07_RlpEncodes.j1 k x1 t3 y1 = some r → K1 a w := by
      intro m y1 A1 cp1 a w S h0
      delta smithylaw07_RlpEncodes.j1 at h0
      refine hK1 a w ?_
      rcases ite_of h0 with ⟨c2, h1⟩ | ⟨c2, h1⟩ <;> clear h0
      · refine c_condT S rfl c2 ?_
        refine c_region ?_
        refine s_assign S rfl rfl ?_; clear S a; intro a S
        refine c_end ?_
        refine wp_ret ?_
        refine x_thenR ?_
        obtain rfl := Option.some.inj h1
        exact b_ret1 (d := (.v (.bool false))) S rfl rfl fun ok => S.retX (Hx := []) hb _ _ (() : Unit) .nil ok
      · refine c_condF S rfl c2 ?_
        refine wp_skip ?_
        refine x_thenN ?_
        refine wp_seq ?_
        refine c_region ?_
        refine s_move S rfl rfl ?_; clear S a; intro a S
        refine s_bin S rfl rfl rfl rfl ?_; clear S a; intro a S
        refine c_end ?_
        rcases ite_of h1 with ⟨c3, h2⟩ | ⟨c3, h2⟩ <;> clear h1
        · refine c_condT S rfl c3 ?_
          refine c_region ?_
          refine s_assign S rfl rfl ?_; clear S a; intro a S
          refine c_end ?_
          refine wp_ret ?_
          refine x_thenR ?_
          obtain rfl := Option.some.inj h2
          exact b_ret1 (d := (.v (.bool true))) S rfl rfl fun ok => S.retX (Hx := []) hb _ _ (() : Unit) .nil ok
        · refine c_condF S rfl c3 ?_
          refine wp_skip ?_
          refine x_thenN ?_
          refine c_region ?_
          refine s_move S rfl rfl ?_; clear S a; intro a S
          obtain ⟨t6, et6, h3⟩ := bind_of h2; clear h2
          refine s_callX S (ds' := [(.sl A1 (t3.1).length cp1 (RdS (Ty.int .u8) A1 t3.1))]) (ds := [(.sl A1 (t3.1).length cp1 (RdS (Ty.int .u8) A1 t3.1))]) [] [] (fun (ch : (Option Addr) × Nat × Nat) => ((.tup [(false, [.one (.slice ch.1 ch.2.1 ch.2.2)]), (false, [.one (.int .i64 t6.2)])]) : D)) (fun (ch : (Option Addr) × Nat × Nat) => [Res.row (Ty.prod Ty.bool (Ty.prod (Ty.slice (Ty.int .u8)) (Ty.int .i64))) 43 ch.1 ch.2.1 ch.2.2 t6.1]) (fun (ch : (Option Addr) × Nat × Nat) => [Res.row (Ty.prod Ty.bool (Ty.prod (Ty.slice (Ty.int .u8)) (Ty.int .i64))) 43 ch.1 ch.2.1 ch.2.2 t6.1]) (fun _ => rfl) N13 rfl rfl (fun ok => ok) .nil rfl (rlp_Decode.ok k t3.1 A1 cp1 t6 et6 _ _) ?_; clear S a w; intro ch5 m le1 a w S
          refine s_move S rfl rfl ?_; clear S a; intro a S
          refine s_extract S rfl rfl rfl rfl ?_; clear S a; intro a S
          refine s_extract S rfl rfl rfl rfl ?_; clear S a; intro a S
          refine s_assign S rfl rfl ?_; clear S a; intro a S
          refine s_assign S rfl rfl ?_; clear S a; intro a S
          refine c_end ?_
          refine c_region ?_
          refine s_move S rfl rfl ?_; clear S a; intro a S
          refine s_bin S rfl rfl rfl rfl ?_; clear S a; intro a S
          refine s_move S rfl rfl ?_; clear S a; intro a S
          rcases ite_of h3 with ⟨c4, h4⟩ | ⟨c4, h4⟩ <;> clear h3
          · refine s_gT S (b := (t6.2 == 0)) rfl rfl c4 ?_
            refine s_move S rfl rfl ?_; clear S a; intro a S
            refine s_gT S (b := (t6.2 == 0)) rfl rfl c4 ?_
            refine s_move S rfl rfl ?_; clear S a; intro a S
            refine s_gT S (b := (t6.2 == 0)) rfl rfl c4 ?_
            replace S := S.rowfro .here
            obtain ⟨m, le1, S, hro⟩ := S
            replace S := S.slotro (u := 46) rfl hro
            replace S := S.slotro (u := 7) rfl hro
            replace S := S.slotro (u := 41) rfl hro
            obtain ⟨t7, et7, h5⟩ := bind_of h4; clear h4
            refine s_callX S (ds' := [(.sl ch5.1 (t6.1).length ch5.2.2 (RdS (Ty.prod Ty.bool (Ty.prod (Ty.slice (Ty.int .u8)) (Ty.int .i64))) ch5.1 t6.1)), (.sl ch_0_0 (x1).length ch_0_1 (RdS (Ty.prod Ty.bool (Ty.prod (Ty.slice (Ty.int .u8)) (Ty.int .i64))) ch_0_0 x1))]) (ds := [(.sl ch5.1 (t6.1).length ch5.2.2 (RdS (Ty.prod Ty.bool (Ty.prod (Ty.slice (Ty.int .u8)) (Ty.int .i64))) ch5.1 t6.1)), (.sl ch_0_0 (x1).length ch_0_1 (RdS (Ty.prod Ty.bool (Ty.prod (Ty.slice (Ty.int .u8)) (Ty.int .i64))) ch_0_0 x1))]) [] [] (fun (ch : Unit) => ((.v (.bool t7)) : D)) (fun (ch : Unit) => []) (fun (ch : Unit) => []) (fun _ => rfl) N14 rfl rfl (fun ok => ok) .nil rfl (smithyref07_Same.ok k t6.1 x1 ch5.1 ch5.2.2 ch_0_0 ch_0_1 t7 et7 _ _) ?_; clear S a w; intro ch6 m le1 a w S
            refine s_pick S (b := true) (hc_of rfl c4) rfl rfl ?_; clear S a; intro a S
            refine s_assign S rfl rfl ?_; clear S a; intro a S
            refine c_end ?_
            refine wp_ret ?_
            obtain rfl := Option.some.inj h5
            exact b_ret1 (d := (.v (.bool t7))) S rfl rfl fun ok => S.retX (Hx := []) hb _ _ (() : Unit) .nil ok
          · refine s_gF S (b := (t6.2 == 0)) rfl rfl c4 rfl ?_; clear S a; intro a S
            refine s_gF S (b := (t6.2 == 0)) rfl rfl c4 rfl ?_; clear S a; intro a S
            refine s_gF S (b := (t6.2 == 0)) rfl rfl c4 rfl ?_; clear S a; intro a S
            refine s_pick S (b := false) (hc_of rfl c4) rfl rfl ?_; clear S a; intro a S
            refine s_assign S rfl rfl ?_; clear S a; intro a S
            refine c_end ?_
            refine wp_ret ?_
            obtain rfl := Option.some.inj h4
            exact b_ret1 (d := (.v (.bool false))) S rfl rfl fun ok => S.retX (Hx := []) hb _ _ (() : Unit) .nil ok
    refine c_region' ?_
    obtain ⟨t8, et8, h5⟩ := bind_of h4; clear h4
    refine s_callX S (ds' := []) (ds := []) [] [Res.row (Ty.int .u8) 5 ch4.1 ch4.2.1 ch4.2.2 t4.1] (fun (ch : Unit) => ((.v (.bool t8)) : D)) (fun (ch : Unit) => []) (fun (ch : Unit) => [Res.row (Ty.int .u8) 5 ch4.1 ch4.2.1 ch4.2.2 t4.1]) (fun _ => rfl) N8 rfl rfl (fun ok => ok) (.cons .here .nil) rfl (smithylaw07_fixed.ok k t8 et8 _ _) ?_; clear S a w; intro ch7 m le1 a w S
    refine s_not S rfl rfl ?_; clear S a; intro a S
    refine s_move S rfl rfl ?_; clear S a; intro a S
    rcases ite_of h5 with ⟨c5, h6⟩ | ⟨c5, h6⟩ <;> clear h5
    · refine s_gF S (b := (!t8)) rfl rfl c5 rfl ?_; clear S a; intro a S
      refine s_gF S (b := (!t8)) rfl rfl c5 rfl ?_; clear S a; intro a S
      refine s_gF S (b := (!t8)) rfl rfl c5 rfl ?_; clear S a; intro a S
      refine s_gF S (b := (!t8)) rfl rfl c5 rfl ?_; clear S a; intro a S
      refine s_gF S (b := (!t8)) rfl rfl c5 rfl ?_; clear S a; intro a S
      refine s_pick S (b := true) (hc_of rfl c5) rfl rfl ?_; clear S a; intro a S
      refine s_move S rfl rfl ?_; clear S a; intro a S
      refine s_gF S (b := true) rfl rfl rfl rfl ?_; clear S a; intro a S
      refine s_gF S (b := true) rfl rfl rfl rfl ?_; clear S a; intro a S
      refine s_gF S (b := true) rfl rfl rfl rfl ?_; clear S a; intro a S
      refine s_pick S (b := true) (hc_of rfl rfl) rfl rfl ?_; clear S a; intro a S
      refine c_end' ?_
      refine x_thenN ?_
      exact j1 _ true ch3.1 ch3.2 a w (S.sub ⟨rfl, rfl, rfl, rfl, trivial⟩ .nil) h6
    · refine s_gT S (b := (!t8)) rfl rfl c5 ?_
      refine s_move S rfl rfl ?_; clear S a; intro a S
      refine s_gT S (b := (!t8)) rfl rfl c5 ?_
      refine s_strS S rfl rfl Try.underlying25 Try.underlying5 Try.underlying9 rfl ?_; clear S a; intro a S
      refine s_gT S (b := (!t8)) rfl rfl c5 ?_
      refine s_move S rfl rfl ?_; clear S a; intro a S
      refine s_gT S (b := (!t8)) rfl rfl c5 ?_
      replace S := S.rowfro .here
      obtain ⟨m, le1, S, hro⟩ := S
      replace S := S.slotro (u := 27) rfl hro
      replace S := S.slotro (u := 5) rfl hro
      replace S := S.slotro (u := 20) rfl hro
      refine s_strS S rfl rfl Try.underlying25 Try.underlying5 Try.underlying9 rfl ?_; clear S a; intro a S
      refine s_gT S (b := (!t8)) rfl rfl c5 ?_
      refine s_neT S rfl rfl rfl ?_; clear S a; intro a S
      refine s_pick S (b := false) (hc_of rfl c5) rfl rfl ?_; clear S a; intro a S
      refine s_move S rfl rfl ?_; clear S a; intro a S
      rcases ite_of h6 with ⟨c6, h7⟩ | ⟨c6, h7⟩ <;> clear h6
      · refine s_gF S (b := (!((bstr t3.1).toList == (bstr t4.1).toList))) rfl rfl c6 rfl ?_; clear S a; intro a S
        refine s_gF S (b := (!((bstr t3.1).toList == (bstr t4.1).toList))) rfl rfl c6 rfl ?_; clear S a; intro a S
        refine s_gF S (b := (!((bstr t3.1).toList == (bstr t4.1).toList))) rfl rfl c6 rfl ?_; clear S a; intro a S
        refine s_pick S (b := true) (hc_of rfl c6) rfl rfl ?_; clear S a; intro a S
        refine c_end' ?_
        refine x_thenN ?_
        exact j1 _ true ch3.1 ch3.2 a w (S.sub ⟨rfl, rfl, rfl, rfl, trivial⟩ .nil) h7
      · refine s_gT S (b := (!((bstr t3.1).toList == (bstr t4.1).toList))) rfl rfl c6 ?_
        refine s_move S rfl rfl ?_; clear S a; intro a S
        refine s_gT S (b := (!((bstr t3.1).toList == (bstr t4.1).toList))) rfl rfl c6 ?_
        refine s_move S rfl rfl ?_; clear S a; intro a S
        refine s_gT S (b := (!((bstr t3.1).toList == (bstr t4.1).toList))) rfl rfl c6 ?_
        refine s_bin S rfl rfl rfl rfl ?_; clear S a; intro a S
        refine s_pick S (b := false) (hc_of rfl c6) rfl rfl ?_; clear S a; intro a S
        refine c_end' ?_
        refine x_thenN ?_
        exact j1 _ (t3.2 != t4.2) ch3.1 ch3.2 a w (S.sub ⟨rfl, rfl, rfl, rfl, trivial⟩ .nil) h7
/-! smithy/smithyref07.head -/
abbrev smithyref07_head.Ty : Type := (List Int) → Int → Option (Bool × Int × Int × Int)
def smithyref07_head.Ctr (s : smithyref07_head.Ty) : Prop := ∀ (x1 : List Int) (x2 : Int) (ch_0_0 : Option Addr) (ch_0_1 : Nat) (r : Bool × Int × Int × Int) (h0 : s x1 x2 = some r) (mi : Mem) (w0 : World), okL mi [(.sl ch_0_0 (x1).length ch_0_1 (RdS (Ty.int .u8) ch_0_0 x1)), (.v (.int .i64 x2))] → Pre mi [] w0 → Calls Try.prog 33 (([(.sl ch_0_0 (x1).length ch_0_1 (RdS (Ty.int .u8) ch_0_0 x1)), (.v (.int .i64 x2))] : List D).map D.val).toArray w0 (RetX mi [] (fun (ch : Unit) => ((.tup [(false, [.one (.bool r.1)]), (false, [.one (.int .i64 r.2.1)]), (false, [.one (.int .i64 r.2.2.1)]), (false, [.one (.int .i64 r.2.2.2)])]) : D)) (fun (ch : Unit) => []) w0)
def smithyref07_head.j2 (x1 : List Int) (x2 : Int) (y1 : Int) (y8 : Int) : Option (Bool × Int × Int × Int) := if (decide (y8 ≤ 55)) = true then (some (decide (192 ≤ (wr .i64 (rd x1 x2))), 0, 0, 2)) else (some (decide (192 ≤ (wr .i64 (rd x1 x2))), wr .i64 ((wr .i64 (x2 + 1)) + (wr .i64 (y1 - 183))), y8, 0))
def smithyref07_head.j3 (y13 : Int) (rec1 : Int → Int → Option (Bool × Int × Int × Int)) (y15 : Int) : Option (Bool × Int × Int × Int) := rec1 (wr .i64 (y13 + 1)) y15
def smithyref07_head.b1 (x1 : List Int) (x2 : Int) (y1 : Int) (rec1 : Int → Int → Option (Bool × Int × Int × Int)) (y13 : Int) (y14 : Int) : Option (Bool × Int × Int × Int) := if (decide (y13 < (wr .i64 (y1 - 183)))) = true then (if (0 : Int) ≤ (wr .i64 ((wr .i64 (x2 + 1)) + y13)) ∧ (wr .i64 ((wr .i64 (x2 + 1)) + y13)) < ((x1).length : Int) then (if (decide (1000000000 < (wr .i64 ((wr .i64 (y14 * 256)) + (wr .i64 (rd x1 (wr .i64 ((wr .i64 (x2 + 1)) + y13)))))))) = true then (smithyref07_head.j3 y13 rec1 1000000000) else (smithyref07_head.j3 y13 rec1 (wr .i64 ((wr .i64 (y14 * 256)) + (wr .i64 (rd x1 (wr .i64 ((wr .i64 (x2 + 1)) + y13)))))))) else none) else (smithyref07_head.j2 x1 x2 y1 y14)
def smithyref07_head.l1 (x1 : List Int) (x2 : Int) (y1 : Int) : Nat → Int → Int → Option (Bool × Int × Int × Int)
  | 0, _, _ => none
  | q + 1, y13, y14 => smithyref07_head.b1 x1 x2 y1 (smithyref07_head.l1 x1 x2 y1 q) y13 y14
def smithyref07_head.j1 (k : Nat) (x1 : List Int) (x2 : Int) (y1 : Int) : Option (Bool × Int × Int × Int) := if (decide (y1 ≤ 183)) = true then (some (decide (192 ≤ (wr .i64 (rd x1 x2))), wr .i64 (x2 + 1), wr .i64 (y1 - 128), 0)) else (if (decide (((x1).length : Int) < (wr .i64 ((wr .i64 (x2 + 1)) + (wr .i64 (y1 - 183)))))) = true then (some (decide (192 ≤ (wr .i64 (rd x1 x2))), 0, 0, 3)) else (if (0 : Int) ≤ (wr .i64 (x2 + 1)) ∧ (wr .i64 (x2 + 1)) < ((x1).length : Int) then (if ((rd x1 (wr .i64 (x2 + 1))) == 0) = true then (some (decide (192 ≤ (wr .i64 (rd x1 x2))), 0, 0, 2)) else (smithyref07_head.l1 x1 x2 y1 k 0 0)) else none))
def smithyref07_head.f (k : Nat) (x1 : List Int) (x2 : Int) : Option (Bool × Int × Int × Int) := if (0 : Int) ≤ x2 ∧ x2 < ((x1).length : Int) then (if (decide (192 ≤ (wr .i64 (rd x1 x2)))) = true then (smithyref07_head.j1 k x1 x2 (wr .i64 ((wr .i64 (rd x1 x2)) - 64))) else (smithyref07_head.j1 k x1 x2 (wr .i64 (rd x1 x2)))) else none
theorem smithyref07_head.ok (k : Nat) : smithyref07_head.Ctr (smithyref07_head.f k) := by
  intro x1 x2 ch_0_0 ch_0_1 r h0 mi w0 ok hm
  delta smithyref07_head.f at h0
  refine c_enterX (n := 74) [(.sl ch_0_0 (x1).length ch_0_1 (RdS (Ty.int .u8) ch_0_0 x1)), (.v (.int .i64 x2))] (l := [(0, (.sl ch_0_0 (x1).length ch_0_1 (RdS (Ty.int .u8) ch_0_0 x1))), (1, (.v (.int .i64 x2)))]) Try.func33 rfl rfl rfl rfl ok hm ?_
  clear ok hm
  intro b0 hb a S
  refine c_region ?_
  refine s_assign S rfl rfl ?_; clear S a; intro a S
  refine s_assign S rfl rfl ?_; clear S a; intro a S
  refine s_assign S rfl rfl ?_; clear S a; intro a S
  refine s_assign S rfl rfl ?_; clear S a; intro a S
  refine c_end ?_
  refine c_region ?_
  refine s_move S rfl rfl ?_; clear S a; intro a S
  refine s_move S rfl rfl ?_; clear S a; intro a S
  obtain ⟨c1, h1⟩ := chk_of h0; clear h0
  refine s_iaddrS S rfl rfl rfl Try.underlying25 T5 c1.1 c1.2 rfl ?_; clear S a; intro p1 a S
  refine s_ld1 S (v := (.int .u8 (rd x1 x2))) rfl T5 (fun _ => rfl) rfl ?_; clear S a; intro a S
  refine s_conv S rfl rfl Try.underlying3 rfl ?_; clear S a; intro a S
  refine s_assign S rfl rfl ?_; clear S a; intro a S
  refine c_end ?_
  refine c_region ?_
  refine s_move S rfl rfl ?_; clear S a; intro a S
  refine s_bin S rfl rfl rfl rfl ?_; clear S a; intro a S
  refine s_assign S rfl rfl ?_; clear S a; intro a S
  refine c_end ?_
  refine wp_seq_k ?_
  intro K1 hK1
  have j1 : ∀ (m : Mem) (y1 : Int) (a : Act) (w : World), St 74 m b0 [(8, (.v (.int .i64 y1))), (9, (.v (.bool (decide (192 ≤ (wr .i64 (rd x1 x2))))))), (0, (.sl ch_0_0 (x1).length ch_0_1 (RdS (Ty.int .u8) ch_0_0 x1))), (1, (.v (.int .i64 x2)))] [] a w → smithyref07_head.j1 k x1 x2 y1 = some r → K1 a w := by
    intro m y1 a w S h0
    delta smithyref07_head.j1 at h0
    refine hK1 a w ?_
    refine wp_seq ?_
    refine c_region ?_
    refine s_move S rfl rfl ?_; clear S a; intro a S
    refine s_bin S rfl rfl rfl rfl ?_; clear S a; intro a S
    refine c_end ?_
    rcases ite_of h0 with ⟨c2, h1⟩ | ⟨c2, h1⟩ <;> clear h0
    · refine c_condT S rfl c2 ?_
      refine c_region ?_
      refine s_move S rfl rfl ?_; clear S a; intro a S
      refine s_move S rfl rfl ?_; clear S a; intro a S
      refine s_bin S rfl rfl rfl rfl ?_; clear S a; intro a S
      refine s_move S rfl rfl ?_; clear S a; intro a S
      refine s_bin S rfl rfl rfl rfl ?_; clear S a; intro a S
      refine s_assign S rfl rfl ?_; clear S a; intro a S
      refine s_assign S rfl rfl ?_; clear S a; intro a S
      refine s_assign S rfl rfl ?_; clear S a; intro a S
      refine s_assign S rfl rfl ?_; clear S a; intro a S
      refine c_end ?_
      refine wp_ret ?_
      refine x_thenR ?_
      obtain rfl := Option.some.inj h1
      exact b_retN S [(.v (.bool (decide (192 ≤ (wr .i64 (rd x1 x2)))))), (.v (.int .i64 (wr .i64 (x2 + 1)))), (.v (.int .i64 (wr .i64 (y1 - 128)))), (.v (.int .i64 0))] rfl rfl ⟨rfl, rfl, rfl, rfl, trivial⟩ fun ⟨ok1, ok2, ok3, ok4, _⟩ => S.retX (Hx := []) hb _ _ (() : Unit) .nil ⟨⟨ok1, trivial⟩, ⟨ok2, trivial⟩, ⟨ok3, trivial⟩, ⟨ok4, trivial⟩, trivial⟩
    · refine c_condF S rfl c2 ?_
      refine wp_skip ?_
      refine x_thenN ?_
      refine c_region ?_
      refine s_move S rfl rfl ?_; clear S a; intro a S
      refine s_bin S rfl rfl rfl rfl ?_; clear S a; intro a S
      refine s_assign S rfl rfl ?_; clear S a; intro a S
      refine c_end ?_
      refine wp_seq ?_
      refine c_region ?_
      refine s_move S rfl rfl ?_; clear S a; intro a S
      refine s_bin S rfl rfl rfl rfl ?_; clear S a; intro a S
      refine s_move S rfl rfl ?_; clear S a; intro a S
      refine s_bin S rfl rfl rfl rfl ?_; clear S a; intro a S
      refine s_move S rfl rfl ?_; clear S a; intro a S
      refine s_lenS S rfl Try.underlying25 rfl ?_; clear S a; intro a S
      refine s_bin S rfl rfl rfl rfl ?_; clear S a; intro a S
      refine c_end ?_
      rcases ite_of h1 with ⟨c3, h2⟩ | ⟨c3, h2⟩ <;> clear h1
      · refine c_condT S rfl c3 ?_
        refine c_region ?_
        refine s_move S rfl rfl ?_; clear S a; intro a S
        refine s_assign S rfl rfl ?_; clear S a; intro a S
        refine s_assign S rfl rfl ?_; clear S a; intro a S
        refine s_assign S rfl rfl ?_; clear S a; intro a S
        refine s_assign S rfl rfl ?_; clear S a; intro a S
        refine c_end ?_
        refine wp_ret ?_
        refine x_thenR ?_
        obtain rfl := Option.some.inj h2
        exact b_retN S [(.v (.bool (decide (192 ≤ (wr .i64 (rd x1 x2)))))), (.v (.int .i64 0)), (.v (.int .i64 0)), (.v (.int .i64 3))] rfl rfl ⟨rfl, rfl, rfl, rfl, trivial⟩ fun ⟨ok1, ok2, ok3, ok4, _⟩ => S.retX (Hx := []) hb _ _ (() : Unit) .nil ⟨⟨ok1, trivial⟩, ⟨ok2, trivial⟩, ⟨ok3, trivial⟩, ⟨ok4, trivial⟩, trivial⟩
      · refine c_condF S rfl c3 ?_
        refine wp_skip ?_
        refine x_thenN ?_
        refine wp_seq ?_
        refine c_region ?_
        refine s_move S rfl rfl ?_; clear S a; intro a S
        refine s_move S rfl rfl ?_; clear S a; intro a S
        refine s_bin S rfl rfl rfl rfl ?_; clear S a; intro a S
        obtain ⟨c4, h3⟩ := chk_of h2; clear h2
        refine s_iaddrS S rfl rfl rfl Try.underlying25 T5 c4.1 c4.2 rfl ?_; clear S a; intro p2 a S
        refine s_ld1 S (v := (.int .u8 (rd x1 (wr .i64 (x2 + 1))))) rfl T5 (fun _ => rfl) rfl ?_; clear S a; intro a S
        refine s_bin S rfl rfl rfl rfl ?_; clear S a; intro a S
        refine c_end ?_
        rcases ite_of h3 with ⟨c5, h4⟩ | ⟨c5, h4⟩ <;> clear h3
        · refine c_condT S rfl c5 ?_
          refine c_region ?_
          refine s_move S rfl rfl ?_; clear S a; intro a S
          refine s_assign S rfl rfl ?_; clear S a; intro a S
          refine s_assign S rfl rfl ?_; clear S a; intro a S
          refine s_assign S rfl rfl ?_; clear S a; intro a S
          refine s_assign S rfl rfl ?_; clear S a; intro a S
          refine c_end ?_
          refine wp_ret ?_
          refine x_thenR ?_
          obtain rfl := Option.some.inj h4
          exact b_retN S [(.v (.bool (decide (192 ≤ (wr .i64 (rd x1 x2)))))), (.v (.int .i64 0)), (.v (.int .i64 0)), (.v (.int .i64 2))] rfl rfl ⟨rfl, rfl, rfl, rfl, trivial⟩ fun ⟨ok1, ok2, ok3, ok4, _⟩ => S.retX (Hx := []) hb _ _ (() : Unit) .nil ⟨⟨ok1, trivial⟩, ⟨ok2, trivial⟩, ⟨ok3, trivial⟩, ⟨ok4, trivial⟩, trivial⟩
        · refine c_condF S rfl c5 ?_
          refine wp_skip ?_
          refine x_thenN ?_
          refine c_region ?_
          refine s_assign S rfl rfl ?_; clear S a; intro a S
          refine c_end ?_
          refine wp_seq_k ?_
          intro K2 hK2
          have j2 : ∀ (m : Mem) (y8 : Int) (a : Act) (w : World), St 74 m b0 [(11, (.v (.int .i64 y8))), (10, (.v (.int .i64 (wr .i64 (y1 - 183))))), (9, (.v (.bool (decide (192 ≤ (wr .i64 (rd x1 x2))))))), (1, (.v (.int .i64 x2)))] [] a w → smithyref07_head.j2 x1 x2 y1 y8 = some r → K2 a w := by
            intro m y8 a w S h0
            delta smithyref07_head.j2 at h0
            refine hK2 a w ?_
            refine wp_seq ?_
            refine c_region ?_
            refine s_move S rfl rfl ?_; clear S a; intro a S
            refine s_bin S rfl rfl rfl rfl ?_; clear S a; intro a S
            refine c_end ?_
            rcases ite_of h0 with ⟨c6, h1⟩ | ⟨c6, h1⟩ <;> clear h0
            · refine c_condT S rfl c6 ?_
              refine c_region ?_
              refine s_move S rfl rfl ?_; clear S a; intro a S
              refine s_assign S rfl rfl ?_; clear S a; intro a S
              refine s_assign S rfl rfl ?_; clear S a; intro a S
              refine s_assign S rfl rfl ?_; clear S a; intro a S
              refine s_assign S rfl rfl ?_; clear S a; intro a S
              refine c_end ?_
              refine wp_ret ?_
              refine x_thenR ?_
              obtain rfl := Option.some.inj h1
              exact b_retN S [(.v (.bool (decide (192 ≤ (wr .i64 (rd x1 x2)))))), (.v (.int .i64 0)), (.v (.int .i64 0)), (.v (.int .i64 2))] rfl rfl ⟨rfl, rfl, rfl, rfl, trivial⟩ fun ⟨ok1, ok2, ok3, ok4, _⟩ => S.retX (Hx := []) hb _ _ (() : Unit) .nil ⟨⟨ok1, trivial⟩, ⟨ok2, trivial⟩, ⟨ok3, trivial⟩, ⟨ok4, trivial⟩, trivial⟩
            · refine c_condF S rfl c6 ?_
              refine wp_skip ?_
              refine x_thenN ?_
              refine c_region ?_
              refine s_move S rfl rfl ?_; clear S a; intro a S
              refine s_move S rfl rfl ?_; clear S a; intro a S
              refine s_bin S rfl rfl rfl rfl ?_; clear S a; intro a S
              refine s_move S rfl rfl ?_; clear S a; intro a S
              refine s_bin S rfl rfl rfl rfl ?_; clear S a; intro a S
              refine s_move S rfl rfl ?_; clear S a; intro a S
              refine s_assign S rfl rfl ?_; clear S a; intro a S
              refine s_assign S rfl rfl ?_; clear S a; intro a S
              refine s_assign S rfl rfl ?_; clear S a; intro a S
              refine s_assign S rfl rfl ?_; clear S a; intro a S
              refine c_end ?_
              refine wp_ret ?_
              obtain rfl := Option.some.inj h1
              exact b_retN S [(.v (.bool (decide (192 ≤ (wr .i64 (rd x1 x2)))))), (.v (.int .i64 (wr .i64 ((wr .i64 (x2 + 1)) + (wr .i64 (y1 - 183)))))), (.v (.int .i64 y8)), (.v (.int .i64 0))] rfl rfl ⟨rfl, rfl, rfl, rfl, trivial⟩ fun ⟨ok1, ok2, ok3, ok4, _⟩ => S.retX (Hx := []) hb _ _ (() : Unit) .nil ⟨⟨ok1, trivial⟩, ⟨ok2, trivial⟩, ⟨ok3, trivial⟩, ⟨ok4, trivial⟩, trivial⟩
          refine c_region ?_
          refine s_assign S rfl rfl ?_; clear S a; intro a S
          refine c_end ?_
          refine wp_block ?_
          refine c_loop (fun q1 a w => ∃ (m : Mem) (y13 : Int) (y14 : Int), St 74 m b0 [(12, (.v (.int .i64 y13))), (11, (.v (.int .i64 y14))), (10, (.v (.int .i64 (wr .i64 (y1 - 183))))), (9, (.v (.bool (decide (192 ≤ (wr .i64 (rd x1 x2))))))), (0, (.sl ch_0_0 (x1).length ch_0_1 (RdS (Ty.int .u8) ch_0_0 x1))), (1, (.v (.int .i64 x2)))] [] a w ∧ smithyref07_head.l1 x1 x2 y1 q1 y13 y14 = some r) ?_ ?_ (k := k) ⟨_, 0, 0, (S.sub ⟨rfl, rfl, rfl, rfl, rfl, rfl, trivial⟩ .nil), h4⟩
          · rintro a w ⟨m, y13, y14, S, h0⟩
            exact (nomatch (show (none : Option (Bool × Int × Int × Int)) = some r from h0))
          · clear S h4
            rintro q1 a w ⟨m, y13, y14, S, h0⟩
            replace h0 : smithyref07_head.b1 x1 x2 y1 (smithyref07_head.l1 x1 x2 y1 q1) y13 y14 = some r := h0
            delta smithyref07_head.b1 at h0
            refine wp_seq ?_
            refine c_region ?_
            refine s_move S rfl rfl ?_; clear S a; intro a S
            refine s_move S rfl rfl ?_; clear S a; intro a S
            refine s_bin S rfl rfl rfl rfl ?_; clear S a; intro a S
            refine c_end ?_
            rcases ite_of h0 with ⟨c7, h1⟩ | ⟨c7, h1⟩ <;> clear h0
            · refine c_condT S rfl c7 ?_
              refine wp_skip ?_
              refine x_thenN ?_
              refine wp_seq_k ?_
              intro K3 hK3
              have j3 : ∀ (m : Mem) (y15 : Int) (a : Act) (w : World), St 74 m b0 [(11, (.v (.int .i64 y15))), (12, (.v (.int .i64 y13))), (10, (.v (.int .i64 (wr .i64 (y1 - 183))))), (9, (.v (.bool (decide (192 ≤ (wr .i64 (rd x1 x2))))))), (0, (.sl ch_0_0 (x1).length ch_0_1 (RdS (Ty.int .u8) ch_0_0 x1))), (1, (.v (.int .i64 x2)))] [] a w → smithyref07_head.j3 y13 (smithyref07_head.l1 x1 x2 y1 q1) y15 = some r → K3 a w := by
                intro m y15 a w S h0
                delta smithyref07_head.j3 at h0
                refine hK3 a w ?_
                refine c_region' ?_
                refine s_move S rfl rfl ?_; clear S a; intro a S
                refine s_bin S rfl rfl rfl rfl ?_; clear S a; intro a S
                refine s_assign S rfl rfl ?_; clear S a; intro a S
                refine c_end' ?_
                refine x_thenN ?_
                exact ⟨_, (wr .i64 (y13 + 1)), y15, (S.sub ⟨rfl, rfl, rfl, rfl, rfl, rfl, trivial⟩ .nil), h0⟩
              refine wp_block ?_
              refine c_region ?_
              refine s_move S rfl rfl ?_; clear S a; intro a S
              refine s_bin S rfl rfl rfl rfl ?_; clear S a; intro a S
              refine s_move S rfl rfl ?_; clear S a; intro a S
              refine s_move S rfl rfl ?_; clear S a; intro a S
              refine s_bin S rfl rfl rfl rfl ?_; clear S a; intro a S
              refine s_move S rfl rfl ?_; clear S a; intro a S
              refine s_bin S rfl rfl rfl rfl ?_; clear S a; intro a S
              obtain ⟨c8, h2⟩ := chk_of h1; clear h1
              refine s_iaddrS S rfl rfl rfl Try.underlying25 T5 c8.1 c8.2 rfl ?_; clear S a; intro p4 a S
              refine s_ld1 S (v := (.int .u8 (rd x1 (wr .i64 ((wr .i64 (x2 + 1)) + y13))))) rfl T5 (fun _ => rfl) rfl ?_; clear S a; intro a S
              refine s_conv S rfl rfl Try.underlying3 rfl ?_; clear S a; intro a S
              refine s_bin S rfl rfl rfl rfl ?_; clear S a; intro a S
              refine s_assign S rfl rfl ?_; clear S a; intro a S
              refine c_end ?_
              refine c_region ?_
              refine s_move S rfl rfl ?_; clear S a; intro a S
              refine s_bin S rfl rfl rfl rfl ?_; clear S a; intro a S
              refine c_end ?_
              rcases ite_of h2 with ⟨c9, h3⟩ | ⟨c9, h3⟩ <;> clear h2
              · refine c_condT S rfl c9 ?_
                refine c_region' ?_
                refine s_assign S rfl rfl ?_; clear S a; intro a S
                refine c_end' ?_
                refine x_blockN ?_
                refine x_thenN ?_
                exact j3 _ 1000000000 a w (S.sub ⟨rfl, rfl, rfl, rfl, rfl, rfl, trivial⟩ .nil) h3
              · refine c_condF S rfl c9 ?_
                refine wp_skip ?_
                refine x_blockN ?_
                refine x_thenN ?_
                exact j3 _ (wr .i64 ((wr .i64 (y14 * 256)) + (wr .i64 (rd x1 (wr .i64 ((wr .i64 (x2 + 1)) + y13)))))) a w (S.sub ⟨rfl, rfl, rfl, rfl, rfl, rfl, trivial⟩ .nil) h3
            · refine c_condF S rfl c7 ?_
              refine wp_exit ?_
              refine x_thenX ?_
              refine x_thenX ?_
              refine x_blockX ?_
              refine x_thenN ?_
              exact j2 _ y14 a w (S.sub ⟨rfl, rfl, rfl, rfl, trivial⟩ .nil) h1
  refine c_region ?_
  refine s_move S rfl rfl ?_; clear S a; intro a S
  refine c_end ?_
  rcases ite_of h1 with ⟨c10, h2⟩ | ⟨c10, h2⟩ <;> clear h1
  · refine c_condT S rfl c10 ?_
    refine c_region' ?_
    refine s_move S rfl rfl ?_; clear S a; intro a S
    refine s_bin S rfl rfl rfl rfl ?_; clear S a; intro a S
    refine s_assign S rfl rfl ?_; clear S a; intro a S
    refine c_end' ?_
    refine x_thenN ?_
    exact j1 _ (wr .i64 ((wr .i64 (rd x1 x2)) - 64)) a w0 (S.sub ⟨rfl, rfl, rfl, rfl, trivial⟩ .nil) h2
  · refine c_condF S rfl c10 ?_
    refine wp_skip ?_
    refine x_thenN ?_
    exact j1 _ (wr .i64 (rd x1 x2)) a w0 (S.sub ⟨rfl, rfl, rfl, rfl, trivial⟩ .nil) h2
/-! smithy/smithyref07.read -/
abbrev smithyref07_read.Ty : Type := (List Int) → Int → Int → Int → Option ((List (Bool × (List Int) × Int)) × Int × Int)
def smithyref07_read.Ctr (s : smithyref07_read.Ty) : Prop := ∀ (x1 : List Int) (x2 : Int) (x3 : Int) (x4 : Int) (ch_0_0 : Option Addr) (ch_0_1 : Nat) (r : (List (Bool × (List Int) × Int)) × Int × Int) (h0 : s x1 x2 x3 x4 = some r) (mi : Mem) (w0 : World), okL mi [(.sl ch_0_0 (x1).length ch_0_1 (RdS (Ty.int .u8) ch_0_0 x1)), (.v (.int .i64 x2)), (.v (.int .i64 x3)), (.v (.int .i64 x4))] → Pre mi [] w0 → Calls Try.prog 26 (([(.sl ch_0_0 (x1).length ch_0_1 (RdS (Ty.int .u8) ch_0_0 x1)), (.v (.int .i64 x2)), (.v (.int .i64 x3)), (.v (.int .i64 x4))] : List D).map D.val).toArray w0 (RetX mi [] (fun (ch : (Option Addr) × Nat × Nat) => ((.tup [(false, [.one (.slice ch.1 ch.2.1 ch.2.2)]), (false, [.one (.int .i64 r.2.1)]), (false, [.one (.int .i64 r.2.2)])]) : D)) (fun (ch : (Option Addr) × Nat × Nat) => [Res.row (Ty.prod Ty.bool (Ty.prod (Ty.slice (Ty.int .u8)) (Ty.int .i64))) 43 ch.1 ch.2.1 ch.2.2 r.1]) w0)
def smithyref07_read.j1 (x1 : List Int) (t1 : Bool × Int × Int × Int) (y1 : Bool) : Option ((List (Bool × (List Int) × Int)) × Int × Int) := if y1 = true then (some (([] : List (Bool × (List Int) × Int)), 0, 2)) else (if (0 : Int) ≤ t1.2.1 ∧ (t1.2.1 : Int) ≤ (wr .i64 (t1.2.1 + t1.2.2.1)) ∧ (wr .i64 (t1.2.1 + t1.2.2.1)) ≤ ((x1).length : Int) then (if ((([] : List Int)).length + ((x1.take (Int.toNat (wr .i64 (t1.2.1 + t1.2.2.1)))).drop (Int.toNat t1.2.1)).length) * 1 ≤ 140737488355328 then (some ([(false, ([] : List Int) ++ ((x1.take (Int.toNat (wr .i64 (t1.2.1 + t1.2.2.1)))).drop (Int.toNat t1.2.1)), 0)], wr .i64 (t1.2.1 + t1.2.2.1), 0)) else none) else none)
def smithyref07_read.j2 (t1 : Bool × Int × Int × Int) (y6 : List (Bool × (List Int) × Int)) : Option ((List (Bool × (List Int) × Int)) × Int × Int) := if (0 : Int) ≤ 0 ∧ 0 < ((y6).length : Int) then (some (y6.set (Int.toNat 0) ((gt y6 0).1, (gt y6 0).2.1, wr .i64 (((y6).length : Int) - 1)), wr .i64 (t1.2.1 + t1.2.2.1), 0)) else none
def smithyref07_read.b1 (self0 : smithyref07_read.Ty) (x1 : List Int) (x4 : Int) (t1 : Bool × Int × Int × Int) (rec1 : Int → (List (Bool × (List Int) × Int)) → Option ((List (Bool × (List Int) × Int)) × Int × Int)) (y9 : Int) (y10 : List (Bool × (List Int) × Int)) : Option ((List (Bool × (List Int) × Int)) × Int × Int) := if (decide (y9 < (wr .i64 (t1.2.1 + t1.2.2.1)))) = true then ((self0 x1 y9 (wr .i64 (t1.2.1 + t1.2.2.1)) (wr .i64 (x4 + 1))).bind fun t4 => (if (t4.2.2 != 0) = true then (some (([] : List (Bool × (List Int) × Int)), 0, t4.2.2)) else (if ((y10).length + (t4.1).length) * 40 ≤ 140737488355328 then (rec1 t4.2.1 (y10 ++ t4.1)) else none))) else (smithyref07_read.j2 t1 y10)
def smithyref07_read.l1 (self0 : smithyref07_read.Ty) (x1 : List Int) (x4 : Int) (t1 : Bool × Int × Int × Int) : Nat → Int → (List (Bool × (List Int) × Int)) → Option ((List (Bool × (List Int) × Int)) × Int × Int)
  | 0, _, _ => none
  | q + 1, y9, y10 => smithyref07_read.b1 self0 x1 x4 t1 (smithyref07_read.l1 self0 x1 x4 t1 q) y9 y10
def smithyref07_read.body (self0 : smithyref07_read.Ty) (k : Nat) (x1 : List Int) (x2 : Int) (x3 : Int) (x4 : Int) : Option ((List (Bool × (List Int) × Int)) × Int × Int) := if (decide (((x1).length : Int) ≤ x2)) = true then (some (([] : List (Bool × (List Int) × Int)), 0, 3)) else (if (0 : Int) ≤ x2 ∧ x2 < ((x1).length : Int) then (if (decide ((rd x1 x2) < 128)) = true then (some ([(false, [rd x1 x2], 0)], wr .i64 (x2 + 1), 0)) else ((smithyref07_head.f k x1 x2).bind fun t1 => (if (t1.2.2.2 != 0) = true then (some (([] : List (Bool × (List Int) × Int)), 0, t1.2.2.2)) else (if (decide ((wr .i64 (((x1).length : Int) - t1.2.1)) < t1.2.2.1)) = true then (some (([] : List (Bool × (List Int) × Int)), 0, 3)) else (if (decide (x3 < (wr .i64 (t1.2.1 + t1.2.2.1)))) = true then (some (([] : List (Bool × (List Int) × Int)), 0, 2)) else (if (!t1.1) = true then (if (t1.2.2.1 == 1) = true then (if (0 : Int) ≤ t1.2.1 ∧ t1.2.1 < ((x1).length : Int) then (smithyref07_read.j1 x1 t1 (decide ((rd x1 t1.2.1) < 128))) else none) else (smithyref07_read.j1 x1 t1 false)) else (if (decide (64 ≤ x4)) = true then (some (([] : List (Bool × (List Int) × Int)), 0, 4)) else (smithyref07_read.l1 self0 x1 x4 t1 k t1.2.1 [(true, ([] : List Int), 0)])))))))) else none)
theorem smithyref07_read.okb (self0 : smithyref07_read.Ty) (c_0 : smithyref07_read.Ctr self0) (k : Nat) : smithyref07_read.Ctr (smithyref07_read.body self0 k) := by
  intro x1 x2 x3 x4 ch_0_0 ch_0_1 r h0 mi w0 ok hm
  delta smithyref07_read.body at h0
  refine c_enterX (n := 135) [(.sl ch_0_0 (x1).length ch_0_1 (RdS (Ty.int .u8) ch_0_0 x1)), (.v (.int .i64 x2)), (.v (.int .i64 x3)), (.v (.int .i64 x4))] (l := [(0, (.sl ch_0_0 (x1).length ch_0_1 (RdS (Ty.int .u8) ch_0_0 x1))), (1, (.v (.int .i64 x2))), (2, (.v (.int .i64 x3))), (3, (.v (.int .i64 x4)))]) Try.func26 rfl rfl rfl rfl ok hm ?_
  clear ok hm
  intro b0 hb a S
  refine c_region ?_
  refine s_assign S rfl rfl ?_; clear S a; intro a S
  refine s_assign S rfl rfl ?_; clear S a; intro a S
  refine s_assign S rfl rfl ?_; clear S a; intro a S
  refine c_end ?_
  refine c_region ?_
  refine s_bldSl S (ty' := (Ty.prod Ty.bool (Ty.prod (Ty.slice (Ty.int .u8)) (Ty.int .i64)))) (ds := []) (z := (false, ([] : List Int), 0)) (c0 := ((), (none, 0), ())) (ys := ([] : List (Bool × (List Int) × Int))) (cs := []) rfl Try.underlying29 J43 Z43 rfl ⟨rfl, ⟨Nat.le_refl _, Nat.zero_le _, RdS.nil _ _ _, RdS.mono _ _ _⟩, rfl, trivial⟩ rfl rfl rfl rfl rfl rfl ?_; clear S a; intro g1 a w S
  refine s_assign S rfl rfl ?_; clear S a; intro a S
  refine c_end ?_
  refine wp_seq ?_
  refine c_region ?_
  refine s_move S rfl rfl ?_; clear S a; intro a S
  refine s_move S rfl rfl ?_; clear S a; intro a S
  refine s_lenS S rfl Try.underlying25 rfl ?_; clear S a; intro a S
  refine s_bin S rfl rfl rfl rfl ?_; clear S a; intro a S
  refine c_end ?_
  rcases ite_of h0 with ⟨c1, h1⟩ | ⟨c1, h1⟩ <;> clear h0
  · refine c_condT S rfl c1 ?_
    refine c_region ?_
    refine s_move S rfl rfl ?_; clear S a; intro a S
    refine s_assign S rfl rfl ?_; clear S a; intro a S
    refine s_assign S rfl rfl ?_; clear S a; intro a S
    refine s_assign S rfl rfl ?_; clear S a; intro a S
    refine c_end ?_
    refine wp_ret ?_
    refine x_thenR ?_
    obtain rfl := Option.some.inj h1
    exact b_retN S [(.v (.slice (some ⟨g1, 0, none⟩) 0 0)), (.v (.int .i64 0)), (.v (.int .i64 3))] rfl rfl ⟨rfl, rfl, rfl, trivial⟩ fun ⟨ok1, ok2, ok3, _⟩ => S.retX (Hx := []) hb _ _ (((some ⟨g1, 0, none⟩), 0, 0) : (Option Addr) × Nat × Nat) (.cons .here .nil) ⟨⟨ok1, trivial⟩, ⟨ok2, trivial⟩, ⟨ok3, trivial⟩, trivial⟩
  · refine c_condF S rfl c1 ?_
    refine wp_skip ?_
    refine x_thenN ?_
    refine wp_seq ?_
    refine c_region ?_
    refine s_move S rfl rfl ?_; clear S a; intro a S
    refine s_move S rfl rfl ?_; clear S a; intro a S
    obtain ⟨c2, h2⟩ := chk_of h1; clear h1
    refine s_iaddrS S rfl rfl rfl Try.underlying25 T5 c2.1 c2.2 rfl ?_; clear S a; intro p1 a S
    refine s_ld1 S (v := (.int .u8 (rd x1 x2))) rfl T5 (fun _ => rfl) rfl ?_; clear S a; intro a S
    refine s_bin S rfl rfl rfl rfl ?_; clear S a; intro a S
    refine c_end ?_
    rcases ite_of h2 with ⟨c3, h3⟩ | ⟨c3, h3⟩ <;> clear h2
    · refine c_condT S rfl c3 ?_
      refine c_region ?_
      refine s_move S rfl rfl ?_; clear S a; intro a S
      refine s_move S rfl rfl ?_; clear S a; intro a S
      refine s_iaddrS S rfl rfl rfl Try.underlying25 T5 c2.1 c2.2 rfl ?_; clear S a; intro p2 a S
      refine s_ld1 S (v := (.int .u8 (rd x1 x2))) rfl T5 (fun _ => rfl) rfl ?_; clear S a; intro a S
      refine s_bldSl S (ty' := (Ty.int .u8)) (ds := [(0, (.v (.int .u8 (rd x1 x2))))]) (z := 0) (c0 := ()) (ys := [rd x1 x2]) (cs := [()]) rfl Try.underlying25 J5 Z5 rfl ⟨rfl, trivial⟩ rfl rfl rfl rfl rfl rfl ?_; clear S a w; intro g2 a w S
      refine s_bldS S (ds := [(1, (.v (.slice (some ⟨g2, 0, none⟩) 1 1)))]) (zs := [.one (.bool false), .one (.slice none 0 0), .one (.int .i64 0)]) (s' := [.one (.bool false), .one (.slice (some ⟨g2, 0, none⟩) 1 1), .one (.int .i64 0)]) rfl Try.underlying43 P43 Z43 ⟨rfl, rfl, rfl, trivial⟩ rfl rfl ?_; clear S a; intro a S
      replace S := S.rowfro .here
      obtain ⟨m, le1, S, hro⟩ := S
      replace S := S.slot (u := 38) (d' := (.agg [.one (.bool false), .sl (some ⟨g2, 0, none⟩) ([rd x1 x2]).length 1 (RdS (Ty.int .u8) (some ⟨g2, 0, none⟩) [rd x1 x2]), .one (.int .i64 0)])) rfl (by simp [D.val, cellsOf, Seg.cells, hro.2.1]) (by have h := (S.get 38 (.agg [.one (.bool false), .one (.slice (some ⟨g2, 0, none⟩) 1 1), .one (.int .i64 0)]) rfl).2; exact ⟨h.1, ⟨by have := hro.2.2.1; omega, hro.2.2.2, hro.1, RdS.mono _ _ _⟩, h.2.2.1, trivial⟩)
      replace S := S.slotro (u := 37) rfl hro
      refine s_bldSl S (ty' := (Ty.prod Ty.bool (Ty.prod (Ty.slice (Ty.int .u8)) (Ty.int .i64)))) (ds := [(0, (.agg [.one (.bool false), .sl (some ⟨g2, 0, none⟩) ([rd x1 x2]).length 1 (RdS (Ty.int .u8) (some ⟨g2, 0, none⟩) [rd x1 x2]), .one (.int .i64 0)]))]) (z := (false, ([] : List Int), 0)) (c0 := ((), (none, 0), ())) (ys := [(false, [rd x1 x2], 0)]) (cs := [((), ((some ⟨g2, 0, none⟩), 1), ())]) rfl Try.underlying29 J43 Z43 rfl ⟨rfl, ⟨Nat.le_refl _, Nat.zero_le _, RdS.nil _ _ _, RdS.mono _ _ _⟩, rfl, trivial⟩ rfl rfl rfl rfl rfl rfl ?_; clear S a w; intro g3 a w S
      refine s_move S rfl rfl ?_; clear S a; intro a S
      refine s_bin S rfl rfl rfl rfl ?_; clear S a; intro a S
      refine s_assign S rfl rfl ?_; clear S a; intro a S
      refine s_assign S rfl rfl ?_; clear S a; intro a S
      refine s_assign S rfl rfl ?_; clear S a; intro a S
      refine c_end ?_
      refine wp_ret ?_
      refine x_thenR ?_
      obtain rfl := Option.some.inj h3
      exact b_retN S [(.v (.slice (some ⟨g3, 0, none⟩) 1 1)), (.v (.int .i64 (wr .i64 (x2 + 1)))), (.v (.int .i64 0))] rfl rfl ⟨rfl, rfl, rfl, trivial⟩ fun ⟨ok1, ok2, ok3, _⟩ => S.retX (Hx := []) hb _ _ (((some ⟨g3, 0, none⟩), 1, 1) : (Option Addr) × Nat × Nat) (.cons .here .nil) ⟨⟨ok1, trivial⟩, ⟨ok2, trivial⟩, ⟨ok3, trivial⟩, trivial⟩
    · refine c_condF S rfl c3 ?_
      refine wp_skip ?_
      refine x_thenN ?_
      refine c_region ?_
      refine s_move S rfl rfl ?_; clear S a; intro a S
      refine s_move S rfl rfl ?_; clear S a; intro a S
      obtain ⟨t1, et1, h4⟩ := bind_of h3; clear h3
      refine s_callX S (ds' := [(.sl ch_0_0 (x1).length ch_0_1 (RdS (Ty.int .u8) ch_0_0 x1)), (.v (.int .i64 x2))]) (ds := [(.sl ch_0_0 (x1).length ch_0_1 (RdS (Ty.int .u8) ch_0_0 x1)), (.v (.int .i64 x2))]) [] [Res.row (Ty.prod Ty.bool (Ty.prod (Ty.slice (Ty.int .u8)) (Ty.int .i64))) 43 (some ⟨g1, 0, none⟩) 0 0 ([] : List (Bool × (List Int) × Int))] (fun (ch : Unit) => ((.tup [(false, [.one (.bool t1.1)]), (false, [.one (.int .i64 t1.2.1)]), (false, [.one (.int .i64 t1.2.2.1)]), (false, [.one (.int .i64 t1.2.2.2)])]) : D)) (fun (ch : Unit) => []) (fun (ch : Unit) => [Res.row (Ty.prod Ty.bool (Ty.prod (Ty.slice (Ty.int .u8)) (Ty.int .i64))) 43 (some ⟨g1, 0, none⟩) 0 0 ([] : List (Bool × (List Int) × Int))]) (fun _ => rfl) N33 rfl rfl (fun ok => ok) (.cons .here .nil) rfl (smithyref07_head.ok k x1 x2 ch_0_0 ch_0_1 t1 et1 _ _) ?_; clear S a w; intro ch1 m le1 a w S
      refine s_move S rfl rfl ?_; clear S a; intro a S
      refine s_extract S rfl rfl rfl rfl ?_; clear S a; intro a S
      refine s_extract S rfl rfl rfl rfl ?_; clear S a; intro a S
      refine s_extract S rfl rfl rfl rfl ?_; clear S a; intro a S
      refine s_extract S rfl rfl rfl rfl ?_; clear S a; intro a S
      refine s_assign S rfl rfl ?_; clear S a; intro a S
      refine s_assign S rfl rfl ?_; clear S a; intro a S
      refine s_assign S rfl rfl ?_; clear S a; intro a S
      refine s_assign S rfl rfl ?_; clear S a; intro a S
      refine c_end ?_
      refine wp_seq ?_
      refine c_region ?_
      refine s_move S rfl rfl ?_; clear S a; intro a S
      refine s_bin S rfl rfl rfl rfl ?_; clear S a; intro a S
      refine c_end ?_
      rcases ite_of h4 with ⟨c4, h5⟩ | ⟨c4, h5⟩ <;> clear h4
      · refine c_condT S rfl c4 ?_
        refine c_region ?_
        refine s_move S rfl rfl ?_; clear S a; intro a S
        refine s_move S rfl rfl ?_; clear S a; intro a S
        refine s_assign S rfl rfl ?_; clear S a; intro a S
        refine s_assign S rfl rfl ?_; clear S a; intro a S
        refine s_assign S rfl rfl ?_; clear S a; intro a S
        refine c_end ?_
        refine wp_ret ?_
        refine x_thenR ?_
        obtain rfl := Option.some.inj h5
        exact b_retN S [(.v (.slice (some ⟨g1, 0, none⟩) 0 0)), (.v (.int .i64 0)), (.v (.int .i64 t1.2.2.2))] rfl rfl ⟨rfl, rfl, rfl, trivial⟩ fun ⟨ok1, ok2, ok3, _⟩ => S.retX (Hx := []) hb _ _ (((some ⟨g1, 0, none⟩), 0, 0) : (Option Addr) × Nat × Nat) (.cons .here .nil) ⟨⟨ok1, trivial⟩, ⟨ok2, trivial⟩, ⟨ok3, trivial⟩, trivial⟩
      · refine c_condF S rfl c4 ?_
        refine wp_skip ?_
        refine x_thenN ?_
        refine wp_seq ?_
        refine c_region ?_
        refine s_move S rfl rfl ?_; clear S a; intro a S
        refine s_move S rfl rfl ?_; clear S a; intro a S
        refine s_lenS S rfl Try.underlying25 rfl ?_; clear S a; intro a S
        refine s_move S rfl rfl ?_; clear S a; intro a S
        refine s_bin S rfl rfl rfl rfl ?_; clear S a; intro a S
        refine s_bin S rfl rfl rfl rfl ?_; clear S a; intro a S
        refine c_end ?_
        rcases ite_of h5 with ⟨c5, h6⟩ | ⟨c5, h6⟩ <;> clear h5
        · refine c_condT S rfl c5 ?_
          refine c_region ?_
          refine s_move S rfl rfl ?_; clear S a; intro a S
          refine s_assign S rfl rfl ?_; clear S a; intro a S
          refine s_assign S rfl rfl ?_; clear S a; intro a S
          refine s_assign S rfl rfl ?_; clear S a; intro a S
          refine c_end ?_
          refine wp_ret ?_
          refine x_thenR ?_
          obtain rfl := Option.some.inj h6
          exact b_retN S [(.v (.slice (some ⟨g1, 0, none⟩) 0 0)), (.v (.int .i64 0)), (.v (.int .i64 3))] rfl rfl ⟨rfl, rfl, rfl, trivial⟩ fun ⟨ok1, ok2, ok3, _⟩ => S.retX (Hx := []) hb _ _ (((some ⟨g1, 0, none⟩), 0, 0) : (Option Addr) × Nat × Nat) (.cons .here .nil) ⟨⟨ok1, trivial⟩, ⟨ok2, trivial⟩, ⟨ok3, trivial⟩, trivial⟩
        · refine c_condF S rfl c5 ?_
          refine wp_skip ?_
          refine x_thenN ?_
          refine wp_seq ?_
          refine c_region ?_
          refine s_move S rfl rfl ?_; clear S a; intro a S
          refine s_move S rfl rfl ?_; clear S a; intro a S
          refine s_bin S rfl rfl rfl rfl ?_; clear S a; intro a S
          refine s_move S rfl rfl ?_; clear S a; intro a S
          refine s_bin S rfl rfl rfl rfl ?_; clear S a; intro a S
          refine c_end ?_
          rcases ite_of h6 with ⟨c6, h7⟩ | ⟨c6, h7⟩ <;> clear h6
          · refine c_condT S rfl c6 ?_
            refine c_region ?_
            refine s_move S rfl rfl ?_; clear S a; intro a S
            refine s_assign S rfl rfl ?_; clear S a; intro a S
            refine s_assign S rfl rfl ?_; clear S a; intro a S
            refine s_assign S rfl rfl ?_; clear S a; intro a S
            refine c_end ?_
            refine wp_ret ?_
            refine x_thenR ?_
            obtain rfl := Option.some.inj h7
            exact b_retN S [(.v (.slice (some ⟨g1, 0, none⟩) 0 0)), (.v (.int .i64 0)), (.v (.int .i64 2))] rfl rfl ⟨rfl, rfl, rfl, trivial⟩ fun ⟨ok1, ok2, ok3, _⟩ => S.retX (Hx := []) hb _ _ (((some ⟨g1, 0, none⟩), 0, 0) : (Option Addr) × Nat × Nat) (.cons .here .nil) ⟨⟨ok1, trivial⟩, ⟨ok2, trivial⟩, ⟨ok3, trivial⟩, trivial⟩
          · refine c_condF S rfl c6 ?_
            refine wp_skip ?_
            refine x_thenN ?_
            refine wp_seq ?_
            refine c_region ?_
            refine s_move S rfl rfl ?_; clear S a; intro a S
            refine s_not S rfl rfl ?_; clear S a; intro a S
            refine c_end ?_
            rcases ite_of h7 with ⟨c7, h8⟩ | ⟨c7, h8⟩ <;> clear h7
            · refine c_condT S rfl c7 ?_
              refine wp_seq ?_
              refine wp_seq_k ?_
              intro K1 hK1
              have j1 : ∀ (m : Mem) (y1 : Bool) (a : Act) (w : World), St 135 m b0 [(77, (.v (.bool y1))), (14, (.v (.int .i64 t1.2.2.1))), (13, (.v (.int .i64 t1.2.1))), (11, (.v (.slice (some ⟨g1, 0, none⟩) 0 0))), (0, (.sl ch_0_0 (x1).length ch_0_1 (RdS (Ty.int .u8) ch_0_0 x1)))] [Res.row (Ty.prod Ty.bool (Ty.prod (Ty.slice (Ty.int .u8)) (Ty.int .i64))) 43 (some ⟨g1, 0, none⟩) 0 0 ([] : List (Bool × (List Int) × Int))] a w → smithyref07_read.j1 x1 t1 y1 = some r → K1 a w := by
                intro m y1 a w S h0
                delta smithyref07_read.j1 at h0
                refine hK1 a w ?_
                rcases ite_of h0 with ⟨c8, h1⟩ | ⟨c8, h1⟩ <;> clear h0
                · refine c_condT S rfl c8 ?_
                  refine c_region ?_
                  refine s_move S rfl rfl ?_; clear S a; intro a S
                  refine s_assign S rfl rfl ?_; clear S a; intro a S
                  refine s_assign S rfl rfl ?_; clear S a; intro a S
                  refine s_assign S rfl rfl ?_; clear S a; intro a S
                  refine c_end ?_
                  refine wp_ret ?_
                  refine x_thenR ?_
                  refine x_thenR ?_
                  obtain rfl := Option.some.inj h1
                  exact b_retN S [(.v (.slice (some ⟨g1, 0, none⟩) 0 0)), (.v (.int .i64 0)), (.v (.int .i64 2))] rfl rfl ⟨rfl, rfl, rfl, trivial⟩ fun ⟨ok1, ok2, ok3, _⟩ => S.retX (Hx := []) hb _ _ (((some ⟨g1, 0, none⟩), 0, 0) : (Option Addr) × Nat × Nat) (.cons .here .nil) ⟨⟨ok1, trivial⟩, ⟨ok2, trivial⟩, ⟨ok3, trivial⟩, trivial⟩
                · refine c_condF S rfl c8 ?_
                  refine wp_skip ?_
                  refine x_thenN ?_
                  refine c_region ?_
                  refine s_bldSl S (ty' := (Ty.int .u8)) (ds := []) (z := 0) (c0 := ()) (ys := ([] : List Int)) (cs := []) rfl Try.underlying25 J5 Z5 rfl ⟨rfl, trivial⟩ rfl rfl rfl rfl rfl rfl ?_; clear S a w; intro g4 a w S
                  refine s_assign S rfl rfl ?_; clear S a; intro a S
                  refine c_end ?_
                  refine c_region ?_
                  refine s_move S rfl rfl ?_; clear S a; intro a S
                  refine s_move S rfl rfl ?_; clear S a; intro a S
                  refine s_move S rfl rfl ?_; clear S a; intro a S
                  refine s_move S rfl rfl ?_; clear S a; intro a S
                  refine s_move S rfl rfl ?_; clear S a; intro a S
                  refine s_bin S rfl rfl rfl rfl ?_; clear S a; intro a S
                  obtain ⟨c9, h2⟩ := chk_of h1; clear h1
                  refine s_cutS S (i := t1.2.1) (j := (wr .i64 (t1.2.1 + t1.2.2.1))) (ys := (x1.take (Int.toNat (wr .i64 (t1.2.1 + t1.2.2.1)))).drop (Int.toNat t1.2.1)) rfl rfl Try.underlying25 T5 (.inr ⟨_, _, rfl, rfl⟩) (.inr ⟨_, _, rfl, rfl⟩) c9 rfl rfl ?_; clear S a; intro A1 cp1 a S
                  obtain ⟨c10, h3⟩ := chk_of h2; clear h2
                  refine s_app S (k2 := (((x1.take (Int.toNat (wr .i64 (t1.2.1 + t1.2.2.1)))).drop (Int.toNat t1.2.1)).length)) (ys := ((x1.take (Int.toNat (wr .i64 (t1.2.1 + t1.2.2.1)))).drop (Int.toNat t1.2.1))) rfl (fun _ _ => .here) rfl rfl rfl (RdS.src (S.get 86 (.sl A1 ((x1.take (Int.toNat (wr .i64 (t1.2.1 + t1.2.2.1)))).drop (Int.toNat t1.2.1)).length cp1 (RdS (Ty.int .u8) A1 ((x1.take (Int.toNat (wr .i64 (t1.2.1 + t1.2.2.1)))).drop (Int.toNat t1.2.1)))) rfl).2.2.2.1 (by decide) S.frz) Try.underlying25 J5 c10 rfl ?_; clear S a w; intro A2 cp2 a w S
                  refine s_assign S rfl rfl ?_; clear S a; intro a S
                  refine c_end ?_
                  refine c_region ?_
                  refine s_move S rfl rfl ?_; clear S a; intro a S
                  refine s_bldS S (ds := [(1, (.v (.slice A2 (0 + (((x1.take (Int.toNat (wr .i64 (t1.2.1 + t1.2.2.1)))).drop (Int.toNat t1.2.1)).length)) cp2)))]) (zs := [.one (.bool false), .one (.slice none 0 0), .one (.int .i64 0)]) (s' := [.one (.bool false), .one (.slice A2 (0 + (((x1.take (Int.toNat (wr .i64 (t1.2.1 + t1.2.2.1)))).drop (Int.toNat t1.2.1)).length)) cp2), .one (.int .i64 0)]) rfl Try.underlying43 P43 Z43 ⟨rfl, rfl, rfl, trivial⟩ rfl rfl ?_; clear S a; intro a S
                  replace S := S.rowfro .here
                  obtain ⟨m, le1, S, hro⟩ := S
                  replace S := S.slot (u := 89) (d' := (.agg [.one (.bool false), .sl A2 (([] : List Int) ++ ((x1.take (Int.toNat (wr .i64 (t1.2.1 + t1.2.2.1)))).drop (Int.toNat t1.2.1))).length cp2 (RdS (Ty.int .u8) A2 (([] : List Int) ++ ((x1.take (Int.toNat (wr .i64 (t1.2.1 + t1.2.2.1)))).drop (Int.toNat t1.2.1)))), .one (.int .i64 0)])) rfl (by simp [D.val, cellsOf, Seg.cells, hro.2.1]) (by have h := (S.get 89 (.agg [.one (.bool false), .one (.slice A2 (0 + (((x1.take (Int.toNat (wr .i64 (t1.2.1 + t1.2.2.1)))).drop (Int.toNat t1.2.1)).length)) cp2), .one (.int .i64 0)]) rfl).2; exact ⟨h.1, ⟨by have := hro.2.2.1; omega, hro.2.2.2, hro.1, RdS.mono _ _ _⟩, h.2.2.1, trivial⟩)
                  replace S := S.slotro (u := 88) rfl hro
                  replace S := S.slotro (u := 16) rfl hro
                  replace S := S.slotro (u := 87) rfl hro
                  refine s_bldSl S (ty' := (Ty.prod Ty.bool (Ty.prod (Ty.slice (Ty.int .u8)) (Ty.int .i64)))) (ds := [(0, (.agg [.one (.bool false), .sl A2 (([] : List Int) ++ ((x1.take (Int.toNat (wr .i64 (t1.2.1 + t1.2.2.1)))).drop (Int.toNat t1.2.1))).length cp2 (RdS (Ty.int .u8) A2 (([] : List Int) ++ ((x1.take (Int.toNat (wr .i64 (t1.2.1 + t1.2.2.1)))).drop (Int.toNat t1.2.1)))), .one (.int .i64 0)]))]) (z := (false, ([] : List Int), 0)) (c0 := ((), (none, 0), ())) (ys := [(false, ([] : List Int) ++ ((x1.take (Int.toNat (wr .i64 (t1.2.1 + t1.2.2.1)))).drop (Int.toNat t1.2.1)), 0)]) (cs := [((), (A2, cp2), ())]) rfl Try.underlying29 J43 Z43 rfl ⟨rfl, ⟨Nat.le_refl _, Nat.zero_le _, RdS.nil _ _ _, RdS.mono _ _ _⟩, rfl, trivial⟩ rfl rfl rfl rfl rfl rfl ?_; clear S a w; intro g5 a w S
                  refine s_move S rfl rfl ?_; clear S a; intro a S
                  refine s_move S rfl rfl ?_; clear S a; intro a S
                  refine s_bin S rfl rfl rfl rfl ?_; clear S a; intro a S
                  refine s_assign S rfl rfl ?_; clear S a; intro a S
                  refine s_assign S rfl rfl ?_; clear S a; intro a S
                  refine s_assign S rfl rfl ?_; clear S a; intro a S
                  refine c_end ?_
                  refine wp_ret ?_
                  refine x_thenR ?_
                  obtain rfl := Option.some.inj h3
                  exact b_retN S [(.v (.slice (some ⟨g5, 0, none⟩) 1 1)), (.v (.int .i64 (wr .i64 (t1.2.1 + t1.2.2.1)))), (.v (.int .i64 0))] rfl rfl ⟨rfl, rfl, rfl, trivial⟩ fun ⟨ok1, ok2, ok3, _⟩ => S.retX (Hx := []) hb _ _ (((some ⟨g5, 0, none⟩), 1, 1) : (Option Addr) × Nat × Nat) (.cons .here .nil) ⟨⟨ok1, trivial⟩, ⟨ok2, trivial⟩, ⟨ok3, trivial⟩, trivial⟩
              refine c_region' ?_
              refine s_move S rfl rfl ?_; clear S a; intro a S
              refine s_bin S rfl rfl rfl rfl ?_; clear S a; intro a S
              refine s_move S rfl rfl ?_; clear S a; intro a S
              rcases ite_of h8 with ⟨c11, h9⟩ | ⟨c11, h9⟩ <;> clear h8
              · refine s_gT S (b := (t1.2.2.1 == 1)) rfl rfl c11 ?_
                refine s_move S rfl rfl ?_; clear S a; intro a S
                refine s_gT S (b := (t1.2.2.1 == 1)) rfl rfl c11 ?_
                refine s_move S rfl rfl ?_; clear S a; intro a S
                refine s_gT S (b := (t1.2.2.1 == 1)) rfl rfl c11 ?_
                obtain ⟨c12, h10⟩ := chk_of h9; clear h9
                refine s_iaddrS S rfl rfl rfl Try.underlying25 T5 c12.1 c12.2 rfl ?_; clear S a; intro p4 a S
                refine s_gT S (b := (t1.2.2.1 == 1)) rfl rfl c11 ?_
                refine s_ld1 S (v := (.int .u8 (rd x1 t1.2.1))) rfl T5 (fun _ => rfl) rfl ?_; clear S a; intro a S
                refine s_gT S (b := (t1.2.2.1 == 1)) rfl rfl c11 ?_
                refine s_bin S rfl rfl rfl rfl ?_; clear S a; intro a S
                refine s_pick S (b := true) (hc_of rfl c11) rfl rfl ?_; clear S a; intro a S
                refine c_end' ?_
                refine x_thenN ?_
                exact j1 _ (decide ((rd x1 t1.2.1) < 128)) a w (S.sub ⟨rfl, rfl, rfl, rfl, rfl, trivial⟩ (.cons .here .nil)) h10
              · refine s_gF S (b := (t1.2.2.1 == 1)) rfl rfl c11 rfl ?_; clear S a; intro a S
                refine s_gF S (b := (t1.2.2.1 == 1)) rfl rfl c11 rfl ?_; clear S a; intro a S
                refine s_gF S (b := (t1.2.2.1 == 1)) rfl rfl c11 rfl ?_; clear S a; intro a S
                refine s_gF S (b := (t1.2.2.1 == 1)) rfl rfl c11 rfl ?_; clear S a; intro a S
                refine s_gF S (b := (t1.2.2.1 == 1)) rfl rfl c11 rfl ?_; clear S a; intro a S
                refine s_pick S (b := false) (hc_of rfl c11) rfl rfl ?_; clear S a; intro a S
                refine c_end' ?_
                refine x_thenN ?_
                exact j1 _ false a w (S.sub ⟨rfl, rfl, rfl, rfl, rfl, trivial⟩ (.cons .here .nil)) h9
            · refine c_condF S rfl c7 ?_
              refine wp_skip ?_
              refine x_thenN ?_
              refine wp_seq ?_
              refine c_region ?_
              refine s_move S rfl rfl ?_; clear S a; intro a S
              refine s_bin S rfl rfl rfl rfl ?_; clear S a; intro a S
              refine c_end ?_
              rcases ite_of h8 with ⟨c13, h9⟩ | ⟨c13, h9⟩ <;> clear h8
              · refine c_condT S rfl c13 ?_
                refine c_region ?_
                refine s_move S rfl rfl ?_; clear S a; intro a S
                refine s_assign S rfl rfl ?_; clear S a; intro a S
                refine s_assign S rfl rfl ?_; clear S a; intro a S
                refine s_assign S rfl rfl ?_; clear S a; intro a S
                refine c_end ?_
                refine wp_ret ?_
                refine x_thenR ?_
                obtain rfl := Option.some.inj h9
                exact b_retN S [(.v (.slice (some ⟨g1, 0, none⟩) 0 0)), (.v (.int .i64 0)), (.v (.int .i64 4))] rfl rfl ⟨rfl, rfl, rfl, trivial⟩ fun ⟨ok1, ok2, ok3, _⟩ => S.retX (Hx := []) hb _ _ (((some ⟨g1, 0, none⟩), 0, 0) : (Option Addr) × Nat × Nat) (.cons .here .nil) ⟨⟨ok1, trivial⟩, ⟨ok2, trivial⟩, ⟨ok3, trivial⟩, trivial⟩
              · refine c_condF S rfl c13 ?_
                refine wp_skip ?_
                refine x_thenN ?_
                refine c_region ?_
                refine s_bldS S (ds := [(0, (.v (.bool true)))]) (zs := [.one (.bool false), .one (.slice none 0 0), .one (.int .i64 0)]) (s' := [.one (.bool true), .one (.slice none 0 0), .one (.int .i64 0)]) rfl Try.underlying43 P43 Z43 ⟨rfl, rfl, rfl, trivial⟩ rfl rfl ?_; clear S a; intro a S
                replace S := S.slot (u := 97) (d' := (.agg [.one (.bool true), .sl none (([] : List Int)).length 0 (RdS (Ty.int .u8) none ([] : List Int)), .one (.int .i64 0)])) rfl rfl (by have h := (S.get 97 (.agg [.one (.bool true), .one (.slice none 0 0), .one (.int .i64 0)]) rfl).2; exact ⟨h.1, ok_nil, h.2.2.1, trivial⟩)
                refine s_bldSl S (ty' := (Ty.prod Ty.bool (Ty.prod (Ty.slice (Ty.int .u8)) (Ty.int .i64)))) (ds := [(0, (.agg [.one (.bool true), .sl none (([] : List Int)).length 0 (RdS (Ty.int .u8) none ([] : List Int)), .one (.int .i64 0)]))]) (z := (false, ([] : List Int), 0)) (c0 := ((), (none, 0), ())) (ys := [(true, ([] : List Int), 0)]) (cs := [((), (none, 0), ())]) rfl Try.underlying29 J43 Z43 rfl ⟨rfl, ⟨Nat.le_refl _, Nat.zero_le _, RdS.nil _ _ _, RdS.mono _ _ _⟩, rfl, trivial⟩ rfl rfl rfl rfl rfl rfl ?_; clear S a w; intro g6 a w S
                refine s_assign S rfl rfl ?_; clear S a; intro a S
                refine c_end ?_
                refine c_region ?_
                refine s_move S rfl rfl ?_; clear S a; intro a S
                refine s_assign S rfl rfl ?_; clear S a; intro a S
                refine c_end ?_
                refine wp_seq_k ?_
                intro K2 hK2
                have j2 : ∀ (m : Mem) (A3 : Option Addr) (nn1 : Nat) (cp7 : Nat) (y6 : List (Bool × (List Int) × Int)) (a : Act) (w : World), St 135 m b0 [(17, (.v (.slice A3 nn1 cp7))), (14, (.v (.int .i64 t1.2.2.1))), (13, (.v (.int .i64 t1.2.1)))] [Res.row (Ty.prod Ty.bool (Ty.prod (Ty.slice (Ty.int .u8)) (Ty.int .i64))) 43 A3 nn1 cp7 y6] a w → smithyref07_read.j2 t1 y6 = some r → K2 a w := by
                  intro m A3 nn1 cp7 y6 a w S h0
                  delta smithyref07_read.j2 at h0
                  refine hK2 a w ?_
                  refine c_region ?_
                  refine s_move S rfl rfl ?_; clear S a; intro a S
                  refine s_move S rfl rfl ?_; clear S a; intro a S
                  refine s_lenO S rfl .here Try.underlying29 rfl ?_; clear S a; intro a S
                  refine s_bin S rfl rfl rfl rfl ?_; clear S a; intro a S
                  obtain ⟨c14, h1⟩ := chk_of h0; clear h0
                  refine s_iaddrO S (ty' := (Ty.prod Ty.bool (Ty.prod (Ty.slice (Ty.int .u8)) (Ty.int .i64)))) rfl .here rfl Try.underlying29 T43 c14.1 c14.2 rfl ?_; clear S a; intro g7 a hA1 S
                  refine s_fieldAddr S rfl I43_2 T3 (by decide) rfl rfl ?_; clear S a; intro a S
                  refine s_stR S (ty' := (Ty.prod Ty.bool (Ty.prod (Ty.slice (Ty.int .u8)) (Ty.int .i64)))) (i := 0) (off := 2) (u := ((gt y6 0).1, (gt y6 0).2.1, wr .i64 (((y6).length : Int) - 1))) (fun (c : Unit × (Option Addr × Nat) × Unit) => ((), (c.2.1.1, c.2.1.2), ())) rfl rfl rfl hA1 .here T3 c14.1 c14.2 rfl (by decide) rfl (fun _ => rfl) ?_; clear S w; intro w S
                  refine c_end ?_
                  refine c_region ?_
                  refine s_move S rfl rfl ?_; clear S a; intro a S
                  refine s_move S rfl rfl ?_; clear S a; intro a S
                  refine s_move S rfl rfl ?_; clear S a; intro a S
                  refine s_bin S rfl rfl rfl rfl ?_; clear S a; intro a S
                  refine s_assign S rfl rfl ?_; clear S a; intro a S
                  refine s_assign S rfl rfl ?_; clear S a; intro a S
                  refine s_assign S rfl rfl ?_; clear S a; intro a S
                  refine c_end ?_
                  refine wp_ret ?_
                  obtain rfl := Option.some.inj h1
                  exact b_retN S [(.v (.slice A3 nn1 cp7)), (.v (.int .i64 (wr .i64 (t1.2.1 + t1.2.2.1)))), (.v (.int .i64 0))] rfl rfl ⟨rfl, rfl, rfl, trivial⟩ fun ⟨ok1, ok2, ok3, _⟩ => S.retX (Hx := []) hb _ _ ((A3, nn1, cp7) : (Option Addr) × Nat × Nat) (.cons .here .nil) ⟨⟨ok1, trivial⟩, ⟨ok2, trivial⟩, ⟨ok3, trivial⟩, trivial⟩
                refine wp_block ?_
                refine c_loop (fun q1 a w => ∃ (m : Mem) (y9 : Int) (A4 : Option Addr) (nn3 : Nat) (cp11 : Nat) (y10 : List (Bool × (List Int) × Int)), St 135 m b0 [(18, (.v (.int .i64 y9))), (17, (.v (.slice A4 nn3 cp11))), (14, (.v (.int .i64 t1.2.2.1))), (13, (.v (.int .i64 t1.2.1))), (11, (.v (.slice (some ⟨g1, 0, none⟩) 0 0))), (0, (.sl ch_0_0 (x1).length ch_0_1 (RdS (Ty.int .u8) ch_0_0 x1))), (3, (.v (.int .i64 x4)))] [Res.row (Ty.prod Ty.bool (Ty.prod (Ty.slice (Ty.int .u8)) (Ty.int .i64))) 43 A4 nn3 cp11 y10, Res.row (Ty.prod Ty.bool (Ty.prod (Ty.slice (Ty.int .u8)) (Ty.int .i64))) 43 (some ⟨g1, 0, none⟩) 0 0 ([] : List (Bool × (List Int) × Int))] a w ∧ smithyref07_read.l1 self0 x1 x4 t1 q1 y9 y10 = some r) ?_ ?_ (k := k) ⟨_, t1.2.1, (some ⟨g6, 0, none⟩), 1, 1, [(true, ([] : List Int), 0)], (S.sub ⟨rfl, rfl, rfl, rfl, rfl, rfl, rfl, trivial⟩ (.cons .here (.cons .here .nil))), h9⟩
                · rintro a w ⟨m, y9, A4, nn3, cp11, y10, S, h0⟩
                  exact (nomatch (show (none : Option ((List (Bool × (List Int) × Int)) × Int × Int)) = some r from h0))
                · clear S h9
                  rintro q1 a w ⟨m, y9, A4, nn3, cp11, y10, S, h0⟩
                  replace h0 : smithyref07_read.b1 self0 x1 x4 t1 (smithyref07_read.l1 self0 x1 x4 t1 q1) y9 y10 = some r := h0
                  delta smithyref07_read.b1 at h0
                  refine wp_seq ?_
                  refine c_region ?_
                  refine s_move S rfl rfl ?_; clear S a; intro a S
                  refine s_move S rfl rfl ?_; clear S a; intro a S
                  refine s_move S rfl rfl ?_; clear S a; intro a S
                  refine s_bin S rfl rfl rfl rfl ?_; clear S a; intro a S
                  refine s_bin S rfl rfl rfl rfl ?_; clear S a; intro a S
                  refine c_end ?_
                  rcases ite_of h0 with ⟨c15, h1⟩ | ⟨c15, h1⟩ <;> clear h0
                  · refine c_condT S rfl c15 ?_
                    refine wp_skip ?_
                    refine x_thenN ?_
                    refine wp_block ?_
                    refine c_region ?_
                    refine s_move S rfl rfl ?_; clear S a; intro a S
                    refine s_move S rfl rfl ?_; clear S a; intro a S
                    refine s_move S rfl rfl ?_; clear S a; intro a S
                    refine s_move S rfl rfl ?_; clear S a; intro a S
                    refine s_bin S rfl rfl rfl rfl ?_; clear S a; intro a S
                    refine s_move S rfl rfl ?_; clear S a; intro a S
                    refine s_bin S rfl rfl rfl rfl ?_; clear S a; intro a S
                    obtain ⟨t4, et4, h2⟩ := bind_of h1; clear h1
                    refine s_callX S (ds' := [(.sl ch_0_0 (x1).length ch_0_1 (RdS (Ty.int .u8) ch_0_0 x1)), (.v (.int .i64 y9)), (.v (.int .i64 (wr .i64 (t1.2.1 + t1.2.2.1)))), (.v (.int .i64 (wr .i64 (x4 + 1))))]) (ds := [(.sl ch_0_0 (x1).length ch_0_1 (RdS (Ty.int .u8) ch_0_0 x1)), (.v (.int .i64 y9)), (.v (.int .i64 (wr .i64 (t1.2.1 + t1.2.2.1)))), (.v (.int .i64 (wr .i64 (x4 + 1))))]) [] [Res.row (Ty.prod Ty.bool (Ty.prod (Ty.slice (Ty.int .u8)) (Ty.int .i64))) 43 A4 nn3 cp11 y10, Res.row (Ty.prod Ty.bool (Ty.prod (Ty.slice (Ty.int .u8)) (Ty.int .i64))) 43 (some ⟨g1, 0, none⟩) 0 0 ([] : List (Bool × (List Int) × Int))] (fun (ch : (Option Addr) × Nat × Nat) => ((.tup [(false, [.one (.slice ch.1 ch.2.1 ch.2.2)]), (false, [.one (.int .i64 t4.2.1)]), (false, [.one (.int .i64 t4.2.2)])]) : D)) (fun (ch : (Option Addr) × Nat × Nat) => [Res.row (Ty.prod Ty.bool (Ty.prod (Ty.slice (Ty.int .u8)) (Ty.int .i64))) 43 ch.1 ch.2.1 ch.2.2 t4.1]) (fun (ch : (Option Addr) × Nat × Nat) => [Res.row (Ty.prod Ty.bool (Ty.prod (Ty.slice (Ty.int .u8)) (Ty.int .i64))) 43 ch.1 ch.2.1 ch.2.2 t4.1, Res.row (Ty.prod Ty.bool (Ty.prod (Ty.slice (Ty.int .u8)) (Ty.int .i64))) 43 A4 nn3 cp11 y10, Res.row (Ty.prod Ty.bool (Ty.prod (Ty.slice (Ty.int .u8)) (Ty.int .i64))) 43 (some ⟨g1, 0, none⟩) 0 0 ([] : List (Bool × (List Int) × Int))]) (fun _ => rfl) N26 rfl rfl (fun ok => ok) (.cons .here (.cons .here .nil)) rfl (c_0 x1 y9 (wr .i64 (t1.2.1 + t1.2.2.1)) (wr .i64 (x4 + 1)) ch_0_0 ch_0_1 t4 et4 _ _) ?_; clear S a w; intro ch4 m le1 a w S
                    refine s_move S rfl rfl ?_; clear S a; intro a S
                    refine s_extract S rfl rfl rfl rfl ?_; clear S a; intro a S
                    refine s_extract S rfl rfl rfl rfl ?_; clear S a; intro a S
                    refine s_extract S rfl rfl rfl rfl ?_; clear S a; intro a S
                    refine s_assign S rfl rfl ?_; clear S a; intro a S
                    refine s_assign S rfl rfl ?_; clear S a; intro a S
                    refine s_assign S rfl rfl ?_; clear S a; intro a S
                    refine c_end ?_
                    refine wp_seq ?_
                    refine c_region ?_
                    refine s_move S rfl rfl ?_; clear S a; intro a S
                    refine s_bin S rfl rfl rfl rfl ?_; clear S a; intro a S
                    refine c_end ?_
                    rcases ite_of h2 with ⟨c16, h3⟩ | ⟨c16, h3⟩ <;> clear h2
                    · refine c_condT S rfl c16 ?_
                      refine c_region ?_
                      refine s_move S rfl rfl ?_; clear S a; intro a S
                      refine s_move S rfl rfl ?_; clear S a; intro a S
                      refine s_assign S rfl rfl ?_; clear S a; intro a S
                      refine s_assign S rfl rfl ?_; clear S a; intro a S
                      refine s_assign S rfl rfl ?_; clear S a; intro a S
                      refine c_end ?_
                      refine wp_ret ?_
                      refine x_thenR ?_
                      refine x_blockR ?_
                      refine x_thenR ?_
                      refine x_blockR ?_
                      refine x_thenR ?_
                      obtain rfl := Option.some.inj h3
                      exact b_retN S [(.v (.slice (some ⟨g1, 0, none⟩) 0 0)), (.v (.int .i64 0)), (.v (.int .i64 t4.2.2))] rfl rfl ⟨rfl, rfl, rfl, trivial⟩ fun ⟨ok1, ok2, ok3, _⟩ => S.retX (Hx := []) hb _ _ (((some ⟨g1, 0, none⟩), 0, 0) : (Option Addr) × Nat × Nat) (.cons (.there (.there .here)) .nil) ⟨⟨ok1, trivial⟩, ⟨ok2, trivial⟩, ⟨ok3, trivial⟩, trivial⟩
                    · refine c_condF S rfl c16 ?_
                      refine wp_skip ?_
                      refine x_thenN ?_
                      refine c_region ?_
                      refine s_move S rfl rfl ?_; clear S a; intro a S
                      refine s_move S rfl rfl ?_; clear S a; intro a S
                      obtain ⟨c17, h4⟩ := chk_of h3; clear h3
                      refine s_app S (k2 := ch4.2.1) (ys := t4.1) rfl (fun _ _ => (.there .here)) rfl rfl (S.holds _ (Pull.mem .here).1).1 (Res.row.src (S.holds _ (Pull.mem .here).1)) Try.underlying29 J43 c17 rfl ?_; clear S a w; intro A5 cp12 a w S
                      refine s_assign S rfl rfl ?_; clear S a; intro a S
                      refine c_end ?_
                      refine c_region' ?_
                      refine s_move S rfl rfl ?_; clear S a; intro a S
                      refine s_assign S rfl rfl ?_; clear S a; intro a S
                      refine c_end' ?_
                      refine x_blockN ?_
                      refine x_thenN ?_
                      exact ⟨_, t4.2.1, A5, (nn3 + ch4.2.1), cp12, (y10 ++ t4.1), (S.sub ⟨rfl, rfl, rfl, rfl, rfl, rfl, rfl, trivial⟩ (.cons (.there .here) (.cons (.there .here) .nil))), h4⟩
                  · refine c_condF S rfl c15 ?_
                    refine wp_exit ?_
                    refine x_thenX ?_
                    refine x_thenX ?_
                    refine x_blockX ?_
                    refine x_thenN ?_
                    exact j2 _ A4 nn3 cp11 y10 a w (S.sub ⟨rfl, rfl, rfl, trivial⟩ (.cons .here .nil)) h1
def smithyref07_read.f : Nat → smithyref07_read.Ty
  | 0 => fun _ _ _ _ => none
  | k + 1 => smithyref07_read.body (smithyref07_read.f k) k
theorem smithyref07_read.f_succ (k : Nat) : smithyref07_read.f (k + 1) = smithyref07_read.body (smithyref07_read.f k) k := rfl
theorem smithyref07_read.oks : ∀ k : Nat, smithyref07_read.Ctr (smithyref07_read.f k)
  | 0 => fun _ _ _ _ _ _ r h0 => (nomatch (show (none : Option ((List (Bool × (List Int) × Int)) × Int × Int)) = some r from h0))
  | k + 1 => by
    have ih := smithyref07_read.oks k
    exact smithyref07_read.okb (smithyref07_read.f k) ih k
theorem smithyref07_read.ok (k : Nat) : smithyref07_read.Ctr (smithyref07_read.f k) := (smithyref07_read.oks k)
/-! smithy/smithyref07.Decode -/
abbrev smithyref07_Decode.Ty : Type := (List Int) → Option ((List (Bool × (List Int) × Int)) × Int)
def smithyref07_Decode.Ctr (s : smithyref07_Decode.Ty) : Prop := ∀ (x1 : List Int) (ch_0_0 : Option Addr) (ch_0_1 : Nat) (r : (List (Bool × (List Int) × Int)) × Int) (h0 : s x1 = some r) (mi : Mem) (w0 : World), okL mi [(.sl ch_0_0 (x1).length ch_0_1 (RdS (Ty.int .u8) ch_0_0 x1))] → Pre mi [] w0 → Calls Try.prog 15 (([(.sl ch_0_0 (x1).length ch_0_1 (RdS (Ty.int .u8) ch_0_0 x1))] : List D).map D.val).toArray w0 (RetX mi [] (fun (ch : (Option Addr) × Nat × Nat) => ((.tup [(false, [.one (.slice ch.1 ch.2.1 ch.2.2)]), (false, [.one (.int .i64 r.2)])]) : D)) (fun (ch : (Option Addr) × Nat × Nat) => [Res.row (Ty.prod Ty.bool (Ty.prod (Ty.slice (Ty.int .u8)) (Ty.int .i64))) 43 ch.1 ch.2.1 ch.2.2 r.1]) w0)
def smithyref07_Decode.f (k : Nat) (x1 : List Int) : Option ((List (Bool × (List Int) × Int)) × Int) := if (decide (1048576 < ((x1).length : Int))) = true then (some (([] : List (Bool × (List Int) × Int)), 4)) else ((smithyref07_read.f k x1 0 ((x1).length : Int) 0).bind fun t1 => (if (t1.2.2 != 0) = true then (some (([] : List (Bool × (List Int) × Int)), t1.2.2)) else (if (decide (t1.2.1 < ((x1).length : Int))) = true then (some (([] : List (Bool × (List Int) × Int)), 2)) else (some (t1.1, 0)))))
theorem smithyref07_Decode.ok (k : Nat) : smithyref07_Decode.Ctr (smithyref07_Decode.f k) := by
  intro x1 ch_0_0 ch_0_1 r h0 mi w0 ok hm
  delta smithyref07_Decode.f at h0
  refine c_enterX (n := 31) [(.sl ch_0_0 (x1).length ch_0_1 (RdS (Ty.int .u8) ch_0_0 x1))] (l := [(0, (.sl ch_0_0 (x1).length ch_0_1 (RdS (Ty.int .u8) ch_0_0 x1)))]) Try.func15 rfl rfl rfl rfl ok hm ?_
  clear ok hm
  intro b0 hb a S
  refine c_region ?_
  refine s_assign S rfl rfl ?_; clear S a; intro a S
  refine s_assign S rfl rfl ?_; clear S a; intro a S
  refine c_end ?_
  refine c_region ?_
  refine s_bldSl S (ty' := (Ty.prod Ty.bool (Ty.prod (Ty.slice (Ty.int .u8)) (Ty.int .i64)))) (ds := []) (z := (false, ([] : List Int), 0)) (c0 := ((), (none, 0), ())) (ys := ([] : List (Bool × (List Int) × Int))) (cs := []) rfl Try.underlying29 J43 Z43 rfl ⟨rfl, ⟨Nat.le_refl _, Nat.zero_le _, RdS.nil _ _ _, RdS.mono _ _ _⟩, rfl, trivial⟩ rfl rfl rfl rfl rfl rfl ?_; clear S a; intro g1 a w S
  refine s_assign S rfl rfl ?_; clear S a; intro a S
  refine c_end ?_
  refine wp_seq ?_
  refine c_region ?_
  refine s_move S rfl rfl ?_; clear S a; intro a S
  refine s_lenS S rfl Try.underlying25 rfl ?_; clear S a; intro a S
  refine s_bin S rfl rfl rfl rfl ?_; clear S a; intro a S
  refine c_end ?_
  rcases ite_of h0 with ⟨c1, h1⟩ | ⟨c1, h1⟩ <;> clear h0
  · refine c_condT S rfl c1 ?_
    refine c_region ?_
    refine s_move S rfl rfl ?_; clear S a; intro a S
    refine s_assign S rfl rfl ?_; clear S a; intro a S
    refine s_assign S rfl rfl ?_; clear S a; intro a S
    refine c_end ?_
    refine wp_ret ?_
    refine x_thenR ?_
    obtain rfl := Option.some.inj h1
    exact b_ret2 (d1 := (.v (.slice (some ⟨g1, 0, none⟩) 0 0))) (d2 := (.v (.int .i64 4))) S rfl rfl rfl fun ok1 ok2 => S.retX (Hx := []) hb _ _ (((some ⟨g1, 0, none⟩), 0, 0) : (Option Addr) × Nat × Nat) (.cons .here .nil) ⟨⟨ok1, trivial⟩, ⟨ok2, trivial⟩, trivial⟩
  · refine c_condF S rfl c1 ?_
    refine wp_skip ?_
    refine x_thenN ?_
    refine c_region ?_
    refine s_move S rfl rfl ?_; clear S a; intro a S
    refine s_move S rfl rfl ?_; clear S a; intro a S
    refine s_lenS S rfl Try.underlying25 rfl ?_; clear S a; intro a S
    obtain ⟨t1, et1, h2⟩ := bind_of h1; clear h1
    refine s_callX S (ds' := [(.sl ch_0_0 (x1).length ch_0_1 (RdS (Ty.int .u8) ch_0_0 x1)), (.v (.int .i64 0)), (.v (.int .i64 ((x1).length : Int))), (.v (.int .i64 0))]) (ds := [(.sl ch_0_0 (x1).length ch_0_1 (RdS (Ty.int .u8) ch_0_0 x1)), (.v (.int .i64 0)), (.v (.int .i64 ((x1).length : Int))), (.v (.int .i64 0))]) [] [Res.row (Ty.prod Ty.bool (Ty.prod (Ty.slice (Ty.int .u8)) (Ty.int .i64))) 43 (some ⟨g1, 0, none⟩) 0 0 ([] : List (Bool × (List Int) × Int))] (fun (ch : (Option Addr) × Nat × Nat) => ((.tup [(false, [.one (.slice ch.1 ch.2.1 ch.2.2)]), (false, [.one (.int .i64 t1.2.1)]), (false, [.one (.int .i64 t1.2.2)])]) : D)) (fun (ch : (Option Addr) × Nat × Nat) => [Res.row (Ty.prod Ty.bool (Ty.prod (Ty.slice (Ty.int .u8)) (Ty.int .i64))) 43 ch.1 ch.2.1 ch.2.2 t1.1]) (fun (ch : (Option Addr) × Nat × Nat) => [Res.row (Ty.prod Ty.bool (Ty.prod (Ty.slice (Ty.int .u8)) (Ty.int .i64))) 43 ch.1 ch.2.1 ch.2.2 t1.1, Res.row (Ty.prod Ty.bool (Ty.prod (Ty.slice (Ty.int .u8)) (Ty.int .i64))) 43 (some ⟨g1, 0, none⟩) 0 0 ([] : List (Bool × (List Int) × Int))]) (fun _ => rfl) N26 rfl rfl (fun ok => ok) (.cons .here .nil) rfl (smithyref07_read.ok k x1 0 ((x1).length : Int) 0 ch_0_0 ch_0_1 t1 et1 _ _) ?_; clear S a w; intro ch1 m le1 a w S
    refine s_move S rfl rfl ?_; clear S a; intro a S
    refine s_extract S rfl rfl rfl rfl ?_; clear S a; intro a S
    refine s_extract S rfl rfl rfl rfl ?_; clear S a; intro a S
    refine s_extract S rfl rfl rfl rfl ?_; clear S a; intro a S
    refine s_assign S rfl rfl ?_; clear S a; intro a S
    refine s_assign S rfl rfl ?_; clear S a; intro a S
    refine s_assign S rfl rfl ?_; clear S a; intro a S
    refine c_end ?_
    refine wp_seq ?_
    refine c_region ?_
    refine s_move S rfl rfl ?_; clear S a; intro a S
    refine s_bin S rfl rfl rfl rfl ?_; clear S a; intro a S
    refine c_end ?_
    rcases ite_of h2 with ⟨c2, h3⟩ | ⟨c2, h3⟩ <;> clear h2
    · refine c_condT S rfl c2 ?_
      refine c_region ?_
      refine s_move S rfl rfl ?_; clear S a; intro a S
      refine s_move S rfl rfl ?_; clear S a; intro a S
      refine s_assign S rfl rfl ?_; clear S a; intro a S
      refine s_assign S rfl rfl ?_; clear S a; intro a S
      refine c_end ?_
      refine wp_ret ?_
      refine x_thenR ?_
      obtain rfl := Option.some.inj h3
      exact b_ret2 (d1 := (.v (.slice (some ⟨g1, 0, none⟩) 0 0))) (d2 := (.v (.int .i64 t1.2.2))) S rfl rfl rfl fun ok1 ok2 => S.retX (Hx := []) hb _ _ (((some ⟨g1, 0, none⟩), 0, 0) : (Option Addr) × Nat × Nat) (.cons (.there .here) .nil) ⟨⟨ok1, trivial⟩, ⟨ok2, trivial⟩, trivial⟩
    · refine c_condF S rfl c2 ?_
      refine wp_skip ?_
      refine x_thenN ?_
      refine wp_seq ?_
      refine c_region ?_
      refine s_move S rfl rfl ?_; clear S a; intro a S
      refine s_move S rfl rfl ?_; clear S a; intro a S
      refine s_lenS S rfl Try.underlying25 rfl ?_; clear S a; intro a S
      refine s_bin S rfl rfl rfl rfl ?_; clear S a; intro a S
      refine c_end ?_
      rcases ite_of h3 with ⟨c3, h4⟩ | ⟨c3, h4⟩ <;> clear h3
      · refine c_condT S rfl c3 ?_
        refine c_region ?_
        refine s_move S rfl rfl ?_; clear S a; intro a S
        refine s_assign S rfl rfl ?_; clear S a; intro a S
        refine s_assign S rfl rfl ?_; clear S a; intro a S
        refine c_end ?_
        refine wp_ret ?_
        refine x_thenR ?_
        obtain rfl := Option.some.inj h4
        exact b_ret2 (d1 := (.v (.slice (some ⟨g1, 0, none⟩) 0 0))) (d2 := (.v (.int .i64 2))) S rfl rfl rfl fun ok1 ok2 => S.retX (Hx := []) hb _ _ (((some ⟨g1, 0, none⟩), 0, 0) : (Option Addr) × Nat × Nat) (.cons (.there .here) .nil) ⟨⟨ok1, trivial⟩, ⟨ok2, trivial⟩, trivial⟩
      · refine c_condF S rfl c3 ?_
        refine wp_skip ?_
        refine x_thenN ?_
        refine c_region ?_
        refine s_move S rfl rfl ?_; clear S a; intro a S
        refine s_assign S rfl rfl ?_; clear S a; intro a S
        refine s_assign S rfl rfl ?_; clear S a; intro a S
        refine c_end ?_
        refine wp_ret ?_
        obtain rfl := Option.some.inj h4
        exact b_ret2 (d1 := (.v (.slice ch1.1 ch1.2.1 ch1.2.2))) (d2 := (.v (.int .i64 0))) S rfl rfl rfl fun ok1 ok2 => S.retX (Hx := []) hb _ _ ((ch1.1, ch1.2.1, ch1.2.2) : (Option Addr) × Nat × Nat) (.cons .here .nil) ⟨⟨ok1, trivial⟩, ⟨ok2, trivial⟩, trivial⟩
/-! smithy/smithylaw07.RlpDecodes -/
abbrev smithylaw07_RlpDecodes.Ty : Type := (List Int) → Option Bool
def smithylaw07_RlpDecodes.Ctr (s : smithylaw07_RlpDecodes.Ty) : Prop := ∀ (x1 : List Int) (ch_0_0 : Option Addr) (ch_0_1 : Nat) (r : Bool) (h0 : s x1 = some r) (mi : Mem) (w0 : World), okL mi [(.sl ch_0_0 (x1).length ch_0_1 (RdS (Ty.int .u8) ch_0_0 x1))] → Pre mi [] w0 → Calls Try.prog 5 (([(.sl ch_0_0 (x1).length ch_0_1 (RdS (Ty.int .u8) ch_0_0 x1))] : List D).map D.val).toArray w0 (RetX mi [] (fun (ch : Unit) => ((.v (.bool r)) : D)) (fun (ch : Unit) => []) w0)
def smithylaw07_RlpDecodes.j1 (k : Nat) (x1 : List Int) (t2 : (List (Bool × (List Int) × Int)) × Int) (y1 : Bool) : Option Bool := if y1 = true then (some false) else (if (t2.2 != 0) = true then (some true) else ((rlp_Encode.f k t2.1).bind fun t6 => (if (t6.2 == 0) = true then (some ((bstr t6.1).toList == (bstr x1).toList)) else (some false))))
def smithylaw07_RlpDecodes.f (k : Nat) (x1 : List Int) : Option Bool := if (decide (4000 < ((x1).length : Int))) = true then ((smithylaw07_fixed.f k).bind fun t1 => (some t1)) else (if ((([] : List Int)).length + (x1).length) * 1 ≤ 140737488355328 then ((rlp_Decode.f k (([] : List Int) ++ x1)).bind fun t2 => ((smithyref07_Decode.f k x1).bind fun t3 => ((smithylaw07_fixed.f k).bind fun t7 => (if (!t7) = true then (smithylaw07_RlpDecodes.j1 k x1 t2 true) else ((smithyref07_Same.f k t2.1 t3.1).bind fun t8 => (if (!t8) = true then (smithylaw07_RlpDecodes.j1 k x1 t2 true) else (if (t2.2 != t3.2) = true then (smithylaw07_RlpDecodes.j1 k x1 t2 true) else (smithylaw07_RlpDecodes.j1 k x1 t2 (!((bstr (([] : List Int) ++ x1)).toList == (bstr x1).toList)))))))))) else none)
theorem smithylaw07_RlpDecodes.ok (k : Nat) : smithylaw07_RlpDecodes.Ctr (smithylaw07_RlpDecodes.f k) := by
  intro x1 ch_0_0 ch_0_1 r h0 mi w0 ok hm
  delta smithylaw07_RlpDecodes.f at h0
  refine c_enterX (n := 63) [(.sl ch_0_0 (x1).length ch_0_1 (RdS (Ty.int .u8) ch_0_0 x1))] (l := [(0, (.sl ch_0_0 (x1).length ch_0_1 (RdS (Ty.int .u8) ch_0_0 x1)))]) Try.func5 rfl rfl rfl rfl ok hm ?_
  clear ok hm
  intro b0 hb a S
  refine c_region ?_
  refine s_assign S rfl rfl ?_; clear S a; intro a S
  refine c_end ?_
  refine wp_seq ?_
  refine c_region ?_
  refine s_move S rfl rfl ?_; clear S a; intro a S
  refine s_lenS S rfl Try.underlying25 rfl ?_; clear S a; intro a S
  refine s_bin S rfl rfl rfl rfl ?_; clear S a; intro a S
  refine c_end ?_
  rcases ite_of h0 with ⟨c1, h1⟩ | ⟨c1, h1⟩ <;> clear h0
  · refine c_condT S rfl c1 ?_
    refine c_region ?_
    obtain ⟨t1, et1, h2⟩ := bind_of h1; clear h1
    refine s_callX S (ds' := []) (ds := []) [] [] (fun (ch : Unit) => ((.v (.bool t1)) : D)) (fun (ch : Unit) => []) (fun (ch : Unit) => []) (fun _ => rfl) N8 rfl rfl (fun ok => ok) .nil rfl (smithylaw07_fixed.ok k t1 et1 _ _) ?_; clear S a; intro ch1 m le1 a w S
    refine s_assign S rfl rfl ?_; clear S a; intro a S
    refine c_end ?_
    refine wp_ret ?_
    refine x_thenR ?_
    obtain rfl := Option.some.inj h2
    exact b_ret1 (d := (.v (.bool t1))) S rfl rfl fun ok => S.retX (Hx := []) hb _ _ (() : Unit) .nil ok
  · refine c_condF S rfl c1 ?_
    refine wp_skip ?_
    refine x_thenN ?_
    refine c_region ?_
    refine s_bldSl S (ty' := (Ty.int .u8)) (ds := []) (z := 0) (c0 := ()) (ys := ([] : List Int)) (cs := []) rfl Try.underlying25 J5 Z5 rfl ⟨rfl, trivial⟩ rfl rfl rfl rfl rfl rfl ?_; clear S a; intro g1 a w S
    refine s_move S rfl rfl ?_; clear S a; intro a S
    obtain ⟨c2, h2⟩ := chk_of h1; clear h1
    refine s_app S (k2 := ((x1).length)) (ys := x1) rfl (fun _ _ => .here) rfl rfl rfl (RdS.src (S.get 15 (.sl ch_0_0 (x1).length ch_0_1 (RdS (Ty.int .u8) ch_0_0 x1)) rfl).2.2.2.1 (by decide) S.frz) Try.underlying25 J5 c2 rfl ?_; clear S a w; intro A1 cp1 a w S
    refine s_assign S rfl rfl ?_; clear S a; intro a S
    refine c_end ?_
    refine c_region ?_
    refine s_move S rfl rfl ?_; clear S a; intro a S
    replace S := S.rowfro .here
    obtain ⟨m, le1, S, hro⟩ := S
    replace S := S.slotro (u := 18) rfl hro
    replace S := S.slotro (u := 3) rfl hro
    replace S := S.slotro (u := 16) rfl hro
    obtain ⟨t2, et2, h3⟩ := bind_of h2; clear h2
    refine s_callX S (ds' := [(.sl A1 (([] : List Int) ++ x1).length cp1 (RdS (Ty.int .u8) A1 (([] : List Int) ++ x1)))]) (ds := [(.sl A1 (([] : List Int) ++ x1).length cp1 (RdS (Ty.int .u8) A1 (([] : List Int) ++ x1)))]) [] [] (fun (ch : (Option Addr) × Nat × Nat) => ((.tup [(false, [.one (.slice ch.1 ch.2.1 ch.2.2)]), (false, [.one (.int .i64 t2.2)])]) : D)) (fun (ch : (Option Addr) × Nat × Nat) => [Res.row (Ty.prod Ty.bool (Ty.prod (Ty.slice (Ty.int .u8)) (Ty.int .i64))) 43 ch.1 ch.2.1 ch.2.2 t2.1]) (fun (ch : (Option Addr) × Nat × Nat) => [Res.row (Ty.prod Ty.bool (Ty.prod (Ty.slice (Ty.int .u8)) (Ty.int .i64))) 43 ch.1 ch.2.1 ch.2.2 t2.1]) (fun _ => rfl) N13 rfl rfl (fun ok => ok) .nil rfl (rlp_Decode.ok k (([] : List Int) ++ x1) A1 cp1 t2 et2 _ _) ?_; clear S a w; intro ch2 m le1 a w S
    refine s_move S rfl rfl ?_; clear S a; intro a S
    refine s_extract S rfl rfl rfl rfl ?_; clear S a; intro a S
    refine s_extract S rfl rfl rfl rfl ?_; clear S a; intro a S
    refine s_assign S rfl rfl ?_; clear S a; intro a S
    refine s_assign S rfl rfl ?_; clear S a; intro a S
    refine c_end ?_
    refine c_region ?_
    refine s_move S rfl rfl ?_; clear S a; intro a S
    obtain ⟨t3, et3, h4⟩ := bind_of h3; clear h3
    refine s_callX S (ds' := [(.sl ch_0_0 (x1).length ch_0_1 (RdS (Ty.int .u8) ch_0_0 x1))]) (ds := [(.sl ch_0_0 (x1).length ch_0_1 (RdS (Ty.int .u8) ch_0_0 x1))]) [] [Res.row (Ty.prod Ty.bool (Ty.prod (Ty.slice (Ty.int .u8)) (Ty.int .i64))) 43 ch2.1 ch2.2.1 ch2.2.2 t2.1] (fun (ch : (Option Addr) × Nat × Nat) => ((.tup [(false, [.one (.slice ch.1 ch.2.1 ch.2.2)]), (false, [.one (.int .i64 t3.2)])]) : D)) (fun (ch : (Option Addr) × Nat × Nat) => [Res.row (Ty.prod Ty.bool (Ty.prod (Ty.slice (Ty.int .u8)) (Ty.int .i64))) 43 ch.1 ch.2.1 ch.2.2 t3.1]) (fun (ch : (Option Addr) × Nat × Nat) => [Res.row (Ty.prod Ty.bool (Ty.prod (Ty.slice (Ty.int .u8)) (Ty.int .i64))) 43 ch.1 ch.2.1 ch.2.2 t3.1, Res.row (Ty.prod Ty.bool (Ty.prod (Ty.slice (Ty.int .u8)) (Ty.int .i64))) 43 ch2.1 ch2.2.1 ch2.2.2 t2.1]) (fun _ => rfl) N15 rfl rfl (fun ok => ok) (.cons .here .nil) rfl (smithyref07_Decode.ok k x1 ch_0_0 ch_0_1 t3 et3 _ _) ?_; clear S a w; intro ch3 m le1 a w S
    refine s_move S rfl rfl ?_; clear S a; intro a S
    refine s_extract S rfl rfl rfl rfl ?_; clear S a; intro a S
    refine s_extract S rfl rfl rfl rfl ?_; clear S a; intro a S
    refine s_assign S rfl rfl ?_; clear S a; intro a S
    refine s_assign S rfl rfl ?_; clear S a; intro a S
    refine c_end ?_
    refine wp_seq ?_
    refine wp_seq_k ?_
    intro K1 hK1
    have j1 : ∀ (m : Mem) (A2 : Option Addr) (cp2 : Nat) (y1 : Bool) (a : Act) (w : World), St 63 m b0 [(4, (.sl A2 (t2.1).length cp2 (RdS (Ty.prod Ty.bool (Ty.prod (Ty.slice (Ty.int .u8)) (Ty.int .i64))) A2 t2.1))), (46, (.v (.bool y1))), (5, (.v (.int .i64 t2.2))), (0, (.sl ch_0_0 (x1).length ch_0_1 (RdS (Ty.int .u8) ch_0_0 x1)))] [] a w → smithylaw07_RlpDecodes.j1 k x1 t2 y1 = some r → K1 a w := by
      intro m A2 cp2 y1 a w S h0
      delta smithylaw07_RlpDecodes.j1 at h0
      refine hK1 a w ?_
      rcases ite_of h0 with ⟨c3, h1⟩ | ⟨c3, h1⟩ <;> clear h0
      · refine c_condT S rfl c3 ?_
        refine c_region ?_
        refine s_assign S rfl rfl ?_; clear S a; intro a S
        refine c_end ?_
        refine wp_ret ?_
        refine x_thenR ?_
        obtain rfl := Option.some.inj h1
        exact b_ret1 (d := (.v (.bool false))) S rfl rfl fun ok => S.retX (Hx := []) hb _ _ (() : Unit) .nil ok
      · refine c_condF S rfl c3 ?_
        refine wp_skip ?_
        refine x_thenN ?_
        refine wp_seq ?_
        refine c_region ?_
        refine s_move S rfl rfl ?_; clear S a; intro a S
        refine s_bin S rfl rfl rfl rfl ?_; clear S a; intro a S
        refine c_end ?_
        rcases ite_of h1 with ⟨c4, h2⟩ | ⟨c4, h2⟩ <;> clear h1
        · refine c_condT S rfl c4 ?_
          refine c_region ?_
          refine s_assign S rfl rfl ?_; clear S a; intro a S
          refine c_end ?_
          refine wp_ret ?_
          refine x_thenR ?_
          obtain rfl := Option.some.inj h2
          exact b_ret1 (d := (.v (.bool true))) S rfl rfl fun ok => S.retX (Hx := []) hb _ _ (() : Unit) .nil ok
        · refine c_condF S rfl c4 ?_
          refine wp_skip ?_
          refine x_thenN ?_
          refine c_region ?_
          refine s_move S rfl rfl ?_; clear S a; intro a S
          obtain ⟨t6, et6, h3⟩ := bind_of h2; clear h2
          refine s_callX S (ds' := [(.sl A2 (t2.1).length cp2 (RdS (Ty.prod Ty.bool (Ty.prod (Ty.slice (Ty.int .u8)) (Ty.int .i64))) A2 t2.1))]) (ds := [(.sl A2 (t2.1).length cp2 (RdS (Ty.prod Ty.bool (Ty.prod (Ty.slice (Ty.int .u8)) (Ty.int .i64))) A2 t2.1))]) [] [] (fun (ch : (Option Addr) × Nat) => ((.tup [(false, [.sl ch.1 (t6.1).length ch.2 (RdS (Ty.int .u8) ch.1 t6.1)]), (false, [.one (.int .i64 t6.2)])]) : D)) (fun (ch : (Option Addr) × Nat) => []) (fun (ch : (Option Addr) × Nat) => []) (fun _ => rfl) N11 rfl rfl (fun ok => ok) .nil rfl (rlp_Encode.ok k t2.1 A2 cp2 t6 et6 _ _) ?_; clear S a w; intro ch4 m le1 a w S
          refine s_move S rfl rfl ?_; clear S a; intro a S
          refine s_extract S rfl rfl rfl rfl ?_; clear S a; intro a S
          refine s_extract S rfl rfl rfl rfl ?_; clear S a; intro a S
          refine s_assign S rfl rfl ?_; clear S a; intro a S
          refine s_assign S rfl rfl ?_; clear S a; intro a S
          refine c_end ?_
          refine c_region ?_
          refine s_move S rfl rfl ?_; clear S a; intro a S
          refine s_bin S rfl rfl rfl rfl ?_; clear S a; intro a S
          refine s_move S rfl rfl ?_; clear S a; intro a S
          rcases ite_of h3 with ⟨c5, h4⟩ | ⟨c5, h4⟩ <;> clear h3
          · refine s_gT S (b := (t6.2 == 0)) rfl rfl c5 ?_
            refine s_move S rfl rfl ?_; clear S a; intro a S
            refine s_gT S (b := (t6.2 == 0)) rfl rfl c5 ?_
            refine s_strS S rfl rfl Try.underlying25 Try.underlying5 Try.underlying9 rfl ?_; clear S a; intro a S
            refine s_gT S (b := (t6.2 == 0)) rfl rfl c5 ?_
            refine s_move S rfl rfl ?_; clear S a; intro a S
            refine s_gT S (b := (t6.2 == 0)) rfl rfl c5 ?_
            refine s_strS S rfl rfl Try.underlying25 Try.underlying5 Try.underlying9 rfl ?_; clear S a; intro a S
            refine s_gT S (b := (t6.2 == 0)) rfl rfl c5 ?_
            refine s_eqT S rfl rfl rfl ?_; clear S a; intro a S
            refine s_pick S (b := true) (hc_of rfl c5) rfl rfl ?_; clear S a; intro a S
            refine s_assign S rfl rfl ?_; clear S a; intro a S
            refine c_end ?_
            refine wp_ret ?_
            obtain rfl := Option.some.inj h4
            exact b_ret1 (d := (.v (.bool ((bstr t6.1).toList == (bstr x1).toList)))) S rfl rfl fun ok => S.retX (Hx := []) hb _ _ (() : Unit) .nil ok
          · refine s_gF S (b := (t6.2 == 0)) rfl rfl c5 rfl ?_; clear S a; intro a S
            refine s_gF S (b := (t6.2 == 0)) rfl rfl c5 rfl ?_; clear S a; intro a S
            refine s_gF S (b := (t6.2 == 0)) rfl rfl c5 rfl ?_; clear S a; intro a S
            refine s_gF S (b := (t6.2 == 0)) rfl rfl c5 rfl ?_; clear S a; intro a S
            refine s_gF S (b := (t6.2 == 0)) rfl rfl c5 rfl ?_; clear S a; intro a S
            refine s_pick S (b := false) (hc_of rfl c5) rfl rfl ?_; clear S a; intro a S
            refine s_assign S rfl rfl ?_; clear S a; intro a S
            refine c_end ?_
            refine wp_ret ?_
            obtain rfl := Option.some.inj h4
            exact b_ret1 (d := (.v (.bool false))) S rfl rfl fun ok => S.retX (Hx := []) hb _ _ (() : Unit) .nil ok
    refine c_region' ?_
    obtain ⟨t7, et7, h5⟩ := bind_of h4; clear h4
    refine s_callX S (ds' := []) (ds := []) [] [Res.row (Ty.prod Ty.bool (Ty.prod (Ty.slice (Ty.int .u8)) (Ty.int .i64))) 43 ch3.1 ch3.2.1 ch3.2.2 t3.1, Res.row (Ty.prod Ty.bool (Ty.prod (Ty.slice (Ty.int .u8)) (Ty.int .i64))) 43 ch2.1 ch2.2.1 ch2.2.2 t2.1] (fun (ch : Unit) => ((.v (.bool t7)) : D)) (fun (ch : Unit) => []) (fun (ch : Unit) => [Res.row (Ty.prod Ty.bool (Ty.prod (Ty.slice (Ty.int .u8)) (Ty.int .i64))) 43 ch3.1 ch3.2.1 ch3.2.2 t3.1, Res.row (Ty.prod Ty.bool (Ty.prod (Ty.slice (Ty.int .u8)) (Ty.int .i64))) 43 ch2.1 ch2.2.1 ch2.2.2 t2.1]) (fun _ => rfl) N8 rfl rfl (fun ok => ok) (.cons .here (.cons .here .nil)) rfl (smithylaw07_fixed.ok k t7 et7 _ _) ?_; clear S a w; intro ch5 m le1 a w S
    refine s_not S rfl rfl ?_; clear S a; intro a S
    refine s_move S rfl rfl ?_; clear S a; intro a S
    rcases ite_of h5 with ⟨c6, h6⟩ | ⟨c6, h6⟩ <;> clear h5
    · refine s_gF S (b := (!t7)) rfl rfl c6 rfl ?_; clear S a; intro a S
      refine s_gF S (b := (!t7)) rfl rfl c6 rfl ?_; clear S a; intro a S
      refine s_gF S (b := (!t7)) rfl rfl c6 rfl ?_; clear S a; intro a S
      refine s_gF S (b := (!t7)) rfl rfl c6 rfl ?_; clear S a; intro a S
      refine s_pick S (b := true) (hc_of rfl c6) rfl rfl ?_; clear S a; intro a S
      refine s_move S rfl rfl ?_; clear S a; intro a S
      refine s_gF S (b := true) rfl rfl rfl rfl ?_; clear S a; intro a S
      refine s_gF S (b := true) rfl rfl rfl rfl ?_; clear S a; intro a S
      refine s_gF S (b := true) rfl rfl rfl rfl ?_; clear S a; intro a S
      refine s_pick S (b := true) (hc_of rfl rfl) rfl rfl ?_; clear S a; intro a S
      refine s_move S rfl rfl ?_; clear S a; intro a S
      refine s_gF S (b := true) rfl rfl rfl rfl ?_; clear S a; intro a S
      refine s_gF S (b := true) rfl rfl rfl rfl ?_; clear S a; intro a S
      refine s_gF S (b := true) rfl rfl rfl rfl ?_; clear S a; intro a S
      refine s_gF S (b := true) rfl rfl rfl rfl ?_; clear S a; intro a S
      refine s_gF S (b := true) rfl rfl rfl rfl ?_; clear S a; intro a S
      refine s_pick S (b := true) (hc_of rfl rfl) rfl rfl ?_; clear S a; intro a S
      refine c_end' ?_
      refine x_thenN ?_
      replace S := S.rowfro (.there .here)
      obtain ⟨m, le1, S, hro⟩ := S
      replace S := S.slotro (u := 4) rfl hro
      replace S := S.slotro (u := 20) rfl hro
      exact j1 _ ch2.1 ch2.2.2 true a w (S.sub ⟨rfl, rfl, rfl, rfl, trivial⟩ .nil) h6
    · refine s_gT S (b := (!t7)) rfl rfl c6 ?_
      refine s_move S rfl rfl ?_; clear S a; intro a S
      refine s_gT S (b := (!t7)) rfl rfl c6 ?_
      refine s_move S rfl rfl ?_; clear S a; intro a S
      refine s_gT S (b := (!t7)) rfl rfl c6 ?_
      replace S := S.rowfro (.there .here)
      obtain ⟨m, le1, S, hro⟩ := S
      replace S := S.slotro (u := 30) rfl hro
      replace S := S.slotro (u := 4) rfl hro
      replace S := S.slotro (u := 20) rfl hro
      replace S := S.rowfro .here
      obtain ⟨m, le1, S, hro⟩ := S
      replace S := S.slotro (u := 31) rfl hro
      replace S := S.slotro (u := 6) rfl hro
      replace S := S.slotro (u := 25) rfl hro
      obtain ⟨t8, et8, h7⟩ := bind_of h6; clear h6
      refine s_callX S (ds' := [(.sl ch2.1 (t2.1).length ch2.2.2 (RdS (Ty.prod Ty.bool (Ty.prod (Ty.slice (Ty.int .u8)) (Ty.int .i64))) ch2.1 t2.1)), (.sl ch3.1 (t3.1).length ch3.2.2 (RdS (Ty.prod Ty.bool (Ty.prod (Ty.slice (Ty.int .u8)) (Ty.int .i64))) ch3.1 t3.1))]) (ds := [(.sl ch2.1 (t2.1).length ch2.2.2 (RdS (Ty.prod Ty.bool (Ty.prod (Ty.slice (Ty.int .u8)) (Ty.int .i64))) ch2.1 t2.1)), (.sl ch3.1 (t3.1).length ch3.2.2 (RdS (Ty.prod Ty.bool (Ty.prod (Ty.slice (Ty.int .u8)) (Ty.int .i64))) ch3.1 t3.1))]) [] [] (fun (ch : Unit) => ((.v (.bool t8)) : D)) (fun (ch : Unit) => []) (fun (ch : Unit) => []) (fun _ => rfl) N14 rfl rfl (fun ok => ok) .nil rfl (smithyref07_Same.ok k t2.1 t3.1 ch2.1 ch2.2.2 ch3.1 ch3.2.2 t8 et8 _ _) ?_; clear S a w; intro ch6 m le1 a w S
      refine s_gT S (b := (!t7)) rfl rfl c6 ?_
      refine s_not S rfl rfl ?_; clear S a; intro a S
      refine s_pick S (b := false) (hc_of rfl c6) rfl rfl ?_; clear S a; intro a S
      refine s_move S rfl rfl ?_; clear S a; intro a S
      rcases ite_of h7 with ⟨c7, h8⟩ | ⟨c7, h8⟩ <;> clear h7
      · refine s_gF S (b := (!t8)) rfl rfl c7 rfl ?_; clear S a; intro a S
        refine s_gF S (b := (!t8)) rfl rfl c7 rfl ?_; clear S a; intro a S
        refine s_gF S (b := (!t8)) rfl rfl c7 rfl ?_; clear S a; intro a S
        refine s_pick S (b := true) (hc_of rfl c7) rfl rfl ?_; clear S a; intro a S
        refine s_move S rfl rfl ?_; clear S a; intro a S
        refine s_gF S (b := true) rfl rfl rfl rfl ?_; clear S a; intro a S
        refine s_gF S (b := true) rfl rfl rfl rfl ?_; clear S a; intro a S
        refine s_gF S (b := true) rfl rfl rfl rfl ?_; clear S a; intro a S
        refine s_gF S (b := true) rfl rfl rfl rfl ?_; clear S a; intro a S
        refine s_gF S (b := true) rfl rfl rfl rfl ?_; clear S a; intro a S
        refine s_pick S (b := true) (hc_of rfl rfl) rfl rfl ?_; clear S a; intro a S
        refine c_end' ?_
        refine x_thenN ?_
        exact j1 _ ch2.1 ch2.2.2 true a w (S.sub ⟨rfl, rfl, rfl, rfl, trivial⟩ .nil) h8
      · refine s_gT S (b := (!t8)) rfl rfl c7 ?_
        refine s_move S rfl rfl ?_; clear S a; intro a S
        refine s_gT S (b := (!t8)) rfl rfl c7 ?_
        refine s_move S rfl rfl ?_; clear S a; intro a S
        refine s_gT S (b := (!t8)) rfl rfl c7 ?_
        refine s_bin S rfl rfl rfl rfl ?_; clear S a; intro a S
        refine s_pick S (b := false) (hc_of rfl c7) rfl rfl ?_; clear S a; intro a S
        refine s_move S rfl rfl ?_; clear S a; intro a S
        rcases ite_of h8 with ⟨c8, h9⟩ | ⟨c8, h9⟩ <;> clear h8
        · refine s_gF S (b := (t2.2 != t3.2)) rfl rfl c8 rfl ?_; clear S a; intro a S
          refine s_gF S (b := (t2.2 != t3.2)) rfl rfl c8 rfl ?_; clear S a; intro a S
          refine s_gF S (b := (t2.2 != t3.2)) rfl rfl c8 rfl ?_; clear S a; intro a S
          refine s_gF S (b := (t2.2 != t3.2)) rfl rfl c8 rfl ?_; clear S a; intro a S
          refine s_gF S (b := (t2.2 != t3.2)) rfl rfl c8 rfl ?_; clear S a; intro a S
          refine s_pick S (b := true) (hc_of rfl c8) rfl rfl ?_; clear S a; intro a S
          refine c_end' ?_
          refine x_thenN ?_
          exact j1 _ ch2.1 ch2.2.2 true a w (S.sub ⟨rfl, rfl, rfl, rfl, trivial⟩ .nil) h9
        · refine s_gT S (b := (t2.2 != t3.2)) rfl rfl c8 ?_
          refine s_move S rfl rfl ?_; clear S a; intro a S
          refine s_gT S (b := (t2.2 != t3.2)) rfl rfl c8 ?_
          refine s_strS S rfl rfl Try.underlying25 Try.underlying5 Try.underlying9 rfl ?_; clear S a; intro a S
          refine s_gT S (b := (t2.2 != t3.2)) rfl rfl c8 ?_
          refine s_move S rfl rfl ?_; clear S a; intro a S
          refine s_gT S (b := (t2.2 != t3.2)) rfl rfl c8 ?_
          refine s_strS S rfl rfl Try.underlying25 Try.underlying5 Try.underlying9 rfl ?_; clear S a; intro a S
          refine s_gT S (b := (t2.2 != t3.2)) rfl rfl c8 ?_
          refine s_neT S rfl rfl rfl ?_; clear S a; intro a S
          refine s_pick S (b := false) (hc_of rfl c8) rfl rfl ?_; clear S a; intro a S
          refine c_end' ?_
          refine x_thenN ?_
          exact j1 _ ch2.1 ch2.2.2 (!((bstr (([] : List Int) ++ x1)).toList == (bstr x1).toList)) a w (S.sub ⟨rfl, rfl, rfl, rfl, trivial⟩ .nil) h9
end GW
