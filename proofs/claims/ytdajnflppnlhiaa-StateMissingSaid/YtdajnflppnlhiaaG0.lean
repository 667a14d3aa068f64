import Derived.Test.YtdajnflppnlhiaaProg
import Derived.Test.YtdajnflppnlhiaaGB
set_option linter.unusedVariables false
set_option linter.unusedSimpArgs false
set_option maxRecDepth 10000
set_option maxHeartbeats 4000000
namespace GW
open Go Go.RowKit Go.Proofs
noncomputable section
abbrev state_List.Ty : Type := (List L39) → Option (((List L39)))
def state_List.Ctr (s : state_List.Ty) : Prop := ∀ (x1 : List L39) (ch_0_0 : Option Addr) (ch_0_1 : Nat) (r : ((List L39))) (h0 : s x1 = some r) (mi : Mem) (w0 : World), okL mi [(.sl ch_0_0 (x1).length ch_0_1 (RdS Y39 ch_0_0 x1))] → Pre mi [] w0 → Calls Try.prog 11 (([(.sl ch_0_0 (x1).length ch_0_1 (RdS Y39 ch_0_0 x1))] : List D).map D.val).toArray w0 (RetX mi [] (fun (ch : (Option Addr) × Nat) => ((.rf (.iface 68 (.agg (cellsOf [.sl ch.1 (r).length ch.2 (RdS Y39 ch.1 r)]).toArray)) (IfR [.sl ch.1 (r).length ch.2 (RdS Y39 ch.1 r)])) : D)) (fun (ch : (Option Addr) × Nat) => []) w0)
def state_List.j1 (y1 : List L39) : Option (((List L39))) := some (y1)
def state_List.b1 (x1 : List L39) (rec1 : (List L39) → Int → Option (((List L39)))) (y4 : List L39) (y5 : Int) : Option (((List L39))) := if (decide (y5 < ((x1).length : Int))) = true then (if (0 : Int) ≤ y5 ∧ y5 < ((x1).length : Int) then ((slices_Clone_byte_byte.f ((gt x1 y5).2.2.2.1)).bind fun t1 => ((api_Slot_n28.f ((gt x1 y5).2.2.2.2)).bind fun t2 => (if ((y4).length + ([((gt x1 y5).1, (gt x1 y5).2.1, (gt x1 y5).2.2.1, t1, t2)]).length) * 112 ≤ 140737488355328 then (rec1 (y4 ++ [((gt x1 y5).1, (gt x1 y5).2.1, (gt x1 y5).2.2.1, t1, t2)]) (wr .i64 (y5 + 1))) else none))) else none) else (state_List.j1 y4)
def state_List.l1 (x1 : List L39) : Nat → (List L39) → Int → Option (((List L39)))
  | 0, _, _ => none
  | q + 1, y4, y5 => state_List.b1 x1 (state_List.l1 x1 q) y4 y5
def state_List.f (k : Nat) (x1 : List L39) : Option (((List L39))) := state_List.l1 x1 k ([] : List L39) 0
theorem state_List.ok (k : Nat) : state_List.Ctr (state_List.f k) := by
 intro x1 ch_0_0 ch_0_1 r h0 mi w0 ok hm
 delta state_List.f at h0
 refine c_enterX (n := 28) [(.sl ch_0_0 (x1).length ch_0_1 (RdS Y39 ch_0_0 x1))] (l := [(0, (.sl ch_0_0 (x1).length ch_0_1 (RdS Y39 ch_0_0 x1)))]) Try.func11 rfl rfl rfl rfl ok hm ?_
 clear ok hm
 intro b0 hb a S
 refine c_region ?_
 refine s_assign S rfl rfl ?_; clear S a; intro a S
 refine c_end ?_
 refine c_region ?_
 refine s_assign S rfl rfl ?_; clear S a; intro a S
 refine c_end ?_
 refine wp_seq_k ?_
 intro K1 hK1
 have j1 : ∀ (m : Mem) (A1 : Option Addr) (nn1 : Nat) (cp1 : Nat) (y1 : List L39) (a : Act) (w : World), St 28 m b0 [(3, (.v (.slice A1 nn1 cp1)))] [Res.row Y39 39 A1 nn1 cp1 y1] a w → state_List.j1 y1 = some r → K1 a w := by
  intro m A1 nn1 cp1 y1 a w S h0
  delta state_List.j1 at h0
  refine hK1 a w ?_
  refine c_region ?_
  refine s_move S rfl rfl ?_; clear S a; intro a S
  refine s_bldS S (ds := [(0, (.v (.slice A1 nn1 cp1)))]) (zs := [.one (.slice none 0 0)]) (s' := [.one (.slice A1 nn1 cp1)]) rfl Try.underlying68 P68 Z68 ⟨rfl, trivial⟩ rfl rfl ?_; clear S a; intro a S
  replace S := S.rowfro .here
  obtain ⟨m, le1, S, hro⟩ := S
  replace S := S.slot (u := 26) (d' := (.agg [.sl A1 (y1).length cp1 (RdS Y39 A1 y1)])) rfl (by simp [D.val, pd, cellsOf, Seg.cells, hro.2.1]) (by have h := (S.get 26 (.agg [.one (.slice A1 nn1 cp1)]) rfl).2; exact ⟨⟨by have := hro.2.2.1; omega, hro.2.2.2, hro.1, RdS.mono _ _ _⟩, trivial⟩)
  replace S := S.slotro (u := 25) rfl hro
  replace S := S.slotro (u := 3) rfl hro
  refine s_mkI S (s := [.sl A1 (y1).length cp1 (RdS Y39 A1 y1)]) (v := (.agg (cellsOf [.sl A1 (y1).length cp1 (RdS Y39 A1 y1)]).toArray)) rfl rfl rfl (by kernel_rfl) rfl ?_; clear S a; intro a S
  refine s_assign S rfl rfl ?_; clear S a; intro a S
  refine c_end ?_
  refine wp_ret ?_
  obtain rfl := Option.some.inj h0
  exact b_ret1 (d := (.rf (.iface 68 (.agg (cellsOf [.sl A1 (y1).length cp1 (RdS Y39 A1 y1)]).toArray)) (IfR [.sl A1 (y1).length cp1 (RdS Y39 A1 y1)]))) S rfl rfl fun ok => S.retX (Hx := []) hb _ _ ((A1, cp1) : (Option Addr) × Nat) .nil ok
 refine c_region ?_
 refine s_move S rfl rfl ?_; clear S a; intro a S
 refine s_lenS S rfl Try.underlying22 rfl ?_; clear S a; intro a S
 refine s_move S rfl rfl ?_; clear S a; intro a S
 refine c_end ?_
 refine wp_block ?_
 replace S := S.nilrow Y39 39
 refine c_loop (fun q1 a w => ∃ (m : Mem) (A2 : Option Addr) (nn3 : Nat) (cp5 : Nat) (y4 : List L39) (y5 : Int), St 28 m b0 [(3, (.v (.slice A2 nn3 cp5))), (8, (.v (.int .i64 y5))), (7, (.v (.int .i64 ((x1).length : Int)))), (6, (.sl ch_0_0 (x1).length ch_0_1 (RdS Y39 ch_0_0 x1)))] [Res.row Y39 39 A2 nn3 cp5 y4] a w ∧ state_List.l1 x1 q1 y4 y5 = some r) ?_ ?_ (k := k) ⟨_, none, 0, 0, ([] : List L39), 0, (S.sub (subR rfl) (.cons .here .nil)), h0⟩
 ·rintro a w ⟨m, A2, nn3, cp5, y4, y5, S, h0⟩
  exact (nomatch (show (none : Option (((List L39)))) = some r from h0))
 ·clear S h0
  rintro q1 a w ⟨m, A2, nn3, cp5, y4, y5, S, h0⟩
  replace h0 : state_List.b1 x1 (state_List.l1 x1 q1) y4 y5 = some r := h0
  delta state_List.b1 at h0
  refine c_region ?_
  refine s_bin S rfl rfl rfl rfl ?_; clear S a; intro a S
  refine c_end ?_
  refine wp_seq ?_
  rcases ite_of h0 with ⟨c1, h1⟩ | ⟨c1, h1⟩ <;> clear h0
  ·refine c_condT S rfl c1 ?_
   refine wp_skip ?_
   refine x_thenN ?_
   refine wp_seq ?_
   refine wp_block ?_
   refine c_region ?_
   obtain ⟨c2, h2⟩ := chk_of h1; clear h1
   refine s_iaddrS S rfl rfl rfl Try.underlying22 T39 c2.1 c2.2 rfl ?_; clear S a; intro p1 a S
   refine s_ldA S (fun (c : Unit × Unit × Unit × (Option Addr × Nat) × (Option Addr × Nat)) => (Y39.segs (gt x1 y5) c)) rfl T39 (fun _ => rfl) rfl ?_; clear S a; intro ch1 a S
   refine s_alloc S Z39 rfl ⟨rfl, rfl, rfl, rfl, rfl, trivial⟩ rfl ?_; clear S a w; intro g1 a w S
   refine s_store S rfl rfl rfl (s' := [.ints .u8 ((gt x1 y5).1) 20, .one (.int .u64 ((gt x1 y5).2.1)), .ints .u64 ((gt x1 y5).2.2.1) 4, .sl ch1.2.2.2.1.1 ((gt x1 y5).2.2.2.1).length ch1.2.2.2.1.2 (RdS (Ty.int .u8) ch1.2.2.2.1.1 ((gt x1 y5).2.2.2.1)), .sl ch1.2.2.2.2.1 ((gt x1 y5).2.2.2.2).length ch1.2.2.2.2.2 (RdS Y82 ch1.2.2.2.2.1 ((gt x1 y5).2.2.2.2))]) .here T39 rfl rfl ?_; clear S w; intro w S
   refine c_end ?_
   refine c_region ?_
   refine s_fieldAddr S rfl I39_3 T36 (by decide) rfl rfl ?_; clear S a; intro a S
   refine s_loadSl S rfl .here T36 (A := ch1.2.2.2.1.1) (len := ((gt x1 y5).2.2.2.1).length) (cap := ch1.2.2.2.1.2) rfl rfl ?_; clear S a; intro a S
   obtain ⟨t1, et1, h3⟩ := bind_of h2; clear h2
   refine s_callR S (fun (ch : (Option Addr) × Nat × Nat) => ((.v (.slice ch.1 ch.2.1 ch.2.2)) : D)) (fun (ch : (Option Addr) × Nat × Nat) => Res.row (Ty.int .u8) 5 ch.1 ch.2.1 ch.2.2 t1) N27 rfl rfl (slices_Clone_byte_byte.ok ((gt x1 y5).2.2.2.1) ch1.2.2.2.1.1 ch1.2.2.2.1.2 t1 et1 _ _) ?_; clear S a w; intro ch2 m le1 a w S
   refine s_fieldAddr S rfl I39_3 T36 (by decide) rfl rfl ?_; clear S a; intro a S
   refine s_store S rfl rfl rfl (s' := [.ints .u8 ((gt x1 y5).1) 20, .one (.int .u64 ((gt x1 y5).2.1)), .ints .u64 ((gt x1 y5).2.2.1) 4, .one (.slice ch2.1 ch2.2.1 ch2.2.2), .sl ch1.2.2.2.2.1 ((gt x1 y5).2.2.2.2).length ch1.2.2.2.2.2 (RdS Y82 ch1.2.2.2.2.1 ((gt x1 y5).2.2.2.2))]) (.there .here) T36 rfl rfl ?_; clear S w; intro w S
   refine c_end ?_
   refine c_region ?_
   refine s_fieldAddr S rfl I39_4 T37 (by decide) rfl rfl ?_; clear S a; intro a S
   refine s_loadSl S rfl (.there .here) T37 (A := ch1.2.2.2.2.1) (len := ((gt x1 y5).2.2.2.2).length) (cap := ch1.2.2.2.2.2) rfl rfl ?_; clear S a; intro a S
   obtain ⟨t2, et2, h4⟩ := bind_of h3; clear h3
   refine s_callR S (fun (ch : (Option Addr) × Nat × Nat) => ((.v (.slice ch.1 ch.2.1 ch.2.2)) : D)) (fun (ch : (Option Addr) × Nat × Nat) => Res.row Y82 82 ch.1 ch.2.1 ch.2.2 t2) N28 rfl rfl (api_Slot_n28.ok ((gt x1 y5).2.2.2.2) ch1.2.2.2.2.1 ch1.2.2.2.2.2 t2 et2 _ _) ?_; clear S a w; intro ch3 m le1 a w S
   refine s_fieldAddr S rfl I39_4 T37 (by decide) rfl rfl ?_; clear S a; intro a S
   refine s_store S rfl rfl rfl (s' := [.ints .u8 ((gt x1 y5).1) 20, .one (.int .u64 ((gt x1 y5).2.1)), .ints .u64 ((gt x1 y5).2.2.1) 4, .one (.slice ch2.1 ch2.2.1 ch2.2.2), .one (.slice ch3.1 ch3.2.1 ch3.2.2)]) (.there (.there .here)) T37 rfl rfl ?_; clear S w; intro w S
   refine c_end ?_
   refine c_region' ?_
   refine s_move S rfl rfl ?_; clear S a; intro a S
   refine s_loada S rfl (.there (.there .here)) T39 (s' := [.ints .u8 ((gt x1 y5).1) 20, .one (.int .u64 ((gt x1 y5).2.1)), .ints .u64 ((gt x1 y5).2.2.1) 4, .one (.slice ch2.1 ch2.2.1 ch2.2.2), .one (.slice ch3.1 ch3.2.1 ch3.2.2)]) rfl rfl ?_; clear S a; intro a S
   replace S := S.rowfro (.there .here)
   obtain ⟨m, le1, S, hro⟩ := S
   replace S := S.slot (u := 21) (d' := (.agg [.ints .u8 ((gt x1 y5).1) 20, .one (.int .u64 ((gt x1 y5).2.1)), .ints .u64 ((gt x1 y5).2.2.1) 4, .sl ch2.1 (t1).length ch2.2.2 (RdS (Ty.int .u8) ch2.1 t1), .one (.slice ch3.1 ch3.2.1 ch3.2.2)])) rfl (by simp [D.val, pd, cellsOf, Seg.cells, hro.2.1]) (by have h := (S.get 21 (.agg [.ints .u8 ((gt x1 y5).1) 20, .one (.int .u64 ((gt x1 y5).2.1)), .ints .u64 ((gt x1 y5).2.2.1) 4, .one (.slice ch2.1 ch2.2.1 ch2.2.2), .one (.slice ch3.1 ch3.2.1 ch3.2.2)]) rfl).2; exact ⟨h.1, h.2.1, h.2.2.1, ⟨by have := hro.2.2.1; omega, hro.2.2.2, hro.1, RdS.mono _ _ _⟩, h.2.2.2.2.1, trivial⟩)
   replace S := S.slotro (u := 14) rfl hro
   replace S := S.cellro (s' := [.ints .u8 ((gt x1 y5).1) 20, .one (.int .u64 ((gt x1 y5).2.1)), .ints .u64 ((gt x1 y5).2.2.1) 4, .sl ch2.1 (t1).length ch2.2.2 (RdS (Ty.int .u8) ch2.1 t1), .one (.slice ch3.1 ch3.2.1 ch3.2.2)]) (.there .here) (by simp [cellsOf, Seg.cells, hro.2.1]) (fun h => ⟨h.1, h.2.1, h.2.2.1, ⟨by have := hro.2.2.1; omega, hro.2.2.2, hro.1, RdS.mono _ _ _⟩, h.2.2.2.2.1, trivial⟩)
   replace S := S.rowfro .here
   obtain ⟨m, le1, S, hro⟩ := S
   replace S := S.slot (u := 21) (d' := (.agg [.ints .u8 ((gt x1 y5).1) 20, .one (.int .u64 ((gt x1 y5).2.1)), .ints .u64 ((gt x1 y5).2.2.1) 4, .sl ch2.1 (t1).length ch2.2.2 (RdS (Ty.int .u8) ch2.1 t1), .sl ch3.1 (t2).length ch3.2.2 (RdS Y82 ch3.1 t2)])) rfl (by simp [D.val, pd, cellsOf, Seg.cells, hro.2.1]) (by have h := (S.get 21 (.agg [.ints .u8 ((gt x1 y5).1) 20, .one (.int .u64 ((gt x1 y5).2.1)), .ints .u64 ((gt x1 y5).2.2.1) 4, .sl ch2.1 (t1).length ch2.2.2 (RdS (Ty.int .u8) ch2.1 t1), .one (.slice ch3.1 ch3.2.1 ch3.2.2)]) rfl).2; exact ⟨h.1, h.2.1, h.2.2.1, h.2.2.2.1, ⟨by have := hro.2.2.1; omega, hro.2.2.2, hro.1, RdS.mono _ _ _⟩, trivial⟩)
   replace S := S.slotro (u := 18) rfl hro
   replace S := S.cellro (s' := [.ints .u8 ((gt x1 y5).1) 20, .one (.int .u64 ((gt x1 y5).2.1)), .ints .u64 ((gt x1 y5).2.2.1) 4, .sl ch2.1 (t1).length ch2.2.2 (RdS (Ty.int .u8) ch2.1 t1), .sl ch3.1 (t2).length ch3.2.2 (RdS Y82 ch3.1 t2)]) .here (by simp [cellsOf, Seg.cells, hro.2.1]) (fun h => ⟨h.1, h.2.1, h.2.2.1, h.2.2.2.1, ⟨by have := hro.2.2.1; omega, hro.2.2.2, hro.1, RdS.mono _ _ _⟩, trivial⟩)
   refine s_bldSl S (ty' := Y39) (ds := [(0, (.agg [.ints .u8 ((gt x1 y5).1) 20, .one (.int .u64 ((gt x1 y5).2.1)), .ints .u64 ((gt x1 y5).2.2.1) 4, .sl ch2.1 (t1).length ch2.2.2 (RdS (Ty.int .u8) ch2.1 t1), .sl ch3.1 (t2).length ch3.2.2 (RdS Y82 ch3.1 t2)]))]) (z := ([0, 0, 0, 0, 0, 0, 0, 0, 0, 0, 0, 0, 0, 0, 0, 0, 0, 0, 0, 0], 0, [0, 0, 0, 0], ([] : List Int), ([] : List ((List Int) × (List Int))))) (c0 := ((), (), (), (none, 0), (none, 0))) (ys := [((gt x1 y5).1, (gt x1 y5).2.1, (gt x1 y5).2.2.1, t1, t2)]) (cs := [((), (), (), (ch2.1, ch2.2.2), (ch3.1, ch3.2.2))]) rfl Try.underlying22 J39 Z39 rfl ⟨rfl, rfl, rfl, ⟨Nat.le_refl _, Nat.zero_le _, RdS.nil _ _ _, RdS.mono _ _ _⟩, ⟨Nat.le_refl _, Nat.zero_le _, RdS.nil _ _ _, RdS.mono _ _ _⟩, trivial⟩ rfl rfl rfl rfl rfl rfl ?_; clear S a w; intro g2 a w S
   obtain ⟨c3, h5⟩ := chk_of h4; clear h4
   refine s_app S (k2 := 1) (ys := [((gt x1 y5).1, (gt x1 y5).2.1, (gt x1 y5).2.2.1, t1, t2)]) rfl (fun _ _ => (.there (.there .here))) rfl rfl (S.holds _ (Pull.mem .here).1).1 (Res.row.src (S.holds _ (Pull.mem .here).1)) Try.underlying22 J39 c3 rfl ?_; clear S a w; intro A3 cp6 a w S
   refine s_assign S rfl rfl ?_; clear S a; intro a S
   refine c_end' ?_
   refine x_blockN ?_
   refine x_thenN ?_
   refine c_region' ?_
   refine s_bin S rfl rfl rfl rfl ?_; clear S a; intro a S
   refine s_move S rfl rfl ?_; clear S a; intro a S
   refine c_end' ?_
   refine x_thenN ?_
   exact ⟨_, A3, (nn3 + 1), cp6, (y4 ++ [((gt x1 y5).1, (gt x1 y5).2.1, (gt x1 y5).2.2.1, t1, t2)]), (wr .i64 (y5 + 1)), (S.sub (subR rfl) (.cons (.there (.there .here)) .nil)), h5⟩
  ·refine c_condF S rfl c1 ?_
   refine wp_exit ?_
   refine x_thenX ?_
   refine x_thenX ?_
   refine x_blockX ?_
   refine x_thenN ?_
   exact j1 _ A2 nn3 cp5 y4 a w (S.sub ⟨rfl, trivial⟩ (.cons .here .nil)) h1
abbrev state_New_0i68.Ty : Type := ((List L39)) → Option W2
def state_New_0i68.Ctr (s : state_New_0i68.Ty) : Prop := ∀ (x1 : (List L39)) (ch_0_0 : Option Addr) (ch_0_1 : Nat) (r : W2) (h0 : s x1 = some r) (mi : Mem) (w0 : World), okL mi [(.rf (.iface 68 (.agg (cellsOf [.sl ch_0_0 (x1).length ch_0_1 (RdS Y39 ch_0_0 x1)]).toArray)) (IfR [.sl ch_0_0 (x1).length ch_0_1 (RdS Y39 ch_0_0 x1)]))] → Pre mi [] w0 → Calls Try.prog 7 (([(.rf (.iface 68 (.agg (cellsOf [.sl ch_0_0 (x1).length ch_0_1 (RdS Y39 ch_0_0 x1)]).toArray)) (IfR [.sl ch_0_0 (x1).length ch_0_1 (RdS Y39 ch_0_0 x1)]))] : List D).map D.val).toArray w0 (RetX mi [] (fun (ch : W3) => ((.v (.pointer (some ⟨ch.1, 0, none⟩))) : D)) (fun (ch : W3) => [Res.cells ch.1 72 [.rf (.iface 68 (.agg (cellsOf [.sl ch.2.1 (r.1).length ch.2.2.1 (RdS Y39 ch.2.1 r.1)]).toArray)) (IfR [.sl ch.2.1 (r.1).length ch.2.2.1 (RdS Y39 ch.2.1 r.1)]), .one (.map (some ch.2.2.2.1)), .one (.int .i64 r.2.2.1), .one (.slice ch.2.2.2.2.2.2.2.1 ch.2.2.2.2.2.2.2.2.1 ch.2.2.2.2.2.2.2.2.2.1), .one (.slice ch.2.2.2.2.2.2.2.2.2.2.1 ch.2.2.2.2.2.2.2.2.2.2.2.1 ch.2.2.2.2.2.2.2.2.2.2.2.2.1), .one (.slice ch.2.2.2.2.2.2.2.2.2.2.2.2.2.1 ch.2.2.2.2.2.2.2.2.2.2.2.2.2.2.1 ch.2.2.2.2.2.2.2.2.2.2.2.2.2.2.2)], Res.map true (Ty.arr .u8 20) false (Ty.pid ch.2.2.2.2.1) ch.2.2.2.1 r.2.1.1, Res.fam (Res.struct (YE76 ch.2.2.2.2.2.1 ch.2.2.2.2.2.2.1) 76) (one_struct _ _) ch.2.2.2.2.1 [] r.2.1.2.1, Res.fam (fun g_ kvs_ => Res.map true (Ty.arr .u64 4) true (Ty.arr .u64 4) g_ kvs_) (one_map true (Ty.arr .u64 4) true (Ty.arr .u64 4)) ch.2.2.2.2.2.1 [] r.2.1.2.2.1, Res.fam (fun g_ kvs_ => Res.map true (Ty.arr .u64 4) false Ty.bool g_ kvs_) (one_map true (Ty.arr .u64 4) false Ty.bool) ch.2.2.2.2.2.2.1 [] r.2.1.2.2.2, Res.row Y51 51 ch.2.2.2.2.2.2.2.1 ch.2.2.2.2.2.2.2.2.1 ch.2.2.2.2.2.2.2.2.2.1 r.2.2.2.1, Res.row (YC ch.1 ch.2.2.2.2.1 ch.2.2.2.2.2.1 ch.2.2.2.2.2.2.1) 1 ch.2.2.2.2.2.2.2.2.2.2.1 ch.2.2.2.2.2.2.2.2.2.2.2.1 ch.2.2.2.2.2.2.2.2.2.2.2.2.1 r.2.2.2.2.1, Res.row (Ty.arr .u8 20) 31 ch.2.2.2.2.2.2.2.2.2.2.2.2.2.1 ch.2.2.2.2.2.2.2.2.2.2.2.2.2.2.1 ch.2.2.2.2.2.2.2.2.2.2.2.2.2.2.2 r.2.2.2.2.2]) w0)
def state_New_0i68.f (x1 : (List L39)) : Option W2 := some ((x1), (([] : List ((List Int) × Option Nat)), ([] : List L76), ([] : List (List ((List Int) × (List Int)))), ([] : List (List ((List Int) × Bool)))), 0, ([] : List L51), ([] : List Clo), ([] : List (List Int)))
theorem state_New_0i68.ok : state_New_0i68.Ctr (state_New_0i68.f) := by
 intro x1 ch_0_0 ch_0_1 r h0 mi w0 ok hm
 delta state_New_0i68.f at h0
 refine c_enterX (n := 11) [(.rf (.iface 68 (.agg (cellsOf [.sl ch_0_0 (x1).length ch_0_1 (RdS Y39 ch_0_0 x1)]).toArray)) (IfR [.sl ch_0_0 (x1).length ch_0_1 (RdS Y39 ch_0_0 x1)]))] (l := [(0, (.rf (.iface 68 (.agg (cellsOf [.sl ch_0_0 (x1).length ch_0_1 (RdS Y39 ch_0_0 x1)]).toArray)) (IfR [.sl ch_0_0 (x1).length ch_0_1 (RdS Y39 ch_0_0 x1)])))]) Try.func7 rfl rfl rfl rfl ok hm ?_
 clear ok hm
 intro b0 hb a S
 refine c_region ?_
 refine s_assign S rfl rfl ?_; clear S a; intro a S
 refine c_end ?_
 refine wp_seq ?_
 refine c_region ?_
 refine s_move S rfl rfl ?_; clear S a; intro a S
 refine s_eqIN S rfl rfl rfl Try.underlying45 rfl ?_; clear S a; intro a S
 refine c_end ?_
 refine c_condF S rfl rfl ?_
 refine wp_skip ?_
 refine x_thenN ?_
 refine c_region ?_
 refine s_move S rfl rfl ?_; clear S a; intro a S
 refine s_makeMap (α := List Int) (β := Option Nat) S true (Ty.arr .u8 20) false (Ty.pid ([] : List Nat)) rfl ?_; clear S a; intro g1 a w S
 replace S := S.fam0 (fun g_ kvs_ => Res.map true (Ty.arr .u64 4) false Ty.bool g_ kvs_) (one_map true (Ty.arr .u64 4) false Ty.bool)
 replace S := S.fam0 (fun g_ kvs_ => Res.map true (Ty.arr .u64 4) true (Ty.arr .u64 4) g_ kvs_) (one_map true (Ty.arr .u64 4) true (Ty.arr .u64 4))
 replace S := S.fam0 (Res.struct (YE76 ([] : List Nat) ([] : List Nat)) 76) (one_struct _ _)
 refine s_bldS S (ds := [(0, (.rf (.iface 68 (.agg (cellsOf [.sl ch_0_0 (x1).length ch_0_1 (RdS Y39 ch_0_0 x1)]).toArray)) (IfR [.sl ch_0_0 (x1).length ch_0_1 (RdS Y39 ch_0_0 x1)]))), (1, (.v (.map (some g1))))]) (zs := [.one .nilIface, .one (.map none), .one (.int .i64 0), .one (.slice none 0 0), .one (.slice none 0 0), .one (.slice none 0 0)]) (s' := [.rf (.iface 68 (.agg (cellsOf [.sl ch_0_0 (x1).length ch_0_1 (RdS Y39 ch_0_0 x1)]).toArray)) (IfR [.sl ch_0_0 (x1).length ch_0_1 (RdS Y39 ch_0_0 x1)]), .one (.map (some g1)), .one (.int .i64 0), .one (.slice none 0 0), .one (.slice none 0 0), .one (.slice none 0 0)]) rfl Try.underlying72 P72 Z72 ⟨rfl, rfl, rfl, rfl, rfl, rfl, trivial⟩ rfl rfl ?_; clear S a; intro a S
 refine s_box S rfl rfl rfl ?_; clear S a w; intro g2 a w S
 refine s_assign S rfl rfl ?_; clear S a; intro a S
 refine c_end ?_
 refine wp_ret ?_
 replace S := S.nilrow Y51 51
 replace S := S.nilrow (YC g2 ([] : List Nat) ([] : List Nat) ([] : List Nat)) 1
 replace S := S.nilrow (Ty.arr .u8 20) 31
 obtain rfl := Option.some.inj h0
 exact b_ret1 (d := (.v (.pointer (some ⟨g2, 0, none⟩)))) S rfl rfl fun ok => S.retX (Hx := []) hb _ _ ((g2, ch_0_0, ch_0_1, g1, ([] : List Nat), ([] : List Nat), ([] : List Nat), none, 0, 0, none, 0, 0, none, 0, 0) : W3) (.cons (.there (.there (.there .here))) (.cons (.there (.there (.there (.there (.there (.there .here)))))) (.cons (.there (.there (.there .here))) (.cons (.there (.there (.there .here))) (.cons (.there (.there (.there .here))) (.cons (.there (.there .here)) (.cons (.there .here) (.cons .here .nil)))))))) ok
abbrev state_State_Balance.Ty : Type := W8 → (List Int) → Option W18
def state_State_Balance.Ctr (s : state_State_Balance.Ty) : Prop := ∀ (x1 : W8) (x2 : List Int) (ch_0_0 : Nat) (ch_0_1 : Option Addr) (ch_0_2 : Nat) (ch_0_3 : Nat) (ch_0_4 : List Nat) (ch_0_5 : List Nat) (ch_0_6 : List Nat) (ch_0_7 : Option Addr) (ch_0_8 : Nat) (ch_0_9 : Nat) (ch_0_10 : Option Addr) (ch_0_11 : Nat) (ch_0_12 : Nat) (ch_0_13 : Option Addr) (ch_0_14 : Nat) (ch_0_15 : Nat) (r : W18) (h0 : s x1 x2 = some r) (mi : Mem) (w0 : World), okL mi [(.v (.pointer (some ⟨ch_0_0, 0, none⟩))), (.agg [.ints .u8 x2 20])] → Pre mi [Res.cells ch_0_0 72 [.rf (.iface 68 (.agg (cellsOf [.sl ch_0_1 (x1.1).length ch_0_2 (RdS Y39 ch_0_1 x1.1)]).toArray)) (IfR [.sl ch_0_1 (x1.1).length ch_0_2 (RdS Y39 ch_0_1 x1.1)]), .one (.map (some ch_0_3)), .one (.int .i64 x1.2.2.1), .one (.slice ch_0_7 ch_0_8 ch_0_9), .one (.slice ch_0_10 ch_0_11 ch_0_12), .one (.slice ch_0_13 ch_0_14 ch_0_15)], Res.map true (Ty.arr .u8 20) false (Ty.pid ch_0_4) ch_0_3 x1.2.1.1, Res.fam (Res.struct (YE76 ch_0_5 ch_0_6) 76) (one_struct _ _) ch_0_4 [] x1.2.1.2.1, Res.fam (fun g_ kvs_ => Res.map true (Ty.arr .u64 4) true (Ty.arr .u64 4) g_ kvs_) (one_map true (Ty.arr .u64 4) true (Ty.arr .u64 4)) ch_0_5 [] x1.2.1.2.2.1, Res.fam (fun g_ kvs_ => Res.map true (Ty.arr .u64 4) false Ty.bool g_ kvs_) (one_map true (Ty.arr .u64 4) false Ty.bool) ch_0_6 [] x1.2.1.2.2.2, Res.row Y51 51 ch_0_7 ch_0_8 ch_0_9 x1.2.2.2.1, Res.row (YC ch_0_0 ch_0_4 ch_0_5 ch_0_6) 1 ch_0_10 ch_0_11 ch_0_12 x1.2.2.2.2.1, Res.row (Ty.arr .u8 20) 31 ch_0_13 ch_0_14 ch_0_15 x1.2.2.2.2.2] w0 → Calls Try.prog 12 (([(.v (.pointer (some ⟨ch_0_0, 0, none⟩))), (.agg [.ints .u8 x2 20])] : List D).map D.val).toArray w0 (RetX mi [Res.cells ch_0_0 72 [.rf (.iface 68 (.agg (cellsOf [.sl ch_0_1 (x1.1).length ch_0_2 (RdS Y39 ch_0_1 x1.1)]).toArray)) (IfR [.sl ch_0_1 (x1.1).length ch_0_2 (RdS Y39 ch_0_1 x1.1)]), .one (.map (some ch_0_3)), .one (.int .i64 x1.2.2.1), .one (.slice ch_0_7 ch_0_8 ch_0_9), .one (.slice ch_0_10 ch_0_11 ch_0_12), .one (.slice ch_0_13 ch_0_14 ch_0_15)], Res.map true (Ty.arr .u8 20) false (Ty.pid ch_0_4) ch_0_3 x1.2.1.1, Res.fam (Res.struct (YE76 ch_0_5 ch_0_6) 76) (one_struct _ _) ch_0_4 [] x1.2.1.2.1, Res.fam (fun g_ kvs_ => Res.map true (Ty.arr .u64 4) true (Ty.arr .u64 4) g_ kvs_) (one_map true (Ty.arr .u64 4) true (Ty.arr .u64 4)) ch_0_5 [] x1.2.1.2.2.1, Res.fam (fun g_ kvs_ => Res.map true (Ty.arr .u64 4) false Ty.bool g_ kvs_) (one_map true (Ty.arr .u64 4) false Ty.bool) ch_0_6 [] x1.2.1.2.2.2, Res.row Y51 51 ch_0_7 ch_0_8 ch_0_9 x1.2.2.2.1, Res.row (YC ch_0_0 ch_0_4 ch_0_5 ch_0_6) 1 ch_0_10 ch_0_11 ch_0_12 x1.2.2.2.2.1, Res.row (Ty.arr .u8 20) 31 ch_0_13 ch_0_14 ch_0_15 x1.2.2.2.2.2] (fun (ch : W7) => ((.agg [.ints .u64 r.1 4]) : D)) (fun (ch : W7) => [Res.cells ch_0_0 72 [.rf (.iface 68 (.agg (cellsOf [.sl ch_0_1 (x1.1).length ch_0_2 (RdS Y39 ch_0_1 x1.1)]).toArray)) (IfR [.sl ch_0_1 (x1.1).length ch_0_2 (RdS Y39 ch_0_1 x1.1)]), .one (.map (some ch.1)), .one (.int .i64 x1.2.2.1), .one (.slice ch.2.2.2.2.1 ch.2.2.2.2.2.1 ch.2.2.2.2.2.2.1), .one (.slice ch.2.2.2.2.2.2.2.1 ch.2.2.2.2.2.2.2.2.1 ch.2.2.2.2.2.2.2.2.2.1), .one (.slice ch.2.2.2.2.2.2.2.2.2.2.1 ch.2.2.2.2.2.2.2.2.2.2.2.1 ch.2.2.2.2.2.2.2.2.2.2.2.2)], Res.map true (Ty.arr .u8 20) false (Ty.pid ch.2.1) ch.1 r.2.2.1.1, Res.fam (Res.struct (YE76 ch.2.2.1 ch.2.2.2.1) 76) (one_struct _ _) ch.2.1 [] r.2.2.1.2.1, Res.fam (fun g_ kvs_ => Res.map true (Ty.arr .u64 4) true (Ty.arr .u64 4) g_ kvs_) (one_map true (Ty.arr .u64 4) true (Ty.arr .u64 4)) ch.2.2.1 [] r.2.2.1.2.2.1, Res.fam (fun g_ kvs_ => Res.map true (Ty.arr .u64 4) false Ty.bool g_ kvs_) (one_map true (Ty.arr .u64 4) false Ty.bool) ch.2.2.2.1 [] r.2.2.1.2.2.2, Res.row Y51 51 ch.2.2.2.2.1 ch.2.2.2.2.2.1 ch.2.2.2.2.2.2.1 r.2.2.2.2.1, Res.row (YC ch_0_0 ch.2.1 ch.2.2.1 ch.2.2.2.1) 1 ch.2.2.2.2.2.2.2.1 ch.2.2.2.2.2.2.2.2.1 ch.2.2.2.2.2.2.2.2.2.1 r.2.2.2.2.2.1, Res.row (Ty.arr .u8 20) 31 ch.2.2.2.2.2.2.2.2.2.2.1 ch.2.2.2.2.2.2.2.2.2.2.2.1 ch.2.2.2.2.2.2.2.2.2.2.2.2 r.2.2.2.2.2.2]) w0)
def state_State_Balance.f (k : Nat) (x1 : W8) (x2 : List Int) : Option W18 := (state_State_at.f k ((x1.1), x1.2.1, x1.2.2.1, x1.2.2.2.1, x1.2.2.2.2.1, x1.2.2.2.2.2) x2).bind fun t1 => (if t1.1.isSome = true then (some (((atE t1.2.2.1.2.1 (t1.1.getD 0)).2.1).2.2.1, ((), t1.2.2.1, (), t1.2.2.2.2.1, t1.2.2.2.2.2.1, t1.2.2.2.2.2.2))) else none)
theorem state_State_Balance.ok (k : Nat) : state_State_Balance.Ctr (state_State_Balance.f k) := by
 intro x1 x2 ch_0_0 ch_0_1 ch_0_2 ch_0_3 ch_0_4 ch_0_5 ch_0_6 ch_0_7 ch_0_8 ch_0_9 ch_0_10 ch_0_11 ch_0_12 ch_0_13 ch_0_14 ch_0_15 r h0 mi w0 ok hm
 delta state_State_Balance.f at h0
 refine c_enterX (n := 15) [(.v (.pointer (some ⟨ch_0_0, 0, none⟩))), (.agg [.ints .u8 x2 20])] (l := [(0, (.v (.pointer (some ⟨ch_0_0, 0, none⟩)))), (1, (.agg [.ints .u8 x2 20]))]) Try.func12 rfl rfl rfl rfl ok hm ?_
 clear ok hm
 intro b0 hb a S
 refine c_region ?_
 refine s_box S rfl rfl rfl ?_; clear S a; intro g1 a w S
 refine s_alloc S Z35 rfl ⟨rfl, trivial⟩ rfl ?_; clear S a w; intro g2 a w S
 refine c_end ?_
 refine wp_seq ?_
 refine c_region ?_
 refine s_move S rfl rfl ?_; clear S a; intro a S
 refine s_eqp S (b := false) rfl rfl Try.underlying26 rfl rfl ?_; clear S a; intro a S
 refine c_end ?_
 refine c_condF S rfl rfl ?_
 refine wp_skip ?_
 refine x_thenN ?_
 refine c_region ?_
 refine s_move S rfl rfl ?_; clear S a; intro a S
 refine s_loada S rfl (.there .here) T31 (s' := [.ints .u8 x2 20]) rfl rfl ?_; clear S a; intro a S
 obtain ⟨t1, et1, h1⟩ := bind_of h0; clear h0
 refine s_callX S (ds' := [(.v (.pointer (some ⟨ch_0_0, 0, none⟩))), (.agg [.ints .u8 x2 20])]) (ds := [(.v (.pointer (some ⟨ch_0_0, 0, none⟩))), (.agg [.ints .u8 x2 20])]) [Res.cells ch_0_0 72 [.rf (.iface 68 (.agg (cellsOf [.sl ch_0_1 (x1.1).length ch_0_2 (RdS Y39 ch_0_1 x1.1)]).toArray)) (IfR [.sl ch_0_1 (x1.1).length ch_0_2 (RdS Y39 ch_0_1 x1.1)]), .one (.map (some ch_0_3)), .one (.int .i64 x1.2.2.1), .one (.slice ch_0_7 ch_0_8 ch_0_9), .one (.slice ch_0_10 ch_0_11 ch_0_12), .one (.slice ch_0_13 ch_0_14 ch_0_15)], Res.map true (Ty.arr .u8 20) false (Ty.pid ch_0_4) ch_0_3 x1.2.1.1, Res.fam (Res.struct (YE76 ch_0_5 ch_0_6) 76) (one_struct _ _) ch_0_4 [] x1.2.1.2.1, Res.fam (fun g_ kvs_ => Res.map true (Ty.arr .u64 4) true (Ty.arr .u64 4) g_ kvs_) (one_map true (Ty.arr .u64 4) true (Ty.arr .u64 4)) ch_0_5 [] x1.2.1.2.2.1, Res.fam (fun g_ kvs_ => Res.map true (Ty.arr .u64 4) false Ty.bool g_ kvs_) (one_map true (Ty.arr .u64 4) false Ty.bool) ch_0_6 [] x1.2.1.2.2.2, Res.row Y51 51 ch_0_7 ch_0_8 ch_0_9 x1.2.2.2.1, Res.row (YC ch_0_0 ch_0_4 ch_0_5 ch_0_6) 1 ch_0_10 ch_0_11 ch_0_12 x1.2.2.2.2.1, Res.row (Ty.arr .u8 20) 31 ch_0_13 ch_0_14 ch_0_15 x1.2.2.2.2.2] [Res.cells g2 35 [.ints .u64 [0, 0, 0, 0] 4], Res.cells g1 31 [.ints .u8 x2 20]] (fun (ch : W7) => ((.rf (ptrV ch.2.1 t1.1) (ptrR ch.2.1 t1.1)) : D)) (fun (ch : W7) => [Res.cells ch_0_0 72 [.rf (.iface 68 (.agg (cellsOf [.sl ch_0_1 (x1.1).length ch_0_2 (RdS Y39 ch_0_1 x1.1)]).toArray)) (IfR [.sl ch_0_1 (x1.1).length ch_0_2 (RdS Y39 ch_0_1 x1.1)]), .one (.map (some ch.1)), .one (.int .i64 x1.2.2.1), .one (.slice ch.2.2.2.2.1 ch.2.2.2.2.2.1 ch.2.2.2.2.2.2.1), .one (.slice ch.2.2.2.2.2.2.2.1 ch.2.2.2.2.2.2.2.2.1 ch.2.2.2.2.2.2.2.2.2.1), .one (.slice ch.2.2.2.2.2.2.2.2.2.2.1 ch.2.2.2.2.2.2.2.2.2.2.2.1 ch.2.2.2.2.2.2.2.2.2.2.2.2)], Res.map true (Ty.arr .u8 20) false (Ty.pid ch.2.1) ch.1 t1.2.2.1.1, Res.fam (Res.struct (YE76 ch.2.2.1 ch.2.2.2.1) 76) (one_struct _ _) ch.2.1 [] t1.2.2.1.2.1, Res.fam (fun g_ kvs_ => Res.map true (Ty.arr .u64 4) true (Ty.arr .u64 4) g_ kvs_) (one_map true (Ty.arr .u64 4) true (Ty.arr .u64 4)) ch.2.2.1 [] t1.2.2.1.2.2.1, Res.fam (fun g_ kvs_ => Res.map true (Ty.arr .u64 4) false Ty.bool g_ kvs_) (one_map true (Ty.arr .u64 4) false Ty.bool) ch.2.2.2.1 [] t1.2.2.1.2.2.2, Res.row Y51 51 ch.2.2.2.2.1 ch.2.2.2.2.2.1 ch.2.2.2.2.2.2.1 t1.2.2.2.2.1, Res.row (YC ch_0_0 ch.2.1 ch.2.2.1 ch.2.2.2.1) 1 ch.2.2.2.2.2.2.2.1 ch.2.2.2.2.2.2.2.2.1 ch.2.2.2.2.2.2.2.2.2.1 t1.2.2.2.2.2.1, Res.row (Ty.arr .u8 20) 31 ch.2.2.2.2.2.2.2.2.2.2.1 ch.2.2.2.2.2.2.2.2.2.2.2.1 ch.2.2.2.2.2.2.2.2.2.2.2.2 t1.2.2.2.2.2.2]) (fun (ch : W7) => [Res.cells ch_0_0 72 [.rf (.iface 68 (.agg (cellsOf [.sl ch_0_1 (x1.1).length ch_0_2 (RdS Y39 ch_0_1 x1.1)]).toArray)) (IfR [.sl ch_0_1 (x1.1).length ch_0_2 (RdS Y39 ch_0_1 x1.1)]), .one (.map (some ch.1)), .one (.int .i64 x1.2.2.1), .one (.slice ch.2.2.2.2.1 ch.2.2.2.2.2.1 ch.2.2.2.2.2.2.1), .one (.slice ch.2.2.2.2.2.2.2.1 ch.2.2.2.2.2.2.2.2.1 ch.2.2.2.2.2.2.2.2.2.1), .one (.slice ch.2.2.2.2.2.2.2.2.2.2.1 ch.2.2.2.2.2.2.2.2.2.2.2.1 ch.2.2.2.2.2.2.2.2.2.2.2.2)], Res.map true (Ty.arr .u8 20) false (Ty.pid ch.2.1) ch.1 t1.2.2.1.1, Res.fam (Res.struct (YE76 ch.2.2.1 ch.2.2.2.1) 76) (one_struct _ _) ch.2.1 [] t1.2.2.1.2.1, Res.fam (fun g_ kvs_ => Res.map true (Ty.arr .u64 4) true (Ty.arr .u64 4) g_ kvs_) (one_map true (Ty.arr .u64 4) true (Ty.arr .u64 4)) ch.2.2.1 [] t1.2.2.1.2.2.1, Res.fam (fun g_ kvs_ => Res.map true (Ty.arr .u64 4) false Ty.bool g_ kvs_) (one_map true (Ty.arr .u64 4) false Ty.bool) ch.2.2.2.1 [] t1.2.2.1.2.2.2, Res.row Y51 51 ch.2.2.2.2.1 ch.2.2.2.2.2.1 ch.2.2.2.2.2.2.1 t1.2.2.2.2.1, Res.row (YC ch_0_0 ch.2.1 ch.2.2.1 ch.2.2.2.1) 1 ch.2.2.2.2.2.2.2.1 ch.2.2.2.2.2.2.2.2.1 ch.2.2.2.2.2.2.2.2.2.1 t1.2.2.2.2.2.1, Res.row (Ty.arr .u8 20) 31 ch.2.2.2.2.2.2.2.2.2.2.1 ch.2.2.2.2.2.2.2.2.2.2.2.1 ch.2.2.2.2.2.2.2.2.2.2.2.2 t1.2.2.2.2.2.2, Res.cells g2 35 [.ints .u64 [0, 0, 0, 0] 4], Res.cells g1 31 [.ints .u8 x2 20]]) (fun _ => rfl) N26 rfl rfl (fun ok => ok) (.cons (.there (.there .here)) (.cons (.there (.there .here)) (.cons (.there (.there .here)) (.cons (.there (.there .here)) (.cons (.there (.there .here)) (.cons (.there (.there .here)) (.cons (.there (.there .here)) (.cons (.there (.there .here)) (.cons .here (.cons .here .nil)))))))))) rfl (state_State_at.ok k ((x1.1), x1.2.1, x1.2.2.1, x1.2.2.2.1, x1.2.2.2.2.1, x1.2.2.2.2.2) x2 ch_0_0 ch_0_1 ch_0_2 ch_0_3 ch_0_4 ch_0_5 ch_0_6 ch_0_7 ch_0_8 ch_0_9 ch_0_10 ch_0_11 ch_0_12 ch_0_13 ch_0_14 ch_0_15 t1 et1 _ _) ?_; clear S a w; intro ch1 m le1 a w S
 obtain ⟨c1, h2⟩ := chk_of h1; clear h1
 have hl1 := S.slotPlt (u := 10) c1 rfl
 replace S := S.slotP (u := 10) c1 rfl
 refine s_nilchk S rfl rfl ?_; clear S a; intro a S
 refine s_fieldAddr S rfl I76_1 T39 (by decide) rfl rfl ?_; clear S a; intro a S
 refine s_fieldAddr S rfl I39_2 T35 (by decide) rfl rfl ?_; clear S a; intro a S
 replace S := S.famOpen (i := (t1.1.getD 0)) hl1 (.there (.there .here))
 have hS := S.structOpen (T := (YE76 ch1.2.2.1 ch1.2.2.2.1)) (fun _ => .here) (((), (), (), (none, 0), (none, 0)), ((), (), (), (none, 0), (none, 0)), (), (), (), (), ())
 clear S; obtain ⟨ch2, S⟩ := hS
 refine s_loada S rfl .here T35 (s' := [.ints .u64 (((atE t1.2.2.1.2.1 (t1.1.getD 0)).2.1).2.2.1) 4]) rfl rfl ?_; clear S a; intro a S
 replace S := S.structClose (T := (YE76 ch1.2.2.1 ch1.2.2.2.1)) (e := atE t1.2.2.1.2.1 (t1.1.getD 0)) ((((), (), (), (ch2.1.2.2.2.1.1, ch2.1.2.2.2.1.2), (ch2.1.2.2.2.2.1, ch2.1.2.2.2.2.2)), ((), (), (), (ch2.2.1.2.2.2.1.1, ch2.2.1.2.2.2.1.2), (ch2.2.1.2.2.2.2.1, ch2.2.1.2.2.2.2.2)), (), (), (), (), ()) : ((YE76 ch1.2.2.1 ch1.2.2.2.1)).Ch) rfl .here
 replace S := S.famShut hl1 .here (.there (.there .here))
 refine s_store S rfl rfl rfl (s' := [.ints .u64 (((atE t1.2.2.1.2.1 (t1.1.getD 0)).2.1).2.2.1) 4]) (.there (.there (.there (.there (.there (.there (.there (.there .here)))))))) T35 rfl rfl ?_; clear S w; intro w S
 refine c_end ?_
 refine wp_ret ?_
 obtain rfl := Option.some.inj h2
 exact b_ret1 (d := (.agg [.ints .u64 (((atE t1.2.2.1.2.1 (t1.1.getD 0)).2.1).2.2.1) 4])) S rfl (resD_cell rfl (.there (.there (.there (.there (.there (.there (.there (.there .here)))))))) T35 rfl rfl) fun ok => S.retX (Hx := []) hb _ _ ((ch1.1, ch1.2.1, ch1.2.2.1, ch1.2.2.2.1, ch1.2.2.2.2.1, ch1.2.2.2.2.2.1, ch1.2.2.2.2.2.2.1, ch1.2.2.2.2.2.2.2.1, ch1.2.2.2.2.2.2.2.2.1, ch1.2.2.2.2.2.2.2.2.2.1, ch1.2.2.2.2.2.2.2.2.2.2.1, ch1.2.2.2.2.2.2.2.2.2.2.2.1, ch1.2.2.2.2.2.2.2.2.2.2.2.2) : W7) (.cons .here (.cons .here (.cons .here (.cons .here (.cons .here (.cons .here (.cons .here (.cons .here .nil)))))))) ok
abbrev state_State_Missing_i2.Ty : Type := W8 → Option ((List Int) × Bool)
def state_State_Missing_i2.Ctr (s : state_State_Missing_i2.Ty) : Prop := ∀ (x1 : W8) (ch_0_0 : Nat) (ch_0_1 : Option Addr) (ch_0_2 : Nat) (ch_0_3 : Nat) (ch_0_4 : List Nat) (ch_0_5 : List Nat) (ch_0_6 : List Nat) (ch_0_7 : Option Addr) (ch_0_8 : Nat) (ch_0_9 : Nat) (ch_0_10 : Option Addr) (ch_0_11 : Nat) (ch_0_12 : Nat) (ch_0_13 : Option Addr) (ch_0_14 : Nat) (ch_0_15 : Nat) (r : (List Int) × Bool) (h0 : s x1 = some r) (mi : Mem) (w0 : World), okL mi [(.v (.pointer (some ⟨ch_0_0, 0, none⟩)))] → Pre mi [Res.cells ch_0_0 72 [.rf (.iface 68 (.agg (cellsOf [.sl ch_0_1 (x1.1).length ch_0_2 (RdS Y39 ch_0_1 x1.1)]).toArray)) (IfR [.sl ch_0_1 (x1.1).length ch_0_2 (RdS Y39 ch_0_1 x1.1)]), .one (.map (some ch_0_3)), .one (.int .i64 x1.2.2.1), .one (.slice ch_0_7 ch_0_8 ch_0_9), .one (.slice ch_0_10 ch_0_11 ch_0_12), .one (.slice ch_0_13 ch_0_14 ch_0_15)], Res.map true (Ty.arr .u8 20) false (Ty.pid ch_0_4) ch_0_3 x1.2.1.1, Res.fam (Res.struct (YE76 ch_0_5 ch_0_6) 76) (one_struct _ _) ch_0_4 [] x1.2.1.2.1, Res.fam (fun g_ kvs_ => Res.map true (Ty.arr .u64 4) true (Ty.arr .u64 4) g_ kvs_) (one_map true (Ty.arr .u64 4) true (Ty.arr .u64 4)) ch_0_5 [] x1.2.1.2.2.1, Res.fam (fun g_ kvs_ => Res.map true (Ty.arr .u64 4) false Ty.bool g_ kvs_) (one_map true (Ty.arr .u64 4) false Ty.bool) ch_0_6 [] x1.2.1.2.2.2, Res.row Y51 51 ch_0_7 ch_0_8 ch_0_9 x1.2.2.2.1, Res.row (YC ch_0_0 ch_0_4 ch_0_5 ch_0_6) 1 ch_0_10 ch_0_11 ch_0_12 x1.2.2.2.2.1, Res.row (Ty.arr .u8 20) 31 ch_0_13 ch_0_14 ch_0_15 x1.2.2.2.2.2] w0 → Calls Try.prog 10 (([(.v (.pointer (some ⟨ch_0_0, 0, none⟩)))] : List D).map D.val).toArray w0 (RetX mi [Res.cells ch_0_0 72 [.rf (.iface 68 (.agg (cellsOf [.sl ch_0_1 (x1.1).length ch_0_2 (RdS Y39 ch_0_1 x1.1)]).toArray)) (IfR [.sl ch_0_1 (x1.1).length ch_0_2 (RdS Y39 ch_0_1 x1.1)]), .one (.map (some ch_0_3)), .one (.int .i64 x1.2.2.1), .one (.slice ch_0_7 ch_0_8 ch_0_9), .one (.slice ch_0_10 ch_0_11 ch_0_12), .one (.slice ch_0_13 ch_0_14 ch_0_15)], Res.map true (Ty.arr .u8 20) false (Ty.pid ch_0_4) ch_0_3 x1.2.1.1, Res.fam (Res.struct (YE76 ch_0_5 ch_0_6) 76) (one_struct _ _) ch_0_4 [] x1.2.1.2.1, Res.fam (fun g_ kvs_ => Res.map true (Ty.arr .u64 4) true (Ty.arr .u64 4) g_ kvs_) (one_map true (Ty.arr .u64 4) true (Ty.arr .u64 4)) ch_0_5 [] x1.2.1.2.2.1, Res.fam (fun g_ kvs_ => Res.map true (Ty.arr .u64 4) false Ty.bool g_ kvs_) (one_map true (Ty.arr .u64 4) false Ty.bool) ch_0_6 [] x1.2.1.2.2.2, Res.row Y51 51 ch_0_7 ch_0_8 ch_0_9 x1.2.2.2.1, Res.row (YC ch_0_0 ch_0_4 ch_0_5 ch_0_6) 1 ch_0_10 ch_0_11 ch_0_12 x1.2.2.2.2.1, Res.row (Ty.arr .u8 20) 31 ch_0_13 ch_0_14 ch_0_15 x1.2.2.2.2.2] (fun (ch : Unit) => ((.tup [(true, [.ints .u8 r.1 20]), (false, [.one (.bool r.2)])]) : D)) (fun (ch : Unit) => [Res.cells ch_0_0 72 [.rf (.iface 68 (.agg (cellsOf [.sl ch_0_1 (x1.1).length ch_0_2 (RdS Y39 ch_0_1 x1.1)]).toArray)) (IfR [.sl ch_0_1 (x1.1).length ch_0_2 (RdS Y39 ch_0_1 x1.1)]), .one (.map (some ch_0_3)), .one (.int .i64 x1.2.2.1), .one (.slice ch_0_7 ch_0_8 ch_0_9), .one (.slice ch_0_10 ch_0_11 ch_0_12), .one (.slice ch_0_13 ch_0_14 ch_0_15)], Res.map true (Ty.arr .u8 20) false (Ty.pid ch_0_4) ch_0_3 x1.2.1.1, Res.fam (Res.struct (YE76 ch_0_5 ch_0_6) 76) (one_struct _ _) ch_0_4 [] x1.2.1.2.1, Res.fam (fun g_ kvs_ => Res.map true (Ty.arr .u64 4) true (Ty.arr .u64 4) g_ kvs_) (one_map true (Ty.arr .u64 4) true (Ty.arr .u64 4)) ch_0_5 [] x1.2.1.2.2.1, Res.fam (fun g_ kvs_ => Res.map true (Ty.arr .u64 4) false Ty.bool g_ kvs_) (one_map true (Ty.arr .u64 4) false Ty.bool) ch_0_6 [] x1.2.1.2.2.2, Res.row Y51 51 ch_0_7 ch_0_8 ch_0_9 x1.2.2.2.1, Res.row (YC ch_0_0 ch_0_4 ch_0_5 ch_0_6) 1 ch_0_10 ch_0_11 ch_0_12 x1.2.2.2.2.1, Res.row (Ty.arr .u8 20) 31 ch_0_13 ch_0_14 ch_0_15 x1.2.2.2.2.2]) w0)
def state_State_Missing_i2.f (x1 : W8) : Option ((List Int) × Bool) := if (((x1.2.2.2.2.2).length : Int) == 0) = true then (some ([0, 0, 0, 0, 0, 0, 0, 0, 0, 0, 0, 0, 0, 0, 0, 0, 0, 0, 0, 0], false)) else (if (0 : Int) ≤ 0 ∧ 0 < ((x1.2.2.2.2.2).length : Int) then (some (gt x1.2.2.2.2.2 0, true)) else none)
theorem state_State_Missing_i2.ok : state_State_Missing_i2.Ctr (state_State_Missing_i2.f) := by
 intro x1 ch_0_0 ch_0_1 ch_0_2 ch_0_3 ch_0_4 ch_0_5 ch_0_6 ch_0_7 ch_0_8 ch_0_9 ch_0_10 ch_0_11 ch_0_12 ch_0_13 ch_0_14 ch_0_15 r h0 mi w0 ok hm
 delta state_State_Missing_i2.f at h0
 refine c_enterX (n := 21) [(.v (.pointer (some ⟨ch_0_0, 0, none⟩)))] (l := [(0, (.v (.pointer (some ⟨ch_0_0, 0, none⟩))))]) Try.func10 rfl rfl rfl rfl ok hm ?_
 clear ok hm
 intro b0 hb a S
 refine c_region ?_
 refine s_alloc S Z31 rfl ⟨rfl, trivial⟩ rfl ?_; clear S a; intro g1 a w S
 refine s_assign S rfl rfl ?_; clear S a; intro a S
 refine c_end ?_
 refine wp_seq ?_
 refine c_region ?_
 refine s_move S rfl rfl ?_; clear S a; intro a S
 refine s_eqp S (b := false) rfl rfl Try.underlying26 rfl rfl ?_; clear S a; intro a S
 refine s_move S rfl rfl ?_; clear S a; intro a S
 refine s_gT S (b := false) rfl rfl rfl ?_
 refine s_move S rfl rfl ?_; clear S a; intro a S
 refine s_gT S (b := false) rfl rfl rfl ?_
 refine s_nilchk S rfl rfl ?_; clear S a; intro a S
 refine s_gT S (b := false) rfl rfl rfl ?_
 refine s_fieldAddr S rfl I72_5 T23 (by decide) rfl rfl ?_; clear S a; intro a S
 refine s_gT S (b := false) rfl rfl rfl ?_
 refine s_load1 S rfl (.there .here) T23 (v := (.slice ch_0_13 ch_0_14 ch_0_15)) rfl rfl ?_; clear S a; intro a S
 refine s_gT S (b := false) rfl rfl rfl ?_
 refine s_lenO S rfl (.there (.there (.there (.there (.there (.there (.there (.there .here)))))))) Try.underlying23 rfl ?_; clear S a; intro a S
 refine s_gT S (b := false) rfl rfl rfl ?_
 refine s_bin S rfl rfl rfl rfl ?_; clear S a; intro a S
 refine s_pick S (b := false) (hc_of rfl rfl) rfl rfl ?_; clear S a; intro a S
 refine c_end ?_
 rcases ite_of h0 with ⟨c1, h1⟩ | ⟨c1, h1⟩ <;> clear h0
 ·refine c_condT S rfl c1 ?_
  refine c_region ?_
  refine s_build S (ds := []) (dv := (.agg [.ints .u8 [0, 0, 0, 0, 0, 0, 0, 0, 0, 0, 0, 0, 0, 0, 0, 0, 0, 0, 0, 0] 20])) rfl (fun _ => by kernel_rfl) ⟨rfl, trivial⟩ rfl ?_; clear S a; intro a S
  refine s_store S rfl rfl rfl (s' := [.ints .u8 [0, 0, 0, 0, 0, 0, 0, 0, 0, 0, 0, 0, 0, 0, 0, 0, 0, 0, 0, 0] 20]) .here T31 rfl rfl ?_; clear S w; intro w S
  refine s_assign S rfl rfl ?_; clear S a; intro a S
  refine c_end ?_
  refine wp_ret ?_
  refine x_thenR ?_
  obtain rfl := Option.some.inj h1
  exact b_ret2 (d1 := (.agg [.ints .u8 [0, 0, 0, 0, 0, 0, 0, 0, 0, 0, 0, 0, 0, 0, 0, 0, 0, 0, 0, 0] 20])) (d2 := (.v (.bool false))) S rfl (resD_cell rfl .here T31 rfl rfl) rfl fun ok1 ok2 => S.retX (Hx := []) hb _ _ (() : Unit) (.cons (.there .here) (.cons (.there .here) (.cons (.there .here) (.cons (.there .here) (.cons (.there .here) (.cons (.there .here) (.cons (.there .here) (.cons (.there .here) .nil)))))))) ⟨ok1, ⟨ok2, trivial⟩, trivial⟩
 ·refine c_condF S rfl c1 ?_
  refine wp_skip ?_
  refine x_thenN ?_
  refine c_region ?_
  refine s_move S rfl rfl ?_; clear S a; intro a S
  refine s_nilchk S rfl rfl ?_; clear S a; intro a S
  refine s_fieldAddr S rfl I72_5 T23 (by decide) rfl rfl ?_; clear S a; intro a S
  refine s_load1 S rfl (.there .here) T23 (v := (.slice ch_0_13 ch_0_14 ch_0_15)) rfl rfl ?_; clear S a; intro a S
  obtain ⟨c2, h2⟩ := chk_of h1; clear h1
  refine s_iaddrO S (ty' := (Ty.arr .u8 20)) rfl (.there (.there (.there (.there (.there (.there (.there (.there .here)))))))) rfl Try.underlying23 T31 c2.1 c2.2 rfl ?_; clear S a; intro g2 a hA1 S
  refine s_ldRA S (ty' := (Ty.arr .u8 20)) (i := 0) (off := 0) (fun c => [.ints .u8 (gt x1.2.2.2.2.2 0) 20]) rfl hA1 (.there (.there (.there (.there (.there (.there (.there (.there .here)))))))) T31 c2.1 c2.2 rfl (fun _ => rfl) rfl ?_; clear S a; intro ch1 a S
  refine s_store S rfl rfl rfl (s' := [.ints .u8 (gt x1.2.2.2.2.2 0) 20]) .here T31 rfl rfl ?_; clear S w; intro w S
  refine s_assign S rfl rfl ?_; clear S a; intro a S
  refine c_end ?_
  refine wp_ret ?_
  obtain rfl := Option.some.inj h2
  exact b_ret2 (d1 := (.agg [.ints .u8 (gt x1.2.2.2.2.2 0) 20])) (d2 := (.v (.bool true))) S rfl (resD_cell rfl .here T31 rfl rfl) rfl fun ok1 ok2 => S.retX (Hx := []) hb _ _ (() : Unit) (.cons (.there .here) (.cons (.there .here) (.cons (.there .here) (.cons (.there .here) (.cons (.there .here) (.cons (.there .here) (.cons (.there .here) (.cons (.there .here) .nil)))))))) ⟨ok1, ⟨ok2, trivial⟩, trivial⟩
abbrev smithylaw14_StateMissing.Ty : Type := (List L39) → (List (List Int)) → Option Bool
def smithylaw14_StateMissing.Ctr (s : smithylaw14_StateMissing.Ty) : Prop := ∀ (x1 : List L39) (x2 : List (List Int)) (ch_0_0 : Option Addr) (ch_0_1 : Nat) (ch_1_0 : Option Addr) (ch_1_1 : Nat) (r : Bool) (h0 : s x1 x2 = some r) (mi : Mem) (w0 : World), okL mi [(.sl ch_0_0 (x1).length ch_0_1 (RdS Y39 ch_0_0 x1)), (.sl ch_1_0 (x2).length ch_1_1 (RdS (Ty.arr .u8 20) ch_1_0 x2))] → Pre mi [] w0 → Calls Try.prog 3 (([(.sl ch_0_0 (x1).length ch_0_1 (RdS Y39 ch_0_0 x1)), (.sl ch_1_0 (x2).length ch_1_1 (RdS (Ty.arr .u8 20) ch_1_0 x2))] : List D).map D.val).toArray w0 (RetX mi [] (fun (ch : Unit) => ((.v (.bool r)) : D)) (fun (ch : Unit) => []) w0)
def smithylaw14_StateMissing.j3 (t5 : W2) (y35 : W15) (y36 : List L76) (y37 : W16) (y38 : W17) (y39 : List L51) (y40 : List Clo) (y41 : List (List Int)) : Option Bool := (state_State_Missing_i2.f ((t5.1), (y35, y36, y37, y38), t5.2.2.1, y39, y40, y41)).bind fun t6 => (some (!t6.2))
def smithylaw14_StateMissing.b1 (k : Nat) (x2 : List (List Int)) (t5 : W2) (rec1 : Int → W15 → (List L76) → W16 → W17 → (List L51) → (List Clo) → (List (List Int)) → Option Bool) (y43 : Int) (y44 : W15) (y45 : List L76) (y46 : W16) (y47 : W17) (y48 : List L51) (y49 : List Clo) (y50 : List (List Int)) : Option Bool := if (decide (y43 < ((x2).length : Int))) = true then (if (0 : Int) ≤ y43 ∧ y43 < ((x2).length : Int) then ((state_State_Balance.f k ((t5.1), (y44, y45, y46, y47), t5.2.2.1, y48, y49, y50) (gt x2 y43)).bind fun t9 => (rec1 (wr .i64 (y43 + 1)) t9.2.2.1.1 t9.2.2.1.2.1 t9.2.2.1.2.2.1 t9.2.2.1.2.2.2 t9.2.2.2.2.1 t9.2.2.2.2.2.1 t9.2.2.2.2.2.2)) else none) else (smithylaw14_StateMissing.j3 t5 y44 y45 y46 y47 y48 y49 y50)
def smithylaw14_StateMissing.l1 (k : Nat) (x2 : List (List Int)) (t5 : W2) : Nat → Int → W15 → (List L76) → W16 → W17 → (List L51) → (List Clo) → (List (List Int)) → Option Bool
  | 0, _, _, _, _, _, _, _, _ => none
  | q + 1, y43, y44, y45, y46, y47, y48, y49, y50 => smithylaw14_StateMissing.b1 k x2 t5 (smithylaw14_StateMissing.l1 k x2 t5 q) y43 y44 y45 y46 y47 y48 y49 y50
def smithylaw14_StateMissing.j2 (k : Nat) (x1 : List L39) (x2 : List (List Int)) : Option Bool := (state_List.f k x1).bind fun t4 => ((state_New_0i68.f (t4)).bind fun t5 => (smithylaw14_StateMissing.l1 k x2 t5 k 0 t5.2.1.1 t5.2.1.2.1 t5.2.1.2.2.1 t5.2.1.2.2.2 t5.2.2.2.1 t5.2.2.2.2.1 t5.2.2.2.2.2))
def smithylaw14_StateMissing.j5 (y67 : Int) (rec2 : (List (List Int)) → Int → W15 → (List L76) → W16 → W17 → (List L51) → (List Clo) → (List (List Int)) → Option Bool) (t12 : W19) (y76 : List (List Int)) (y77 : Bool) : Option Bool := if y77 = true then (some false) else (rec2 y76 (wr .i64 (y67 + 1)) t12.2.2.1.1 t12.2.2.1.2.1 t12.2.2.1.2.2.1 t12.2.2.1.2.2.2 t12.2.2.2.2.1 t12.2.2.2.2.2.1 t12.2.2.2.2.2.2)
def smithylaw14_StateMissing.j4 (t2 : W2) (y67 : Int) (rec2 : (List (List Int)) → Int → W15 → (List L76) → W16 → W17 → (List L51) → (List Clo) → (List (List Int)) → Option Bool) (t12 : W19) (y76 : List (List Int)) : Option Bool := (state_State_Missing.f ((t2.1), t12.2.2.1, t2.2.2.1, t12.2.2.2.2.1, t12.2.2.2.2.2.1, t12.2.2.2.2.2.2)).bind fun t13 => (if (!(t13.2 == (decide (0 < ((y76).length : Int))))) = true then (smithylaw14_StateMissing.j5 y67 rec2 t12 y76 true) else (if t13.2 = true then (if (0 : Int) ≤ 0 ∧ 0 < ((y76).length : Int) then (if (!(decide (t13.1 = gt y76 0))) = true then (smithylaw14_StateMissing.j5 y67 rec2 t12 y76 true) else (if (!t13.2) = true then (smithylaw14_StateMissing.j5 y67 rec2 t12 y76 (!(decide (t13.1 = [0, 0, 0, 0, 0, 0, 0, 0, 0, 0, 0, 0, 0, 0, 0, 0, 0, 0, 0, 0])))) else (smithylaw14_StateMissing.j5 y67 rec2 t12 y76 false))) else none) else (if (!t13.2) = true then (smithylaw14_StateMissing.j5 y67 rec2 t12 y76 (!(decide (t13.1 = [0, 0, 0, 0, 0, 0, 0, 0, 0, 0, 0, 0, 0, 0, 0, 0, 0, 0, 0, 0])))) else (smithylaw14_StateMissing.j5 y67 rec2 t12 y76 false))))
def smithylaw14_StateMissing.j6 (x2 : List (List Int)) (t2 : W2) (y66 : List (List Int)) (y67 : Int) (rec2 : (List (List Int)) → Int → W15 → (List L76) → W16 → W17 → (List L51) → (List Clo) → (List (List Int)) → Option Bool) (t12 : W19) (y78 : Bool) : Option Bool := if y78 = true then (smithylaw14_StateMissing.j4 t2 y67 rec2 t12 [gt x2 y67]) else (smithylaw14_StateMissing.j4 t2 y67 rec2 t12 y66)
def smithylaw14_StateMissing.b2 (k : Nat) (x1 : List L39) (x2 : List (List Int)) (t2 : W2) (rec2 : (List (List Int)) → Int → W15 → (List L76) → W16 → W17 → (List L51) → (List Clo) → (List (List Int)) → Option Bool) (y66 : List (List Int)) (y67 : Int) (y68 : W15) (y69 : List L76) (y70 : W16) (y71 : W17) (y72 : List L51) (y73 : List Clo) (y74 : List (List Int)) : Option Bool := if (decide (y67 < ((x2).length : Int))) = true then (if (0 : Int) ≤ y67 ∧ y67 < ((x2).length : Int) then ((state_State_Nonce.f k ((t2.1), (y68, y69, y70, y71), t2.2.2.1, y72, y73, y74) (gt x2 y67)).bind fun t12 => ((smithyref13_Find.f k x1 (gt x2 y67)).bind fun t14 => (if (!t14.2) = true then (smithylaw14_StateMissing.j6 x2 t2 y66 y67 rec2 t12 (((y66).length : Int) == 0)) else (smithylaw14_StateMissing.j6 x2 t2 y66 y67 rec2 t12 false)))) else none) else (smithylaw14_StateMissing.j2 k x1 x2)
def smithylaw14_StateMissing.l2 (k : Nat) (x1 : List L39) (x2 : List (List Int)) (t2 : W2) : Nat → (List (List Int)) → Int → W15 → (List L76) → W16 → W17 → (List L51) → (List Clo) → (List (List Int)) → Option Bool
  | 0, _, _, _, _, _, _, _, _, _ => none
  | q + 1, y66, y67, y68, y69, y70, y71, y72, y73, y74 => smithylaw14_StateMissing.b2 k x1 x2 t2 (smithylaw14_StateMissing.l2 k x1 x2 t2 q) y66 y67 y68 y69 y70 y71 y72 y73 y74
def smithylaw14_StateMissing.j1 (k : Nat) (x1 : List L39) (x2 : List (List Int)) (y1 : Bool) : Option Bool := if y1 = true then ((smithylaw14_fixed.f k).bind fun t1 => (some t1)) else ((state_New_0i29.f (x1)).bind fun t2 => ((smithylaw14_fixed.f k).bind fun t3 => (if (!t3) = true then (some false) else (smithylaw14_StateMissing.l2 k x1 x2 t2 k ([] : List (List Int)) 0 t2.2.1.1 t2.2.1.2.1 t2.2.1.2.2.1 t2.2.1.2.2.2 t2.2.2.2.1 t2.2.2.2.2.1 t2.2.2.2.2.2))))
def smithylaw14_StateMissing.f (k : Nat) (x1 : List L39) (x2 : List (List Int)) : Option Bool := (smithylaw14_right.f k x1).bind fun t15 => (if (!t15) = true then (smithylaw14_StateMissing.j1 k x1 x2 true) else (smithylaw14_StateMissing.j1 k x1 x2 (decide (50 < ((x2).length : Int)))))
theorem smithylaw14_StateMissing.ok (k : Nat) : smithylaw14_StateMissing.Ctr (smithylaw14_StateMissing.f k) := by
 intro x1 x2 ch_0_0 ch_0_1 ch_1_0 ch_1_1 r h0 mi w0 ok hm
 delta smithylaw14_StateMissing.f at h0
 refine c_enterX (n := 111) [(.sl ch_0_0 (x1).length ch_0_1 (RdS Y39 ch_0_0 x1)), (.sl ch_1_0 (x2).length ch_1_1 (RdS (Ty.arr .u8 20) ch_1_0 x2))] (l := [(0, (.sl ch_0_0 (x1).length ch_0_1 (RdS Y39 ch_0_0 x1))), (1, (.sl ch_1_0 (x2).length ch_1_1 (RdS (Ty.arr .u8 20) ch_1_0 x2)))]) Try.func3 rfl rfl rfl rfl ok hm ?_
 clear ok hm
 intro b0 hb a S
 refine c_region ?_
 refine s_assign S rfl rfl ?_; clear S a; intro a S
 refine c_end ?_
 refine wp_seq ?_
 refine wp_seq_k ?_
 intro K1 hK1
 have j1 : ∀ (m : Mem) (y1 : Bool) (a : Act) (w : World), St 111 m b0 [(25, (.v (.bool y1))), (0, (.sl ch_0_0 (x1).length ch_0_1 (RdS Y39 ch_0_0 x1))), (1, (.sl ch_1_0 (x2).length ch_1_1 (RdS (Ty.arr .u8 20) ch_1_0 x2)))] [] a w → smithylaw14_StateMissing.j1 k x1 x2 y1 = some r → K1 a w := by
  intro m y1 a w S h0
  delta smithylaw14_StateMissing.j1 at h0
  refine hK1 a w ?_
  rcases ite_of h0 with ⟨c1, h1⟩ | ⟨c1, h1⟩ <;> clear h0
  ·refine c_condT S rfl c1 ?_
   refine c_region ?_
   obtain ⟨t1, et1, h2⟩ := bind_of h1; clear h1
   refine s_callP S (fun (ch : Unit) => ((.v (.bool t1)) : D)) N6 rfl rfl (smithylaw14_fixed.ok k t1 et1 _ _) ?_; clear S a w; intro ch1 m le1 a w S
   refine s_assign S rfl rfl ?_; clear S a; intro a S
   refine c_end ?_
   refine wp_ret ?_
   refine x_thenR ?_
   obtain rfl := Option.some.inj h2
   exact b_ret1 (d := (.v (.bool t1))) S rfl rfl fun ok => S.retX (Hx := []) hb _ _ (() : Unit) .nil ok
  ·refine c_condF S rfl c1 ?_
   refine wp_skip ?_
   refine x_thenN ?_
   refine c_region ?_
   refine s_move S rfl rfl ?_; clear S a; intro a S
   refine s_bldS S (ds := [(0, (.sl ch_0_0 (x1).length ch_0_1 (RdS Y39 ch_0_0 x1)))]) (zs := [.one (.slice none 0 0)]) (s' := [.sl ch_0_0 (x1).length ch_0_1 (RdS Y39 ch_0_0 x1)]) rfl Try.underlying29 P29 Z29 ⟨rfl, trivial⟩ rfl rfl ?_; clear S a; intro a S
   refine s_mkI S (s := [.sl ch_0_0 (x1).length ch_0_1 (RdS Y39 ch_0_0 x1)]) (v := (.agg (cellsOf [.sl ch_0_0 (x1).length ch_0_1 (RdS Y39 ch_0_0 x1)]).toArray)) rfl rfl rfl (by kernel_rfl) rfl ?_; clear S a; intro a S
   obtain ⟨t2, et2, h2⟩ := bind_of h1; clear h1
   refine s_callX S (ds' := [(.rf (.iface 29 (.agg (cellsOf [.sl ch_0_0 (x1).length ch_0_1 (RdS Y39 ch_0_0 x1)]).toArray)) (IfR [.sl ch_0_0 (x1).length ch_0_1 (RdS Y39 ch_0_0 x1)]))]) (ds := [(.rf (.iface 29 (.agg (cellsOf [.sl ch_0_0 (x1).length ch_0_1 (RdS Y39 ch_0_0 x1)]).toArray)) (IfR [.sl ch_0_0 (x1).length ch_0_1 (RdS Y39 ch_0_0 x1)]))]) [] [] (fun (ch : W3) => ((.v (.pointer (some ⟨ch.1, 0, none⟩))) : D)) (fun (ch : W3) => [Res.cells ch.1 72 [.rf (.iface 29 (.agg (cellsOf [.sl ch.2.1 (t2.1).length ch.2.2.1 (RdS Y39 ch.2.1 t2.1)]).toArray)) (IfR [.sl ch.2.1 (t2.1).length ch.2.2.1 (RdS Y39 ch.2.1 t2.1)]), .one (.map (some ch.2.2.2.1)), .one (.int .i64 t2.2.2.1), .one (.slice ch.2.2.2.2.2.2.2.1 ch.2.2.2.2.2.2.2.2.1 ch.2.2.2.2.2.2.2.2.2.1), .one (.slice ch.2.2.2.2.2.2.2.2.2.2.1 ch.2.2.2.2.2.2.2.2.2.2.2.1 ch.2.2.2.2.2.2.2.2.2.2.2.2.1), .one (.slice ch.2.2.2.2.2.2.2.2.2.2.2.2.2.1 ch.2.2.2.2.2.2.2.2.2.2.2.2.2.2.1 ch.2.2.2.2.2.2.2.2.2.2.2.2.2.2.2)], Res.map true (Ty.arr .u8 20) false (Ty.pid ch.2.2.2.2.1) ch.2.2.2.1 t2.2.1.1, Res.fam (Res.struct (YE76 ch.2.2.2.2.2.1 ch.2.2.2.2.2.2.1) 76) (one_struct _ _) ch.2.2.2.2.1 [] t2.2.1.2.1, Res.fam (fun g_ kvs_ => Res.map true (Ty.arr .u64 4) true (Ty.arr .u64 4) g_ kvs_) (one_map true (Ty.arr .u64 4) true (Ty.arr .u64 4)) ch.2.2.2.2.2.1 [] t2.2.1.2.2.1, Res.fam (fun g_ kvs_ => Res.map true (Ty.arr .u64 4) false Ty.bool g_ kvs_) (one_map true (Ty.arr .u64 4) false Ty.bool) ch.2.2.2.2.2.2.1 [] t2.2.1.2.2.2, Res.row Y51 51 ch.2.2.2.2.2.2.2.1 ch.2.2.2.2.2.2.2.2.1 ch.2.2.2.2.2.2.2.2.2.1 t2.2.2.2.1, Res.row (YC ch.1 ch.2.2.2.2.1 ch.2.2.2.2.2.1 ch.2.2.2.2.2.2.1) 1 ch.2.2.2.2.2.2.2.2.2.2.1 ch.2.2.2.2.2.2.2.2.2.2.2.1 ch.2.2.2.2.2.2.2.2.2.2.2.2.1 t2.2.2.2.2.1, Res.row (Ty.arr .u8 20) 31 ch.2.2.2.2.2.2.2.2.2.2.2.2.2.1 ch.2.2.2.2.2.2.2.2.2.2.2.2.2.2.1 ch.2.2.2.2.2.2.2.2.2.2.2.2.2.2.2 t2.2.2.2.2.2]) (fun (ch : W3) => [Res.cells ch.1 72 [.rf (.iface 29 (.agg (cellsOf [.sl ch.2.1 (t2.1).length ch.2.2.1 (RdS Y39 ch.2.1 t2.1)]).toArray)) (IfR [.sl ch.2.1 (t2.1).length ch.2.2.1 (RdS Y39 ch.2.1 t2.1)]), .one (.map (some ch.2.2.2.1)), .one (.int .i64 t2.2.2.1), .one (.slice ch.2.2.2.2.2.2.2.1 ch.2.2.2.2.2.2.2.2.1 ch.2.2.2.2.2.2.2.2.2.1), .one (.slice ch.2.2.2.2.2.2.2.2.2.2.1 ch.2.2.2.2.2.2.2.2.2.2.2.1 ch.2.2.2.2.2.2.2.2.2.2.2.2.1), .one (.slice ch.2.2.2.2.2.2.2.2.2.2.2.2.2.1 ch.2.2.2.2.2.2.2.2.2.2.2.2.2.2.1 ch.2.2.2.2.2.2.2.2.2.2.2.2.2.2.2)], Res.map true (Ty.arr .u8 20) false (Ty.pid ch.2.2.2.2.1) ch.2.2.2.1 t2.2.1.1, Res.fam (Res.struct (YE76 ch.2.2.2.2.2.1 ch.2.2.2.2.2.2.1) 76) (one_struct _ _) ch.2.2.2.2.1 [] t2.2.1.2.1, Res.fam (fun g_ kvs_ => Res.map true (Ty.arr .u64 4) true (Ty.arr .u64 4) g_ kvs_) (one_map true (Ty.arr .u64 4) true (Ty.arr .u64 4)) ch.2.2.2.2.2.1 [] t2.2.1.2.2.1, Res.fam (fun g_ kvs_ => Res.map true (Ty.arr .u64 4) false Ty.bool g_ kvs_) (one_map true (Ty.arr .u64 4) false Ty.bool) ch.2.2.2.2.2.2.1 [] t2.2.1.2.2.2, Res.row Y51 51 ch.2.2.2.2.2.2.2.1 ch.2.2.2.2.2.2.2.2.1 ch.2.2.2.2.2.2.2.2.2.1 t2.2.2.2.1, Res.row (YC ch.1 ch.2.2.2.2.1 ch.2.2.2.2.2.1 ch.2.2.2.2.2.2.1) 1 ch.2.2.2.2.2.2.2.2.2.2.1 ch.2.2.2.2.2.2.2.2.2.2.2.1 ch.2.2.2.2.2.2.2.2.2.2.2.2.1 t2.2.2.2.2.1, Res.row (Ty.arr .u8 20) 31 ch.2.2.2.2.2.2.2.2.2.2.2.2.2.1 ch.2.2.2.2.2.2.2.2.2.2.2.2.2.2.1 ch.2.2.2.2.2.2.2.2.2.2.2.2.2.2.2 t2.2.2.2.2.2]) (fun _ => rfl) N7 rfl rfl (fun ok => ok) .nil rfl (state_New_0i29.ok (x1) ch_0_0 ch_0_1 t2 et2 _ _) ?_; clear S a w; intro ch2 m le1 a w S
   refine s_assign S rfl rfl ?_; clear S a; intro a S
   refine c_end ?_
   refine wp_seq ?_
   refine c_region ?_
   refine s_move S rfl rfl ?_; clear S a; intro a S
   refine s_eqp S (b := false) rfl rfl Try.underlying26 rfl rfl ?_; clear S a; intro a S
   refine s_move S rfl rfl ?_; clear S a; intro a S
   refine s_gT S (b := false) rfl rfl rfl ?_
   obtain ⟨t3, et3, h3⟩ := bind_of h2; clear h2
   refine s_callP S (fun (ch : Unit) => ((.v (.bool t3)) : D)) N6 rfl rfl (smithylaw14_fixed.ok k t3 et3 _ _) ?_; clear S a w; intro ch3 m le1 a w S
   refine s_gT S (b := false) rfl rfl rfl ?_
   refine s_not S rfl rfl ?_; clear S a; intro a S
   refine s_pick S (b := false) (hc_of rfl rfl) rfl rfl ?_; clear S a; intro a S
   refine c_end ?_
   rcases ite_of h3 with ⟨c2, h4⟩ | ⟨c2, h4⟩ <;> clear h3
   ·refine c_condT S rfl c2 ?_
    refine c_region ?_
    refine s_assign S rfl rfl ?_; clear S a; intro a S
    refine c_end ?_
    refine wp_ret ?_
    refine x_thenR ?_
    obtain rfl := Option.some.inj h4
    exact b_ret1 (d := (.v (.bool false))) S rfl rfl fun ok => S.retX (Hx := []) hb _ _ (() : Unit) .nil ok
   ·refine c_condF S rfl c2 ?_
    refine wp_skip ?_
    refine x_thenN ?_
    refine c_region ?_
    refine s_assign S rfl rfl ?_; clear S a; intro a S
    refine c_end ?_
    refine wp_seq_k ?_
    intro K2 hK2
    have j2 : ∀ (m : Mem) (a : Act) (w : World), St 111 m b0 [(0, (.sl ch_0_0 (x1).length ch_0_1 (RdS Y39 ch_0_0 x1))), (1, (.sl ch_1_0 (x2).length ch_1_1 (RdS (Ty.arr .u8 20) ch_1_0 x2)))] [] a w → smithylaw14_StateMissing.j2 k x1 x2 = some r → K2 a w := by
     intro m a w S h0
     delta smithylaw14_StateMissing.j2 at h0
     refine hK2 a w ?_
     refine c_region ?_
     refine s_move S rfl rfl ?_; clear S a; intro a S
     obtain ⟨t4, et4, h1⟩ := bind_of h0; clear h0
     refine s_callP S (fun (ch : (Option Addr) × Nat) => ((.rf (.iface 68 (.agg (cellsOf [.sl ch.1 (t4).length ch.2 (RdS Y39 ch.1 t4)]).toArray)) (IfR [.sl ch.1 (t4).length ch.2 (RdS Y39 ch.1 t4)])) : D)) N11 rfl rfl (state_List.ok k x1 ch_0_0 ch_0_1 t4 et4 _ _) ?_; clear S a w; intro ch4 m le1 a w S
     obtain ⟨t5, et5, h2⟩ := bind_of h1; clear h1
     refine s_callX S (ds' := [(.rf (.iface 68 (.agg (cellsOf [.sl ch4.1 (t4).length ch4.2 (RdS Y39 ch4.1 t4)]).toArray)) (IfR [.sl ch4.1 (t4).length ch4.2 (RdS Y39 ch4.1 t4)]))]) (ds := [(.rf (.iface 68 (.agg (cellsOf [.sl ch4.1 (t4).length ch4.2 (RdS Y39 ch4.1 t4)]).toArray)) (IfR [.sl ch4.1 (t4).length ch4.2 (RdS Y39 ch4.1 t4)]))]) [] [] (fun (ch : W3) => ((.v (.pointer (some ⟨ch.1, 0, none⟩))) : D)) (fun (ch : W3) => [Res.cells ch.1 72 [.rf (.iface 68 (.agg (cellsOf [.sl ch.2.1 (t5.1).length ch.2.2.1 (RdS Y39 ch.2.1 t5.1)]).toArray)) (IfR [.sl ch.2.1 (t5.1).length ch.2.2.1 (RdS Y39 ch.2.1 t5.1)]), .one (.map (some ch.2.2.2.1)), .one (.int .i64 t5.2.2.1), .one (.slice ch.2.2.2.2.2.2.2.1 ch.2.2.2.2.2.2.2.2.1 ch.2.2.2.2.2.2.2.2.2.1), .one (.slice ch.2.2.2.2.2.2.2.2.2.2.1 ch.2.2.2.2.2.2.2.2.2.2.2.1 ch.2.2.2.2.2.2.2.2.2.2.2.2.1), .one (.slice ch.2.2.2.2.2.2.2.2.2.2.2.2.2.1 ch.2.2.2.2.2.2.2.2.2.2.2.2.2.2.1 ch.2.2.2.2.2.2.2.2.2.2.2.2.2.2.2)], Res.map true (Ty.arr .u8 20) false (Ty.pid ch.2.2.2.2.1) ch.2.2.2.1 t5.2.1.1, Res.fam (Res.struct (YE76 ch.2.2.2.2.2.1 ch.2.2.2.2.2.2.1) 76) (one_struct _ _) ch.2.2.2.2.1 [] t5.2.1.2.1, Res.fam (fun g_ kvs_ => Res.map true (Ty.arr .u64 4) true (Ty.arr .u64 4) g_ kvs_) (one_map true (Ty.arr .u64 4) true (Ty.arr .u64 4)) ch.2.2.2.2.2.1 [] t5.2.1.2.2.1, Res.fam (fun g_ kvs_ => Res.map true (Ty.arr .u64 4) false Ty.bool g_ kvs_) (one_map true (Ty.arr .u64 4) false Ty.bool) ch.2.2.2.2.2.2.1 [] t5.2.1.2.2.2, Res.row Y51 51 ch.2.2.2.2.2.2.2.1 ch.2.2.2.2.2.2.2.2.1 ch.2.2.2.2.2.2.2.2.2.1 t5.2.2.2.1, Res.row (YC ch.1 ch.2.2.2.2.1 ch.2.2.2.2.2.1 ch.2.2.2.2.2.2.1) 1 ch.2.2.2.2.2.2.2.2.2.2.1 ch.2.2.2.2.2.2.2.2.2.2.2.1 ch.2.2.2.2.2.2.2.2.2.2.2.2.1 t5.2.2.2.2.1, Res.row (Ty.arr .u8 20) 31 ch.2.2.2.2.2.2.2.2.2.2.2.2.2.1 ch.2.2.2.2.2.2.2.2.2.2.2.2.2.2.1 ch.2.2.2.2.2.2.2.2.2.2.2.2.2.2.2 t5.2.2.2.2.2]) (fun (ch : W3) => [Res.cells ch.1 72 [.rf (.iface 68 (.agg (cellsOf [.sl ch.2.1 (t5.1).length ch.2.2.1 (RdS Y39 ch.2.1 t5.1)]).toArray)) (IfR [.sl ch.2.1 (t5.1).length ch.2.2.1 (RdS Y39 ch.2.1 t5.1)]), .one (.map (some ch.2.2.2.1)), .one (.int .i64 t5.2.2.1), .one (.slice ch.2.2.2.2.2.2.2.1 ch.2.2.2.2.2.2.2.2.1 ch.2.2.2.2.2.2.2.2.2.1), .one (.slice ch.2.2.2.2.2.2.2.2.2.2.1 ch.2.2.2.2.2.2.2.2.2.2.2.1 ch.2.2.2.2.2.2.2.2.2.2.2.2.1), .one (.slice ch.2.2.2.2.2.2.2.2.2.2.2.2.2.1 ch.2.2.2.2.2.2.2.2.2.2.2.2.2.2.1 ch.2.2.2.2.2.2.2.2.2.2.2.2.2.2.2)], Res.map true (Ty.arr .u8 20) false (Ty.pid ch.2.2.2.2.1) ch.2.2.2.1 t5.2.1.1, Res.fam (Res.struct (YE76 ch.2.2.2.2.2.1 ch.2.2.2.2.2.2.1) 76) (one_struct _ _) ch.2.2.2.2.1 [] t5.2.1.2.1, Res.fam (fun g_ kvs_ => Res.map true (Ty.arr .u64 4) true (Ty.arr .u64 4) g_ kvs_) (one_map true (Ty.arr .u64 4) true (Ty.arr .u64 4)) ch.2.2.2.2.2.1 [] t5.2.1.2.2.1, Res.fam (fun g_ kvs_ => Res.map true (Ty.arr .u64 4) false Ty.bool g_ kvs_) (one_map true (Ty.arr .u64 4) false Ty.bool) ch.2.2.2.2.2.2.1 [] t5.2.1.2.2.2, Res.row Y51 51 ch.2.2.2.2.2.2.2.1 ch.2.2.2.2.2.2.2.2.1 ch.2.2.2.2.2.2.2.2.2.1 t5.2.2.2.1, Res.row (YC ch.1 ch.2.2.2.2.1 ch.2.2.2.2.2.1 ch.2.2.2.2.2.2.1) 1 ch.2.2.2.2.2.2.2.2.2.2.1 ch.2.2.2.2.2.2.2.2.2.2.2.1 ch.2.2.2.2.2.2.2.2.2.2.2.2.1 t5.2.2.2.2.1, Res.row (Ty.arr .u8 20) 31 ch.2.2.2.2.2.2.2.2.2.2.2.2.2.1 ch.2.2.2.2.2.2.2.2.2.2.2.2.2.2.1 ch.2.2.2.2.2.2.2.2.2.2.2.2.2.2.2 t5.2.2.2.2.2]) (fun _ => rfl) N7 rfl rfl (fun ok => ok) .nil rfl (state_New_0i68.ok (t4) ch4.1 ch4.2 t5 et5 _ _) ?_; clear S a w; intro ch5 m le1 a w S
     refine s_assign S rfl rfl ?_; clear S a; intro a S
     refine c_end ?_
     refine wp_seq_k ?_
     intro K3 hK3
     have j3 : ∀ (m : Mem) (g1 : Nat) (y35 : List ((List Int) × Option Nat)) (G1 : List Nat) (G2 : List Nat) (G3 : List Nat) (y36 : List L76) (y37 : List (List ((List Int) × (List Int)))) (y38 : List (List ((List Int) × Bool))) (A1 : Option Addr) (nn1 : Nat) (cp1 : Nat) (y39 : List L51) (A2 : Option Addr) (nn2 : Nat) (cp2 : Nat) (y40 : List Clo) (A3 : Option Addr) (nn3 : Nat) (cp3 : Nat) (y41 : List (List Int)) (a : Act) (w : World), St 111 m b0 [(13, (.v (.pointer (some ⟨ch5.1, 0, none⟩))))] [Res.cells ch5.1 72 [.rf (.iface 68 (.agg (cellsOf [.sl ch5.2.1 (t5.1).length ch5.2.2.1 (RdS Y39 ch5.2.1 t5.1)]).toArray)) (IfR [.sl ch5.2.1 (t5.1).length ch5.2.2.1 (RdS Y39 ch5.2.1 t5.1)]), .one (.map (some g1)), .one (.int .i64 t5.2.2.1), .one (.slice A1 nn1 cp1), .one (.slice A2 nn2 cp2), .one (.slice A3 nn3 cp3)], Res.map true (Ty.arr .u8 20) false (Ty.pid G1) g1 y35, Res.fam (Res.struct (YE76 G2 G3) 76) (one_struct _ _) G1 [] y36, Res.fam (fun g_ kvs_ => Res.map true (Ty.arr .u64 4) true (Ty.arr .u64 4) g_ kvs_) (one_map true (Ty.arr .u64 4) true (Ty.arr .u64 4)) G2 [] y37, Res.fam (fun g_ kvs_ => Res.map true (Ty.arr .u64 4) false Ty.bool g_ kvs_) (one_map true (Ty.arr .u64 4) false Ty.bool) G3 [] y38, Res.row Y51 51 A1 nn1 cp1 y39, Res.row (YC ch5.1 G1 G2 G3) 1 A2 nn2 cp2 y40, Res.row (Ty.arr .u8 20) 31 A3 nn3 cp3 y41] a w → smithylaw14_StateMissing.j3 t5 y35 y36 y37 y38 y39 y40 y41 = some r → K3 a w := by
      intro m g1 y35 G1 G2 G3 y36 y37 y38 A1 nn1 cp1 y39 A2 nn2 cp2 y40 A3 nn3 cp3 y41 a w S h0
      delta smithylaw14_StateMissing.j3 at h0
      refine hK3 a w ?_
      refine c_region ?_
      refine s_move S rfl rfl ?_; clear S a; intro a S
      obtain ⟨t6, et6, h1⟩ := bind_of h0; clear h0
      refine s_callX S (ds' := [(.v (.pointer (some ⟨ch5.1, 0, none⟩)))]) (ds := [(.v (.pointer (some ⟨ch5.1, 0, none⟩)))]) [Res.cells ch5.1 72 [.rf (.iface 68 (.agg (cellsOf [.sl ch5.2.1 (t5.1).length ch5.2.2.1 (RdS Y39 ch5.2.1 t5.1)]).toArray)) (IfR [.sl ch5.2.1 (t5.1).length ch5.2.2.1 (RdS Y39 ch5.2.1 t5.1)]), .one (.map (some g1)), .one (.int .i64 t5.2.2.1), .one (.slice A1 nn1 cp1), .one (.slice A2 nn2 cp2), .one (.slice A3 nn3 cp3)], Res.map true (Ty.arr .u8 20) false (Ty.pid G1) g1 y35, Res.fam (Res.struct (YE76 G2 G3) 76) (one_struct _ _) G1 [] y36, Res.fam (fun g_ kvs_ => Res.map true (Ty.arr .u64 4) true (Ty.arr .u64 4) g_ kvs_) (one_map true (Ty.arr .u64 4) true (Ty.arr .u64 4)) G2 [] y37, Res.fam (fun g_ kvs_ => Res.map true (Ty.arr .u64 4) false Ty.bool g_ kvs_) (one_map true (Ty.arr .u64 4) false Ty.bool) G3 [] y38, Res.row Y51 51 A1 nn1 cp1 y39, Res.row (YC ch5.1 G1 G2 G3) 1 A2 nn2 cp2 y40, Res.row (Ty.arr .u8 20) 31 A3 nn3 cp3 y41] [] (fun (ch : Unit) => ((.tup [(true, [.ints .u8 t6.1 20]), (false, [.one (.bool t6.2)])]) : D)) (fun (ch : Unit) => [Res.cells ch5.1 72 [.rf (.iface 68 (.agg (cellsOf [.sl ch5.2.1 (t5.1).length ch5.2.2.1 (RdS Y39 ch5.2.1 t5.1)]).toArray)) (IfR [.sl ch5.2.1 (t5.1).length ch5.2.2.1 (RdS Y39 ch5.2.1 t5.1)]), .one (.map (some g1)), .one (.int .i64 t5.2.2.1), .one (.slice A1 nn1 cp1), .one (.slice A2 nn2 cp2), .one (.slice A3 nn3 cp3)], Res.map true (Ty.arr .u8 20) false (Ty.pid G1) g1 y35, Res.fam (Res.struct (YE76 G2 G3) 76) (one_struct _ _) G1 [] y36, Res.fam (fun g_ kvs_ => Res.map true (Ty.arr .u64 4) true (Ty.arr .u64 4) g_ kvs_) (one_map true (Ty.arr .u64 4) true (Ty.arr .u64 4)) G2 [] y37, Res.fam (fun g_ kvs_ => Res.map true (Ty.arr .u64 4) false Ty.bool g_ kvs_) (one_map true (Ty.arr .u64 4) false Ty.bool) G3 [] y38, Res.row Y51 51 A1 nn1 cp1 y39, Res.row (YC ch5.1 G1 G2 G3) 1 A2 nn2 cp2 y40, Res.row (Ty.arr .u8 20) 31 A3 nn3 cp3 y41]) (fun (ch : Unit) => [Res.cells ch5.1 72 [.rf (.iface 68 (.agg (cellsOf [.sl ch5.2.1 (t5.1).length ch5.2.2.1 (RdS Y39 ch5.2.1 t5.1)]).toArray)) (IfR [.sl ch5.2.1 (t5.1).length ch5.2.2.1 (RdS Y39 ch5.2.1 t5.1)]), .one (.map (some g1)), .one (.int .i64 t5.2.2.1), .one (.slice A1 nn1 cp1), .one (.slice A2 nn2 cp2), .one (.slice A3 nn3 cp3)], Res.map true (Ty.arr .u8 20) false (Ty.pid G1) g1 y35, Res.fam (Res.struct (YE76 G2 G3) 76) (one_struct _ _) G1 [] y36, Res.fam (fun g_ kvs_ => Res.map true (Ty.arr .u64 4) true (Ty.arr .u64 4) g_ kvs_) (one_map true (Ty.arr .u64 4) true (Ty.arr .u64 4)) G2 [] y37, Res.fam (fun g_ kvs_ => Res.map true (Ty.arr .u64 4) false Ty.bool g_ kvs_) (one_map true (Ty.arr .u64 4) false Ty.bool) G3 [] y38, Res.row Y51 51 A1 nn1 cp1 y39, Res.row (YC ch5.1 G1 G2 G3) 1 A2 nn2 cp2 y40, Res.row (Ty.arr .u8 20) 31 A3 nn3 cp3 y41]) (fun _ => rfl) N10 rfl rfl (fun ok => ok) (.cons .here (.cons .here (.cons .here (.cons .here (.cons .here (.cons .here (.cons .here (.cons .here .nil)))))))) rfl (state_State_Missing_i2.ok ((t5.1), (y35, y36, y37, y38), t5.2.2.1, y39, y40, y41) ch5.1 ch5.2.1 ch5.2.2.1 g1 G1 G2 G3 A1 nn1 cp1 A2 nn2 cp2 A3 nn3 cp3 t6 et6 _ _) ?_; clear S a w; intro ch6 m le1 a w S
      refine s_move S rfl rfl ?_; clear S a; intro a S
      refine s_extract S rfl rfl rfl rfl ?_; clear S a; intro a S
      refine s_extract S rfl rfl rfl rfl ?_; clear S a; intro a S
      refine s_alloc S Z31 rfl ⟨rfl, trivial⟩ rfl ?_; clear S a w; intro g2 a w S
      refine s_store S rfl rfl rfl (s' := [.ints .u8 t6.1 20]) .here T31 rfl rfl ?_; clear S w; intro w S
      refine s_assign S rfl rfl ?_; clear S a; intro a S
      refine c_end ?_
      refine c_region ?_
      refine s_move S rfl rfl ?_; clear S a; intro a S
      refine s_not S rfl rfl ?_; clear S a; intro a S
      refine s_assign S rfl rfl ?_; clear S a; intro a S
      refine c_end ?_
      refine wp_ret ?_
      obtain rfl := Option.some.inj h1
      exact b_ret1 (d := (.v (.bool (!t6.2)))) S rfl rfl fun ok => S.retX (Hx := []) hb _ _ (() : Unit) .nil ok
     refine c_region ?_
     refine s_move S rfl rfl ?_; clear S a; intro a S
     refine s_lenS S rfl Try.underlying23 rfl ?_; clear S a; intro a S
     refine s_move S rfl rfl ?_; clear S a; intro a S
     refine c_end ?_
     refine wp_block ?_
     refine c_loop (fun q1 a w => ∃ (m : Mem) (y43 : Int) (g6 : Nat) (y44 : List ((List Int) × Option Nat)) (G4 : List Nat) (G5 : List Nat) (G6 : List Nat) (y45 : List L76) (y46 : List (List ((List Int) × (List Int)))) (y47 : List (List ((List Int) × Bool))) (A4 : Option Addr) (nn4 : Nat) (cp4 : Nat) (y48 : List L51) (A5 : Option Addr) (nn5 : Nat) (cp5 : Nat) (y49 : List Clo) (A6 : Option Addr) (nn6 : Nat) (cp6 : Nat) (y50 : List (List Int)), St 111 m b0 [(96, (.v (.int .i64 y43))), (95, (.v (.int .i64 ((x2).length : Int)))), (94, (.sl ch_1_0 (x2).length ch_1_1 (RdS (Ty.arr .u8 20) ch_1_0 x2))), (13, (.v (.pointer (some ⟨ch5.1, 0, none⟩))))] [Res.cells ch5.1 72 [.rf (.iface 68 (.agg (cellsOf [.sl ch5.2.1 (t5.1).length ch5.2.2.1 (RdS Y39 ch5.2.1 t5.1)]).toArray)) (IfR [.sl ch5.2.1 (t5.1).length ch5.2.2.1 (RdS Y39 ch5.2.1 t5.1)]), .one (.map (some g6)), .one (.int .i64 t5.2.2.1), .one (.slice A4 nn4 cp4), .one (.slice A5 nn5 cp5), .one (.slice A6 nn6 cp6)], Res.map true (Ty.arr .u8 20) false (Ty.pid G4) g6 y44, Res.fam (Res.struct (YE76 G5 G6) 76) (one_struct _ _) G4 [] y45, Res.fam (fun g_ kvs_ => Res.map true (Ty.arr .u64 4) true (Ty.arr .u64 4) g_ kvs_) (one_map true (Ty.arr .u64 4) true (Ty.arr .u64 4)) G5 [] y46, Res.fam (fun g_ kvs_ => Res.map true (Ty.arr .u64 4) false Ty.bool g_ kvs_) (one_map true (Ty.arr .u64 4) false Ty.bool) G6 [] y47, Res.row Y51 51 A4 nn4 cp4 y48, Res.row (YC ch5.1 G4 G5 G6) 1 A5 nn5 cp5 y49, Res.row (Ty.arr .u8 20) 31 A6 nn6 cp6 y50] a w ∧ smithylaw14_StateMissing.l1 k x2 t5 q1 y43 y44 y45 y46 y47 y48 y49 y50 = some r) ?_ ?_ (k := k) ⟨_, 0, ch5.2.2.2.1, t5.2.1.1, ch5.2.2.2.2.1, ch5.2.2.2.2.2.1, ch5.2.2.2.2.2.2.1, t5.2.1.2.1, t5.2.1.2.2.1, t5.2.1.2.2.2, ch5.2.2.2.2.2.2.2.1, ch5.2.2.2.2.2.2.2.2.1, ch5.2.2.2.2.2.2.2.2.2.1, t5.2.2.2.1, ch5.2.2.2.2.2.2.2.2.2.2.1, ch5.2.2.2.2.2.2.2.2.2.2.2.1, ch5.2.2.2.2.2.2.2.2.2.2.2.2.1, t5.2.2.2.2.1, ch5.2.2.2.2.2.2.2.2.2.2.2.2.2.1, ch5.2.2.2.2.2.2.2.2.2.2.2.2.2.2.1, ch5.2.2.2.2.2.2.2.2.2.2.2.2.2.2.2, t5.2.2.2.2.2, (S.sub (subR rfl) (.cons .here (.cons .here (.cons .here (.cons .here (.cons .here (.cons .here (.cons .here (.cons .here .nil))))))))), h2⟩
     ·rintro a w ⟨m, y43, g6, y44, G4, G5, G6, y45, y46, y47, A4, nn4, cp4, y48, A5, nn5, cp5, y49, A6, nn6, cp6, y50, S, h0⟩
      exact (nomatch (show (none : Option Bool) = some r from h0))
     ·clear S h2
      rintro q1 a w ⟨m, y43, g6, y44, G4, G5, G6, y45, y46, y47, A4, nn4, cp4, y48, A5, nn5, cp5, y49, A6, nn6, cp6, y50, S, h0⟩
      replace h0 : smithylaw14_StateMissing.b1 k x2 t5 (smithylaw14_StateMissing.l1 k x2 t5 q1) y43 y44 y45 y46 y47 y48 y49 y50 = some r := h0
      delta smithylaw14_StateMissing.b1 at h0
      refine c_region ?_
      refine s_bin S rfl rfl rfl rfl ?_; clear S a; intro a S
      refine c_end ?_
      refine wp_seq ?_
      rcases ite_of h0 with ⟨c3, h1⟩ | ⟨c3, h1⟩ <;> clear h0
      ·refine c_condT S rfl c3 ?_
       refine wp_skip ?_
       refine x_thenN ?_
       refine wp_seq ?_
       refine wp_block ?_
       refine c_region ?_
       obtain ⟨c4, h2⟩ := chk_of h1; clear h1
       refine s_iaddrS S rfl rfl rfl Try.underlying23 T31 c4.1 c4.2 rfl ?_; clear S a; intro p1 a S
       refine s_ldA S (fun (c : Unit) => [.ints .u8 (gt x2 y43) 20]) rfl T31 (fun _ => rfl) rfl ?_; clear S a; intro ch11 a S
       refine s_alloc S Z31 rfl ⟨rfl, trivial⟩ rfl ?_; clear S a w; intro g7 a w S
       refine s_store S rfl rfl rfl (s' := [.ints .u8 (gt x2 y43) 20]) .here T31 rfl rfl ?_; clear S w; intro w S
       refine c_end ?_
       refine c_region' ?_
       refine s_move S rfl rfl ?_; clear S a; intro a S
       refine s_loada S rfl .here T31 (s' := [.ints .u8 (gt x2 y43) 20]) rfl rfl ?_; clear S a; intro a S
       obtain ⟨t9, et9, h3⟩ := bind_of h2; clear h2
       refine s_callX S (ds' := [(.v (.pointer (some ⟨ch5.1, 0, none⟩))), (.agg [.ints .u8 (gt x2 y43) 20])]) (ds := [(.v (.pointer (some ⟨ch5.1, 0, none⟩))), (.agg [.ints .u8 (gt x2 y43) 20])]) [Res.cells ch5.1 72 [.rf (.iface 68 (.agg (cellsOf [.sl ch5.2.1 (t5.1).length ch5.2.2.1 (RdS Y39 ch5.2.1 t5.1)]).toArray)) (IfR [.sl ch5.2.1 (t5.1).length ch5.2.2.1 (RdS Y39 ch5.2.1 t5.1)]), .one (.map (some g6)), .one (.int .i64 t5.2.2.1), .one (.slice A4 nn4 cp4), .one (.slice A5 nn5 cp5), .one (.slice A6 nn6 cp6)], Res.map true (Ty.arr .u8 20) false (Ty.pid G4) g6 y44, Res.fam (Res.struct (YE76 G5 G6) 76) (one_struct _ _) G4 [] y45, Res.fam (fun g_ kvs_ => Res.map true (Ty.arr .u64 4) true (Ty.arr .u64 4) g_ kvs_) (one_map true (Ty.arr .u64 4) true (Ty.arr .u64 4)) G5 [] y46, Res.fam (fun g_ kvs_ => Res.map true (Ty.arr .u64 4) false Ty.bool g_ kvs_) (one_map true (Ty.arr .u64 4) false Ty.bool) G6 [] y47, Res.row Y51 51 A4 nn4 cp4 y48, Res.row (YC ch5.1 G4 G5 G6) 1 A5 nn5 cp5 y49, Res.row (Ty.arr .u8 20) 31 A6 nn6 cp6 y50] [Res.cells g7 31 [.ints .u8 (gt x2 y43) 20]] (fun (ch : W7) => ((.agg [.ints .u64 t9.1 4]) : D)) (fun (ch : W7) => [Res.cells ch5.1 72 [.rf (.iface 68 (.agg (cellsOf [.sl ch5.2.1 (t5.1).length ch5.2.2.1 (RdS Y39 ch5.2.1 t5.1)]).toArray)) (IfR [.sl ch5.2.1 (t5.1).length ch5.2.2.1 (RdS Y39 ch5.2.1 t5.1)]), .one (.map (some ch.1)), .one (.int .i64 t5.2.2.1), .one (.slice ch.2.2.2.2.1 ch.2.2.2.2.2.1 ch.2.2.2.2.2.2.1), .one (.slice ch.2.2.2.2.2.2.2.1 ch.2.2.2.2.2.2.2.2.1 ch.2.2.2.2.2.2.2.2.2.1), .one (.slice ch.2.2.2.2.2.2.2.2.2.2.1 ch.2.2.2.2.2.2.2.2.2.2.2.1 ch.2.2.2.2.2.2.2.2.2.2.2.2)], Res.map true (Ty.arr .u8 20) false (Ty.pid ch.2.1) ch.1 t9.2.2.1.1, Res.fam (Res.struct (YE76 ch.2.2.1 ch.2.2.2.1) 76) (one_struct _ _) ch.2.1 [] t9.2.2.1.2.1, Res.fam (fun g_ kvs_ => Res.map true (Ty.arr .u64 4) true (Ty.arr .u64 4) g_ kvs_) (one_map true (Ty.arr .u64 4) true (Ty.arr .u64 4)) ch.2.2.1 [] t9.2.2.1.2.2.1, Res.fam (fun g_ kvs_ => Res.map true (Ty.arr .u64 4) false Ty.bool g_ kvs_) (one_map true (Ty.arr .u64 4) false Ty.bool) ch.2.2.2.1 [] t9.2.2.1.2.2.2, Res.row Y51 51 ch.2.2.2.2.1 ch.2.2.2.2.2.1 ch.2.2.2.2.2.2.1 t9.2.2.2.2.1, Res.row (YC ch5.1 ch.2.1 ch.2.2.1 ch.2.2.2.1) 1 ch.2.2.2.2.2.2.2.1 ch.2.2.2.2.2.2.2.2.1 ch.2.2.2.2.2.2.2.2.2.1 t9.2.2.2.2.2.1, Res.row (Ty.arr .u8 20) 31 ch.2.2.2.2.2.2.2.2.2.2.1 ch.2.2.2.2.2.2.2.2.2.2.2.1 ch.2.2.2.2.2.2.2.2.2.2.2.2 t9.2.2.2.2.2.2]) (fun (ch : W7) => [Res.cells ch5.1 72 [.rf (.iface 68 (.agg (cellsOf [.sl ch5.2.1 (t5.1).length ch5.2.2.1 (RdS Y39 ch5.2.1 t5.1)]).toArray)) (IfR [.sl ch5.2.1 (t5.1).length ch5.2.2.1 (RdS Y39 ch5.2.1 t5.1)]), .one (.map (some ch.1)), .one (.int .i64 t5.2.2.1), .one (.slice ch.2.2.2.2.1 ch.2.2.2.2.2.1 ch.2.2.2.2.2.2.1), .one (.slice ch.2.2.2.2.2.2.2.1 ch.2.2.2.2.2.2.2.2.1 ch.2.2.2.2.2.2.2.2.2.1), .one (.slice ch.2.2.2.2.2.2.2.2.2.2.1 ch.2.2.2.2.2.2.2.2.2.2.2.1 ch.2.2.2.2.2.2.2.2.2.2.2.2)], Res.map true (Ty.arr .u8 20) false (Ty.pid ch.2.1) ch.1 t9.2.2.1.1, Res.fam (Res.struct (YE76 ch.2.2.1 ch.2.2.2.1) 76) (one_struct _ _) ch.2.1 [] t9.2.2.1.2.1, Res.fam (fun g_ kvs_ => Res.map true (Ty.arr .u64 4) true (Ty.arr .u64 4) g_ kvs_) (one_map true (Ty.arr .u64 4) true (Ty.arr .u64 4)) ch.2.2.1 [] t9.2.2.1.2.2.1, Res.fam (fun g_ kvs_ => Res.map true (Ty.arr .u64 4) false Ty.bool g_ kvs_) (one_map true (Ty.arr .u64 4) false Ty.bool) ch.2.2.2.1 [] t9.2.2.1.2.2.2, Res.row Y51 51 ch.2.2.2.2.1 ch.2.2.2.2.2.1 ch.2.2.2.2.2.2.1 t9.2.2.2.2.1, Res.row (YC ch5.1 ch.2.1 ch.2.2.1 ch.2.2.2.1) 1 ch.2.2.2.2.2.2.2.1 ch.2.2.2.2.2.2.2.2.1 ch.2.2.2.2.2.2.2.2.2.1 t9.2.2.2.2.2.1, Res.row (Ty.arr .u8 20) 31 ch.2.2.2.2.2.2.2.2.2.2.1 ch.2.2.2.2.2.2.2.2.2.2.2.1 ch.2.2.2.2.2.2.2.2.2.2.2.2 t9.2.2.2.2.2.2, Res.cells g7 31 [.ints .u8 (gt x2 y43) 20]]) (fun _ => rfl) N12 rfl rfl (fun ok => ok) (.cons (.there .here) (.cons (.there .here) (.cons (.there .here) (.cons (.there .here) (.cons (.there .here) (.cons (.there .here) (.cons (.there .here) (.cons (.there .here) (.cons .here .nil))))))))) rfl (state_State_Balance.ok k ((t5.1), (y44, y45, y46, y47), t5.2.2.1, y48, y49, y50) (gt x2 y43) ch5.1 ch5.2.1 ch5.2.2.1 g6 G4 G5 G6 A4 nn4 cp4 A5 nn5 cp5 A6 nn6 cp6 t9 et9 _ _) ?_; clear S a w; intro ch12 m le1 a w S
       refine c_end' ?_
       refine x_blockN ?_
       refine x_thenN ?_
       refine c_region' ?_
       refine s_bin S rfl rfl rfl rfl ?_; clear S a; intro a S
       refine s_move S rfl rfl ?_; clear S a; intro a S
       refine c_end' ?_
       refine x_thenN ?_
       exact ⟨_, (wr .i64 (y43 + 1)), ch12.1, t9.2.2.1.1, ch12.2.1, ch12.2.2.1, ch12.2.2.2.1, t9.2.2.1.2.1, t9.2.2.1.2.2.1, t9.2.2.1.2.2.2, ch12.2.2.2.2.1, ch12.2.2.2.2.2.1, ch12.2.2.2.2.2.2.1, t9.2.2.2.2.1, ch12.2.2.2.2.2.2.2.1, ch12.2.2.2.2.2.2.2.2.1, ch12.2.2.2.2.2.2.2.2.2.1, t9.2.2.2.2.2.1, ch12.2.2.2.2.2.2.2.2.2.2.1, ch12.2.2.2.2.2.2.2.2.2.2.2.1, ch12.2.2.2.2.2.2.2.2.2.2.2.2, t9.2.2.2.2.2.2, (S.sub (subR rfl) (.cons .here (.cons .here (.cons .here (.cons .here (.cons .here (.cons .here (.cons .here (.cons .here .nil))))))))), h3⟩
      ·refine c_condF S rfl c3 ?_
       refine wp_exit ?_
       refine x_thenX ?_
       refine x_thenX ?_
       refine x_blockX ?_
       refine x_thenN ?_
       exact j3 _ g6 y44 G4 G5 G6 y45 y46 y47 A4 nn4 cp4 y48 A5 nn5 cp5 y49 A6 nn6 cp6 y50 a w (S.sub ⟨rfl, trivial⟩ (.cons .here (.cons .here (.cons .here (.cons .here (.cons .here (.cons .here (.cons .here (.cons .here .nil))))))))) h1
    refine c_region ?_
    refine s_move S rfl rfl ?_; clear S a; intro a S
    refine s_lenS S rfl Try.underlying23 rfl ?_; clear S a; intro a S
    refine s_move S rfl rfl ?_; clear S a; intro a S
    refine c_end ?_
    refine wp_block ?_
    replace S := S.nilrow (Ty.arr .u8 20) 31
    refine c_loop (fun q2 a w => ∃ (m : Mem) (A7 : Option Addr) (nn13 : Nat) (cp13 : Nat) (y66 : List (List Int)) (y67 : Int) (g8 : Nat) (y68 : List ((List Int) × Option Nat)) (G7 : List Nat) (G8 : List Nat) (G9 : List Nat) (y69 : List L76) (y70 : List (List ((List Int) × (List Int)))) (y71 : List (List ((List Int) × Bool))) (A8 : Option Addr) (nn14 : Nat) (cp14 : Nat) (y72 : List L51) (A9 : Option Addr) (nn15 : Nat) (cp15 : Nat) (y73 : List Clo) (A10 : Option Addr) (nn16 : Nat) (cp16 : Nat) (y74 : List (List Int)), St 111 m b0 [(6, (.v (.slice A7 nn13 cp13))), (39, (.v (.int .i64 y67))), (38, (.v (.int .i64 ((x2).length : Int)))), (37, (.sl ch_1_0 (x2).length ch_1_1 (RdS (Ty.arr .u8 20) ch_1_0 x2))), (5, (.v (.pointer (some ⟨ch2.1, 0, none⟩)))), (0, (.sl ch_0_0 (x1).length ch_0_1 (RdS Y39 ch_0_0 x1))), (1, (.sl ch_1_0 (x2).length ch_1_1 (RdS (Ty.arr .u8 20) ch_1_0 x2)))] [Res.row (Ty.arr .u8 20) 31 A7 nn13 cp13 y66, Res.cells ch2.1 72 [.rf (.iface 29 (.agg (cellsOf [.sl ch2.2.1 (t2.1).length ch2.2.2.1 (RdS Y39 ch2.2.1 t2.1)]).toArray)) (IfR [.sl ch2.2.1 (t2.1).length ch2.2.2.1 (RdS Y39 ch2.2.1 t2.1)]), .one (.map (some g8)), .one (.int .i64 t2.2.2.1), .one (.slice A8 nn14 cp14), .one (.slice A9 nn15 cp15), .one (.slice A10 nn16 cp16)], Res.map true (Ty.arr .u8 20) false (Ty.pid G7) g8 y68, Res.fam (Res.struct (YE76 G8 G9) 76) (one_struct _ _) G7 [] y69, Res.fam (fun g_ kvs_ => Res.map true (Ty.arr .u64 4) true (Ty.arr .u64 4) g_ kvs_) (one_map true (Ty.arr .u64 4) true (Ty.arr .u64 4)) G8 [] y70, Res.fam (fun g_ kvs_ => Res.map true (Ty.arr .u64 4) false Ty.bool g_ kvs_) (one_map true (Ty.arr .u64 4) false Ty.bool) G9 [] y71, Res.row Y51 51 A8 nn14 cp14 y72, Res.row (YC ch2.1 G7 G8 G9) 1 A9 nn15 cp15 y73, Res.row (Ty.arr .u8 20) 31 A10 nn16 cp16 y74] a w ∧ smithylaw14_StateMissing.l2 k x1 x2 t2 q2 y66 y67 y68 y69 y70 y71 y72 y73 y74 = some r) ?_ ?_ (k := k) ⟨_, none, 0, 0, ([] : List (List Int)), 0, ch2.2.2.2.1, t2.2.1.1, ch2.2.2.2.2.1, ch2.2.2.2.2.2.1, ch2.2.2.2.2.2.2.1, t2.2.1.2.1, t2.2.1.2.2.1, t2.2.1.2.2.2, ch2.2.2.2.2.2.2.2.1, ch2.2.2.2.2.2.2.2.2.1, ch2.2.2.2.2.2.2.2.2.2.1, t2.2.2.2.1, ch2.2.2.2.2.2.2.2.2.2.2.1, ch2.2.2.2.2.2.2.2.2.2.2.2.1, ch2.2.2.2.2.2.2.2.2.2.2.2.2.1, t2.2.2.2.2.1, ch2.2.2.2.2.2.2.2.2.2.2.2.2.2.1, ch2.2.2.2.2.2.2.2.2.2.2.2.2.2.2.1, ch2.2.2.2.2.2.2.2.2.2.2.2.2.2.2.2, t2.2.2.2.2.2, (S.sub (subR rfl) (.cons .here (.cons .here (.cons .here (.cons .here (.cons .here (.cons .here (.cons .here (.cons .here (.cons .here .nil)))))))))), h4⟩
    ·rintro a w ⟨m, A7, nn13, cp13, y66, y67, g8, y68, G7, G8, G9, y69, y70, y71, A8, nn14, cp14, y72, A9, nn15, cp15, y73, A10, nn16, cp16, y74, S, h0⟩
     exact (nomatch (show (none : Option Bool) = some r from h0))
    ·clear S h4
     rintro q2 a w ⟨m, A7, nn13, cp13, y66, y67, g8, y68, G7, G8, G9, y69, y70, y71, A8, nn14, cp14, y72, A9, nn15, cp15, y73, A10, nn16, cp16, y74, S, h0⟩
     replace h0 : smithylaw14_StateMissing.b2 k x1 x2 t2 (smithylaw14_StateMissing.l2 k x1 x2 t2 q2) y66 y67 y68 y69 y70 y71 y72 y73 y74 = some r := h0
     delta smithylaw14_StateMissing.b2 at h0
     refine c_region ?_
     refine s_bin S rfl rfl rfl rfl ?_; clear S a; intro a S
     refine c_end ?_
     refine wp_seq ?_
     rcases ite_of h0 with ⟨c5, h1⟩ | ⟨c5, h1⟩ <;> clear h0
     ·refine c_condT S rfl c5 ?_
      refine wp_skip ?_
      refine x_thenN ?_
      refine wp_seq ?_
      refine wp_block ?_
      refine c_region ?_
      obtain ⟨c6, h2⟩ := chk_of h1; clear h1
      refine s_iaddrS S rfl rfl rfl Try.underlying23 T31 c6.1 c6.2 rfl ?_; clear S a; intro p2 a S
      refine s_ldA S (fun (c : Unit) => [.ints .u8 (gt x2 y67) 20]) rfl T31 (fun _ => rfl) rfl ?_; clear S a; intro ch17 a S
      refine s_alloc S Z31 rfl ⟨rfl, trivial⟩ rfl ?_; clear S a w; intro g9 a w S
      refine s_store S rfl rfl rfl (s' := [.ints .u8 (gt x2 y67) 20]) .here T31 rfl rfl ?_; clear S w; intro w S
      refine c_end ?_
      refine c_region ?_
      refine s_move S rfl rfl ?_; clear S a; intro a S
      refine s_loada S rfl .here T31 (s' := [.ints .u8 (gt x2 y67) 20]) rfl rfl ?_; clear S a; intro a S
      obtain ⟨t12, et12, h3⟩ := bind_of h2; clear h2
      refine s_callX S (ds' := [(.v (.pointer (some ⟨ch2.1, 0, none⟩))), (.agg [.ints .u8 (gt x2 y67) 20])]) (ds := [(.v (.pointer (some ⟨ch2.1, 0, none⟩))), (.agg [.ints .u8 (gt x2 y67) 20])]) [Res.cells ch2.1 72 [.rf (.iface 29 (.agg (cellsOf [.sl ch2.2.1 (t2.1).length ch2.2.2.1 (RdS Y39 ch2.2.1 t2.1)]).toArray)) (IfR [.sl ch2.2.1 (t2.1).length ch2.2.2.1 (RdS Y39 ch2.2.1 t2.1)]), .one (.map (some g8)), .one (.int .i64 t2.2.2.1), .one (.slice A8 nn14 cp14), .one (.slice A9 nn15 cp15), .one (.slice A10 nn16 cp16)], Res.map true (Ty.arr .u8 20) false (Ty.pid G7) g8 y68, Res.fam (Res.struct (YE76 G8 G9) 76) (one_struct _ _) G7 [] y69, Res.fam (fun g_ kvs_ => Res.map true (Ty.arr .u64 4) true (Ty.arr .u64 4) g_ kvs_) (one_map true (Ty.arr .u64 4) true (Ty.arr .u64 4)) G8 [] y70, Res.fam (fun g_ kvs_ => Res.map true (Ty.arr .u64 4) false Ty.bool g_ kvs_) (one_map true (Ty.arr .u64 4) false Ty.bool) G9 [] y71, Res.row Y51 51 A8 nn14 cp14 y72, Res.row (YC ch2.1 G7 G8 G9) 1 A9 nn15 cp15 y73, Res.row (Ty.arr .u8 20) 31 A10 nn16 cp16 y74] [Res.cells g9 31 [.ints .u8 (gt x2 y67) 20], Res.row (Ty.arr .u8 20) 31 A7 nn13 cp13 y66] (fun (ch : W7) => ((.v (.int .u64 t12.1)) : D)) (fun (ch : W7) => [Res.cells ch2.1 72 [.rf (.iface 29 (.agg (cellsOf [.sl ch2.2.1 (t2.1).length ch2.2.2.1 (RdS Y39 ch2.2.1 t2.1)]).toArray)) (IfR [.sl ch2.2.1 (t2.1).length ch2.2.2.1 (RdS Y39 ch2.2.1 t2.1)]), .one (.map (some ch.1)), .one (.int .i64 t2.2.2.1), .one (.slice ch.2.2.2.2.1 ch.2.2.2.2.2.1 ch.2.2.2.2.2.2.1), .one (.slice ch.2.2.2.2.2.2.2.1 ch.2.2.2.2.2.2.2.2.1 ch.2.2.2.2.2.2.2.2.2.1), .one (.slice ch.2.2.2.2.2.2.2.2.2.2.1 ch.2.2.2.2.2.2.2.2.2.2.2.1 ch.2.2.2.2.2.2.2.2.2.2.2.2)], Res.map true (Ty.arr .u8 20) false (Ty.pid ch.2.1) ch.1 t12.2.2.1.1, Res.fam (Res.struct (YE76 ch.2.2.1 ch.2.2.2.1) 76) (one_struct _ _) ch.2.1 [] t12.2.2.1.2.1, Res.fam (fun g_ kvs_ => Res.map true (Ty.arr .u64 4) true (Ty.arr .u64 4) g_ kvs_) (one_map true (Ty.arr .u64 4) true (Ty.arr .u64 4)) ch.2.2.1 [] t12.2.2.1.2.2.1, Res.fam (fun g_ kvs_ => Res.map true (Ty.arr .u64 4) false Ty.bool g_ kvs_) (one_map true (Ty.arr .u64 4) false Ty.bool) ch.2.2.2.1 [] t12.2.2.1.2.2.2, Res.row Y51 51 ch.2.2.2.2.1 ch.2.2.2.2.2.1 ch.2.2.2.2.2.2.1 t12.2.2.2.2.1, Res.row (YC ch2.1 ch.2.1 ch.2.2.1 ch.2.2.2.1) 1 ch.2.2.2.2.2.2.2.1 ch.2.2.2.2.2.2.2.2.1 ch.2.2.2.2.2.2.2.2.2.1 t12.2.2.2.2.2.1, Res.row (Ty.arr .u8 20) 31 ch.2.2.2.2.2.2.2.2.2.2.1 ch.2.2.2.2.2.2.2.2.2.2.2.1 ch.2.2.2.2.2.2.2.2.2.2.2.2 t12.2.2.2.2.2.2]) (fun (ch : W7) => [Res.cells ch2.1 72 [.rf (.iface 29 (.agg (cellsOf [.sl ch2.2.1 (t2.1).length ch2.2.2.1 (RdS Y39 ch2.2.1 t2.1)]).toArray)) (IfR [.sl ch2.2.1 (t2.1).length ch2.2.2.1 (RdS Y39 ch2.2.1 t2.1)]), .one (.map (some ch.1)), .one (.int .i64 t2.2.2.1), .one (.slice ch.2.2.2.2.1 ch.2.2.2.2.2.1 ch.2.2.2.2.2.2.1), .one (.slice ch.2.2.2.2.2.2.2.1 ch.2.2.2.2.2.2.2.2.1 ch.2.2.2.2.2.2.2.2.2.1), .one (.slice ch.2.2.2.2.2.2.2.2.2.2.1 ch.2.2.2.2.2.2.2.2.2.2.2.1 ch.2.2.2.2.2.2.2.2.2.2.2.2)], Res.map true (Ty.arr .u8 20) false (Ty.pid ch.2.1) ch.1 t12.2.2.1.1, Res.fam (Res.struct (YE76 ch.2.2.1 ch.2.2.2.1) 76) (one_struct _ _) ch.2.1 [] t12.2.2.1.2.1, Res.fam (fun g_ kvs_ => Res.map true (Ty.arr .u64 4) true (Ty.arr .u64 4) g_ kvs_) (one_map true (Ty.arr .u64 4) true (Ty.arr .u64 4)) ch.2.2.1 [] t12.2.2.1.2.2.1, Res.fam (fun g_ kvs_ => Res.map true (Ty.arr .u64 4) false Ty.bool g_ kvs_) (one_map true (Ty.arr .u64 4) false Ty.bool) ch.2.2.2.1 [] t12.2.2.1.2.2.2, Res.row Y51 51 ch.2.2.2.2.1 ch.2.2.2.2.2.1 ch.2.2.2.2.2.2.1 t12.2.2.2.2.1, Res.row (YC ch2.1 ch.2.1 ch.2.2.1 ch.2.2.2.1) 1 ch.2.2.2.2.2.2.2.1 ch.2.2.2.2.2.2.2.2.1 ch.2.2.2.2.2.2.2.2.2.1 t12.2.2.2.2.2.1, Res.row (Ty.arr .u8 20) 31 ch.2.2.2.2.2.2.2.2.2.2.1 ch.2.2.2.2.2.2.2.2.2.2.2.1 ch.2.2.2.2.2.2.2.2.2.2.2.2 t12.2.2.2.2.2.2, Res.cells g9 31 [.ints .u8 (gt x2 y67) 20], Res.row (Ty.arr .u8 20) 31 A7 nn13 cp13 y66]) (fun _ => rfl) N8 rfl rfl (fun ok => ok) (.cons (.there (.there .here)) (.cons (.there (.there .here)) (.cons (.there (.there .here)) (.cons (.there (.there .here)) (.cons (.there (.there .here)) (.cons (.there (.there .here)) (.cons (.there (.there .here)) (.cons (.there (.there .here)) (.cons .here (.cons .here .nil)))))))))) rfl (state_State_Nonce.ok k ((t2.1), (y68, y69, y70, y71), t2.2.2.1, y72, y73, y74) (gt x2 y67) ch2.1 ch2.2.1 ch2.2.2.1 g8 G7 G8 G9 A8 nn14 cp14 A9 nn15 cp15 A10 nn16 cp16 t12 et12 _ _) ?_; clear S a w; intro ch18 m le1 a w S
      refine c_end ?_
      refine wp_seq_k ?_
      intro K4 hK4
      have j4 : ∀ (m : Mem) (A11 : Option Addr) (nn17 : Nat) (cp17 : Nat) (y76 : List (List Int)) (a : Act) (w : World), St 111 m b0 [(6, (.v (.slice A11 nn17 cp17))), (39, (.v (.int .i64 y67))), (38, (.v (.int .i64 ((x2).length : Int)))), (37, (.sl ch_1_0 (x2).length ch_1_1 (RdS (Ty.arr .u8 20) ch_1_0 x2))), (5, (.v (.pointer (some ⟨ch2.1, 0, none⟩)))), (0, (.sl ch_0_0 (x1).length ch_0_1 (RdS Y39 ch_0_0 x1))), (1, (.sl ch_1_0 (x2).length ch_1_1 (RdS (Ty.arr .u8 20) ch_1_0 x2)))] [Res.row (Ty.arr .u8 20) 31 A11 nn17 cp17 y76, Res.cells ch2.1 72 [.rf (.iface 29 (.agg (cellsOf [.sl ch2.2.1 (t2.1).length ch2.2.2.1 (RdS Y39 ch2.2.1 t2.1)]).toArray)) (IfR [.sl ch2.2.1 (t2.1).length ch2.2.2.1 (RdS Y39 ch2.2.1 t2.1)]), .one (.map (some ch18.1)), .one (.int .i64 t2.2.2.1), .one (.slice ch18.2.2.2.2.1 ch18.2.2.2.2.2.1 ch18.2.2.2.2.2.2.1), .one (.slice ch18.2.2.2.2.2.2.2.1 ch18.2.2.2.2.2.2.2.2.1 ch18.2.2.2.2.2.2.2.2.2.1), .one (.slice ch18.2.2.2.2.2.2.2.2.2.2.1 ch18.2.2.2.2.2.2.2.2.2.2.2.1 ch18.2.2.2.2.2.2.2.2.2.2.2.2)], Res.map true (Ty.arr .u8 20) false (Ty.pid ch18.2.1) ch18.1 t12.2.2.1.1, Res.fam (Res.struct (YE76 ch18.2.2.1 ch18.2.2.2.1) 76) (one_struct _ _) ch18.2.1 [] t12.2.2.1.2.1, Res.fam (fun g_ kvs_ => Res.map true (Ty.arr .u64 4) true (Ty.arr .u64 4) g_ kvs_) (one_map true (Ty.arr .u64 4) true (Ty.arr .u64 4)) ch18.2.2.1 [] t12.2.2.1.2.2.1, Res.fam (fun g_ kvs_ => Res.map true (Ty.arr .u64 4) false Ty.bool g_ kvs_) (one_map true (Ty.arr .u64 4) false Ty.bool) ch18.2.2.2.1 [] t12.2.2.1.2.2.2, Res.row Y51 51 ch18.2.2.2.2.1 ch18.2.2.2.2.2.1 ch18.2.2.2.2.2.2.1 t12.2.2.2.2.1, Res.row (YC ch2.1 ch18.2.1 ch18.2.2.1 ch18.2.2.2.1) 1 ch18.2.2.2.2.2.2.2.1 ch18.2.2.2.2.2.2.2.2.1 ch18.2.2.2.2.2.2.2.2.2.1 t12.2.2.2.2.2.1, Res.row (Ty.arr .u8 20) 31 ch18.2.2.2.2.2.2.2.2.2.2.1 ch18.2.2.2.2.2.2.2.2.2.2.2.1 ch18.2.2.2.2.2.2.2.2.2.2.2.2 t12.2.2.2.2.2.2] a w → smithylaw14_StateMissing.j4 t2 y67 (smithylaw14_StateMissing.l2 k x1 x2 t2 q2) t12 y76 = some r → K4 a w := by
       intro m A11 nn17 cp17 y76 a w S h0
       delta smithylaw14_StateMissing.j4 at h0
       refine hK4 a w ?_
       refine c_region ?_
       refine s_move S rfl rfl ?_; clear S a; intro a S
       obtain ⟨t13, et13, h1⟩ := bind_of h0; clear h0
       refine s_callX S (ds' := [(.v (.pointer (some ⟨ch2.1, 0, none⟩)))]) (ds := [(.v (.pointer (some ⟨ch2.1, 0, none⟩)))]) [Res.cells ch2.1 72 [.rf (.iface 29 (.agg (cellsOf [.sl ch2.2.1 (t2.1).length ch2.2.2.1 (RdS Y39 ch2.2.1 t2.1)]).toArray)) (IfR [.sl ch2.2.1 (t2.1).length ch2.2.2.1 (RdS Y39 ch2.2.1 t2.1)]), .one (.map (some ch18.1)), .one (.int .i64 t2.2.2.1), .one (.slice ch18.2.2.2.2.1 ch18.2.2.2.2.2.1 ch18.2.2.2.2.2.2.1), .one (.slice ch18.2.2.2.2.2.2.2.1 ch18.2.2.2.2.2.2.2.2.1 ch18.2.2.2.2.2.2.2.2.2.1), .one (.slice ch18.2.2.2.2.2.2.2.2.2.2.1 ch18.2.2.2.2.2.2.2.2.2.2.2.1 ch18.2.2.2.2.2.2.2.2.2.2.2.2)], Res.map true (Ty.arr .u8 20) false (Ty.pid ch18.2.1) ch18.1 t12.2.2.1.1, Res.fam (Res.struct (YE76 ch18.2.2.1 ch18.2.2.2.1) 76) (one_struct _ _) ch18.2.1 [] t12.2.2.1.2.1, Res.fam (fun g_ kvs_ => Res.map true (Ty.arr .u64 4) true (Ty.arr .u64 4) g_ kvs_) (one_map true (Ty.arr .u64 4) true (Ty.arr .u64 4)) ch18.2.2.1 [] t12.2.2.1.2.2.1, Res.fam (fun g_ kvs_ => Res.map true (Ty.arr .u64 4) false Ty.bool g_ kvs_) (one_map true (Ty.arr .u64 4) false Ty.bool) ch18.2.2.2.1 [] t12.2.2.1.2.2.2, Res.row Y51 51 ch18.2.2.2.2.1 ch18.2.2.2.2.2.1 ch18.2.2.2.2.2.2.1 t12.2.2.2.2.1, Res.row (YC ch2.1 ch18.2.1 ch18.2.2.1 ch18.2.2.2.1) 1 ch18.2.2.2.2.2.2.2.1 ch18.2.2.2.2.2.2.2.2.1 ch18.2.2.2.2.2.2.2.2.2.1 t12.2.2.2.2.2.1, Res.row (Ty.arr .u8 20) 31 ch18.2.2.2.2.2.2.2.2.2.2.1 ch18.2.2.2.2.2.2.2.2.2.2.2.1 ch18.2.2.2.2.2.2.2.2.2.2.2.2 t12.2.2.2.2.2.2] [Res.row (Ty.arr .u8 20) 31 A11 nn17 cp17 y76] (fun (ch : Unit) => ((.tup [(true, [.ints .u8 t13.1 20]), (false, [.one (.bool t13.2)])]) : D)) (fun (ch : Unit) => [Res.cells ch2.1 72 [.rf (.iface 29 (.agg (cellsOf [.sl ch2.2.1 (t2.1).length ch2.2.2.1 (RdS Y39 ch2.2.1 t2.1)]).toArray)) (IfR [.sl ch2.2.1 (t2.1).length ch2.2.2.1 (RdS Y39 ch2.2.1 t2.1)]), .one (.map (some ch18.1)), .one (.int .i64 t2.2.2.1), .one (.slice ch18.2.2.2.2.1 ch18.2.2.2.2.2.1 ch18.2.2.2.2.2.2.1), .one (.slice ch18.2.2.2.2.2.2.2.1 ch18.2.2.2.2.2.2.2.2.1 ch18.2.2.2.2.2.2.2.2.2.1), .one (.slice ch18.2.2.2.2.2.2.2.2.2.2.1 ch18.2.2.2.2.2.2.2.2.2.2.2.1 ch18.2.2.2.2.2.2.2.2.2.2.2.2)], Res.map true (Ty.arr .u8 20) false (Ty.pid ch18.2.1) ch18.1 t12.2.2.1.1, Res.fam (Res.struct (YE76 ch18.2.2.1 ch18.2.2.2.1) 76) (one_struct _ _) ch18.2.1 [] t12.2.2.1.2.1, Res.fam (fun g_ kvs_ => Res.map true (Ty.arr .u64 4) true (Ty.arr .u64 4) g_ kvs_) (one_map true (Ty.arr .u64 4) true (Ty.arr .u64 4)) ch18.2.2.1 [] t12.2.2.1.2.2.1, Res.fam (fun g_ kvs_ => Res.map true (Ty.arr .u64 4) false Ty.bool g_ kvs_) (one_map true (Ty.arr .u64 4) false Ty.bool) ch18.2.2.2.1 [] t12.2.2.1.2.2.2, Res.row Y51 51 ch18.2.2.2.2.1 ch18.2.2.2.2.2.1 ch18.2.2.2.2.2.2.1 t12.2.2.2.2.1, Res.row (YC ch2.1 ch18.2.1 ch18.2.2.1 ch18.2.2.2.1) 1 ch18.2.2.2.2.2.2.2.1 ch18.2.2.2.2.2.2.2.2.1 ch18.2.2.2.2.2.2.2.2.2.1 t12.2.2.2.2.2.1, Res.row (Ty.arr .u8 20) 31 ch18.2.2.2.2.2.2.2.2.2.2.1 ch18.2.2.2.2.2.2.2.2.2.2.2.1 ch18.2.2.2.2.2.2.2.2.2.2.2.2 t12.2.2.2.2.2.2]) (fun (ch : Unit) => [Res.cells ch2.1 72 [.rf (.iface 29 (.agg (cellsOf [.sl ch2.2.1 (t2.1).length ch2.2.2.1 (RdS Y39 ch2.2.1 t2.1)]).toArray)) (IfR [.sl ch2.2.1 (t2.1).length ch2.2.2.1 (RdS Y39 ch2.2.1 t2.1)]), .one (.map (some ch18.1)), .one (.int .i64 t2.2.2.1), .one (.slice ch18.2.2.2.2.1 ch18.2.2.2.2.2.1 ch18.2.2.2.2.2.2.1), .one (.slice ch18.2.2.2.2.2.2.2.1 ch18.2.2.2.2.2.2.2.2.1 ch18.2.2.2.2.2.2.2.2.2.1), .one (.slice ch18.2.2.2.2.2.2.2.2.2.2.1 ch18.2.2.2.2.2.2.2.2.2.2.2.1 ch18.2.2.2.2.2.2.2.2.2.2.2.2)], Res.map true (Ty.arr .u8 20) false (Ty.pid ch18.2.1) ch18.1 t12.2.2.1.1, Res.fam (Res.struct (YE76 ch18.2.2.1 ch18.2.2.2.1) 76) (one_struct _ _) ch18.2.1 [] t12.2.2.1.2.1, Res.fam (fun g_ kvs_ => Res.map true (Ty.arr .u64 4) true (Ty.arr .u64 4) g_ kvs_) (one_map true (Ty.arr .u64 4) true (Ty.arr .u64 4)) ch18.2.2.1 [] t12.2.2.1.2.2.1, Res.fam (fun g_ kvs_ => Res.map true (Ty.arr .u64 4) false Ty.bool g_ kvs_) (one_map true (Ty.arr .u64 4) false Ty.bool) ch18.2.2.2.1 [] t12.2.2.1.2.2.2, Res.row Y51 51 ch18.2.2.2.2.1 ch18.2.2.2.2.2.1 ch18.2.2.2.2.2.2.1 t12.2.2.2.2.1, Res.row (YC ch2.1 ch18.2.1 ch18.2.2.1 ch18.2.2.2.1) 1 ch18.2.2.2.2.2.2.2.1 ch18.2.2.2.2.2.2.2.2.1 ch18.2.2.2.2.2.2.2.2.2.1 t12.2.2.2.2.2.1, Res.row (Ty.arr .u8 20) 31 ch18.2.2.2.2.2.2.2.2.2.2.1 ch18.2.2.2.2.2.2.2.2.2.2.2.1 ch18.2.2.2.2.2.2.2.2.2.2.2.2 t12.2.2.2.2.2.2, Res.row (Ty.arr .u8 20) 31 A11 nn17 cp17 y76]) (fun _ => rfl) N10 rfl rfl (fun ok => ok) (.cons (.there .here) (.cons (.there .here) (.cons (.there .here) (.cons (.there .here) (.cons (.there .here) (.cons (.there .here) (.cons (.there .here) (.cons (.there .here) (.cons .here .nil))))))))) rfl (state_State_Missing.ok ((t2.1), t12.2.2.1, t2.2.2.1, t12.2.2.2.2.1, t12.2.2.2.2.2.1, t12.2.2.2.2.2.2) ch2.1 ch2.2.1 ch2.2.2.1 ch18.1 ch18.2.1 ch18.2.2.1 ch18.2.2.2.1 ch18.2.2.2.2.1 ch18.2.2.2.2.2.1 ch18.2.2.2.2.2.2.1 ch18.2.2.2.2.2.2.2.1 ch18.2.2.2.2.2.2.2.2.1 ch18.2.2.2.2.2.2.2.2.2.1 ch18.2.2.2.2.2.2.2.2.2.2.1 ch18.2.2.2.2.2.2.2.2.2.2.2.1 ch18.2.2.2.2.2.2.2.2.2.2.2.2 t13 et13 _ _) ?_; clear S a w; intro ch19 m le1 a w S
       refine s_move S rfl rfl ?_; clear S a; intro a S
       refine s_extract S rfl rfl rfl rfl ?_; clear S a; intro a S
       refine s_extract S rfl rfl rfl rfl ?_; clear S a; intro a S
       refine s_alloc S Z31 rfl ⟨rfl, trivial⟩ rfl ?_; clear S a w; intro g13 a w S
       refine s_store S rfl rfl rfl (s' := [.ints .u8 t13.1 20]) .here T31 rfl rfl ?_; clear S w; intro w S
       refine s_assign S rfl rfl ?_; clear S a; intro a S
       refine c_end ?_
       refine wp_seq_k ?_
       intro K5 hK5
       have j5 : ∀ (m : Mem) (y77 : Bool) (a : Act) (w : World), St 111 m b0 [(89, (.v (.bool y77))), (6, (.v (.slice A11 nn17 cp17))), (39, (.v (.int .i64 y67))), (38, (.v (.int .i64 ((x2).length : Int)))), (37, (.sl ch_1_0 (x2).length ch_1_1 (RdS (Ty.arr .u8 20) ch_1_0 x2))), (5, (.v (.pointer (some ⟨ch2.1, 0, none⟩)))), (0, (.sl ch_0_0 (x1).length ch_0_1 (RdS Y39 ch_0_0 x1))), (1, (.sl ch_1_0 (x2).length ch_1_1 (RdS (Ty.arr .u8 20) ch_1_0 x2)))] [Res.cells ch2.1 72 [.rf (.iface 29 (.agg (cellsOf [.sl ch2.2.1 (t2.1).length ch2.2.2.1 (RdS Y39 ch2.2.1 t2.1)]).toArray)) (IfR [.sl ch2.2.1 (t2.1).length ch2.2.2.1 (RdS Y39 ch2.2.1 t2.1)]), .one (.map (some ch18.1)), .one (.int .i64 t2.2.2.1), .one (.slice ch18.2.2.2.2.1 ch18.2.2.2.2.2.1 ch18.2.2.2.2.2.2.1), .one (.slice ch18.2.2.2.2.2.2.2.1 ch18.2.2.2.2.2.2.2.2.1 ch18.2.2.2.2.2.2.2.2.2.1), .one (.slice ch18.2.2.2.2.2.2.2.2.2.2.1 ch18.2.2.2.2.2.2.2.2.2.2.2.1 ch18.2.2.2.2.2.2.2.2.2.2.2.2)], Res.map true (Ty.arr .u8 20) false (Ty.pid ch18.2.1) ch18.1 t12.2.2.1.1, Res.fam (Res.struct (YE76 ch18.2.2.1 ch18.2.2.2.1) 76) (one_struct _ _) ch18.2.1 [] t12.2.2.1.2.1, Res.fam (fun g_ kvs_ => Res.map true (Ty.arr .u64 4) true (Ty.arr .u64 4) g_ kvs_) (one_map true (Ty.arr .u64 4) true (Ty.arr .u64 4)) ch18.2.2.1 [] t12.2.2.1.2.2.1, Res.fam (fun g_ kvs_ => Res.map true (Ty.arr .u64 4) false Ty.bool g_ kvs_) (one_map true (Ty.arr .u64 4) false Ty.bool) ch18.2.2.2.1 [] t12.2.2.1.2.2.2, Res.row Y51 51 ch18.2.2.2.2.1 ch18.2.2.2.2.2.1 ch18.2.2.2.2.2.2.1 t12.2.2.2.2.1, Res.row (YC ch2.1 ch18.2.1 ch18.2.2.1 ch18.2.2.2.1) 1 ch18.2.2.2.2.2.2.2.1 ch18.2.2.2.2.2.2.2.2.1 ch18.2.2.2.2.2.2.2.2.2.1 t12.2.2.2.2.2.1, Res.row (Ty.arr .u8 20) 31 ch18.2.2.2.2.2.2.2.2.2.2.1 ch18.2.2.2.2.2.2.2.2.2.2.2.1 ch18.2.2.2.2.2.2.2.2.2.2.2.2 t12.2.2.2.2.2.2, Res.row (Ty.arr .u8 20) 31 A11 nn17 cp17 y76] a w → smithylaw14_StateMissing.j5 y67 (smithylaw14_StateMissing.l2 k x1 x2 t2 q2) t12 y76 y77 = some r → K5 a w := by
        intro m y77 a w S h0
        delta smithylaw14_StateMissing.j5 at h0
        refine hK5 a w ?_
        rcases ite_of h0 with ⟨c7, h1⟩ | ⟨c7, h1⟩ <;> clear h0
        ·refine c_condT S rfl c7 ?_
         refine c_region ?_
         refine s_assign S rfl rfl ?_; clear S a; intro a S
         refine c_end ?_
         refine wp_ret ?_
         refine x_blockR ?_
         refine x_thenR ?_
         refine x_thenR ?_
         refine x_blockR ?_
         refine x_thenR ?_
         obtain rfl := Option.some.inj h1
         exact b_ret1 (d := (.v (.bool false))) S rfl rfl fun ok => S.retX (Hx := []) hb _ _ (() : Unit) .nil ok
        ·refine c_condF S rfl c7 ?_
         refine wp_skip ?_
         refine x_blockN ?_
         refine x_thenN ?_
         refine c_region' ?_
         refine s_bin S rfl rfl rfl rfl ?_; clear S a; intro a S
         refine s_move S rfl rfl ?_; clear S a; intro a S
         refine c_end' ?_
         refine x_thenN ?_
         exact ⟨_, A11, nn17, cp17, y76, (wr .i64 (y67 + 1)), ch18.1, t12.2.2.1.1, ch18.2.1, ch18.2.2.1, ch18.2.2.2.1, t12.2.2.1.2.1, t12.2.2.1.2.2.1, t12.2.2.1.2.2.2, ch18.2.2.2.2.1, ch18.2.2.2.2.2.1, ch18.2.2.2.2.2.2.1, t12.2.2.2.2.1, ch18.2.2.2.2.2.2.2.1, ch18.2.2.2.2.2.2.2.2.1, ch18.2.2.2.2.2.2.2.2.2.1, t12.2.2.2.2.2.1, ch18.2.2.2.2.2.2.2.2.2.2.1, ch18.2.2.2.2.2.2.2.2.2.2.2.1, ch18.2.2.2.2.2.2.2.2.2.2.2.2, t12.2.2.2.2.2.2, (S.sub (subR rfl) (.cons (.there (.there (.there (.there (.there (.there (.there (.there .here)))))))) (.cons .here (.cons .here (.cons .here (.cons .here (.cons .here (.cons .here (.cons .here (.cons .here .nil)))))))))), h1⟩
       refine c_heldS S (.take 0 (.take 1 (.alts (.run 2 true (.take 3 (.take 4 (.take 5 (.take 6 (.take 7 (.take 8 (.take 9 (.alts (.run 10 true (.alts (.run 11 true (.take 12 (.take 13 (.take 14 (.take 15 (.take 16 (.take 17 (.take 18 (.take 19 (.take 20 (.take 21 (.take 22 (.take 23 .done)))))))))))) .nil)) .nil))))))))) .nil)))) 24 [Res.cells g13 31 [.ints .u8 t13.1 20], Res.cells ch2.1 72 [.rf (.iface 29 (.agg (cellsOf [.sl ch2.2.1 (t2.1).length ch2.2.2.1 (RdS Y39 ch2.2.1 t2.1)]).toArray)) (IfR [.sl ch2.2.1 (t2.1).length ch2.2.2.1 (RdS Y39 ch2.2.1 t2.1)]), .one (.map (some ch18.1)), .one (.int .i64 t2.2.2.1), .one (.slice ch18.2.2.2.2.1 ch18.2.2.2.2.2.1 ch18.2.2.2.2.2.2.1), .one (.slice ch18.2.2.2.2.2.2.2.1 ch18.2.2.2.2.2.2.2.2.1 ch18.2.2.2.2.2.2.2.2.2.1), .one (.slice ch18.2.2.2.2.2.2.2.2.2.2.1 ch18.2.2.2.2.2.2.2.2.2.2.2.1 ch18.2.2.2.2.2.2.2.2.2.2.2.2)], Res.row (Ty.arr .u8 20) 31 ch18.2.2.2.2.2.2.2.2.2.2.1 ch18.2.2.2.2.2.2.2.2.2.2.2.1 ch18.2.2.2.2.2.2.2.2.2.2.2.2 t12.2.2.2.2.2.2] (.cons .here (.cons .here (.cons (.there (.there (.there (.there (.there (.there .here)))))) .nil))) ⟨Res.stay_cells, Res.stay_cells, Res.stay_row flat_arr, trivial⟩ [(12, (.v (.bool t13.2))), (11, (.v (.pointer (some ⟨g13, 0, none⟩)))), (6, (.v (.slice A11 nn17 cp17)))] (subR rfl) (by kernel_rfl) (by kernel_rfl) ?_; clear S; intro w S CL hw le
       refine h_move S CL hw le (subR rfl) rfl rfl rfl trivial ?_; clear S CL a; intro a S CL
       refine h_move S CL hw le (subR rfl) rfl rfl rfl trivial ?_; clear S CL a; intro a S CL
       refine h_run' S rfl trivial ?_
       refine s_lenO S rfl (.there (.there (.there (.there (.there (.there (.there (.there (.there .here))))))))) Try.underlying23 rfl ?_; clear S a; intro a S
       replace hw := CL.again hw S (.cons .here (.cons .here (.cons (.there (.there (.there (.there (.there (.there .here)))))) .nil))) le
       refine h_back ⟨fun _ => hw, ?_⟩
       replace CL := CL.add (t := 68) (d := (.v (.int .i64 ((y76).length : Int)))) S rfl rfl
       refine h_bin S CL hw le (subR rfl) rfl rfl rfl rfl rfl trivial ?_; clear S CL a; intro a S CL
       refine h_neb S CL hw le (subR rfl) rfl rfl Try.underlying4 rfl rfl trivial ?_; clear S CL a; intro a S CL
       refine h_move S CL hw le (subR rfl) rfl rfl rfl trivial ?_; clear S CL a; intro a S CL
       rcases ite_of h1 with ⟨c8, h2⟩ | ⟨c8, h2⟩ <;> clear h1
       ·refine h_skip S CL rfl rfl rfl (ne_bool c8) rfl ?_; clear S CL a; intro a S CL
        refine h_skip S CL rfl rfl rfl (ne_bool c8) rfl ?_; clear S CL a; intro a S CL
        refine h_skip S CL rfl rfl rfl ne_undef rfl ?_; clear S CL a; intro a S CL
        refine h_skip S CL rfl rfl rfl ne_undef rfl ?_; clear S CL a; intro a S CL
        refine h_skipRt S rfl rfl rfl ne_undef rfl ?_; clear S a; intro a S
        replace hw := CL.again hw S (.cons .here (.cons .here (.cons (.there (.there (.there (.there (.there (.there .here)))))) .nil))) le
        refine h_back ⟨fun _ => hw, ?_⟩
        refine h_skipRt S rfl rfl rfl ne_undef rfl ?_; clear S a; intro a S
        replace hw := CL.again hw S (.cons .here (.cons .here (.cons (.there (.there (.there (.there (.there (.there .here)))))) .nil))) le
        refine h_back ⟨fun _ => hw, ?_⟩
        replace CL := CL.add (t := 77) (d := .u) S rfl rfl
        refine h_skip S CL rfl rfl rfl ne_undef rfl ?_; clear S CL a; intro a S CL
        refine h_skip S CL rfl rfl rfl (ne_bool c8) rfl ?_; clear S CL a; intro a S CL
        refine h_pick S CL hw le (subR rfl) (b := true) (hc_of rfl c8) rfl rfl rfl trivial ?_; clear S CL a; intro a S CL
        refine h_move S CL hw le (subR rfl) rfl rfl rfl trivial ?_; clear S CL a; intro a S CL
        refine h_skip S CL rfl rfl rfl (ne_bool rfl) rfl ?_; clear S CL a; intro a S CL
        refine h_skip S CL rfl rfl rfl (ne_bool rfl) rfl ?_; clear S CL a; intro a S CL
        refine h_skip S CL rfl rfl rfl (ne_bool rfl) rfl ?_; clear S CL a; intro a S CL
        refine h_skip S CL rfl rfl rfl ne_undef rfl ?_; clear S CL a; intro a S CL
        refine h_skip S CL rfl rfl rfl ne_undef rfl ?_; clear S CL a; intro a S CL
        refine h_skip S CL rfl rfl rfl ne_undef rfl ?_; clear S CL a; intro a S CL
        refine h_skip S CL rfl rfl rfl (ne_bool rfl) rfl ?_; clear S CL a; intro a S CL
        refine h_pick S CL hw le (subR rfl) (b := true) (hc_of rfl rfl) rfl rfl rfl trivial ?_; clear S CL a; intro a S CL
        refine h_done ?_; clear CL hw le
        refine x_thenN ?_
        exact j5 _ true a w (S.sub (subR rfl) (.cons (.there .here) (.cons (.there .here) (.cons (.there .here) (.cons (.there .here) (.cons (.there .here) (.cons (.there .here) (.cons (.there .here) (.cons (.there .here) (.cons (.there .here) .nil)))))))))) h2
       ·refine h_move S CL hw le (subR rfl) rfl rfl rfl ⟨_, _, rfl, rfl, c8⟩ ?_; clear S CL a; intro a S CL
        refine h_move S CL hw le (subR rfl) rfl rfl rfl ⟨_, _, rfl, rfl, c8⟩ ?_; clear S CL a; intro a S CL
        rcases ite_of h2 with ⟨c9, h3⟩ | ⟨c9, h3⟩ <;> clear h2
        ·refine h_loada S CL hw le (subR rfl) rfl .here T31 (s' := [.ints .u8 t13.1 20]) rfl rfl rfl ⟨_, _, rfl, rfl, c9⟩ ?_; clear S CL a; intro a S CL
         refine h_move S CL hw le (subR rfl) rfl rfl rfl ⟨_, _, rfl, rfl, c9⟩ ?_; clear S CL a; intro a S CL
         refine h_run' S rfl ⟨_, _, rfl, rfl, c9⟩ ?_
         obtain ⟨c10, h4⟩ := chk_of h3; clear h3
         refine s_iaddrO S (ty' := (Ty.arr .u8 20)) rfl (.there (.there (.there (.there (.there (.there (.there (.there (.there .here))))))))) rfl Try.underlying23 T31 c10.1 c10.2 rfl ?_; clear S a; intro g15 a hA1 S
         replace hw := CL.again hw S (.cons .here (.cons .here (.cons (.there (.there (.there (.there (.there (.there .here)))))) .nil))) le
         refine h_back ⟨fun _ => hw, ?_⟩
         refine h_run' S rfl ⟨_, _, rfl, rfl, c9⟩ ?_
         refine s_ldRA S (ty' := (Ty.arr .u8 20)) (i := 0) (off := 0) (fun c => [.ints .u8 (gt y76 0) 20]) rfl hA1 (.there (.there (.there (.there (.there (.there (.there (.there (.there .here))))))))) T31 c10.1 c10.2 rfl (fun _ => rfl) rfl ?_; clear S a; intro ch20 a S
         replace hw := CL.again hw S (.cons .here (.cons .here (.cons (.there (.there (.there (.there (.there (.there .here)))))) .nil))) le
         refine h_back ⟨fun _ => hw, ?_⟩
         replace CL := CL.add (t := 77) (d := (.agg [.ints .u8 (gt y76 0) 20])) S rfl rfl
         refine h_nea S CL hw le (subR rfl) rfl rfl Try.underlying31 Try.underlying5 T5 Q31 rfl rfl ⟨_, _, rfl, rfl, c9⟩ ?_; clear S CL a; intro a S CL
         refine h_pick S CL hw le (subR rfl) (b := true) (hc_of rfl c9) rfl rfl rfl ⟨_, _, rfl, rfl, c8⟩ ?_; clear S CL a; intro a S CL
         refine h_pick S CL hw le (subR rfl) (b := false) (hc_of rfl c8) rfl rfl rfl trivial ?_; clear S CL a; intro a S CL
         refine h_move S CL hw le (subR rfl) rfl rfl rfl trivial ?_; clear S CL a; intro a S CL
         rcases ite_of h4 with ⟨c11, h5⟩ | ⟨c11, h5⟩ <;> clear h4
         ·refine h_skip S CL rfl rfl rfl (ne_bool c11) rfl ?_; clear S CL a; intro a S CL
          refine h_skip S CL rfl rfl rfl (ne_bool c11) rfl ?_; clear S CL a; intro a S CL
          refine h_skip S CL rfl rfl rfl (ne_bool c11) rfl ?_; clear S CL a; intro a S CL
          refine h_skip S CL rfl rfl rfl ne_undef rfl ?_; clear S CL a; intro a S CL
          refine h_skip S CL rfl rfl rfl ne_undef rfl ?_; clear S CL a; intro a S CL
          refine h_skip S CL rfl rfl rfl ne_undef rfl ?_; clear S CL a; intro a S CL
          refine h_skip S CL rfl rfl rfl (ne_bool c11) rfl ?_; clear S CL a; intro a S CL
          refine h_pick S CL hw le (subR rfl) (b := true) (hc_of rfl c11) rfl rfl rfl trivial ?_; clear S CL a; intro a S CL
          refine h_done ?_; clear CL hw le
          refine x_thenN ?_
          exact j5 _ true a w (S.sub (subR rfl) (.cons (.there .here) (.cons (.there .here) (.cons (.there .here) (.cons (.there .here) (.cons (.there .here) (.cons (.there .here) (.cons (.there .here) (.cons (.there .here) (.cons (.there .here) .nil)))))))))) h5
         ·refine h_move S CL hw le (subR rfl) rfl rfl rfl ⟨_, _, rfl, rfl, c11⟩ ?_; clear S CL a; intro a S CL
          refine h_not S CL hw le (subR rfl) rfl rfl rfl ⟨_, _, rfl, rfl, c11⟩ ?_; clear S CL a; intro a S CL
          refine h_move S CL hw le (subR rfl) rfl rfl rfl ⟨_, _, rfl, rfl, c11⟩ ?_; clear S CL a; intro a S CL
          rcases ite_of h5 with ⟨c12, h6⟩ | ⟨c12, h6⟩ <;> clear h5
          ·refine h_loada S CL hw le (subR rfl) rfl .here T31 (s' := [.ints .u8 t13.1 20]) rfl rfl rfl ⟨_, _, rfl, rfl, c12⟩ ?_; clear S CL a; intro a S CL
           refine h_build S CL hw le (subR rfl) (ds := []) (dv := (.agg [.ints .u8 [0, 0, 0, 0, 0, 0, 0, 0, 0, 0, 0, 0, 0, 0, 0, 0, 0, 0, 0, 0] 20])) rfl (fun _ => by kernel_rfl) ⟨rfl, trivial⟩ rfl rfl ⟨_, _, rfl, rfl, c12⟩ ?_; clear S CL a; intro a S CL
           refine h_nea S CL hw le (subR rfl) rfl rfl Try.underlying31 Try.underlying5 T5 Q31 rfl rfl ⟨_, _, rfl, rfl, c12⟩ ?_; clear S CL a; intro a S CL
           refine h_pick S CL hw le (subR rfl) (b := true) (hc_of rfl c12) rfl rfl rfl ⟨_, _, rfl, rfl, c11⟩ ?_; clear S CL a; intro a S CL
           refine h_pick S CL hw le (subR rfl) (b := false) (hc_of rfl c11) rfl rfl rfl trivial ?_; clear S CL a; intro a S CL
           refine h_done ?_; clear CL hw le
           refine x_thenN ?_
           exact j5 _ (!(decide (t13.1 = [0, 0, 0, 0, 0, 0, 0, 0, 0, 0, 0, 0, 0, 0, 0, 0, 0, 0, 0, 0]))) a w (S.sub (subR rfl) (.cons (.there .here) (.cons (.there .here) (.cons (.there .here) (.cons (.there .here) (.cons (.there .here) (.cons (.there .here) (.cons (.there .here) (.cons (.there .here) (.cons (.there .here) .nil)))))))))) h6
          ·refine h_skip S CL rfl rfl rfl (ne_bool c12) rfl ?_; clear S CL a; intro a S CL
           refine h_skip S CL rfl rfl rfl (ne_bool c12) rfl ?_; clear S CL a; intro a S CL
           refine h_skip S CL rfl rfl rfl (ne_bool c12) rfl ?_; clear S CL a; intro a S CL
           refine h_pick S CL hw le (subR rfl) (b := false) (hc_of rfl c12) rfl rfl rfl ⟨_, _, rfl, rfl, c11⟩ ?_; clear S CL a; intro a S CL
           refine h_pick S CL hw le (subR rfl) (b := false) (hc_of rfl c11) rfl rfl rfl trivial ?_; clear S CL a; intro a S CL
           refine h_done ?_; clear CL hw le
           refine x_thenN ?_
           exact j5 _ false a w (S.sub (subR rfl) (.cons (.there .here) (.cons (.there .here) (.cons (.there .here) (.cons (.there .here) (.cons (.there .here) (.cons (.there .here) (.cons (.there .here) (.cons (.there .here) (.cons (.there .here) .nil)))))))))) h6
        ·refine h_skip S CL rfl rfl rfl (ne_bool c9) rfl ?_; clear S CL a; intro a S CL
         refine h_skip S CL rfl rfl rfl (ne_bool c9) rfl ?_; clear S CL a; intro a S CL
         refine h_skipRt S rfl rfl rfl (ne_bool c9) rfl ?_; clear S a; intro a S
         replace hw := CL.again hw S (.cons .here (.cons .here (.cons (.there (.there (.there (.there (.there (.there .here)))))) .nil))) le
         refine h_back ⟨fun _ => hw, ?_⟩
         refine h_skipRt S rfl rfl rfl (ne_bool c9) rfl ?_; clear S a; intro a S
         replace hw := CL.again hw S (.cons .here (.cons .here (.cons (.there (.there (.there (.there (.there (.there .here)))))) .nil))) le
         refine h_back ⟨fun _ => hw, ?_⟩
         replace CL := CL.add (t := 77) (d := .u) S rfl rfl
         refine h_skip S CL rfl rfl rfl (ne_bool c9) rfl ?_; clear S CL a; intro a S CL
         refine h_pick S CL hw le (subR rfl) (b := false) (hc_of rfl c9) rfl rfl rfl ⟨_, _, rfl, rfl, c8⟩ ?_; clear S CL a; intro a S CL
         refine h_pick S CL hw le (subR rfl) (b := false) (hc_of rfl c8) rfl rfl rfl trivial ?_; clear S CL a; intro a S CL
         refine h_move S CL hw le (subR rfl) rfl rfl rfl trivial ?_; clear S CL a; intro a S CL
         refine h_move S CL hw le (subR rfl) rfl rfl rfl ⟨_, _, rfl, rfl, rfl⟩ ?_; clear S CL a; intro a S CL
         refine h_not S CL hw le (subR rfl) rfl rfl rfl ⟨_, _, rfl, rfl, rfl⟩ ?_; clear S CL a; intro a S CL
         refine h_move S CL hw le (subR rfl) rfl rfl rfl ⟨_, _, rfl, rfl, rfl⟩ ?_; clear S CL a; intro a S CL
         rcases ite_of h3 with ⟨c13, h4⟩ | ⟨c13, h4⟩ <;> clear h3
         ·refine h_loada S CL hw le (subR rfl) rfl .here T31 (s' := [.ints .u8 t13.1 20]) rfl rfl rfl ⟨_, _, rfl, rfl, c13⟩ ?_; clear S CL a; intro a S CL
          refine h_build S CL hw le (subR rfl) (ds := []) (dv := (.agg [.ints .u8 [0, 0, 0, 0, 0, 0, 0, 0, 0, 0, 0, 0, 0, 0, 0, 0, 0, 0, 0, 0] 20])) rfl (fun _ => by kernel_rfl) ⟨rfl, trivial⟩ rfl rfl ⟨_, _, rfl, rfl, c13⟩ ?_; clear S CL a; intro a S CL
          refine h_nea S CL hw le (subR rfl) rfl rfl Try.underlying31 Try.underlying5 T5 Q31 rfl rfl ⟨_, _, rfl, rfl, c13⟩ ?_; clear S CL a; intro a S CL
          refine h_pick S CL hw le (subR rfl) (b := true) (hc_of rfl c13) rfl rfl rfl ⟨_, _, rfl, rfl, rfl⟩ ?_; clear S CL a; intro a S CL
          refine h_pick S CL hw le (subR rfl) (b := false) (hc_of rfl rfl) rfl rfl rfl trivial ?_; clear S CL a; intro a S CL
          refine h_done ?_; clear CL hw le
          refine x_thenN ?_
          exact j5 _ (!(decide (t13.1 = [0, 0, 0, 0, 0, 0, 0, 0, 0, 0, 0, 0, 0, 0, 0, 0, 0, 0, 0, 0]))) a w (S.sub (subR rfl) (.cons (.there .here) (.cons (.there .here) (.cons (.there .here) (.cons (.there .here) (.cons (.there .here) (.cons (.there .here) (.cons (.there .here) (.cons (.there .here) (.cons (.there .here) .nil)))))))))) h4
         ·refine h_skip S CL rfl rfl rfl (ne_bool c13) rfl ?_; clear S CL a; intro a S CL
          refine h_skip S CL rfl rfl rfl (ne_bool c13) rfl ?_; clear S CL a; intro a S CL
          refine h_skip S CL rfl rfl rfl (ne_bool c13) rfl ?_; clear S CL a; intro a S CL
          refine h_pick S CL hw le (subR rfl) (b := false) (hc_of rfl c13) rfl rfl rfl ⟨_, _, rfl, rfl, rfl⟩ ?_; clear S CL a; intro a S CL
          refine h_pick S CL hw le (subR rfl) (b := false) (hc_of rfl rfl) rfl rfl rfl trivial ?_; clear S CL a; intro a S CL
          refine h_done ?_; clear CL hw le
          refine x_thenN ?_
          exact j5 _ false a w (S.sub (subR rfl) (.cons (.there .here) (.cons (.there .here) (.cons (.there .here) (.cons (.there .here) (.cons (.there .here) (.cons (.there .here) (.cons (.there .here) (.cons (.there .here) (.cons (.there .here) .nil)))))))))) h4
      refine c_region ?_
      refine s_move S rfl rfl ?_; clear S a; intro a S
      refine s_loada S rfl (.there (.there (.there (.there (.there (.there (.there (.there .here)))))))) T31 (s' := [.ints .u8 (gt x2 y67) 20]) rfl rfl ?_; clear S a; intro a S
      obtain ⟨t14, et14, h4⟩ := bind_of h3; clear h3
      refine s_callP S (fun (ch : W5) => ((.tup [(true, (Y39.segs t14.1 ((), (), (), (ch.1, ch.2.1), (ch.2.2.1, ch.2.2.2)))), (false, [.one (.bool t14.2)])]) : D)) N9 rfl rfl (smithyref13_Find.ok k x1 (gt x2 y67) ch_0_0 ch_0_1 t14 et14 _ _) ?_; clear S a w; intro ch21 m le1 a w S
      refine s_move S rfl rfl ?_; clear S a; intro a S
      refine s_extract S rfl rfl rfl rfl ?_; clear S a; intro a S
      refine s_extract S rfl rfl rfl rfl ?_; clear S a; intro a S
      refine s_alloc S Z39 rfl ⟨rfl, rfl, rfl, rfl, rfl, trivial⟩ rfl ?_; clear S a w; intro g16 a w S
      refine s_store S rfl rfl rfl (s' := [.ints .u8 t14.1.1 20, .one (.int .u64 t14.1.2.1), .ints .u64 t14.1.2.2.1 4, .sl ch21.1 (t14.1.2.2.2.1).length ch21.2.1 (RdS (Ty.int .u8) ch21.1 t14.1.2.2.2.1), .sl ch21.2.2.1 (t14.1.2.2.2.2).length ch21.2.2.2 (RdS Y82 ch21.2.2.1 t14.1.2.2.2.2)]) .here T39 rfl rfl ?_; clear S w; intro w S
      refine s_assign S rfl rfl ?_; clear S a; intro a S
      refine c_end ?_
      refine wp_seq_k ?_
      intro K6 hK6
      have j6 : ∀ (m : Mem) (y78 : Bool) (g17 : Nat) (a : Act) (w : World), St 111 m b0 [(58, (.v (.bool y78))), (8, (.v (.pointer (some ⟨g17, 0, none⟩)))), (6, (.v (.slice A7 nn13 cp13))), (39, (.v (.int .i64 y67))), (38, (.v (.int .i64 ((x2).length : Int)))), (37, (.sl ch_1_0 (x2).length ch_1_1 (RdS (Ty.arr .u8 20) ch_1_0 x2))), (5, (.v (.pointer (some ⟨ch2.1, 0, none⟩)))), (0, (.sl ch_0_0 (x1).length ch_0_1 (RdS Y39 ch_0_0 x1))), (1, (.sl ch_1_0 (x2).length ch_1_1 (RdS (Ty.arr .u8 20) ch_1_0 x2)))] [Res.cells ch2.1 72 [.rf (.iface 29 (.agg (cellsOf [.sl ch2.2.1 (t2.1).length ch2.2.2.1 (RdS Y39 ch2.2.1 t2.1)]).toArray)) (IfR [.sl ch2.2.1 (t2.1).length ch2.2.2.1 (RdS Y39 ch2.2.1 t2.1)]), .one (.map (some ch18.1)), .one (.int .i64 t2.2.2.1), .one (.slice ch18.2.2.2.2.1 ch18.2.2.2.2.2.1 ch18.2.2.2.2.2.2.1), .one (.slice ch18.2.2.2.2.2.2.2.1 ch18.2.2.2.2.2.2.2.2.1 ch18.2.2.2.2.2.2.2.2.2.1), .one (.slice ch18.2.2.2.2.2.2.2.2.2.2.1 ch18.2.2.2.2.2.2.2.2.2.2.2.1 ch18.2.2.2.2.2.2.2.2.2.2.2.2)], Res.map true (Ty.arr .u8 20) false (Ty.pid ch18.2.1) ch18.1 t12.2.2.1.1, Res.fam (Res.struct (YE76 ch18.2.2.1 ch18.2.2.2.1) 76) (one_struct _ _) ch18.2.1 [] t12.2.2.1.2.1, Res.fam (fun g_ kvs_ => Res.map true (Ty.arr .u64 4) true (Ty.arr .u64 4) g_ kvs_) (one_map true (Ty.arr .u64 4) true (Ty.arr .u64 4)) ch18.2.2.1 [] t12.2.2.1.2.2.1, Res.fam (fun g_ kvs_ => Res.map true (Ty.arr .u64 4) false Ty.bool g_ kvs_) (one_map true (Ty.arr .u64 4) false Ty.bool) ch18.2.2.2.1 [] t12.2.2.1.2.2.2, Res.row Y51 51 ch18.2.2.2.2.1 ch18.2.2.2.2.2.1 ch18.2.2.2.2.2.2.1 t12.2.2.2.2.1, Res.row (YC ch2.1 ch18.2.1 ch18.2.2.1 ch18.2.2.2.1) 1 ch18.2.2.2.2.2.2.2.1 ch18.2.2.2.2.2.2.2.2.1 ch18.2.2.2.2.2.2.2.2.2.1 t12.2.2.2.2.2.1, Res.row (Ty.arr .u8 20) 31 ch18.2.2.2.2.2.2.2.2.2.2.1 ch18.2.2.2.2.2.2.2.2.2.2.2.1 ch18.2.2.2.2.2.2.2.2.2.2.2.2 t12.2.2.2.2.2.2, Res.cells g17 31 [.ints .u8 (gt x2 y67) 20], Res.row (Ty.arr .u8 20) 31 A7 nn13 cp13 y66] a w → smithylaw14_StateMissing.j6 x2 t2 y66 y67 (smithylaw14_StateMissing.l2 k x1 x2 t2 q2) t12 y78 = some r → K6 a w := by
       intro m y78 g17 a w S h0
       delta smithylaw14_StateMissing.j6 at h0
       refine hK6 a w ?_
       rcases ite_of h0 with ⟨c14, h1⟩ | ⟨c14, h1⟩ <;> clear h0
       ·refine c_condT S rfl c14 ?_
        refine c_region' ?_
        refine s_loada S rfl (.there (.there (.there (.there (.there (.there (.there (.there .here)))))))) T31 (s' := [.ints .u8 (gt x2 y67) 20]) rfl rfl ?_; clear S a; intro a S
        refine s_bldSl S (ty' := (Ty.arr .u8 20)) (ds := [(0, (.agg [.ints .u8 (gt x2 y67) 20]))]) (z := [0, 0, 0, 0, 0, 0, 0, 0, 0, 0, 0, 0, 0, 0, 0, 0, 0, 0, 0, 0]) (c0 := ()) (ys := [gt x2 y67]) (cs := [()]) rfl Try.underlying23 J31 Z31 rfl ⟨rfl, trivial⟩ rfl rfl rfl rfl rfl rfl ?_; clear S a w; intro g18 a w S
        refine s_assign S rfl rfl ?_; clear S a; intro a S
        refine c_end' ?_
        refine x_thenN ?_
        exact j4 _ (some ⟨g18, 0, none⟩) 1 1 [gt x2 y67] a w (S.sub (subR rfl) (.cons .here (.cons .here (.cons .here (.cons .here (.cons .here (.cons .here (.cons .here (.cons .here (.cons .here .nil)))))))))) h1
       ·refine c_condF S rfl c14 ?_
        refine wp_skip ?_
        refine x_thenN ?_
        exact j4 _ A7 nn13 cp13 y66 a w (S.sub (subR rfl) (.cons (.there (.there (.there (.there (.there (.there (.there (.there (.there .here))))))))) (.cons .here (.cons .here (.cons .here (.cons .here (.cons .here (.cons .here (.cons .here (.cons .here .nil)))))))))) h1
      refine c_region' ?_
      refine s_move S rfl rfl ?_; clear S a; intro a S
      refine s_not S rfl rfl ?_; clear S a; intro a S
      refine s_move S rfl rfl ?_; clear S a; intro a S
      rcases ite_of h4 with ⟨c15, h5⟩ | ⟨c15, h5⟩ <;> clear h4
      ·refine s_gT S (b := (!t14.2)) rfl rfl c15 ?_
       refine s_move S rfl rfl ?_; clear S a; intro a S
       refine s_gT S (b := (!t14.2)) rfl rfl c15 ?_
       refine s_lenO S rfl (.there (.there (.there (.there (.there (.there (.there (.there (.there (.there .here)))))))))) Try.underlying23 rfl ?_; clear S a; intro a S
       refine s_gT S (b := (!t14.2)) rfl rfl c15 ?_
       refine s_bin S rfl rfl rfl rfl ?_; clear S a; intro a S
       refine s_pick S (b := true) (hc_of rfl c15) rfl rfl ?_; clear S a; intro a S
       refine c_end' ?_
       refine x_thenN ?_
       exact j6 _ (((y66).length : Int) == 0) g9 a w (S.sub (subR rfl) (.cons (.there .here) (.cons (.there .here) (.cons (.there .here) (.cons (.there .here) (.cons (.there .here) (.cons (.there .here) (.cons (.there .here) (.cons (.there .here) (.cons (.there .here) (.cons (.there .here) .nil))))))))))) h5
      ·refine s_gF S (b := (!t14.2)) rfl rfl c15 rfl ?_; clear S a; intro a S
       refine s_gF S (b := (!t14.2)) rfl rfl c15 rfl ?_; clear S a; intro a S
       refine s_gF S (b := (!t14.2)) rfl rfl c15 rfl ?_; clear S a; intro a S
       refine s_pick S (b := false) (hc_of rfl c15) rfl rfl ?_; clear S a; intro a S
       refine c_end' ?_
       refine x_thenN ?_
       exact j6 _ false g9 a w (S.sub (subR rfl) (.cons (.there .here) (.cons (.there .here) (.cons (.there .here) (.cons (.there .here) (.cons (.there .here) (.cons (.there .here) (.cons (.there .here) (.cons (.there .here) (.cons (.there .here) (.cons (.there .here) .nil))))))))))) h5
     ·refine c_condF S rfl c5 ?_
      refine wp_exit ?_
      refine x_thenX ?_
      refine x_thenX ?_
      refine x_blockX ?_
      refine x_thenN ?_
      exact j2 _ a w (S.sub (subR rfl) .nil) h1
 refine c_region' ?_
 refine s_move S rfl rfl ?_; clear S a; intro a S
 obtain ⟨t15, et15, h1⟩ := bind_of h0; clear h0
 refine s_callP S (fun (ch : Unit) => ((.v (.bool t15)) : D)) N5 rfl rfl (smithylaw14_right.ok k x1 ch_0_0 ch_0_1 t15 et15 _ _) ?_; clear S a; intro ch22 m le1 a w S
 refine s_not S rfl rfl ?_; clear S a; intro a S
 refine s_move S rfl rfl ?_; clear S a; intro a S
 rcases ite_of h1 with ⟨c16, h2⟩ | ⟨c16, h2⟩ <;> clear h1
 ·refine s_gF S (b := (!t15)) rfl rfl c16 rfl ?_; clear S a; intro a S
  refine s_gF S (b := (!t15)) rfl rfl c16 rfl ?_; clear S a; intro a S
  refine s_gF S (b := (!t15)) rfl rfl c16 rfl ?_; clear S a; intro a S
  refine s_pick S (b := true) (hc_of rfl c16) rfl rfl ?_; clear S a; intro a S
  refine c_end' ?_
  refine x_thenN ?_
  exact j1 _ true a w (S.sub (subR rfl) .nil) h2
 ·refine s_gT S (b := (!t15)) rfl rfl c16 ?_
  refine s_move S rfl rfl ?_; clear S a; intro a S
  refine s_gT S (b := (!t15)) rfl rfl c16 ?_
  refine s_lenS S rfl Try.underlying23 rfl ?_; clear S a; intro a S
  refine s_gT S (b := (!t15)) rfl rfl c16 ?_
  refine s_bin S rfl rfl rfl rfl ?_; clear S a; intro a S
  refine s_pick S (b := false) (hc_of rfl c16) rfl rfl ?_; clear S a; intro a S
  refine c_end' ?_
  refine x_thenN ?_
  exact j1 _ (decide (50 < ((x2).length : Int))) a w (S.sub (subR rfl) .nil) h2
end
end GW
