/-
  Printed by a program of these sessions (wip/gw/gx.py): for each Go function a Lean function with the same answers, and the walk that shows it.
-/
import Derived.Test.YtoiopiiljblpjaaDoorProg
import Derived.Test.YtoiopiiljblpjaaDoorGB
set_option linter.unusedVariables false
set_option maxRecDepth 10000
namespace GW
open Go Go.RowKit Go.Proofs
/-! smithy/fee.quotient -/
abbrev fee_quotient.Ty : Type := (List Int) → (List Int) → (List Int) → Option ((List Int))
def fee_quotient.Ctr (s : fee_quotient.Ty) : Prop := ∀ (x1 : List Int) (x2 : List Int) (x3 : List Int) (r : (List Int)) (h0 : s x1 x2 x3 = some r) (mi : Mem) (w0 : World), okL mi [(.agg [.ints .u64 x1 4]), (.agg [.ints .u64 x2 4]), (.agg [.ints .u64 x3 4])] → Pre mi [] w0 → Calls Tryd.prog 73 (([(.agg [.ints .u64 x1 4]), (.agg [.ints .u64 x2 4]), (.agg [.ints .u64 x3 4])] : List D).map D.val).toArray w0 (RetX mi [] (fun (ch : Unit) => ((.agg [.ints .u64 r 4]) : D)) (fun (ch : Unit) => []) w0)
def fee_quotient.j1 (y1 : List Int) : Option ((List Int)) := some y1
def fee_quotient.j2 (y11 : Int) (rec1 : Int → (List Int) → (List Int) → Option ((List Int))) (y15 : List Int) (y16 : List Int) : Option ((List Int)) := rec1 (wr .i64 (y11 - 1)) y15 y16
def fee_quotient.j3 (k : Nat) (x3 : List Int) (y11 : Int) (y13 : List Int) (rec1 : Int → (List Int) → (List Int) → Option ((List Int))) (y17 : List Int) : Option ((List Int)) := (word_Compare.f k y17 x3).bind fun t9 => (if (decide (0 ≤ t9)) = true then ((word_Sub.f k y17 x3).bind fun t10 => (if (0 : Int) ≤ (wr .i64 (Int.tdiv y11 64)) ∧ (wr .i64 (Int.tdiv y11 64)) < 4 then (if (0 : Int) ≤ (Int.tmod y11 64) then (fee_quotient.j2 y11 rec1 t10 (y13.set (Int.toNat (wr .i64 (Int.tdiv y11 64))) (bits .or .u64 (rd y13 (wr .i64 (Int.tdiv y11 64))) (shl .u64 1 (min (Int.toNat (Int.tmod y11 64)) 64))))) else none) else none)) else (fee_quotient.j2 y11 rec1 y17 y13))
def fee_quotient.b1 (k : Nat) (x1 : List Int) (x3 : List Int) (rec1 : Int → (List Int) → (List Int) → Option ((List Int))) (y11 : Int) (y12 : List Int) (y13 : List Int) : Option ((List Int)) := if (decide (0 ≤ y11)) = true then ((word_Shl.f k y12 1).bind fun t7 => ((word_Bit.f x1 (wr .u64 y11)).bind fun t11 => (if t11 = true then (fee_quotient.j3 k x3 y11 y13 rec1 (t7.set (Int.toNat 0) (bits .or .u64 (rd t7 0) 1))) else (fee_quotient.j3 k x3 y11 y13 rec1 t7)))) else (fee_quotient.j1 y13)
def fee_quotient.l1 (k : Nat) (x1 : List Int) (x3 : List Int) : Nat → Int → (List Int) → (List Int) → Option ((List Int))
  | 0, _, _, _ => none
  | q + 1, y11, y12, y13 => fee_quotient.b1 k x1 x3 (fee_quotient.l1 k x1 x3 q) y11 y12 y13
def fee_quotient.f (k : Nat) (x1 : List Int) (x2 : List Int) (x3 : List Int) : Option ((List Int)) := (word_Compare.f k x2 x3).bind fun t1 => (if (decide (0 ≤ t1)) = true then ((fee_ones.f).bind fun t2 => (some t2)) else (fee_quotient.l1 k x1 x3 k 255 x2 [0, 0, 0, 0]))
theorem fee_quotient.ok (k : Nat) : fee_quotient.Ctr (fee_quotient.f k) := by
  intro x1 x2 x3 r h0 mi w0 ok hm
  delta fee_quotient.f at h0
  refine c_enterX (n := 47) [(.agg [.ints .u64 x1 4]), (.agg [.ints .u64 x2 4]), (.agg [.ints .u64 x3 4])] (l := [(0, (.agg [.ints .u64 x1 4])), (1, (.agg [.ints .u64 x2 4])), (2, (.agg [.ints .u64 x3 4]))]) Tryd.func73 rfl rfl rfl rfl ok hm ?_
  clear ok hm
  intro b0 hb a S
  refine c_region ?_
  refine s_box S rfl rfl rfl ?_; clear S a; intro g1 a w S
  refine s_box S rfl rfl rfl ?_; clear S a w; intro g2 a w S
  refine s_box S rfl rfl rfl ?_; clear S a w; intro g3 a w S
  refine s_alloc S Z26 rfl ⟨rfl, trivial⟩ rfl ?_; clear S a w; intro g4 a w S
  refine c_end ?_
  refine wp_seq ?_
  refine c_region ?_
  refine s_loada S rfl (.there (.there .here)) T26 (s' := [.ints .u64 x2 4]) rfl rfl ?_; clear S a; intro a S
  refine s_loada S rfl (.there .here) T26 (s' := [.ints .u64 x3 4]) rfl rfl ?_; clear S a; intro a S
  obtain ⟨t1, et1, h1⟩ := bind_of h0; clear h0
  refine s_callP S (fun (ch : Unit) => ((.v (.int .i64 t1)) : D)) N53 rfl rfl (word_Compare.ok k x2 x3 t1 et1 _ _) ?_; clear S a w; intro ch1 m le1 a w S
  refine s_bin S rfl rfl rfl rfl ?_; clear S a; intro a S
  refine c_end ?_
  rcases ite_of h1 with ⟨c1, h2⟩ | ⟨c1, h2⟩ <;> clear h1
  · refine c_condT S rfl c1 ?_
    refine c_region ?_
    obtain ⟨t2, et2, h3⟩ := bind_of h2; clear h2
    refine s_callP S (fun (ch : Unit) => ((.agg [.ints .u64 t2 4]) : D)) N56 rfl rfl (fee_ones.ok t2 et2 _ _) ?_; clear S a w; intro ch2 m le1 a w S
    refine s_store S rfl rfl rfl (s' := [.ints .u64 t2 4]) .here T26 rfl rfl ?_; clear S w; intro w S
    refine c_end ?_
    refine wp_ret ?_
    refine x_thenR ?_
    obtain rfl := Option.some.inj h3
    exact b_ret1 (d := (.agg [.ints .u64 t2 4])) S rfl (resD_cell rfl .here T26 rfl rfl) fun ok => S.retX (Hx := []) hb _ _ (() : Unit) .nil ok
  · refine c_condF S rfl c1 ?_
    refine wp_skip ?_
    refine x_thenN ?_
    refine c_region ?_
    refine s_alloc S Z26 rfl ⟨rfl, trivial⟩ rfl ?_; clear S a w; intro g5 a w S
    refine c_end ?_
    refine c_region ?_
    refine s_loada S rfl (.there (.there (.there .here))) T26 (s' := [.ints .u64 x2 4]) rfl rfl ?_; clear S a; intro a S
    refine s_alloc S Z26 rfl ⟨rfl, trivial⟩ rfl ?_; clear S a w; intro g6 a w S
    refine s_store S rfl rfl rfl (s' := [.ints .u64 x2 4]) .here T26 rfl rfl ?_; clear S w; intro w S
    refine c_end ?_
    refine wp_seq_k ?_
    intro K1 hK1
    have j1 : ∀ (m : Mem) (g42 : Nat) (g43 : Nat) (y1 : List Int) (a : Act) (w : World), St 47 m b0 [(7, (.v (.pointer (some ⟨g42, 0, none⟩)))), (6, (.v (.pointer (some ⟨g43, 0, none⟩))))] [Res.cells g42 26 [.ints .u64 y1 4], Res.cells g43 26 [.ints .u64 [0, 0, 0, 0] 4]] a w → fee_quotient.j1 y1 = some r → K1 a w := by
      intro m g42 g43 y1 a w S h0
      delta fee_quotient.j1 at h0
      refine hK1 a w ?_
      refine c_region ?_
      refine s_loada S rfl .here T26 (s' := [.ints .u64 y1 4]) rfl rfl ?_; clear S a; intro a S
      refine s_store S rfl rfl rfl (s' := [.ints .u64 y1 4]) (.there .here) T26 rfl rfl ?_; clear S w; intro w S
      refine c_end ?_
      refine wp_ret ?_
      obtain rfl := Option.some.inj h0
      exact b_ret1 (d := (.agg [.ints .u64 y1 4])) S rfl (resD_cell rfl (.there .here) T26 rfl rfl) fun ok => S.retX (Hx := []) hb _ _ (() : Unit) .nil ok
    refine c_region ?_
    refine s_assign S rfl rfl ?_; clear S a; intro a S
    refine c_end ?_
    refine wp_block ?_
    refine c_loop (fun q1 a w => ∃ (m : Mem) (y11 : Int) (g74 : Nat) (g75 : Nat) (g76 : Nat) (g77 : Nat) (g78 : Nat) (y12 : List Int) (y13 : List Int), St 47 m b0 [(9, (.v (.int .i64 y11))), (8, (.v (.pointer (some ⟨g74, 0, none⟩)))), (7, (.v (.pointer (some ⟨g75, 0, none⟩)))), (6, (.v (.pointer (some ⟨g76, 0, none⟩)))), (5, (.v (.pointer (some ⟨g77, 0, none⟩)))), (3, (.v (.pointer (some ⟨g78, 0, none⟩))))] [Res.cells g74 26 [.ints .u64 y12 4], Res.cells g75 26 [.ints .u64 y13 4], Res.cells g76 26 [.ints .u64 [0, 0, 0, 0] 4], Res.cells g77 26 [.ints .u64 x3 4], Res.cells g78 26 [.ints .u64 x1 4]] a w ∧ fee_quotient.l1 k x1 x3 q1 y11 y12 y13 = some r) ?_ ?_ (k := k) ⟨_, 255, g6, g5, g4, g3, g1, x2, [0, 0, 0, 0], (S.sub ⟨rfl, rfl, rfl, rfl, rfl, rfl, trivial⟩ (.cons .here (.cons .here (.cons .here (.cons .here (.cons (.there .here) .nil)))))), h2⟩
    · rintro a w ⟨m, y11, g74, g75, g76, g77, g78, y12, y13, S, h0⟩
      exact (nomatch (show (none : Option ((List Int))) = some r from h0))
    · clear S h2
      rintro q1 a w ⟨m, y11, g74, g75, g76, g77, g78, y12, y13, S, h0⟩
      replace h0 : fee_quotient.b1 k x1 x3 (fee_quotient.l1 k x1 x3 q1) y11 y12 y13 = some r := h0
      delta fee_quotient.b1 at h0
      refine wp_seq ?_
      refine c_region ?_
      refine s_move S rfl rfl ?_; clear S a; intro a S
      refine s_bin S rfl rfl rfl rfl ?_; clear S a; intro a S
      refine c_end ?_
      rcases ite_of h0 with ⟨c2, h1⟩ | ⟨c2, h1⟩ <;> clear h0
      · refine c_condT S rfl c2 ?_
        refine wp_skip ?_
        refine x_thenN ?_
        refine wp_seq_k ?_
        intro K2 hK2
        have j2 : ∀ (m : Mem) (g84 : Nat) (g85 : Nat) (g86 : Nat) (g87 : Nat) (g88 : Nat) (y15 : List Int) (y16 : List Int) (a : Act) (w : World), St 47 m b0 [(9, (.v (.int .i64 y11))), (8, (.v (.pointer (some ⟨g84, 0, none⟩)))), (7, (.v (.pointer (some ⟨g85, 0, none⟩)))), (6, (.v (.pointer (some ⟨g86, 0, none⟩)))), (5, (.v (.pointer (some ⟨g87, 0, none⟩)))), (3, (.v (.pointer (some ⟨g88, 0, none⟩))))] [Res.cells g84 26 [.ints .u64 y15 4], Res.cells g85 26 [.ints .u64 y16 4], Res.cells g86 26 [.ints .u64 [0, 0, 0, 0] 4], Res.cells g87 26 [.ints .u64 x3 4], Res.cells g88 26 [.ints .u64 x1 4]] a w → fee_quotient.j2 y11 (fee_quotient.l1 k x1 x3 q1) y15 y16 = some r → K2 a w := by
          intro m g84 g85 g86 g87 g88 y15 y16 a w S h0
          delta fee_quotient.j2 at h0
          refine hK2 a w ?_
          refine c_region' ?_
          refine s_move S rfl rfl ?_; clear S a; intro a S
          refine s_bin S rfl rfl rfl rfl ?_; clear S a; intro a S
          refine s_assign S rfl rfl ?_; clear S a; intro a S
          refine c_end' ?_
          refine x_thenN ?_
          exact ⟨_, (wr .i64 (y11 - 1)), g84, g85, g86, g87, g88, y15, y16, (S.sub ⟨rfl, rfl, rfl, rfl, rfl, rfl, trivial⟩ (.cons .here (.cons .here (.cons .here (.cons .here (.cons .here .nil)))))), h0⟩
        refine wp_block ?_
        refine c_region ?_
        refine s_loada S rfl .here T26 (s' := [.ints .u64 y12 4]) rfl rfl ?_; clear S a; intro a S
        obtain ⟨t7, et7, h2⟩ := bind_of h1; clear h1
        refine s_callP S (fun (ch : Unit) => ((.agg [.ints .u64 t7 4]) : D)) N90 rfl rfl (word_Shl.ok k y12 1 t7 et7 _ _) ?_; clear S a w; intro ch3 m le1 a w S
        refine s_store S rfl rfl rfl (s' := [.ints .u64 t7 4]) .here T26 rfl rfl ?_; clear S w; intro w S
        refine c_end ?_
        refine wp_seq_k ?_
        intro K3 hK3
        have j3 : ∀ (m : Mem) (g89 : Nat) (g90 : Nat) (g91 : Nat) (g92 : Nat) (g93 : Nat) (y17 : List Int) (a : Act) (w : World), St 47 m b0 [(9, (.v (.int .i64 y11))), (8, (.v (.pointer (some ⟨g89, 0, none⟩)))), (7, (.v (.pointer (some ⟨g90, 0, none⟩)))), (6, (.v (.pointer (some ⟨g91, 0, none⟩)))), (5, (.v (.pointer (some ⟨g92, 0, none⟩)))), (3, (.v (.pointer (some ⟨g93, 0, none⟩))))] [Res.cells g89 26 [.ints .u64 y17 4], Res.cells g90 26 [.ints .u64 y13 4], Res.cells g91 26 [.ints .u64 [0, 0, 0, 0] 4], Res.cells g92 26 [.ints .u64 x3 4], Res.cells g93 26 [.ints .u64 x1 4]] a w → fee_quotient.j3 k x3 y11 y13 (fee_quotient.l1 k x1 x3 q1) y17 = some r → K3 a w := by
          intro m g89 g90 g91 g92 g93 y17 a w S h0
          delta fee_quotient.j3 at h0
          refine hK3 a w ?_
          refine c_region ?_
          refine s_loada S rfl .here T26 (s' := [.ints .u64 y17 4]) rfl rfl ?_; clear S a; intro a S
          refine s_loada S rfl (.there (.there (.there .here))) T26 (s' := [.ints .u64 x3 4]) rfl rfl ?_; clear S a; intro a S
          obtain ⟨t9, et9, h1⟩ := bind_of h0; clear h0
          refine s_callP S (fun (ch : Unit) => ((.v (.int .i64 t9)) : D)) N53 rfl rfl (word_Compare.ok k y17 x3 t9 et9 _ _) ?_; clear S a w; intro ch4 m le1 a w S
          refine s_bin S rfl rfl rfl rfl ?_; clear S a; intro a S
          refine c_end ?_
          rcases ite_of h1 with ⟨c3, h2⟩ | ⟨c3, h2⟩ <;> clear h1
          · refine c_condT S rfl c3 ?_
            refine c_region ?_
            refine s_loada S rfl .here T26 (s' := [.ints .u64 y17 4]) rfl rfl ?_; clear S a; intro a S
            refine s_loada S rfl (.there (.there (.there .here))) T26 (s' := [.ints .u64 x3 4]) rfl rfl ?_; clear S a; intro a S
            obtain ⟨t10, et10, h3⟩ := bind_of h2; clear h2
            refine s_callP S (fun (ch : Unit) => ((.agg [.ints .u64 t10 4]) : D)) N54 rfl rfl (word_Sub.ok k y17 x3 t10 et10 _ _) ?_; clear S a w; intro ch5 m le1 a w S
            refine s_store S rfl rfl rfl (s' := [.ints .u64 t10 4]) .here T26 rfl rfl ?_; clear S w; intro w S
            refine c_end ?_
            refine c_heldS S (.take 0 (.take 1 (.take 2 (.take 3 (.take 4 (.take 5 (.take 6 (.take 7 (.take 8 (.alts (.run 9 false .done .nil))))))))))) 9 [Res.cells g89 26 [.ints .u64 t10 4], Res.cells g90 26 [.ints .u64 y13 4], Res.cells g91 26 [.ints .u64 [0, 0, 0, 0] 4], Res.cells g92 26 [.ints .u64 x3 4], Res.cells g93 26 [.ints .u64 x1 4]] (.cons .here (.cons .here (.cons .here (.cons .here (.cons .here .nil))))) ⟨Res.stay_cells, Res.stay_cells, Res.stay_cells, Res.stay_cells, Res.stay_cells, trivial⟩ [(9, (.v (.int .i64 y11))), (7, (.v (.pointer (some ⟨g90, 0, none⟩))))] ⟨rfl, rfl, trivial⟩ (by kernel_rfl) (by kernel_rfl) ?_; clear S; intro w S CL hw le
            refine h_move S CL hw le ⟨rfl, rfl, trivial⟩ rfl rfl rfl trivial ?_; clear S CL a; intro a S CL
            refine h_quo S CL hw le ⟨rfl, rfl, rfl, trivial⟩ rfl rfl (by decide) rfl rfl trivial ?_; clear S CL a; intro a S CL
            obtain ⟨c4, h4⟩ := chk_of h3; clear h3
            refine h_iaddr S CL hw le ⟨rfl, rfl, rfl, rfl, trivial⟩ rfl rfl Tryd.underlying26 T24 c4.1 c4.2 (mul1 _ _) rfl rfl trivial ?_; clear S CL a; intro a S CL
            refine h_loadi S CL hw le ⟨rfl, rfl, rfl, rfl, rfl, trivial⟩ (i := (wr .i64 (Int.tdiv y11 64))) rfl (.there .here) T24 .here rfl c4.1 c4.2 rfl rfl trivial ?_; clear S CL a; intro a S CL
            refine h_move S CL hw le ⟨rfl, rfl, rfl, rfl, rfl, rfl, trivial⟩ rfl rfl rfl trivial ?_; clear S CL a; intro a S CL
            refine h_rem S CL hw le ⟨rfl, rfl, rfl, rfl, rfl, rfl, rfl, trivial⟩ rfl rfl (by decide) rfl rfl trivial ?_; clear S CL a; intro a S CL
            obtain ⟨c5, h5⟩ := chk_of h4; clear h4
            refine h_shl S CL hw le ⟨rfl, rfl, rfl, rfl, rfl, rfl, rfl, rfl, trivial⟩ (e := (min (Int.toNat (Int.tmod y11 64)) 64)) rfl rfl c5 rfl rfl rfl trivial ?_; clear S CL a; intro a S CL
            refine h_bin S CL hw le ⟨rfl, rfl, rfl, rfl, rfl, rfl, rfl, rfl, rfl, trivial⟩ rfl rfl rfl rfl rfl trivial ?_; clear S CL a; intro a S CL
            refine h_iaddr S CL hw le ⟨rfl, rfl, rfl, rfl, rfl, rfl, rfl, rfl, rfl, rfl, trivial⟩ rfl rfl Tryd.underlying26 T24 c4.1 c4.2 (mul1 _ _) rfl rfl trivial ?_; clear S CL a; intro a S CL
            refine h_run' S rfl trivial ?_
            refine s_storei S (i := (wr .i64 (Int.tdiv y11 64))) rfl rfl (.there .here) T24 .here rfl c4.1 c4.2 ?_; clear S; intro w S
            refine h_back ⟨fun h => (nomatch h), ?_⟩
            refine h_done ?_; clear CL hw le
            refine x_blockN ?_
            refine x_thenN ?_
            exact j2 _ g89 g90 g91 g92 g93 t10 (y13.set (Int.toNat (wr .i64 (Int.tdiv y11 64))) (bits .or .u64 (rd y13 (wr .i64 (Int.tdiv y11 64))) (shl .u64 1 (min (Int.toNat (Int.tmod y11 64)) 64)))) a w (S.sub ⟨rfl, rfl, rfl, rfl, rfl, rfl, trivial⟩ (.cons .here (.cons .here (.cons .here (.cons .here (.cons .here .nil)))))) h5
          · refine c_condF S rfl c3 ?_
            refine wp_skip ?_
            refine x_blockN ?_
            refine x_thenN ?_
            exact j2 _ g89 g90 g91 g92 g93 y17 y13 a w (S.sub ⟨rfl, rfl, rfl, rfl, rfl, rfl, trivial⟩ (.cons .here (.cons .here (.cons .here (.cons .here (.cons .here .nil)))))) h2
        refine c_region ?_
        refine s_loada S rfl (.there (.there (.there (.there .here)))) T26 (s' := [.ints .u64 x1 4]) rfl rfl ?_; clear S a; intro a S
        refine s_move S rfl rfl ?_; clear S a; intro a S
        refine s_conv S rfl rfl Tryd.underlying125 rfl ?_; clear S a; intro a S
        obtain ⟨t11, et11, h3⟩ := bind_of h2; clear h2
        refine s_callP S (fun (ch : Unit) => ((.v (.bool t11)) : D)) N91 rfl rfl (word_Bit.ok x1 (wr .u64 y11) t11 et11 _ _) ?_; clear S a w; intro ch6 m le1 a w S
        refine c_end ?_
        rcases ite_of h3 with ⟨c6, h4⟩ | ⟨c6, h4⟩ <;> clear h3
        · refine c_condT S rfl c6 ?_
          refine c_region' ?_
          refine s_iaddr S (o' := 0) rfl rfl Tryd.underlying26 T24 (by decide) (by decide) rfl rfl ?_; clear S a; intro a S
          refine s_loadi S (i := 0) rfl .here T24 .here rfl (by decide) (by decide) rfl ?_; clear S a; intro a S
          refine s_bin S rfl rfl rfl rfl ?_; clear S a; intro a S
          refine s_iaddr S (o' := 0) rfl rfl Tryd.underlying26 T24 (by decide) (by decide) rfl rfl ?_; clear S a; intro a S
          refine s_storei S (i := 0) rfl rfl .here T24 .here rfl (by decide) (by decide) ?_; clear S w; intro w S
          refine c_end' ?_
          refine x_thenN ?_
          exact j3 _ g74 g75 g76 g77 g78 (t7.set (Int.toNat 0) (bits .or .u64 (rd t7 0) 1)) a w (S.sub ⟨rfl, rfl, rfl, rfl, rfl, rfl, trivial⟩ (.cons .here (.cons .here (.cons .here (.cons .here (.cons .here .nil)))))) h4
        · refine c_condF S rfl c6 ?_
          refine wp_skip ?_
          refine x_thenN ?_
          exact j3 _ g74 g75 g76 g77 g78 t7 a w (S.sub ⟨rfl, rfl, rfl, rfl, rfl, rfl, trivial⟩ (.cons .here (.cons .here (.cons .here (.cons .here (.cons .here .nil)))))) h4
      · refine c_condF S rfl c2 ?_
        refine wp_exit ?_
        refine x_thenX ?_
        refine x_thenX ?_
        refine x_blockX ?_
        refine x_thenN ?_
        exact j1 _ g75 g76 y13 a w (S.sub ⟨rfl, rfl, trivial⟩ (.cons (.there .here) (.cons (.there .here) .nil))) h1
/-! smithy/fee.Step -/
abbrev fee_Step.Ty : Type := (List Int) → Int → Int → Option ((List Int))
def fee_Step.Ctr (s : fee_Step.Ty) : Prop := ∀ (x1 : List Int) (x2 : Int) (x3 : Int) (r : (List Int)) (h0 : s x1 x2 x3 = some r) (mi : Mem) (w0 : World), okL mi [(.agg [.ints .u64 x1 4]), (.v (.int .u64 x2)), (.v (.int .u64 x3))] → Pre mi [] w0 → Calls Tryd.prog 52 (([(.agg [.ints .u64 x1 4]), (.v (.int .u64 x2)), (.v (.int .u64 x3))] : List D).map D.val).toArray w0 (RetX mi [] (fun (ch : Unit) => ((.agg [.ints .u64 r 4]) : D)) (fun (ch : Unit) => []) w0)
def fee_Step.j1 (k : Nat) (x3 : Int) (y1 : List Int) (y2 : List Int) : Option ((List Int)) := (word_Of.f x3).bind fun t1 => ((word_Of.f 8).bind fun t2 => ((wide_Product.f k t1 t2).bind fun t3 => (if (!(decide (t3.2 = [0, 0, 0, 0]))) = true then (some [0, 0, 0, 0]) else ((fee_quotient.f k y2 y1 t3.1).bind fun t4 => (some t4)))))
def fee_Step.f (k : Nat) (x1 : List Int) (x2 : Int) (x3 : Int) : Option ((List Int)) := if (x3 == 0) = true then (some [0, 0, 0, 0]) else ((word_Of.f x2).bind fun t5 => ((wide_Product.f k x1 t5).bind fun t6 => (fee_Step.j1 k x3 t6.2 t6.1)))
theorem fee_Step.ok (k : Nat) : fee_Step.Ctr (fee_Step.f k) := by
  intro x1 x2 x3 r h0 mi w0 ok hm
  delta fee_Step.f at h0
  refine c_enterX (n := 36) [(.agg [.ints .u64 x1 4]), (.v (.int .u64 x2)), (.v (.int .u64 x3))] (l := [(0, (.agg [.ints .u64 x1 4])), (1, (.v (.int .u64 x2))), (2, (.v (.int .u64 x3)))]) Tryd.func52 rfl rfl rfl rfl ok hm ?_
  clear ok hm
  intro b0 hb a S
  refine c_region ?_
  refine s_box S rfl rfl rfl ?_; clear S a; intro g1 a w S
  refine s_alloc S Z26 rfl ⟨rfl, trivial⟩ rfl ?_; clear S a w; intro g2 a w S
  refine c_end ?_
  refine wp_seq ?_
  refine c_region ?_
  refine s_move S rfl rfl ?_; clear S a; intro a S
  refine s_bin S rfl rfl rfl rfl ?_; clear S a; intro a S
  refine c_end ?_
  rcases ite_of h0 with ⟨c1, h1⟩ | ⟨c1, h1⟩ <;> clear h0
  · refine c_condT S rfl c1 ?_
    refine c_region ?_
    refine s_build S (ds := []) (dv := (.agg [.ints .u64 [0, 0, 0, 0] 4])) rfl (fun _ => by kernel_rfl) ⟨rfl, trivial⟩ rfl ?_; clear S a; intro a S
    refine s_store S rfl rfl rfl (s' := [.ints .u64 [0, 0, 0, 0] 4]) .here T26 rfl rfl ?_; clear S w; intro w S
    refine c_end ?_
    refine wp_ret ?_
    refine x_thenR ?_
    obtain rfl := Option.some.inj h1
    exact b_ret1 (d := (.agg [.ints .u64 [0, 0, 0, 0] 4])) S rfl (resD_cell rfl .here T26 rfl rfl) fun ok => S.retX (Hx := []) hb _ _ (() : Unit) .nil ok
  · refine c_condF S rfl c1 ?_
    refine wp_skip ?_
    refine x_thenN ?_
    refine wp_seq_k ?_
    intro K1 hK1
    have j1 : ∀ (m : Mem) (g5 : Nat) (g6 : Nat) (g7 : Nat) (y1 : List Int) (y2 : List Int) (a : Act) (w : World), St 36 m b0 [(8, (.v (.pointer (some ⟨g5, 0, none⟩)))), (7, (.v (.pointer (some ⟨g6, 0, none⟩)))), (6, (.v (.pointer (some ⟨g7, 0, none⟩)))), (2, (.v (.int .u64 x3)))] [Res.cells g5 26 [.ints .u64 y1 4], Res.cells g6 26 [.ints .u64 y2 4], Res.cells g7 26 [.ints .u64 [0, 0, 0, 0] 4]] a w → fee_Step.j1 k x3 y1 y2 = some r → K1 a w := by
      intro m g5 g6 g7 y1 y2 a w S h0
      delta fee_Step.j1 at h0
      refine hK1 a w ?_
      refine c_region ?_
      refine s_move S rfl rfl ?_; clear S a; intro a S
      obtain ⟨t1, et1, h1⟩ := bind_of h0; clear h0
      refine s_callP S (fun (ch : Unit) => ((.agg [.ints .u64 t1 4]) : D)) N43 rfl rfl (word_Of.ok x3 t1 et1 _ _) ?_; clear S a w; intro ch1 m le1 a w S
      obtain ⟨t2, et2, h2⟩ := bind_of h1; clear h1
      refine s_callP S (fun (ch : Unit) => ((.agg [.ints .u64 t2 4]) : D)) N43 rfl rfl (word_Of.ok 8 t2 et2 _ _) ?_; clear S a w; intro ch2 m le1 a w S
      obtain ⟨t3, et3, h3⟩ := bind_of h2; clear h2
      refine s_callP S (fun (ch : Unit) => ((.tup [(true, [.ints .u64 t3.1 4]), (true, [.ints .u64 t3.2 4])]) : D)) N72 rfl rfl (wide_Product.ok k t1 t2 t3 et3 _ _) ?_; clear S a w; intro ch3 m le1 a w S
      refine s_move S rfl rfl ?_; clear S a; intro a S
      refine s_extract S rfl rfl rfl rfl ?_; clear S a; intro a S
      refine s_extract S rfl rfl rfl rfl ?_; clear S a; intro a S
      refine s_alloc S Z26 rfl ⟨rfl, trivial⟩ rfl ?_; clear S a w; intro g8 a w S
      refine s_alloc S Z26 rfl ⟨rfl, trivial⟩ rfl ?_; clear S a w; intro g9 a w S
      refine s_store S rfl rfl rfl (s' := [.ints .u64 t3.1 4]) (.there .here) T26 rfl rfl ?_; clear S w; intro w S
      refine s_store S rfl rfl rfl (s' := [.ints .u64 t3.2 4]) .here T26 rfl rfl ?_; clear S w; intro w S
      refine c_end ?_
      refine wp_seq ?_
      refine c_region ?_
      refine s_loada S rfl .here T26 (s' := [.ints .u64 t3.2 4]) rfl rfl ?_; clear S a; intro a S
      refine s_build S (ds := []) (dv := (.agg [.ints .u64 [0, 0, 0, 0] 4])) rfl (fun _ => by kernel_rfl) ⟨rfl, trivial⟩ rfl ?_; clear S a; intro a S
      refine s_nea S rfl rfl Tryd.underlying26 Tryd.underlying24 T24 Q26 rfl ?_; clear S a; intro a S
      refine c_end ?_
      rcases ite_of h3 with ⟨c2, h4⟩ | ⟨c2, h4⟩ <;> clear h3
      · refine c_condT S rfl c2 ?_
        refine c_region ?_
        refine s_build S (ds := []) (dv := (.agg [.ints .u64 [0, 0, 0, 0] 4])) rfl (fun _ => by kernel_rfl) ⟨rfl, trivial⟩ rfl ?_; clear S a; intro a S
        refine s_store S rfl rfl rfl (s' := [.ints .u64 [0, 0, 0, 0] 4]) (.there (.there (.there (.there .here)))) T26 rfl rfl ?_; clear S w; intro w S
        refine c_end ?_
        refine wp_ret ?_
        refine x_thenR ?_
        obtain rfl := Option.some.inj h4
        exact b_ret1 (d := (.agg [.ints .u64 [0, 0, 0, 0] 4])) S rfl (resD_cell rfl (.there (.there (.there (.there .here)))) T26 rfl rfl) fun ok => S.retX (Hx := []) hb _ _ (() : Unit) .nil ok
      · refine c_condF S rfl c2 ?_
        refine wp_skip ?_
        refine x_thenN ?_
        refine c_region ?_
        refine s_loada S rfl (.there (.there (.there .here))) T26 (s' := [.ints .u64 y2 4]) rfl rfl ?_; clear S a; intro a S
        refine s_loada S rfl (.there (.there .here)) T26 (s' := [.ints .u64 y1 4]) rfl rfl ?_; clear S a; intro a S
        refine s_loada S rfl (.there .here) T26 (s' := [.ints .u64 t3.1 4]) rfl rfl ?_; clear S a; intro a S
        obtain ⟨t4, et4, h5⟩ := bind_of h4; clear h4
        refine s_callP S (fun (ch : Unit) => ((.agg [.ints .u64 t4 4]) : D)) N73 rfl rfl (fee_quotient.ok k y2 y1 t3.1 t4 et4 _ _) ?_; clear S a w; intro ch4 m le1 a w S
        refine s_store S rfl rfl rfl (s' := [.ints .u64 t4 4]) (.there (.there (.there (.there .here)))) T26 rfl rfl ?_; clear S w; intro w S
        refine c_end ?_
        refine wp_ret ?_
        obtain rfl := Option.some.inj h5
        exact b_ret1 (d := (.agg [.ints .u64 t4 4])) S rfl (resD_cell rfl (.there (.there (.there (.there .here)))) T26 rfl rfl) fun ok => S.retX (Hx := []) hb _ _ (() : Unit) .nil ok
    refine c_heldS S (.take 0 (.take 1 (.alts (.run 2 true (.alts (.run 3 true (.take 4 (.take 5 (.take 6 (.alts (.run 7 true (.alts (.run 8 true (.alts (.run 9 true (.alts (.run 10 false .done .nil)) .nil)) .nil)) (.run 8 true (.alts (.run 7 true (.alts (.run 9 true (.alts (.run 10 false .done .nil)) .nil)) .nil)) .nil)))))) (.run 7 true (.alts (.run 3 true (.take 4 (.take 5 (.take 6 (.alts (.run 8 true (.alts (.run 9 true (.alts (.run 10 false .done .nil)) .nil)) .nil))))) (.run 8 true (.alts (.run 3 true (.take 4 (.take 5 (.take 6 (.alts (.run 9 true (.alts (.run 10 false .done .nil)) .nil))))) .nil)) .nil))) (.run 8 true (.alts (.run 3 true (.take 4 (.take 5 (.take 6 (.alts (.run 7 true (.alts (.run 9 true (.alts (.run 10 false .done .nil)) .nil)) .nil))))) (.run 7 true (.alts (.run 3 true (.take 4 (.take 5 (.take 6 (.alts (.run 9 true (.alts (.run 10 false .done .nil)) .nil))))) .nil)) .nil))) .nil)))) (.run 7 true (.alts (.run 2 true (.alts (.run 3 true (.take 4 (.take 5 (.take 6 (.alts (.run 8 true (.alts (.run 9 true (.alts (.run 10 false .done .nil)) .nil)) .nil))))) (.run 8 true (.alts (.run 3 true (.take 4 (.take 5 (.take 6 (.alts (.run 9 true (.alts (.run 10 false .done .nil)) .nil))))) .nil)) .nil))) (.run 8 true (.alts (.run 2 true (.alts (.run 3 true (.take 4 (.take 5 (.take 6 (.alts (.run 9 true (.alts (.run 10 false .done .nil)) .nil))))) .nil)) .nil)) .nil))) (.run 8 true (.alts (.run 2 true (.alts (.run 3 true (.take 4 (.take 5 (.take 6 (.alts (.run 7 true (.alts (.run 9 true (.alts (.run 10 false .done .nil)) .nil)) .nil))))) (.run 7 true (.alts (.run 3 true (.take 4 (.take 5 (.take 6 (.alts (.run 9 true (.alts (.run 10 false .done .nil)) .nil))))) .nil)) .nil))) (.run 7 true (.alts (.run 2 true (.alts (.run 3 true (.take 4 (.take 5 (.take 6 (.alts (.run 9 true (.alts (.run 10 false .done .nil)) .nil))))) .nil)) .nil)) .nil))) .nil)))))) 10 [Res.cells g2 26 [.ints .u64 [0, 0, 0, 0] 4], Res.cells g1 26 [.ints .u64 x1 4]] (.cons .here (.cons .here .nil)) ⟨Res.stay_cells, Res.stay_cells, trivial⟩ [(3, (.v (.pointer (some ⟨g1, 0, none⟩)))), (1, (.v (.int .u64 x2)))] ⟨rfl, rfl, trivial⟩ (by kernel_rfl) (by kernel_rfl) ?_; clear S; intro w S CL hw le
    refine h_loada S CL hw le ⟨rfl, rfl, trivial⟩ rfl (.there .here) T26 (s' := [.ints .u64 x1 4]) rfl rfl rfl trivial ?_; clear S CL a; intro a S CL
    refine h_move S CL hw le ⟨rfl, rfl, rfl, trivial⟩ rfl rfl rfl trivial ?_; clear S CL a; intro a S CL
    obtain ⟨t5, et5, h2⟩ := bind_of h1; clear h1
    obtain ⟨t6, et6, h3⟩ := bind_of h2; clear h2
    refine h_alts ?_
    refine h_runO S rfl trivial ?_ ?_
    · refine s_callP S (fun (ch : Unit) => ((.agg [.ints .u64 t5 4]) : D)) N43 rfl rfl (word_Of.ok x2 t5 et5 _ _) ?_; clear S a; intro ch5 m le1 a w S
      replace le := le.trans le1
      replace hw := CL.again hw S (.cons .here (.cons .here .nil)) le
      refine h_back ⟨fun _ => hw, ?_⟩
      refine h_alts ?_
      refine h_runO S rfl trivial ?_ ?_
      · refine s_callP S (fun (ch : Unit) => ((.tup [(true, [.ints .u64 t6.1 4]), (true, [.ints .u64 t6.2 4])]) : D)) N72 rfl rfl (wide_Product.ok k x1 t5 t6 et6 _ _) ?_; clear S a; intro ch6 m le1 a w S
        replace le := le.trans le1
        replace hw := CL.again hw S (.cons .here (.cons .here .nil)) le
        refine h_back ⟨fun _ => hw, ?_⟩
        replace CL := CL.add (t := 18) (d := (.tup [(true, [.ints .u64 t6.1 4]), (true, [.ints .u64 t6.2 4])])) S rfl rfl
        refine h_move S CL hw le ⟨rfl, rfl, rfl, rfl, rfl, trivial⟩ rfl rfl rfl trivial ?_; clear S CL a; intro a S CL
        refine h_extract S CL hw le ⟨rfl, rfl, rfl, rfl, rfl, rfl, trivial⟩ rfl rfl rfl rfl rfl trivial ?_; clear S CL a; intro a S CL
        refine h_extract S CL hw le ⟨rfl, rfl, rfl, rfl, rfl, rfl, rfl, trivial⟩ rfl rfl rfl rfl rfl trivial ?_; clear S CL a; intro a S CL
        refine h_alts ?_
        refine h_runO S rfl trivial ?_ ?_
        · refine s_alloc S Z26 rfl ⟨rfl, trivial⟩ rfl ?_; clear S a; intro g10 a w S
          replace hw := CL.again hw S (.cons (.there .here) (.cons (.there .here) .nil)) le
          refine h_back ⟨fun _ => hw, ?_⟩
          refine h_run' S rfl trivial ?_
          refine s_alloc S Z26 rfl ⟨rfl, trivial⟩ rfl ?_; clear S a; intro g11 a w S
          replace hw := CL.again hw S (.cons (.there (.there .here)) (.cons (.there (.there .here)) .nil)) le
          refine h_back ⟨fun _ => hw, ?_⟩
          refine h_run' S rfl trivial ?_
          refine s_store S rfl rfl rfl (s' := [.ints .u64 t6.1 4]) (.there .here) T26 rfl rfl ?_; clear S; intro w S
          replace hw := CL.again hw S (.cons (.there (.there .here)) (.cons (.there (.there .here)) .nil)) le
          refine h_back ⟨fun _ => hw, ?_⟩
          refine h_run' S rfl trivial ?_
          refine s_store S rfl rfl rfl (s' := [.ints .u64 t6.2 4]) .here T26 rfl rfl ?_; clear S; intro w S
          refine h_back ⟨fun h => (nomatch h), ?_⟩
          refine h_done ?_; clear CL hw le
          refine x_thenN ?_
          exact j1 _ g11 g10 g2 t6.2 t6.1 a w (S.sub ⟨rfl, rfl, rfl, rfl, trivial⟩ (.cons .here (.cons .here (.cons .here .nil)))) h3
        refine h_runO S rfl trivial ?_ ?_
        · refine s_alloc S Z26 rfl ⟨rfl, trivial⟩ rfl ?_; clear S a; intro g10 a w S
          replace hw := CL.again hw S (.cons (.there .here) (.cons (.there .here) .nil)) le
          refine h_back ⟨fun _ => hw, ?_⟩
          refine h_run' S rfl trivial ?_
          refine s_alloc S Z26 rfl ⟨rfl, trivial⟩ rfl ?_; clear S a; intro g11 a w S
          replace hw := CL.again hw S (.cons (.there (.there .here)) (.cons (.there (.there .here)) .nil)) le
          refine h_back ⟨fun _ => hw, ?_⟩
          refine h_run' S rfl trivial ?_
          refine s_store S rfl rfl rfl (s' := [.ints .u64 t6.1 4]) .here T26 rfl rfl ?_; clear S; intro w S
          replace hw := CL.again hw S (.cons (.there (.there .here)) (.cons (.there (.there .here)) .nil)) le
          refine h_back ⟨fun _ => hw, ?_⟩
          refine h_run' S rfl trivial ?_
          refine s_store S rfl rfl rfl (s' := [.ints .u64 t6.2 4]) (.there .here) T26 rfl rfl ?_; clear S; intro w S
          refine h_back ⟨fun h => (nomatch h), ?_⟩
          refine h_done ?_; clear CL hw le
          refine x_thenN ?_
          exact j1 _ g10 g11 g2 t6.2 t6.1 a w (S.sub ⟨rfl, rfl, rfl, rfl, trivial⟩ (.cons (.there .here) (.cons .here (.cons .here .nil)))) h3
        exact h_nil
      refine h_runO S rfl trivial ?_ ?_
      · refine s_alloc S Z26 rfl ⟨rfl, trivial⟩ rfl ?_; clear S a; intro g10 a w S
        replace hw := CL.again hw S (.cons (.there .here) (.cons (.there .here) .nil)) le
        refine h_back ⟨fun _ => hw, ?_⟩
        refine h_alts ?_
        refine h_runO S rfl trivial ?_ ?_
        · refine s_callP S (fun (ch : Unit) => ((.tup [(true, [.ints .u64 t6.1 4]), (true, [.ints .u64 t6.2 4])]) : D)) N72 rfl rfl (wide_Product.ok k x1 t5 t6 et6 _ _) ?_; clear S a; intro ch6 m le1 a w S
          replace le := le.trans le1
          replace hw := CL.again hw S (.cons (.there .here) (.cons (.there .here) .nil)) le
          refine h_back ⟨fun _ => hw, ?_⟩
          replace CL := CL.add (t := 18) (d := (.tup [(true, [.ints .u64 t6.1 4]), (true, [.ints .u64 t6.2 4])])) S rfl rfl
          refine h_move S CL hw le ⟨rfl, rfl, rfl, rfl, rfl, trivial⟩ rfl rfl rfl trivial ?_; clear S CL a; intro a S CL
          refine h_extract S CL hw le ⟨rfl, rfl, rfl, rfl, rfl, rfl, trivial⟩ rfl rfl rfl rfl rfl trivial ?_; clear S CL a; intro a S CL
          refine h_extract S CL hw le ⟨rfl, rfl, rfl, rfl, rfl, rfl, rfl, trivial⟩ rfl rfl rfl rfl rfl trivial ?_; clear S CL a; intro a S CL
          refine h_run' S rfl trivial ?_
          refine s_alloc S Z26 rfl ⟨rfl, trivial⟩ rfl ?_; clear S a; intro g11 a w S
          replace hw := CL.again hw S (.cons (.there (.there .here)) (.cons (.there (.there .here)) .nil)) le
          refine h_back ⟨fun _ => hw, ?_⟩
          refine h_run' S rfl trivial ?_
          refine s_store S rfl rfl rfl (s' := [.ints .u64 t6.1 4]) (.there .here) T26 rfl rfl ?_; clear S; intro w S
          replace hw := CL.again hw S (.cons (.there (.there .here)) (.cons (.there (.there .here)) .nil)) le
          refine h_back ⟨fun _ => hw, ?_⟩
          refine h_run' S rfl trivial ?_
          refine s_store S rfl rfl rfl (s' := [.ints .u64 t6.2 4]) .here T26 rfl rfl ?_; clear S; intro w S
          refine h_back ⟨fun h => (nomatch h), ?_⟩
          refine h_done ?_; clear CL hw le
          refine x_thenN ?_
          exact j1 _ g11 g10 g2 t6.2 t6.1 a w (S.sub ⟨rfl, rfl, rfl, rfl, trivial⟩ (.cons .here (.cons .here (.cons .here .nil)))) h3
        refine h_runO S rfl trivial ?_ ?_
        · refine s_alloc S Z26 rfl ⟨rfl, trivial⟩ rfl ?_; clear S a; intro g11 a w S
          replace hw := CL.again hw S (.cons (.there (.there .here)) (.cons (.there (.there .here)) .nil)) le
          refine h_back ⟨fun _ => hw, ?_⟩
          refine h_run' S rfl trivial ?_
          refine s_callP S (fun (ch : Unit) => ((.tup [(true, [.ints .u64 t6.1 4]), (true, [.ints .u64 t6.2 4])]) : D)) N72 rfl rfl (wide_Product.ok k x1 t5 t6 et6 _ _) ?_; clear S a; intro ch6 m le1 a w S
          replace le := le.trans le1
          replace hw := CL.again hw S (.cons (.there (.there .here)) (.cons (.there (.there .here)) .nil)) le
          refine h_back ⟨fun _ => hw, ?_⟩
          replace CL := CL.add (t := 18) (d := (.tup [(true, [.ints .u64 t6.1 4]), (true, [.ints .u64 t6.2 4])])) S rfl rfl
          refine h_move S CL hw le ⟨rfl, rfl, rfl, rfl, rfl, trivial⟩ rfl rfl rfl trivial ?_; clear S CL a; intro a S CL
          refine h_extract S CL hw le ⟨rfl, rfl, rfl, rfl, rfl, rfl, trivial⟩ rfl rfl rfl rfl rfl trivial ?_; clear S CL a; intro a S CL
          refine h_extract S CL hw le ⟨rfl, rfl, rfl, rfl, rfl, rfl, rfl, trivial⟩ rfl rfl rfl rfl rfl trivial ?_; clear S CL a; intro a S CL
          refine h_run' S rfl trivial ?_
          refine s_store S rfl rfl rfl (s' := [.ints .u64 t6.1 4]) (.there .here) T26 rfl rfl ?_; clear S; intro w S
          replace hw := CL.again hw S (.cons (.there (.there .here)) (.cons (.there (.there .here)) .nil)) le
          refine h_back ⟨fun _ => hw, ?_⟩
          refine h_run' S rfl trivial ?_
          refine s_store S rfl rfl rfl (s' := [.ints .u64 t6.2 4]) .here T26 rfl rfl ?_; clear S; intro w S
          refine h_back ⟨fun h => (nomatch h), ?_⟩
          refine h_done ?_; clear CL hw le
          refine x_thenN ?_
          exact j1 _ g11 g10 g2 t6.2 t6.1 a w (S.sub ⟨rfl, rfl, rfl, rfl, trivial⟩ (.cons .here (.cons .here (.cons .here .nil)))) h3
        exact h_nil
      refine h_runO S rfl trivial ?_ ?_
      · refine s_alloc S Z26 rfl ⟨rfl, trivial⟩ rfl ?_; clear S a; intro g10 a w S
        replace hw := CL.again hw S (.cons (.there .here) (.cons (.there .here) .nil)) le
        refine h_back ⟨fun _ => hw, ?_⟩
        refine h_alts ?_
        refine h_runO S rfl trivial ?_ ?_
        · refine s_callP S (fun (ch : Unit) => ((.tup [(true, [.ints .u64 t6.1 4]), (true, [.ints .u64 t6.2 4])]) : D)) N72 rfl rfl (wide_Product.ok k x1 t5 t6 et6 _ _) ?_; clear S a; intro ch6 m le1 a w S
          replace le := le.trans le1
          replace hw := CL.again hw S (.cons (.there .here) (.cons (.there .here) .nil)) le
          refine h_back ⟨fun _ => hw, ?_⟩
          replace CL := CL.add (t := 18) (d := (.tup [(true, [.ints .u64 t6.1 4]), (true, [.ints .u64 t6.2 4])])) S rfl rfl
          refine h_move S CL hw le ⟨rfl, rfl, rfl, rfl, rfl, trivial⟩ rfl rfl rfl trivial ?_; clear S CL a; intro a S CL
          refine h_extract S CL hw le ⟨rfl, rfl, rfl, rfl, rfl, rfl, trivial⟩ rfl rfl rfl rfl rfl trivial ?_; clear S CL a; intro a S CL
          refine h_extract S CL hw le ⟨rfl, rfl, rfl, rfl, rfl, rfl, rfl, trivial⟩ rfl rfl rfl rfl rfl trivial ?_; clear S CL a; intro a S CL
          refine h_run' S rfl trivial ?_
          refine s_alloc S Z26 rfl ⟨rfl, trivial⟩ rfl ?_; clear S a; intro g11 a w S
          replace hw := CL.again hw S (.cons (.there (.there .here)) (.cons (.there (.there .here)) .nil)) le
          refine h_back ⟨fun _ => hw, ?_⟩
          refine h_run' S rfl trivial ?_
          refine s_store S rfl rfl rfl (s' := [.ints .u64 t6.1 4]) .here T26 rfl rfl ?_; clear S; intro w S
          replace hw := CL.again hw S (.cons (.there (.there .here)) (.cons (.there (.there .here)) .nil)) le
          refine h_back ⟨fun _ => hw, ?_⟩
          refine h_run' S rfl trivial ?_
          refine s_store S rfl rfl rfl (s' := [.ints .u64 t6.2 4]) (.there .here) T26 rfl rfl ?_; clear S; intro w S
          refine h_back ⟨fun h => (nomatch h), ?_⟩
          refine h_done ?_; clear CL hw le
          refine x_thenN ?_
          exact j1 _ g10 g11 g2 t6.2 t6.1 a w (S.sub ⟨rfl, rfl, rfl, rfl, trivial⟩ (.cons (.there .here) (.cons .here (.cons .here .nil)))) h3
        refine h_runO S rfl trivial ?_ ?_
        · refine s_alloc S Z26 rfl ⟨rfl, trivial⟩ rfl ?_; clear S a; intro g11 a w S
          replace hw := CL.again hw S (.cons (.there (.there .here)) (.cons (.there (.there .here)) .nil)) le
          refine h_back ⟨fun _ => hw, ?_⟩
          refine h_run' S rfl trivial ?_
          refine s_callP S (fun (ch : Unit) => ((.tup [(true, [.ints .u64 t6.1 4]), (true, [.ints .u64 t6.2 4])]) : D)) N72 rfl rfl (wide_Product.ok k x1 t5 t6 et6 _ _) ?_; clear S a; intro ch6 m le1 a w S
          replace le := le.trans le1
          replace hw := CL.again hw S (.cons (.there (.there .here)) (.cons (.there (.there .here)) .nil)) le
          refine h_back ⟨fun _ => hw, ?_⟩
          replace CL := CL.add (t := 18) (d := (.tup [(true, [.ints .u64 t6.1 4]), (true, [.ints .u64 t6.2 4])])) S rfl rfl
          refine h_move S CL hw le ⟨rfl, rfl, rfl, rfl, rfl, trivial⟩ rfl rfl rfl trivial ?_; clear S CL a; intro a S CL
          refine h_extract S CL hw le ⟨rfl, rfl, rfl, rfl, rfl, rfl, trivial⟩ rfl rfl rfl rfl rfl trivial ?_; clear S CL a; intro a S CL
          refine h_extract S CL hw le ⟨rfl, rfl, rfl, rfl, rfl, rfl, rfl, trivial⟩ rfl rfl rfl rfl rfl trivial ?_; clear S CL a; intro a S CL
          refine h_run' S rfl trivial ?_
          refine s_store S rfl rfl rfl (s' := [.ints .u64 t6.1 4]) .here T26 rfl rfl ?_; clear S; intro w S
          replace hw := CL.again hw S (.cons (.there (.there .here)) (.cons (.there (.there .here)) .nil)) le
          refine h_back ⟨fun _ => hw, ?_⟩
          refine h_run' S rfl trivial ?_
          refine s_store S rfl rfl rfl (s' := [.ints .u64 t6.2 4]) (.there .here) T26 rfl rfl ?_; clear S; intro w S
          refine h_back ⟨fun h => (nomatch h), ?_⟩
          refine h_done ?_; clear CL hw le
          refine x_thenN ?_
          exact j1 _ g10 g11 g2 t6.2 t6.1 a w (S.sub ⟨rfl, rfl, rfl, rfl, trivial⟩ (.cons (.there .here) (.cons .here (.cons .here .nil)))) h3
        exact h_nil
      exact h_nil
    refine h_runO S rfl trivial ?_ ?_
    · refine s_alloc S Z26 rfl ⟨rfl, trivial⟩ rfl ?_; clear S a; intro g10 a w S
      replace hw := CL.again hw S (.cons (.there .here) (.cons (.there .here) .nil)) le
      refine h_back ⟨fun _ => hw, ?_⟩
      refine h_alts ?_
      refine h_runO S rfl trivial ?_ ?_
      · refine s_callP S (fun (ch : Unit) => ((.agg [.ints .u64 t5 4]) : D)) N43 rfl rfl (word_Of.ok x2 t5 et5 _ _) ?_; clear S a; intro ch5 m le1 a w S
        replace le := le.trans le1
        replace hw := CL.again hw S (.cons (.there .here) (.cons (.there .here) .nil)) le
        refine h_back ⟨fun _ => hw, ?_⟩
        refine h_alts ?_
        refine h_runO S rfl trivial ?_ ?_
        · refine s_callP S (fun (ch : Unit) => ((.tup [(true, [.ints .u64 t6.1 4]), (true, [.ints .u64 t6.2 4])]) : D)) N72 rfl rfl (wide_Product.ok k x1 t5 t6 et6 _ _) ?_; clear S a; intro ch6 m le1 a w S
          replace le := le.trans le1
          replace hw := CL.again hw S (.cons (.there .here) (.cons (.there .here) .nil)) le
          refine h_back ⟨fun _ => hw, ?_⟩
          replace CL := CL.add (t := 18) (d := (.tup [(true, [.ints .u64 t6.1 4]), (true, [.ints .u64 t6.2 4])])) S rfl rfl
          refine h_move S CL hw le ⟨rfl, rfl, rfl, rfl, rfl, trivial⟩ rfl rfl rfl trivial ?_; clear S CL a; intro a S CL
          refine h_extract S CL hw le ⟨rfl, rfl, rfl, rfl, rfl, rfl, trivial⟩ rfl rfl rfl rfl rfl trivial ?_; clear S CL a; intro a S CL
          refine h_extract S CL hw le ⟨rfl, rfl, rfl, rfl, rfl, rfl, rfl, trivial⟩ rfl rfl rfl rfl rfl trivial ?_; clear S CL a; intro a S CL
          refine h_run' S rfl trivial ?_
          refine s_alloc S Z26 rfl ⟨rfl, trivial⟩ rfl ?_; clear S a; intro g11 a w S
          replace hw := CL.again hw S (.cons (.there (.there .here)) (.cons (.there (.there .here)) .nil)) le
          refine h_back ⟨fun _ => hw, ?_⟩
          refine h_run' S rfl trivial ?_
          refine s_store S rfl rfl rfl (s' := [.ints .u64 t6.1 4]) (.there .here) T26 rfl rfl ?_; clear S; intro w S
          replace hw := CL.again hw S (.cons (.there (.there .here)) (.cons (.there (.there .here)) .nil)) le
          refine h_back ⟨fun _ => hw, ?_⟩
          refine h_run' S rfl trivial ?_
          refine s_store S rfl rfl rfl (s' := [.ints .u64 t6.2 4]) .here T26 rfl rfl ?_; clear S; intro w S
          refine h_back ⟨fun h => (nomatch h), ?_⟩
          refine h_done ?_; clear CL hw le
          refine x_thenN ?_
          exact j1 _ g11 g10 g2 t6.2 t6.1 a w (S.sub ⟨rfl, rfl, rfl, rfl, trivial⟩ (.cons .here (.cons .here (.cons .here .nil)))) h3
        refine h_runO S rfl trivial ?_ ?_
        · refine s_alloc S Z26 rfl ⟨rfl, trivial⟩ rfl ?_; clear S a; intro g11 a w S
          replace hw := CL.again hw S (.cons (.there (.there .here)) (.cons (.there (.there .here)) .nil)) le
          refine h_back ⟨fun _ => hw, ?_⟩
          refine h_run' S rfl trivial ?_
          refine s_callP S (fun (ch : Unit) => ((.tup [(true, [.ints .u64 t6.1 4]), (true, [.ints .u64 t6.2 4])]) : D)) N72 rfl rfl (wide_Product.ok k x1 t5 t6 et6 _ _) ?_; clear S a; intro ch6 m le1 a w S
          replace le := le.trans le1
          replace hw := CL.again hw S (.cons (.there (.there .here)) (.cons (.there (.there .here)) .nil)) le
          refine h_back ⟨fun _ => hw, ?_⟩
          replace CL := CL.add (t := 18) (d := (.tup [(true, [.ints .u64 t6.1 4]), (true, [.ints .u64 t6.2 4])])) S rfl rfl
          refine h_move S CL hw le ⟨rfl, rfl, rfl, rfl, rfl, trivial⟩ rfl rfl rfl trivial ?_; clear S CL a; intro a S CL
          refine h_extract S CL hw le ⟨rfl, rfl, rfl, rfl, rfl, rfl, trivial⟩ rfl rfl rfl rfl rfl trivial ?_; clear S CL a; intro a S CL
          refine h_extract S CL hw le ⟨rfl, rfl, rfl, rfl, rfl, rfl, rfl, trivial⟩ rfl rfl rfl rfl rfl trivial ?_; clear S CL a; intro a S CL
          refine h_run' S rfl trivial ?_
          refine s_store S rfl rfl rfl (s' := [.ints .u64 t6.1 4]) (.there .here) T26 rfl rfl ?_; clear S; intro w S
          replace hw := CL.again hw S (.cons (.there (.there .here)) (.cons (.there (.there .here)) .nil)) le
          refine h_back ⟨fun _ => hw, ?_⟩
          refine h_run' S rfl trivial ?_
          refine s_store S rfl rfl rfl (s' := [.ints .u64 t6.2 4]) .here T26 rfl rfl ?_; clear S; intro w S
          refine h_back ⟨fun h => (nomatch h), ?_⟩
          refine h_done ?_; clear CL hw le
          refine x_thenN ?_
          exact j1 _ g11 g10 g2 t6.2 t6.1 a w (S.sub ⟨rfl, rfl, rfl, rfl, trivial⟩ (.cons .here (.cons .here (.cons .here .nil)))) h3
        exact h_nil
      refine h_runO S rfl trivial ?_ ?_
      · refine s_alloc S Z26 rfl ⟨rfl, trivial⟩ rfl ?_; clear S a; intro g11 a w S
        replace hw := CL.again hw S (.cons (.there (.there .here)) (.cons (.there (.there .here)) .nil)) le
        refine h_back ⟨fun _ => hw, ?_⟩
        refine h_run' S rfl trivial ?_
        refine s_callP S (fun (ch : Unit) => ((.agg [.ints .u64 t5 4]) : D)) N43 rfl rfl (word_Of.ok x2 t5 et5 _ _) ?_; clear S a; intro ch5 m le1 a w S
        replace le := le.trans le1
        replace hw := CL.again hw S (.cons (.there (.there .here)) (.cons (.there (.there .here)) .nil)) le
        refine h_back ⟨fun _ => hw, ?_⟩
        refine h_run' S rfl trivial ?_
        refine s_callP S (fun (ch : Unit) => ((.tup [(true, [.ints .u64 t6.1 4]), (true, [.ints .u64 t6.2 4])]) : D)) N72 rfl rfl (wide_Product.ok k x1 t5 t6 et6 _ _) ?_; clear S a; intro ch6 m le1 a w S
        replace le := le.trans le1
        replace hw := CL.again hw S (.cons (.there (.there .here)) (.cons (.there (.there .here)) .nil)) le
        refine h_back ⟨fun _ => hw, ?_⟩
        replace CL := CL.add (t := 18) (d := (.tup [(true, [.ints .u64 t6.1 4]), (true, [.ints .u64 t6.2 4])])) S rfl rfl
        refine h_move S CL hw le ⟨rfl, rfl, rfl, rfl, rfl, trivial⟩ rfl rfl rfl trivial ?_; clear S CL a; intro a S CL
        refine h_extract S CL hw le ⟨rfl, rfl, rfl, rfl, rfl, rfl, trivial⟩ rfl rfl rfl rfl rfl trivial ?_; clear S CL a; intro a S CL
        refine h_extract S CL hw le ⟨rfl, rfl, rfl, rfl, rfl, rfl, rfl, trivial⟩ rfl rfl rfl rfl rfl trivial ?_; clear S CL a; intro a S CL
        refine h_run' S rfl trivial ?_
        refine s_store S rfl rfl rfl (s' := [.ints .u64 t6.1 4]) (.there .here) T26 rfl rfl ?_; clear S; intro w S
        replace hw := CL.again hw S (.cons (.there (.there .here)) (.cons (.there (.there .here)) .nil)) le
        refine h_back ⟨fun _ => hw, ?_⟩
        refine h_run' S rfl trivial ?_
        refine s_store S rfl rfl rfl (s' := [.ints .u64 t6.2 4]) .here T26 rfl rfl ?_; clear S; intro w S
        refine h_back ⟨fun h => (nomatch h), ?_⟩
        refine h_done ?_; clear CL hw le
        refine x_thenN ?_
        exact j1 _ g11 g10 g2 t6.2 t6.1 a w (S.sub ⟨rfl, rfl, rfl, rfl, trivial⟩ (.cons .here (.cons .here (.cons .here .nil)))) h3
      exact h_nil
    refine h_runO S rfl trivial ?_ ?_
    · refine s_alloc S Z26 rfl ⟨rfl, trivial⟩ rfl ?_; clear S a; intro g10 a w S
      replace hw := CL.again hw S (.cons (.there .here) (.cons (.there .here) .nil)) le
      refine h_back ⟨fun _ => hw, ?_⟩
      refine h_alts ?_
      refine h_runO S rfl trivial ?_ ?_
      · refine s_callP S (fun (ch : Unit) => ((.agg [.ints .u64 t5 4]) : D)) N43 rfl rfl (word_Of.ok x2 t5 et5 _ _) ?_; clear S a; intro ch5 m le1 a w S
        replace le := le.trans le1
        replace hw := CL.again hw S (.cons (.there .here) (.cons (.there .here) .nil)) le
        refine h_back ⟨fun _ => hw, ?_⟩
        refine h_alts ?_
        refine h_runO S rfl trivial ?_ ?_
        · refine s_callP S (fun (ch : Unit) => ((.tup [(true, [.ints .u64 t6.1 4]), (true, [.ints .u64 t6.2 4])]) : D)) N72 rfl rfl (wide_Product.ok k x1 t5 t6 et6 _ _) ?_; clear S a; intro ch6 m le1 a w S
          replace le := le.trans le1
          replace hw := CL.again hw S (.cons (.there .here) (.cons (.there .here) .nil)) le
          refine h_back ⟨fun _ => hw, ?_⟩
          replace CL := CL.add (t := 18) (d := (.tup [(true, [.ints .u64 t6.1 4]), (true, [.ints .u64 t6.2 4])])) S rfl rfl
          refine h_move S CL hw le ⟨rfl, rfl, rfl, rfl, rfl, trivial⟩ rfl rfl rfl trivial ?_; clear S CL a; intro a S CL
          refine h_extract S CL hw le ⟨rfl, rfl, rfl, rfl, rfl, rfl, trivial⟩ rfl rfl rfl rfl rfl trivial ?_; clear S CL a; intro a S CL
          refine h_extract S CL hw le ⟨rfl, rfl, rfl, rfl, rfl, rfl, rfl, trivial⟩ rfl rfl rfl rfl rfl trivial ?_; clear S CL a; intro a S CL
          refine h_run' S rfl trivial ?_
          refine s_alloc S Z26 rfl ⟨rfl, trivial⟩ rfl ?_; clear S a; intro g11 a w S
          replace hw := CL.again hw S (.cons (.there (.there .here)) (.cons (.there (.there .here)) .nil)) le
          refine h_back ⟨fun _ => hw, ?_⟩
          refine h_run' S rfl trivial ?_
          refine s_store S rfl rfl rfl (s' := [.ints .u64 t6.1 4]) .here T26 rfl rfl ?_; clear S; intro w S
          replace hw := CL.again hw S (.cons (.there (.there .here)) (.cons (.there (.there .here)) .nil)) le
          refine h_back ⟨fun _ => hw, ?_⟩
          refine h_run' S rfl trivial ?_
          refine s_store S rfl rfl rfl (s' := [.ints .u64 t6.2 4]) (.there .here) T26 rfl rfl ?_; clear S; intro w S
          refine h_back ⟨fun h => (nomatch h), ?_⟩
          refine h_done ?_; clear CL hw le
          refine x_thenN ?_
          exact j1 _ g10 g11 g2 t6.2 t6.1 a w (S.sub ⟨rfl, rfl, rfl, rfl, trivial⟩ (.cons (.there .here) (.cons .here (.cons .here .nil)))) h3
        refine h_runO S rfl trivial ?_ ?_
        · refine s_alloc S Z26 rfl ⟨rfl, trivial⟩ rfl ?_; clear S a; intro g11 a w S
          replace hw := CL.again hw S (.cons (.there (.there .here)) (.cons (.there (.there .here)) .nil)) le
          refine h_back ⟨fun _ => hw, ?_⟩
          refine h_run' S rfl trivial ?_
          refine s_callP S (fun (ch : Unit) => ((.tup [(true, [.ints .u64 t6.1 4]), (true, [.ints .u64 t6.2 4])]) : D)) N72 rfl rfl (wide_Product.ok k x1 t5 t6 et6 _ _) ?_; clear S a; intro ch6 m le1 a w S
          replace le := le.trans le1
          replace hw := CL.again hw S (.cons (.there (.there .here)) (.cons (.there (.there .here)) .nil)) le
          refine h_back ⟨fun _ => hw, ?_⟩
          replace CL := CL.add (t := 18) (d := (.tup [(true, [.ints .u64 t6.1 4]), (true, [.ints .u64 t6.2 4])])) S rfl rfl
          refine h_move S CL hw le ⟨rfl, rfl, rfl, rfl, rfl, trivial⟩ rfl rfl rfl trivial ?_; clear S CL a; intro a S CL
          refine h_extract S CL hw le ⟨rfl, rfl, rfl, rfl, rfl, rfl, trivial⟩ rfl rfl rfl rfl rfl trivial ?_; clear S CL a; intro a S CL
          refine h_extract S CL hw le ⟨rfl, rfl, rfl, rfl, rfl, rfl, rfl, trivial⟩ rfl rfl rfl rfl rfl trivial ?_; clear S CL a; intro a S CL
          refine h_run' S rfl trivial ?_
          refine s_store S rfl rfl rfl (s' := [.ints .u64 t6.1 4]) .here T26 rfl rfl ?_; clear S; intro w S
          replace hw := CL.again hw S (.cons (.there (.there .here)) (.cons (.there (.there .here)) .nil)) le
          refine h_back ⟨fun _ => hw, ?_⟩
          refine h_run' S rfl trivial ?_
          refine s_store S rfl rfl rfl (s' := [.ints .u64 t6.2 4]) (.there .here) T26 rfl rfl ?_; clear S; intro w S
          refine h_back ⟨fun h => (nomatch h), ?_⟩
          refine h_done ?_; clear CL hw le
          refine x_thenN ?_
          exact j1 _ g10 g11 g2 t6.2 t6.1 a w (S.sub ⟨rfl, rfl, rfl, rfl, trivial⟩ (.cons (.there .here) (.cons .here (.cons .here .nil)))) h3
        exact h_nil
      refine h_runO S rfl trivial ?_ ?_
      · refine s_alloc S Z26 rfl ⟨rfl, trivial⟩ rfl ?_; clear S a; intro g11 a w S
        replace hw := CL.again hw S (.cons (.there (.there .here)) (.cons (.there (.there .here)) .nil)) le
        refine h_back ⟨fun _ => hw, ?_⟩
        refine h_run' S rfl trivial ?_
        refine s_callP S (fun (ch : Unit) => ((.agg [.ints .u64 t5 4]) : D)) N43 rfl rfl (word_Of.ok x2 t5 et5 _ _) ?_; clear S a; intro ch5 m le1 a w S
        replace le := le.trans le1
        replace hw := CL.again hw S (.cons (.there (.there .here)) (.cons (.there (.there .here)) .nil)) le
        refine h_back ⟨fun _ => hw, ?_⟩
        refine h_run' S rfl trivial ?_
        refine s_callP S (fun (ch : Unit) => ((.tup [(true, [.ints .u64 t6.1 4]), (true, [.ints .u64 t6.2 4])]) : D)) N72 rfl rfl (wide_Product.ok k x1 t5 t6 et6 _ _) ?_; clear S a; intro ch6 m le1 a w S
        replace le := le.trans le1
        replace hw := CL.again hw S (.cons (.there (.there .here)) (.cons (.there (.there .here)) .nil)) le
        refine h_back ⟨fun _ => hw, ?_⟩
        replace CL := CL.add (t := 18) (d := (.tup [(true, [.ints .u64 t6.1 4]), (true, [.ints .u64 t6.2 4])])) S rfl rfl
        refine h_move S CL hw le ⟨rfl, rfl, rfl, rfl, rfl, trivial⟩ rfl rfl rfl trivial ?_; clear S CL a; intro a S CL
        refine h_extract S CL hw le ⟨rfl, rfl, rfl, rfl, rfl, rfl, trivial⟩ rfl rfl rfl rfl rfl trivial ?_; clear S CL a; intro a S CL
        refine h_extract S CL hw le ⟨rfl, rfl, rfl, rfl, rfl, rfl, rfl, trivial⟩ rfl rfl rfl rfl rfl trivial ?_; clear S CL a; intro a S CL
        refine h_run' S rfl trivial ?_
        refine s_store S rfl rfl rfl (s' := [.ints .u64 t6.1 4]) .here T26 rfl rfl ?_; clear S; intro w S
        replace hw := CL.again hw S (.cons (.there (.there .here)) (.cons (.there (.there .here)) .nil)) le
        refine h_back ⟨fun _ => hw, ?_⟩
        refine h_run' S rfl trivial ?_
        refine s_store S rfl rfl rfl (s' := [.ints .u64 t6.2 4]) (.there .here) T26 rfl rfl ?_; clear S; intro w S
        refine h_back ⟨fun h => (nomatch h), ?_⟩
        refine h_done ?_; clear CL hw le
        refine x_thenN ?_
        exact j1 _ g10 g11 g2 t6.2 t6.1 a w (S.sub ⟨rfl, rfl, rfl, rfl, trivial⟩ (.cons (.there .here) (.cons .here (.cons .here .nil)))) h3
      exact h_nil
    exact h_nil
/-! smithy/word.Add -/
abbrev word_Add.Ty : Type := (List Int) → (List Int) → Option ((List Int))
def word_Add.Ctr (s : word_Add.Ty) : Prop := ∀ (x1 : List Int) (x2 : List Int) (r : (List Int)) (h0 : s x1 x2 = some r) (mi : Mem) (w0 : World), okL mi [(.agg [.ints .u64 x1 4]), (.agg [.ints .u64 x2 4])] → Pre mi [] w0 → Calls Tryd.prog 55 (([(.agg [.ints .u64 x1 4]), (.agg [.ints .u64 x2 4])] : List D).map D.val).toArray w0 (RetX mi [] (fun (ch : Unit) => ((.agg [.ints .u64 r 4]) : D)) (fun (ch : Unit) => []) w0)
def word_Add.j1 (y1 : List Int) : Option ((List Int)) := some y1
def word_Add.b1 (x1 : List Int) (x2 : List Int) (rec1 : Int → Int → (List Int) → Option ((List Int))) (y5 : Int) (y6 : Int) (y7 : List Int) : Option ((List Int)) := if (decide (y5 < 4)) = true then (if (0 : Int) ≤ y5 ∧ y5 < 4 then (if (0 : Int) ≤ (rd x1 y5) ∧ (0 : Int) ≤ (rd x2 y5) ∧ (0 : Int) ≤ y6 ∧ (y6 : Int) ≤ 1 then (rec1 (wr .i64 (y5 + 1)) (((rd x1 y5) + (rd x2 y5) + y6) / 18446744073709551616) (y7.set (Int.toNat y5) (((rd x1 y5) + (rd x2 y5) + y6) % 18446744073709551616))) else none) else none) else (word_Add.j1 y7)
def word_Add.l1 (x1 : List Int) (x2 : List Int) : Nat → Int → Int → (List Int) → Option ((List Int))
  | 0, _, _, _ => none
  | q + 1, y5, y6, y7 => word_Add.b1 x1 x2 (word_Add.l1 x1 x2 q) y5 y6 y7
def word_Add.f (k : Nat) (x1 : List Int) (x2 : List Int) : Option ((List Int)) := word_Add.l1 x1 x2 k 0 0 [0, 0, 0, 0]
theorem word_Add.ok (k : Nat) : word_Add.Ctr (word_Add.f k) := by
  intro x1 x2 r h0 mi w0 ok hm
  delta word_Add.f at h0
  refine c_enterX (n := 30) [(.agg [.ints .u64 x1 4]), (.agg [.ints .u64 x2 4])] (l := [(0, (.agg [.ints .u64 x1 4])), (1, (.agg [.ints .u64 x2 4]))]) Tryd.func55 rfl rfl rfl rfl ok hm ?_
  clear ok hm
  intro b0 hb a S
  refine c_region ?_
  refine s_box S rfl rfl rfl ?_; clear S a; intro g1 a w S
  refine s_box S rfl rfl rfl ?_; clear S a w; intro g2 a w S
  refine s_alloc S Z26 rfl ⟨rfl, trivial⟩ rfl ?_; clear S a w; intro g3 a w S
  refine c_end ?_
  refine c_region ?_
  refine s_alloc S Z26 rfl ⟨rfl, trivial⟩ rfl ?_; clear S a w; intro g4 a w S
  refine c_end ?_
  refine c_region ?_
  refine s_assign S rfl rfl ?_; clear S a; intro a S
  refine c_end ?_
  refine wp_seq_k ?_
  intro K1 hK1
  have j1 : ∀ (m : Mem) (g17 : Nat) (g18 : Nat) (y1 : List Int) (a : Act) (w : World), St 30 m b0 [(5, (.v (.pointer (some ⟨g17, 0, none⟩)))), (4, (.v (.pointer (some ⟨g18, 0, none⟩))))] [Res.cells g17 26 [.ints .u64 y1 4], Res.cells g18 26 [.ints .u64 [0, 0, 0, 0] 4]] a w → word_Add.j1 y1 = some r → K1 a w := by
    intro m g17 g18 y1 a w S h0
    delta word_Add.j1 at h0
    refine hK1 a w ?_
    refine c_region ?_
    refine s_loada S rfl .here T26 (s' := [.ints .u64 y1 4]) rfl rfl ?_; clear S a; intro a S
    refine s_store S rfl rfl rfl (s' := [.ints .u64 y1 4]) (.there .here) T26 rfl rfl ?_; clear S w; intro w S
    refine c_end ?_
    refine wp_ret ?_
    obtain rfl := Option.some.inj h0
    exact b_ret1 (d := (.agg [.ints .u64 y1 4])) S rfl (resD_cell rfl (.there .here) T26 rfl rfl) fun ok => S.retX (Hx := []) hb _ _ (() : Unit) .nil ok
  refine c_region ?_
  refine s_move S rfl rfl ?_; clear S a; intro a S
  refine c_end ?_
  refine wp_block ?_
  refine c_loop (fun q1 a w => ∃ (m : Mem) (y5 : Int) (y6 : Int) (g27 : Nat) (g28 : Nat) (g29 : Nat) (g30 : Nat) (y7 : List Int), St 30 m b0 [(10, (.v (.int .i64 y5))), (6, (.v (.int .u64 y6))), (5, (.v (.pointer (some ⟨g27, 0, none⟩)))), (4, (.v (.pointer (some ⟨g28, 0, none⟩)))), (3, (.v (.pointer (some ⟨g29, 0, none⟩)))), (2, (.v (.pointer (some ⟨g30, 0, none⟩))))] [Res.cells g27 26 [.ints .u64 y7 4], Res.cells g28 26 [.ints .u64 [0, 0, 0, 0] 4], Res.cells g29 26 [.ints .u64 x2 4], Res.cells g30 26 [.ints .u64 x1 4]] a w ∧ word_Add.l1 x1 x2 q1 y5 y6 y7 = some r) ?_ ?_ (k := k) ⟨_, 0, 0, g4, g3, g2, g1, [0, 0, 0, 0], (S.sub ⟨rfl, rfl, rfl, rfl, rfl, rfl, trivial⟩ (.cons .here (.cons .here (.cons .here (.cons .here .nil))))), h0⟩
  · rintro a w ⟨m, y5, y6, g27, g28, g29, g30, y7, S, h0⟩
    exact (nomatch (show (none : Option ((List Int))) = some r from h0))
  · clear S h0
    rintro q1 a w ⟨m, y5, y6, g27, g28, g29, g30, y7, S, h0⟩
    replace h0 : word_Add.b1 x1 x2 (word_Add.l1 x1 x2 q1) y5 y6 y7 = some r := h0
    delta word_Add.b1 at h0
    refine c_region ?_
    refine s_bin S rfl rfl rfl rfl ?_; clear S a; intro a S
    refine c_end ?_
    refine wp_seq ?_
    rcases ite_of h0 with ⟨c1, h1⟩ | ⟨c1, h1⟩ <;> clear h0
    · refine c_condT S rfl c1 ?_
      refine wp_skip ?_
      refine x_thenN ?_
      refine wp_seq ?_
      refine wp_block ?_
      refine c_region ?_
      refine s_move S rfl rfl ?_; clear S a; intro a S
      refine s_assign S rfl rfl ?_; clear S a; intro a S
      refine c_end ?_
      refine wp_seq (c_heldS S (.take 0 (.take 1 (.take 2 (.take 3 (.take 4 (.take 5 (.take 6 (.alts (.run 7 true (.take 8 (.take 9 (.take 10 (.take 11 (.take 12 .done))))) .nil))))))))) 13 [Res.cells g27 26 [.ints .u64 y7 4], Res.cells g28 26 [.ints .u64 [0, 0, 0, 0] 4], Res.cells g29 26 [.ints .u64 x2 4], Res.cells g30 26 [.ints .u64 x1 4]] (.cons .here (.cons .here (.cons .here (.cons .here .nil)))) ⟨Res.stay_cells, Res.stay_cells, Res.stay_cells, Res.stay_cells, trivial⟩ [(7, (.v (.int .i64 y5))), (6, (.v (.int .u64 y6))), (3, (.v (.pointer (some ⟨g29, 0, none⟩)))), (2, (.v (.pointer (some ⟨g30, 0, none⟩))))] ⟨rfl, rfl, rfl, rfl, trivial⟩ (by kernel_rfl) (by kernel_rfl) ?_); clear S; intro w S CL hw le
      refine h_move S CL hw le ⟨rfl, rfl, rfl, rfl, trivial⟩ rfl rfl rfl trivial ?_; clear S CL a; intro a S CL
      obtain ⟨c2, h2⟩ := chk_of h1; clear h1
      refine h_iaddr S CL hw le ⟨rfl, rfl, rfl, rfl, rfl, trivial⟩ rfl rfl Tryd.underlying26 T24 c2.1 c2.2 (mul1 _ _) rfl rfl trivial ?_; clear S CL a; intro a S CL
      refine h_loadi S CL hw le ⟨rfl, rfl, rfl, rfl, rfl, rfl, trivial⟩ (i := y5) rfl (.there (.there (.there .here))) T24 .here rfl c2.1 c2.2 rfl rfl trivial ?_; clear S CL a; intro a S CL
      refine h_move S CL hw le ⟨rfl, rfl, rfl, rfl, rfl, rfl, rfl, trivial⟩ rfl rfl rfl trivial ?_; clear S CL a; intro a S CL
      refine h_iaddr S CL hw le ⟨rfl, rfl, rfl, rfl, rfl, rfl, rfl, rfl, trivial⟩ rfl rfl Tryd.underlying26 T24 c2.1 c2.2 (mul1 _ _) rfl rfl trivial ?_; clear S CL a; intro a S CL
      refine h_loadi S CL hw le ⟨rfl, rfl, rfl, rfl, rfl, rfl, rfl, rfl, rfl, trivial⟩ (i := y5) rfl (.there (.there .here)) T24 .here rfl c2.1 c2.2 rfl rfl trivial ?_; clear S CL a; intro a S CL
      refine h_move S CL hw le ⟨rfl, rfl, rfl, rfl, rfl, rfl, rfl, rfl, rfl, rfl, trivial⟩ rfl rfl rfl trivial ?_; clear S CL a; intro a S CL
      refine h_run' S rfl trivial ?_
      obtain ⟨c3, h3⟩ := chk_of h2; clear h2
      refine s_extAdd S X75 rfl rfl rfl c3 rfl ?_; clear S a; intro a S
      replace hw := CL.again hw S (.cons .here (.cons .here (.cons .here (.cons .here .nil)))) le
      refine h_back ⟨fun _ => hw, ?_⟩
      replace CL := CL.add (t := 21) (d := (.tup [(false, [.one (.int .u64 (((rd x1 y5) + (rd x2 y5) + y6) % 18446744073709551616))]), (false, [.one (.int .u64 (((rd x1 y5) + (rd x2 y5) + y6) / 18446744073709551616))])])) S rfl rfl
      refine h_move S CL hw le ⟨rfl, rfl, rfl, rfl, rfl, rfl, rfl, rfl, rfl, rfl, rfl, rfl, trivial⟩ rfl rfl rfl trivial ?_; clear S CL a; intro a S CL
      refine h_extract S CL hw le ⟨rfl, rfl, rfl, rfl, rfl, rfl, rfl, rfl, rfl, rfl, rfl, rfl, rfl, trivial⟩ rfl rfl rfl rfl rfl trivial ?_; clear S CL a; intro a S CL
      refine h_extract S CL hw le ⟨rfl, rfl, rfl, rfl, rfl, rfl, rfl, rfl, rfl, rfl, rfl, rfl, rfl, rfl, trivial⟩ rfl rfl rfl rfl rfl trivial ?_; clear S CL a; intro a S CL
      refine h_assign S CL hw le ⟨rfl, rfl, rfl, rfl, rfl, rfl, rfl, rfl, rfl, rfl, rfl, rfl, rfl, rfl, rfl, trivial⟩ rfl rfl rfl trivial ?_; clear S CL a; intro a S CL
      refine h_assign S CL hw le ⟨rfl, rfl, rfl, rfl, rfl, rfl, rfl, rfl, rfl, rfl, rfl, rfl, rfl, rfl, rfl, rfl, trivial⟩ rfl rfl rfl trivial ?_; clear S CL a; intro a S CL
      refine h_done ?_; clear CL hw le
      refine x_thenN ?_
      refine c_region ?_
      refine s_move S rfl rfl ?_; clear S a; intro a S
      refine s_move S rfl rfl ?_; clear S a; intro a S
      refine s_iaddr S rfl rfl Tryd.underlying26 T24 c2.1 c2.2 (mul1 _ _) rfl ?_; clear S a; intro a S
      refine s_storei S (i := y5) rfl rfl .here T24 .here rfl c2.1 c2.2 ?_; clear S w; intro w S
      refine c_end ?_
      refine c_region' ?_
      refine s_move S rfl rfl ?_; clear S a; intro a S
      refine s_assign S rfl rfl ?_; clear S a; intro a S
      refine c_end' ?_
      refine x_blockN ?_
      refine x_thenN ?_
      refine c_region' ?_
      refine s_bin S rfl rfl rfl rfl ?_; clear S a; intro a S
      refine s_move S rfl rfl ?_; clear S a; intro a S
      refine c_end' ?_
      refine x_thenN ?_
      exact ⟨_, (wr .i64 (y5 + 1)), (((rd x1 y5) + (rd x2 y5) + y6) / 18446744073709551616), g27, g28, g29, g30, (y7.set (Int.toNat y5) (((rd x1 y5) + (rd x2 y5) + y6) % 18446744073709551616)), (S.sub ⟨rfl, rfl, rfl, rfl, rfl, rfl, trivial⟩ (.cons .here (.cons .here (.cons .here (.cons .here .nil))))), h3⟩
    · refine c_condF S rfl c1 ?_
      refine wp_exit ?_
      refine x_thenX ?_
      refine x_thenX ?_
      refine x_blockX ?_
      refine x_thenN ?_
      exact j1 _ g27 g28 y7 a w (S.sub ⟨rfl, rfl, trivial⟩ (.cons .here (.cons .here .nil))) h1
/-! smithy/fee.Next -/
abbrev fee_Next.Ty : Type := (List Int) → Int → Int → Option ((List Int))
def fee_Next.Ctr (s : fee_Next.Ty) : Prop := ∀ (x1 : List Int) (x2 : Int) (x3 : Int) (r : (List Int)) (h0 : s x1 x2 x3 = some r) (mi : Mem) (w0 : World), okL mi [(.agg [.ints .u64 x1 4]), (.v (.int .u64 x2)), (.v (.int .u64 x3))] → Pre mi [] w0 → Calls Tryd.prog 36 (([(.agg [.ints .u64 x1 4]), (.v (.int .u64 x2)), (.v (.int .u64 x3))] : List D).map D.val).toArray w0 (RetX mi [] (fun (ch : Unit) => ((.agg [.ints .u64 r 4]) : D)) (fun (ch : Unit) => []) w0)
def fee_Next.j2 (k : Nat) (x1 : List Int) (y2 : List Int) : Option ((List Int)) := (word_Add.f k x1 y2).bind fun t6 => ((word_Compare.f k t6 x1).bind fun t7 => (if (decide (t7 < 0)) = true then ((fee_ones.f).bind fun t8 => (some t8)) else (some t6)))
def fee_Next.j1 (k : Nat) (x1 : List Int) (x2 : Int) (x3 : Int) (y1 : Bool) : Option ((List Int)) := if y1 = true then (some x1) else (if (decide (x2 < (wr .u64 (Int.tdiv x3 2)))) = true then ((fee_Step.f k x1 (wr .u64 ((wr .u64 (Int.tdiv x3 2)) - x2)) (wr .u64 (Int.tdiv x3 2))).bind fun t1 => ((word_Compare.f k t1 x1).bind fun t2 => (if (decide (0 < t2)) = true then (some [0, 0, 0, 0]) else ((word_Sub.f k x1 t1).bind fun t3 => (some t3))))) else ((fee_Step.f k x1 (wr .u64 (x2 - (wr .u64 (Int.tdiv x3 2)))) (wr .u64 (Int.tdiv x3 2))).bind fun t4 => (if (decide (t4 = [0, 0, 0, 0])) = true then ((word_Of.f 1).bind fun t9 => (fee_Next.j2 k x1 t9)) else (fee_Next.j2 k x1 t4))))
def fee_Next.f (k : Nat) (x1 : List Int) (x2 : Int) (x3 : Int) : Option ((List Int)) := if ((wr .u64 (Int.tdiv x3 2)) == 0) = true then (fee_Next.j1 k x1 x2 x3 true) else (fee_Next.j1 k x1 x2 x3 (x2 == (wr .u64 (Int.tdiv x3 2))))
theorem fee_Next.ok (k : Nat) : fee_Next.Ctr (fee_Next.f k) := by
  intro x1 x2 x3 r h0 mi w0 ok hm
  delta fee_Next.f at h0
  refine c_enterX (n := 59) [(.agg [.ints .u64 x1 4]), (.v (.int .u64 x2)), (.v (.int .u64 x3))] (l := [(0, (.agg [.ints .u64 x1 4])), (1, (.v (.int .u64 x2))), (2, (.v (.int .u64 x3)))]) Tryd.func36 rfl rfl rfl rfl ok hm ?_
  clear ok hm
  intro b0 hb a S
  refine c_region ?_
  refine s_box S rfl rfl rfl ?_; clear S a; intro g1 a w S
  refine s_alloc S Z26 rfl ⟨rfl, trivial⟩ rfl ?_; clear S a w; intro g2 a w S
  refine c_end ?_
  refine c_region ?_
  refine s_move S rfl rfl ?_; clear S a; intro a S
  refine s_quo S rfl rfl (by decide) rfl ?_; clear S a; intro a S
  refine s_assign S rfl rfl ?_; clear S a; intro a S
  refine c_end ?_
  refine wp_seq ?_
  refine wp_block ?_
  refine wp_seq_k ?_
  intro K1 hK1
  have j1 : ∀ (m : Mem) (y1 : Bool) (g3 : Nat) (g4 : Nat) (a : Act) (w : World), St 59 m b0 [(13, (.v (.bool y1))), (7, (.v (.int .u64 (wr .u64 (Int.tdiv x3 2))))), (6, (.v (.pointer (some ⟨g3, 0, none⟩)))), (3, (.v (.pointer (some ⟨g4, 0, none⟩)))), (1, (.v (.int .u64 x2)))] [Res.cells g3 26 [.ints .u64 [0, 0, 0, 0] 4], Res.cells g4 26 [.ints .u64 x1 4]] a w → fee_Next.j1 k x1 x2 x3 y1 = some r → K1 a w := by
    intro m y1 g3 g4 a w S h0
    delta fee_Next.j1 at h0
    refine hK1 a w ?_
    rcases ite_of h0 with ⟨c1, h1⟩ | ⟨c1, h1⟩ <;> clear h0
    · refine c_condT S rfl c1 ?_
      refine c_region ?_
      refine s_loada S rfl (.there .here) T26 (s' := [.ints .u64 x1 4]) rfl rfl ?_; clear S a; intro a S
      refine s_store S rfl rfl rfl (s' := [.ints .u64 x1 4]) .here T26 rfl rfl ?_; clear S w; intro w S
      refine c_end ?_
      refine wp_ret ?_
      refine x_blockR ?_
      refine x_thenR ?_
      obtain rfl := Option.some.inj h1
      exact b_ret1 (d := (.agg [.ints .u64 x1 4])) S rfl (resD_cell rfl .here T26 rfl rfl) fun ok => S.retX (Hx := []) hb _ _ (() : Unit) .nil ok
    · refine c_condF S rfl c1 ?_
      refine c_region ?_
      refine s_move S rfl rfl ?_; clear S a; intro a S
      refine s_move S rfl rfl ?_; clear S a; intro a S
      refine s_bin S rfl rfl rfl rfl ?_; clear S a; intro a S
      refine s_assign S rfl rfl ?_; clear S a; intro a S
      refine c_end ?_
      rcases ite_of h1 with ⟨c2, h2⟩ | ⟨c2, h2⟩ <;> clear h1
      · refine c_condT S rfl c2 ?_
        refine c_region ?_
        refine s_loada S rfl (.there .here) T26 (s' := [.ints .u64 x1 4]) rfl rfl ?_; clear S a; intro a S
        refine s_move S rfl rfl ?_; clear S a; intro a S
        refine s_move S rfl rfl ?_; clear S a; intro a S
        refine s_bin S rfl rfl rfl rfl ?_; clear S a; intro a S
        refine s_move S rfl rfl ?_; clear S a; intro a S
        obtain ⟨t1, et1, h3⟩ := bind_of h2; clear h2
        refine s_callP S (fun (ch : Unit) => ((.agg [.ints .u64 t1 4]) : D)) N52 rfl rfl (fee_Step.ok k x1 (wr .u64 ((wr .u64 (Int.tdiv x3 2)) - x2)) (wr .u64 (Int.tdiv x3 2)) t1 et1 _ _) ?_; clear S a w; intro ch1 m le1 a w S
        refine s_alloc S Z26 rfl ⟨rfl, trivial⟩ rfl ?_; clear S a w; intro g5 a w S
        refine s_store S rfl rfl rfl (s' := [.ints .u64 t1 4]) .here T26 rfl rfl ?_; clear S w; intro w S
        refine c_end ?_
        refine wp_seq ?_
        refine c_region ?_
        refine s_loada S rfl .here T26 (s' := [.ints .u64 t1 4]) rfl rfl ?_; clear S a; intro a S
        refine s_loada S rfl (.there (.there .here)) T26 (s' := [.ints .u64 x1 4]) rfl rfl ?_; clear S a; intro a S
        obtain ⟨t2, et2, h4⟩ := bind_of h3; clear h3
        refine s_callP S (fun (ch : Unit) => ((.v (.int .i64 t2)) : D)) N53 rfl rfl (word_Compare.ok k t1 x1 t2 et2 _ _) ?_; clear S a w; intro ch2 m le1 a w S
        refine s_bin S rfl rfl rfl rfl ?_; clear S a; intro a S
        refine c_end ?_
        rcases ite_of h4 with ⟨c3, h5⟩ | ⟨c3, h5⟩ <;> clear h4
        · refine c_condT S rfl c3 ?_
          refine c_region ?_
          refine s_build S (ds := []) (dv := (.agg [.ints .u64 [0, 0, 0, 0] 4])) rfl (fun _ => by kernel_rfl) ⟨rfl, trivial⟩ rfl ?_; clear S a; intro a S
          refine s_store S rfl rfl rfl (s' := [.ints .u64 [0, 0, 0, 0] 4]) (.there .here) T26 rfl rfl ?_; clear S w; intro w S
          refine c_end ?_
          refine wp_ret ?_
          refine x_thenR ?_
          refine x_blockR ?_
          refine x_thenR ?_
          obtain rfl := Option.some.inj h5
          exact b_ret1 (d := (.agg [.ints .u64 [0, 0, 0, 0] 4])) S rfl (resD_cell rfl (.there .here) T26 rfl rfl) fun ok => S.retX (Hx := []) hb _ _ (() : Unit) .nil ok
        · refine c_condF S rfl c3 ?_
          refine wp_skip ?_
          refine x_thenN ?_
          refine c_region ?_
          refine s_loada S rfl (.there (.there .here)) T26 (s' := [.ints .u64 x1 4]) rfl rfl ?_; clear S a; intro a S
          refine s_loada S rfl .here T26 (s' := [.ints .u64 t1 4]) rfl rfl ?_; clear S a; intro a S
          obtain ⟨t3, et3, h6⟩ := bind_of h5; clear h5
          refine s_callP S (fun (ch : Unit) => ((.agg [.ints .u64 t3 4]) : D)) N54 rfl rfl (word_Sub.ok k x1 t1 t3 et3 _ _) ?_; clear S a w; intro ch3 m le1 a w S
          refine s_store S rfl rfl rfl (s' := [.ints .u64 t3 4]) (.there .here) T26 rfl rfl ?_; clear S w; intro w S
          refine c_end ?_
          refine wp_ret ?_
          refine x_blockR ?_
          refine x_thenR ?_
          obtain rfl := Option.some.inj h6
          exact b_ret1 (d := (.agg [.ints .u64 t3 4])) S rfl (resD_cell rfl (.there .here) T26 rfl rfl) fun ok => S.retX (Hx := []) hb _ _ (() : Unit) .nil ok
      · refine c_condF S rfl c2 ?_
        refine wp_skip ?_
        refine x_blockN ?_
        refine x_thenN ?_
        refine c_region ?_
        refine s_loada S rfl (.there .here) T26 (s' := [.ints .u64 x1 4]) rfl rfl ?_; clear S a; intro a S
        refine s_move S rfl rfl ?_; clear S a; intro a S
        refine s_move S rfl rfl ?_; clear S a; intro a S
        refine s_bin S rfl rfl rfl rfl ?_; clear S a; intro a S
        refine s_move S rfl rfl ?_; clear S a; intro a S
        obtain ⟨t4, et4, h3⟩ := bind_of h2; clear h2
        refine s_callP S (fun (ch : Unit) => ((.agg [.ints .u64 t4 4]) : D)) N52 rfl rfl (fee_Step.ok k x1 (wr .u64 (x2 - (wr .u64 (Int.tdiv x3 2)))) (wr .u64 (Int.tdiv x3 2)) t4 et4 _ _) ?_; clear S a w; intro ch4 m le1 a w S
        refine s_alloc S Z26 rfl ⟨rfl, trivial⟩ rfl ?_; clear S a w; intro g6 a w S
        refine s_store S rfl rfl rfl (s' := [.ints .u64 t4 4]) .here T26 rfl rfl ?_; clear S w; intro w S
        refine c_end ?_
        refine wp_seq_k ?_
        intro K2 hK2
        have j2 : ∀ (m : Mem) (g7 : Nat) (g8 : Nat) (g9 : Nat) (y2 : List Int) (a : Act) (w : World), St 59 m b0 [(9, (.v (.pointer (some ⟨g7, 0, none⟩)))), (6, (.v (.pointer (some ⟨g8, 0, none⟩)))), (3, (.v (.pointer (some ⟨g9, 0, none⟩))))] [Res.cells g7 26 [.ints .u64 y2 4], Res.cells g8 26 [.ints .u64 [0, 0, 0, 0] 4], Res.cells g9 26 [.ints .u64 x1 4]] a w → fee_Next.j2 k x1 y2 = some r → K2 a w := by
          intro m g7 g8 g9 y2 a w S h0
          delta fee_Next.j2 at h0
          refine hK2 a w ?_
          refine c_region ?_
          refine s_loada S rfl (.there (.there .here)) T26 (s' := [.ints .u64 x1 4]) rfl rfl ?_; clear S a; intro a S
          refine s_loada S rfl .here T26 (s' := [.ints .u64 y2 4]) rfl rfl ?_; clear S a; intro a S
          obtain ⟨t6, et6, h1⟩ := bind_of h0; clear h0
          refine s_callP S (fun (ch : Unit) => ((.agg [.ints .u64 t6 4]) : D)) N55 rfl rfl (word_Add.ok k x1 y2 t6 et6 _ _) ?_; clear S a w; intro ch5 m le1 a w S
          refine s_alloc S Z26 rfl ⟨rfl, trivial⟩ rfl ?_; clear S a w; intro g10 a w S
          refine s_store S rfl rfl rfl (s' := [.ints .u64 t6 4]) .here T26 rfl rfl ?_; clear S w; intro w S
          refine c_end ?_
          refine wp_seq ?_
          refine c_region ?_
          refine s_loada S rfl .here T26 (s' := [.ints .u64 t6 4]) rfl rfl ?_; clear S a; intro a S
          refine s_loada S rfl (.there (.there (.there .here))) T26 (s' := [.ints .u64 x1 4]) rfl rfl ?_; clear S a; intro a S
          obtain ⟨t7, et7, h2⟩ := bind_of h1; clear h1
          refine s_callP S (fun (ch : Unit) => ((.v (.int .i64 t7)) : D)) N53 rfl rfl (word_Compare.ok k t6 x1 t7 et7 _ _) ?_; clear S a w; intro ch6 m le1 a w S
          refine s_bin S rfl rfl rfl rfl ?_; clear S a; intro a S
          refine c_end ?_
          rcases ite_of h2 with ⟨c4, h3⟩ | ⟨c4, h3⟩ <;> clear h2
          · refine c_condT S rfl c4 ?_
            refine c_region ?_
            obtain ⟨t8, et8, h4⟩ := bind_of h3; clear h3
            refine s_callP S (fun (ch : Unit) => ((.agg [.ints .u64 t8 4]) : D)) N56 rfl rfl (fee_ones.ok t8 et8 _ _) ?_; clear S a w; intro ch7 m le1 a w S
            refine s_store S rfl rfl rfl (s' := [.ints .u64 t8 4]) (.there (.there .here)) T26 rfl rfl ?_; clear S w; intro w S
            refine c_end ?_
            refine wp_ret ?_
            refine x_thenR ?_
            obtain rfl := Option.some.inj h4
            exact b_ret1 (d := (.agg [.ints .u64 t8 4])) S rfl (resD_cell rfl (.there (.there .here)) T26 rfl rfl) fun ok => S.retX (Hx := []) hb _ _ (() : Unit) .nil ok
          · refine c_condF S rfl c4 ?_
            refine wp_skip ?_
            refine x_thenN ?_
            refine c_region ?_
            refine s_loada S rfl .here T26 (s' := [.ints .u64 t6 4]) rfl rfl ?_; clear S a; intro a S
            refine s_store S rfl rfl rfl (s' := [.ints .u64 t6 4]) (.there (.there .here)) T26 rfl rfl ?_; clear S w; intro w S
            refine c_end ?_
            refine wp_ret ?_
            obtain rfl := Option.some.inj h3
            exact b_ret1 (d := (.agg [.ints .u64 t6 4])) S rfl (resD_cell rfl (.there (.there .here)) T26 rfl rfl) fun ok => S.retX (Hx := []) hb _ _ (() : Unit) .nil ok
        refine c_region ?_
        refine s_loada S rfl .here T26 (s' := [.ints .u64 t4 4]) rfl rfl ?_; clear S a; intro a S
        refine s_build S (ds := []) (dv := (.agg [.ints .u64 [0, 0, 0, 0] 4])) rfl (fun _ => by kernel_rfl) ⟨rfl, trivial⟩ rfl ?_; clear S a; intro a S
        refine s_eqa S rfl rfl Tryd.underlying26 Tryd.underlying24 T24 Q26 rfl ?_; clear S a; intro a S
        refine c_end ?_
        rcases ite_of h3 with ⟨c5, h4⟩ | ⟨c5, h4⟩ <;> clear h3
        · refine c_condT S rfl c5 ?_
          refine c_region' ?_
          obtain ⟨t9, et9, h5⟩ := bind_of h4; clear h4
          refine s_callP S (fun (ch : Unit) => ((.agg [.ints .u64 t9 4]) : D)) N43 rfl rfl (word_Of.ok 1 t9 et9 _ _) ?_; clear S a w; intro ch8 m le1 a w S
          refine s_store S rfl rfl rfl (s' := [.ints .u64 t9 4]) .here T26 rfl rfl ?_; clear S w; intro w S
          refine c_end' ?_
          refine x_thenN ?_
          exact j2 _ g6 g3 g4 t9 a w (S.sub ⟨rfl, rfl, rfl, trivial⟩ (.cons .here (.cons .here (.cons .here .nil)))) h5
        · refine c_condF S rfl c5 ?_
          refine wp_skip ?_
          refine x_thenN ?_
          exact j2 _ g6 g3 g4 t4 a w (S.sub ⟨rfl, rfl, rfl, trivial⟩ (.cons .here (.cons .here (.cons .here .nil)))) h4
  refine c_region' ?_
  refine s_move S rfl rfl ?_; clear S a; intro a S
  refine s_bin S rfl rfl rfl rfl ?_; clear S a; intro a S
  refine s_move S rfl rfl ?_; clear S a; intro a S
  rcases ite_of h0 with ⟨c6, h1⟩ | ⟨c6, h1⟩ <;> clear h0
  · refine s_gF S (b := ((wr .u64 (Int.tdiv x3 2)) == 0)) rfl rfl c6 rfl ?_; clear S a; intro a S
    refine s_gF S (b := ((wr .u64 (Int.tdiv x3 2)) == 0)) rfl rfl c6 rfl ?_; clear S a; intro a S
    refine s_gF S (b := ((wr .u64 (Int.tdiv x3 2)) == 0)) rfl rfl c6 rfl ?_; clear S a; intro a S
    refine s_pick S (b := true) (hc_of rfl c6) rfl rfl ?_; clear S a; intro a S
    refine s_assign S rfl rfl ?_; clear S a; intro a S
    refine c_end' ?_
    refine x_thenN ?_
    exact j1 _ true g2 g1 a w (S.sub ⟨rfl, rfl, rfl, rfl, rfl, trivial⟩ (.cons .here (.cons .here .nil))) h1
  · refine s_gT S (b := ((wr .u64 (Int.tdiv x3 2)) == 0)) rfl rfl c6 ?_
    refine s_move S rfl rfl ?_; clear S a; intro a S
    refine s_gT S (b := ((wr .u64 (Int.tdiv x3 2)) == 0)) rfl rfl c6 ?_
    refine s_move S rfl rfl ?_; clear S a; intro a S
    refine s_gT S (b := ((wr .u64 (Int.tdiv x3 2)) == 0)) rfl rfl c6 ?_
    refine s_bin S rfl rfl rfl rfl ?_; clear S a; intro a S
    refine s_pick S (b := false) (hc_of rfl c6) rfl rfl ?_; clear S a; intro a S
    refine s_assign S rfl rfl ?_; clear S a; intro a S
    refine c_end' ?_
    refine x_thenN ?_
    exact j1 _ (x2 == (wr .u64 (Int.tdiv x3 2))) g2 g1 a w (S.sub ⟨rfl, rfl, rfl, rfl, rfl, trivial⟩ (.cons .here (.cons .here .nil))) h1
/-! smithy/word.From -/
abbrev word_From.Ty : Type := (List Int) → Option ((List Int))
def word_From.Ctr (s : word_From.Ty) : Prop := ∀ (x1 : List Int) (ch_0_0 : Option Addr) (ch_0_1 : Nat) (r : (List Int)) (h0 : s x1 = some r) (mi : Mem) (w0 : World), okL mi [(.sl ch_0_0 (x1).length ch_0_1 (RdS (Ty.int .u8) ch_0_0 x1))] → Pre mi [] w0 → Calls Tryd.prog 57 (([(.sl ch_0_0 (x1).length ch_0_1 (RdS (Ty.int .u8) ch_0_0 x1))] : List D).map D.val).toArray w0 (RetX mi [] (fun (ch : Unit) => ((.agg [.ints .u64 r 4]) : D)) (fun (ch : Unit) => []) w0)
def word_From.j2 (y16 : List Int) : Option ((List Int)) := some y16
def word_From.j3 (y29 : Int) (rec1 : Int → (List Int) → Option ((List Int))) (y35 : List Int) : Option ((List Int)) := rec1 (wr .i64 (y29 + 1)) y35
def word_From.b2 (y1 : List Int) (y29 : Int) (rec1 : Int → (List Int) → Option ((List Int))) (rec2 : Int → (List Int) → Option ((List Int))) (y38 : Int) (y39 : List Int) : Option ((List Int)) := if (decide (y38 < 8)) = true then (if (0 : Int) ≤ y29 ∧ y29 < 4 then (if (0 : Int) ≤ (wr .i64 ((wr .i64 (31 - (wr .i64 (8 * y29)))) - y38)) ∧ (wr .i64 ((wr .i64 (31 - (wr .i64 (8 * y29)))) - y38)) < 32 then (if (0 : Int) ≤ (wr .i64 (8 * y38)) then (rec2 (wr .i64 (y38 + 1)) (y39.set (Int.toNat y29) (bits .or .u64 (rd y39 y29) (shl .u64 (wr .u64 (rd (cpy [0, 0, 0, 0, 0, 0, 0, 0, 0, 0, 0, 0, 0, 0, 0, 0, 0, 0, 0, 0, 0, 0, 0, 0, 0, 0, 0, 0, 0, 0, 0, 0] (Int.toNat (wr .i64 (32 - ((y1).length : Int)))) y1 (min (y1).length (Int.toNat 32 - Int.toNat (wr .i64 (32 - ((y1).length : Int)))))) (wr .i64 ((wr .i64 (31 - (wr .i64 (8 * y29)))) - y38)))) (min (Int.toNat (wr .i64 (8 * y38))) 64))))) else none) else none) else none) else (word_From.j3 y29 rec1 y39)
def word_From.l2 (y1 : List Int) (y29 : Int) (rec1 : Int → (List Int) → Option ((List Int))) : Nat → Int → (List Int) → Option ((List Int))
  | 0, _, _ => none
  | q + 1, y38, y39 => word_From.b2 y1 y29 rec1 (word_From.l2 y1 y29 rec1 q) y38 y39
def word_From.b1 (k : Nat) (y1 : List Int) (rec1 : Int → (List Int) → Option ((List Int))) (y29 : Int) (y30 : List Int) : Option ((List Int)) := if (decide (y29 < 4)) = true then (word_From.l2 y1 y29 rec1 k 0 y30) else (word_From.j2 y30)
def word_From.l1 (k : Nat) (y1 : List Int) : Nat → Int → (List Int) → Option ((List Int))
  | 0, _, _ => none
  | q + 1, y29, y30 => word_From.b1 k y1 (word_From.l1 k y1 q) y29 y30
def word_From.j1 (k : Nat) (y1 : List Int) : Option ((List Int)) := if (0 : Int) ≤ (wr .i64 (32 - ((y1).length : Int))) ∧ ((wr .i64 (32 - ((y1).length : Int))) : Int) ≤ 32 ∧ 32 ≤ ((32 : Nat) : Int) then (word_From.l1 k y1 k 0 [0, 0, 0, 0]) else none
def word_From.f (k : Nat) (x1 : List Int) : Option ((List Int)) := if (decide (32 < ((x1).length : Int))) = true then (if (0 : Int) ≤ (wr .i64 (((x1).length : Int) - 32)) ∧ ((wr .i64 (((x1).length : Int) - 32)) : Int) ≤ ((x1).length : Int) ∧ ((x1).length : Int) ≤ ((x1).length : Int) then (word_From.j1 k (x1.drop (Int.toNat (wr .i64 (((x1).length : Int) - 32))))) else none) else (word_From.j1 k x1)
theorem word_From.ok (k : Nat) : word_From.Ctr (word_From.f k) := by
  intro x1 ch_0_0 ch_0_1 r h0 mi w0 ok hm
  delta word_From.f at h0
  refine c_enterX (n := 46) [(.sl ch_0_0 (x1).length ch_0_1 (RdS (Ty.int .u8) ch_0_0 x1))] (l := [(0, (.sl ch_0_0 (x1).length ch_0_1 (RdS (Ty.int .u8) ch_0_0 x1)))]) Tryd.func57 rfl rfl rfl rfl ok hm ?_
  clear ok hm
  intro b0 hb a S
  refine c_region ?_
  refine s_alloc S Z26 rfl ⟨rfl, trivial⟩ rfl ?_; clear S a; intro g1 a w S
  refine c_end ?_
  refine c_region ?_
  refine s_alloc S Z22 rfl ⟨rfl, trivial⟩ rfl ?_; clear S a w; intro g2 a w S
  refine c_end ?_
  refine wp_seq_k ?_
  intro K1 hK1
  have j1 : ∀ (m : Mem) (A1 : Option Addr) (cp1 : Nat) (y1 : List Int) (g3 : Nat) (g4 : Nat) (a : Act) (w : World), St 46 m b0 [(0, (.sl A1 (y1).length cp1 (RdS (Ty.int .u8) A1 y1))), (3, (.v (.pointer (some ⟨g3, 0, none⟩)))), (2, (.v (.pointer (some ⟨g4, 0, none⟩))))] [Res.cells g3 22 [.ints .u8 [0, 0, 0, 0, 0, 0, 0, 0, 0, 0, 0, 0, 0, 0, 0, 0, 0, 0, 0, 0, 0, 0, 0, 0, 0, 0, 0, 0, 0, 0, 0, 0] 32], Res.cells g4 26 [.ints .u64 [0, 0, 0, 0] 4]] a w → word_From.j1 k y1 = some r → K1 a w := by
    intro m A1 cp1 y1 g3 g4 a w S h0
    delta word_From.j1 at h0
    refine hK1 a w ?_
    refine c_region ?_
    refine s_move S rfl rfl ?_; clear S a; intro a S
    refine s_lenS S rfl Tryd.underlying37 rfl ?_; clear S a; intro a S
    refine s_bin S rfl rfl rfl rfl ?_; clear S a; intro a S
    obtain ⟨c1, h1⟩ := chk_of h0; clear h0
    refine s_sliceA S (i := (wr .i64 (32 - ((y1).length : Int)))) (j := 32) (o' := if 32 = Int.toNat (wr .i64 (32 - ((y1).length : Int))) then 0 else 0 + Int.toNat (wr .i64 (32 - ((y1).length : Int))) * 1) (len := Int.toNat 32 - Int.toNat (wr .i64 (32 - ((y1).length : Int)))) (cap := 32 - Int.toNat (wr .i64 (32 - ((y1).length : Int)))) rfl Tryd.underlying22 T5 (.inr ⟨_, _, rfl, rfl⟩) (.inl ⟨rfl, rfl⟩) c1 rfl rfl rfl rfl ?_; clear S a; intro a S
    refine s_move S rfl rfl ?_; clear S a; intro a S
    refine s_copyA S (N := min (y1).length (Int.toNat 32 - Int.toNat (wr .i64 (32 - ((y1).length : Int))))) (lo := Int.toNat (wr .i64 (32 - ((y1).length : Int)))) rfl .here rfl rfl (RdS.srcI (S.get 19 (.sl A1 (y1).length cp1 (RdS (Ty.int .u8) A1 y1)) rfl).2.2.2.1 S.frz) rfl .here (ho_if c1) (hl_if c1) Tryd.underlying37 T5 rfl ?_; clear S a w; intro a w S
    refine c_end ?_
    refine c_region ?_
    refine s_alloc S Z26 rfl ⟨rfl, trivial⟩ rfl ?_; clear S a w; intro g5 a w S
    refine c_end ?_
    refine wp_seq_k ?_
    intro K2 hK2
    have j2 : ∀ (m : Mem) (g39 : Nat) (g40 : Nat) (y16 : List Int) (a : Act) (w : World), St 46 m b0 [(4, (.v (.pointer (some ⟨g39, 0, none⟩)))), (2, (.v (.pointer (some ⟨g40, 0, none⟩))))] [Res.cells g39 26 [.ints .u64 y16 4], Res.cells g40 26 [.ints .u64 [0, 0, 0, 0] 4]] a w → word_From.j2 y16 = some r → K2 a w := by
      intro m g39 g40 y16 a w S h0
      delta word_From.j2 at h0
      refine hK2 a w ?_
      refine c_region ?_
      refine s_loada S rfl .here T26 (s' := [.ints .u64 y16 4]) rfl rfl ?_; clear S a; intro a S
      refine s_store S rfl rfl rfl (s' := [.ints .u64 y16 4]) (.there .here) T26 rfl rfl ?_; clear S w; intro w S
      refine c_end ?_
      refine wp_ret ?_
      obtain rfl := Option.some.inj h0
      exact b_ret1 (d := (.agg [.ints .u64 y16 4])) S rfl (resD_cell rfl (.there .here) T26 rfl rfl) fun ok => S.retX (Hx := []) hb _ _ (() : Unit) .nil ok
    refine c_region ?_
    refine s_move S rfl rfl ?_; clear S a; intro a S
    refine c_end ?_
    refine wp_block ?_
    refine c_loop (fun q1 a w => ∃ (m : Mem) (y29 : Int) (g71 : Nat) (g72 : Nat) (g73 : Nat) (y30 : List Int), St 46 m b0 [(21, (.v (.int .i64 y29))), (4, (.v (.pointer (some ⟨g71, 0, none⟩)))), (3, (.v (.pointer (some ⟨g72, 0, none⟩)))), (2, (.v (.pointer (some ⟨g73, 0, none⟩))))] [Res.cells g71 26 [.ints .u64 y30 4], Res.cells g72 22 [.ints .u8 (cpy [0, 0, 0, 0, 0, 0, 0, 0, 0, 0, 0, 0, 0, 0, 0, 0, 0, 0, 0, 0, 0, 0, 0, 0, 0, 0, 0, 0, 0, 0, 0, 0] (Int.toNat (wr .i64 (32 - ((y1).length : Int)))) y1 (min (y1).length (Int.toNat 32 - Int.toNat (wr .i64 (32 - ((y1).length : Int)))))) 32], Res.cells g73 26 [.ints .u64 [0, 0, 0, 0] 4]] a w ∧ word_From.l1 k y1 q1 y29 y30 = some r) ?_ ?_ (k := k) ⟨_, 0, g5, g3, g4, [0, 0, 0, 0], (S.sub ⟨rfl, rfl, rfl, rfl, trivial⟩ (.cons .here (.cons .here (.cons .here .nil)))), h1⟩
    · rintro a w ⟨m, y29, g71, g72, g73, y30, S, h0⟩
      exact (nomatch (show (none : Option ((List Int))) = some r from h0))
    · clear S h1
      rintro q1 a w ⟨m, y29, g71, g72, g73, y30, S, h0⟩
      replace h0 : word_From.b1 k y1 (word_From.l1 k y1 q1) y29 y30 = some r := h0
      delta word_From.b1 at h0
      refine c_region ?_
      refine s_bin S rfl rfl rfl rfl ?_; clear S a; intro a S
      refine c_end ?_
      refine wp_seq ?_
      rcases ite_of h0 with ⟨c2, h1⟩ | ⟨c2, h1⟩ <;> clear h0
      · refine c_condT S rfl c2 ?_
        refine wp_skip ?_
        refine x_thenN ?_
        refine wp_seq_k ?_
        intro K3 hK3
        have j3 : ∀ (m : Mem) (g83 : Nat) (g84 : Nat) (g85 : Nat) (y35 : List Int) (a : Act) (w : World), St 46 m b0 [(21, (.v (.int .i64 y29))), (4, (.v (.pointer (some ⟨g83, 0, none⟩)))), (3, (.v (.pointer (some ⟨g84, 0, none⟩)))), (2, (.v (.pointer (some ⟨g85, 0, none⟩))))] [Res.cells g83 26 [.ints .u64 y35 4], Res.cells g84 22 [.ints .u8 (cpy [0, 0, 0, 0, 0, 0, 0, 0, 0, 0, 0, 0, 0, 0, 0, 0, 0, 0, 0, 0, 0, 0, 0, 0, 0, 0, 0, 0, 0, 0, 0, 0] (Int.toNat (wr .i64 (32 - ((y1).length : Int)))) y1 (min (y1).length (Int.toNat 32 - Int.toNat (wr .i64 (32 - ((y1).length : Int)))))) 32], Res.cells g85 26 [.ints .u64 [0, 0, 0, 0] 4]] a w → word_From.j3 y29 (word_From.l1 k y1 q1) y35 = some r → K3 a w := by
          intro m g83 g84 g85 y35 a w S h0
          delta word_From.j3 at h0
          refine hK3 a w ?_
          refine c_region' ?_
          refine s_bin S rfl rfl rfl rfl ?_; clear S a; intro a S
          refine s_move S rfl rfl ?_; clear S a; intro a S
          refine c_end' ?_
          refine x_thenN ?_
          exact ⟨_, (wr .i64 (y29 + 1)), g83, g84, g85, y35, (S.sub ⟨rfl, rfl, rfl, rfl, trivial⟩ (.cons .here (.cons .here (.cons .here .nil)))), h0⟩
        refine wp_block ?_
        refine c_region ?_
        refine s_move S rfl rfl ?_; clear S a; intro a S
        refine s_assign S rfl rfl ?_; clear S a; intro a S
        refine c_end ?_
        refine c_region ?_
        refine s_move S rfl rfl ?_; clear S a; intro a S
        refine c_end ?_
        refine wp_block ?_
        refine c_loop (fun q2 a w => ∃ (m : Mem) (y38 : Int) (g92 : Nat) (g93 : Nat) (g94 : Nat) (y39 : List Int), St 46 m b0 [(24, (.v (.int .i64 y38))), (5, (.v (.int .i64 y29))), (21, (.v (.int .i64 y29))), (4, (.v (.pointer (some ⟨g92, 0, none⟩)))), (3, (.v (.pointer (some ⟨g93, 0, none⟩)))), (2, (.v (.pointer (some ⟨g94, 0, none⟩))))] [Res.cells g92 26 [.ints .u64 y39 4], Res.cells g93 22 [.ints .u8 (cpy [0, 0, 0, 0, 0, 0, 0, 0, 0, 0, 0, 0, 0, 0, 0, 0, 0, 0, 0, 0, 0, 0, 0, 0, 0, 0, 0, 0, 0, 0, 0, 0] (Int.toNat (wr .i64 (32 - ((y1).length : Int)))) y1 (min (y1).length (Int.toNat 32 - Int.toNat (wr .i64 (32 - ((y1).length : Int)))))) 32], Res.cells g94 26 [.ints .u64 [0, 0, 0, 0] 4]] a w ∧ word_From.l2 y1 y29 (word_From.l1 k y1 q1) q2 y38 y39 = some r) ?_ ?_ (k := k) ⟨_, 0, g71, g72, g73, y30, (S.sub ⟨rfl, rfl, rfl, rfl, rfl, rfl, trivial⟩ (.cons .here (.cons .here (.cons .here .nil)))), h1⟩
        · rintro a w ⟨m, y38, g92, g93, g94, y39, S, h0⟩
          exact (nomatch (show (none : Option ((List Int))) = some r from h0))
        · clear S h1
          rintro q2 a w ⟨m, y38, g92, g93, g94, y39, S, h0⟩
          replace h0 : word_From.b2 y1 y29 (word_From.l1 k y1 q1) (word_From.l2 y1 y29 (word_From.l1 k y1 q1) q2) y38 y39 = some r := h0
          delta word_From.b2 at h0
          refine c_region ?_
          refine s_bin S rfl rfl rfl rfl ?_; clear S a; intro a S
          refine c_end ?_
          refine wp_seq ?_
          rcases ite_of h0 with ⟨c3, h1⟩ | ⟨c3, h1⟩ <;> clear h0
          · refine c_condT S rfl c3 ?_
            refine wp_skip ?_
            refine x_thenN ?_
            refine wp_seq ?_
            refine wp_block ?_
            refine c_region ?_
            refine s_move S rfl rfl ?_; clear S a; intro a S
            refine s_assign S rfl rfl ?_; clear S a; intro a S
            refine c_end ?_
            refine c_heldS S (.take 0 (.take 1 (.take 2 (.take 3 (.take 4 (.take 5 (.take 6 (.take 7 (.take 8 (.take 9 (.take 10 (.take 11 (.take 12 (.take 13 (.take 14 (.take 15 (.alts (.run 16 false .done .nil)))))))))))))))))) 16 [Res.cells g92 26 [.ints .u64 y39 4], Res.cells g93 22 [.ints .u8 (cpy [0, 0, 0, 0, 0, 0, 0, 0, 0, 0, 0, 0, 0, 0, 0, 0, 0, 0, 0, 0, 0, 0, 0, 0, 0, 0, 0, 0, 0, 0, 0, 0] (Int.toNat (wr .i64 (32 - ((y1).length : Int)))) y1 (min (y1).length (Int.toNat 32 - Int.toNat (wr .i64 (32 - ((y1).length : Int)))))) 32], Res.cells g94 26 [.ints .u64 [0, 0, 0, 0] 4]] (.cons .here (.cons .here (.cons .here .nil))) ⟨Res.stay_cells, Res.stay_cells, Res.stay_cells, trivial⟩ [(6, (.v (.int .i64 y38))), (5, (.v (.int .i64 y29))), (4, (.v (.pointer (some ⟨g92, 0, none⟩)))), (3, (.v (.pointer (some ⟨g93, 0, none⟩))))] ⟨rfl, rfl, rfl, rfl, trivial⟩ (by kernel_rfl) (by kernel_rfl) ?_; clear S; intro w S CL hw le
            refine h_move S CL hw le ⟨rfl, rfl, rfl, rfl, trivial⟩ rfl rfl rfl trivial ?_; clear S CL a; intro a S CL
            obtain ⟨c4, h2⟩ := chk_of h1; clear h1
            refine h_iaddr S CL hw le ⟨rfl, rfl, rfl, rfl, rfl, trivial⟩ rfl rfl Tryd.underlying26 T24 c4.1 c4.2 (mul1 _ _) rfl rfl trivial ?_; clear S CL a; intro a S CL
            refine h_loadi S CL hw le ⟨rfl, rfl, rfl, rfl, rfl, rfl, trivial⟩ (i := y29) rfl .here T24 .here rfl c4.1 c4.2 rfl rfl trivial ?_; clear S CL a; intro a S CL
            refine h_move S CL hw le ⟨rfl, rfl, rfl, rfl, rfl, rfl, rfl, trivial⟩ rfl rfl rfl trivial ?_; clear S CL a; intro a S CL
            refine h_bin S CL hw le ⟨rfl, rfl, rfl, rfl, rfl, rfl, rfl, rfl, trivial⟩ rfl rfl rfl rfl rfl trivial ?_; clear S CL a; intro a S CL
            refine h_bin S CL hw le ⟨rfl, rfl, rfl, rfl, rfl, rfl, rfl, rfl, rfl, trivial⟩ rfl rfl rfl rfl rfl trivial ?_; clear S CL a; intro a S CL
            refine h_move S CL hw le ⟨rfl, rfl, rfl, rfl, rfl, rfl, rfl, rfl, rfl, rfl, trivial⟩ rfl rfl rfl trivial ?_; clear S CL a; intro a S CL
            refine h_bin S CL hw le ⟨rfl, rfl, rfl, rfl, rfl, rfl, rfl, rfl, rfl, rfl, rfl, trivial⟩ rfl rfl rfl rfl rfl trivial ?_; clear S CL a; intro a S CL
            obtain ⟨c5, h3⟩ := chk_of h2; clear h2
            refine h_iaddr S CL hw le ⟨rfl, rfl, rfl, rfl, rfl, rfl, rfl, rfl, rfl, rfl, rfl, rfl, trivial⟩ rfl rfl Tryd.underlying22 T5 c5.1 c5.2 (mul1 _ _) rfl rfl trivial ?_; clear S CL a; intro a S CL
            refine h_loadi S CL hw le ⟨rfl, rfl, rfl, rfl, rfl, rfl, rfl, rfl, rfl, rfl, rfl, rfl, rfl, trivial⟩ (i := (wr .i64 ((wr .i64 (31 - (wr .i64 (8 * y29)))) - y38))) rfl (.there .here) T5 .here rfl c5.1 c5.2 rfl rfl trivial ?_; clear S CL a; intro a S CL
            refine h_conv S CL hw le ⟨rfl, rfl, rfl, rfl, rfl, rfl, rfl, rfl, rfl, rfl, rfl, rfl, rfl, rfl, trivial⟩ rfl rfl Tryd.underlying24 rfl rfl trivial ?_; clear S CL a; intro a S CL
            refine h_move S CL hw le ⟨rfl, rfl, rfl, rfl, rfl, rfl, rfl, rfl, rfl, rfl, rfl, rfl, rfl, rfl, rfl, trivial⟩ rfl rfl rfl trivial ?_; clear S CL a; intro a S CL
            refine h_bin S CL hw le ⟨rfl, rfl, rfl, rfl, rfl, rfl, rfl, rfl, rfl, rfl, rfl, rfl, rfl, rfl, rfl, rfl, trivial⟩ rfl rfl rfl rfl rfl trivial ?_; clear S CL a; intro a S CL
            obtain ⟨c6, h4⟩ := chk_of h3; clear h3
            refine h_shl S CL hw le ⟨rfl, rfl, rfl, rfl, rfl, rfl, rfl, rfl, rfl, rfl, rfl, rfl, rfl, rfl, rfl, rfl, rfl, trivial⟩ (e := (min (Int.toNat (wr .i64 (8 * y38))) 64)) rfl rfl c6 rfl rfl rfl trivial ?_; clear S CL a; intro a S CL
            refine h_bin S CL hw le ⟨rfl, rfl, rfl, rfl, rfl, rfl, rfl, rfl, rfl, rfl, rfl, rfl, rfl, rfl, rfl, rfl, rfl, rfl, trivial⟩ rfl rfl rfl rfl rfl trivial ?_; clear S CL a; intro a S CL
            refine h_iaddr S CL hw le ⟨rfl, rfl, rfl, rfl, rfl, rfl, rfl, rfl, rfl, rfl, rfl, rfl, rfl, rfl, rfl, rfl, rfl, rfl, rfl, trivial⟩ rfl rfl Tryd.underlying26 T24 c4.1 c4.2 (mul1 _ _) rfl rfl trivial ?_; clear S CL a; intro a S CL
            refine h_run' S rfl trivial ?_
            refine s_storei S (i := y29) rfl rfl .here T24 .here rfl c4.1 c4.2 ?_; clear S; intro w S
            refine h_back ⟨fun h => (nomatch h), ?_⟩
            refine h_done ?_; clear CL hw le
            refine x_blockN ?_
            refine x_thenN ?_
            refine c_region' ?_
            refine s_bin S rfl rfl rfl rfl ?_; clear S a; intro a S
            refine s_move S rfl rfl ?_; clear S a; intro a S
            refine c_end' ?_
            refine x_thenN ?_
            exact ⟨_, (wr .i64 (y38 + 1)), g92, g93, g94, (y39.set (Int.toNat y29) (bits .or .u64 (rd y39 y29) (shl .u64 (wr .u64 (rd (cpy [0, 0, 0, 0, 0, 0, 0, 0, 0, 0, 0, 0, 0, 0, 0, 0, 0, 0, 0, 0, 0, 0, 0, 0, 0, 0, 0, 0, 0, 0, 0, 0] (Int.toNat (wr .i64 (32 - ((y1).length : Int)))) y1 (min (y1).length (Int.toNat 32 - Int.toNat (wr .i64 (32 - ((y1).length : Int)))))) (wr .i64 ((wr .i64 (31 - (wr .i64 (8 * y29)))) - y38)))) (min (Int.toNat (wr .i64 (8 * y38))) 64)))), (S.sub ⟨rfl, rfl, rfl, rfl, rfl, rfl, trivial⟩ (.cons .here (.cons .here (.cons .here .nil)))), h4⟩
          · refine c_condF S rfl c3 ?_
            refine wp_exit ?_
            refine x_thenX ?_
            refine x_thenX ?_
            refine x_blockX ?_
            refine x_blockN ?_
            refine x_thenN ?_
            exact j3 _ g92 g93 g94 y39 a w (S.sub ⟨rfl, rfl, rfl, rfl, trivial⟩ (.cons .here (.cons .here (.cons .here .nil)))) h1
      · refine c_condF S rfl c2 ?_
        refine wp_exit ?_
        refine x_thenX ?_
        refine x_thenX ?_
        refine x_blockX ?_
        refine x_thenN ?_
        exact j2 _ g71 g73 y30 a w (S.sub ⟨rfl, rfl, trivial⟩ (.cons .here (.cons (.there .here) .nil))) h1
  refine c_region ?_
  refine s_move S rfl rfl ?_; clear S a; intro a S
  refine s_lenS S rfl Tryd.underlying37 rfl ?_; clear S a; intro a S
  refine s_bin S rfl rfl rfl rfl ?_; clear S a; intro a S
  refine c_end ?_
  rcases ite_of h0 with ⟨c7, h1⟩ | ⟨c7, h1⟩ <;> clear h0
  · refine c_condT S rfl c7 ?_
    refine c_region' ?_
    refine s_move S rfl rfl ?_; clear S a; intro a S
    refine s_move S rfl rfl ?_; clear S a; intro a S
    refine s_lenS S rfl Tryd.underlying37 rfl ?_; clear S a; intro a S
    refine s_bin S rfl rfl rfl rfl ?_; clear S a; intro a S
    obtain ⟨c8, h2⟩ := chk_of h1; clear h1
    refine s_cutS S (i := (wr .i64 (((x1).length : Int) - 32))) (j := ((x1).length : Int)) (ys := x1.drop (Int.toNat (wr .i64 (((x1).length : Int) - 32)))) rfl rfl Tryd.underlying37 T5 (.inr ⟨_, _, rfl, rfl⟩) (.inl ⟨rfl, rfl⟩) c8 rfl (cut_end rfl) ?_; clear S a; intro A2 cp2 a S
    refine s_assign S rfl rfl ?_; clear S a; intro a S
    refine c_end' ?_
    refine x_thenN ?_
    exact j1 _ A2 cp2 (x1.drop (Int.toNat (wr .i64 (((x1).length : Int) - 32)))) g2 g1 a w (S.sub ⟨rfl, rfl, rfl, trivial⟩ (.cons .here (.cons .here .nil))) h2
  · refine c_condF S rfl c7 ?_
    refine wp_skip ?_
    refine x_thenN ?_
    exact j1 _ ch_0_0 ch_0_1 x1 g2 g1 a w (S.sub ⟨rfl, rfl, rfl, trivial⟩ (.cons .here (.cons .here .nil))) h1
/-! smithy/keccak.Word -/
abbrev keccak_Word.Ty : Type := (List Int) → Option ((List Int))
def keccak_Word.Ctr (s : keccak_Word.Ty) : Prop := ∀ (x1 : List Int) (ch_0_0 : Option Addr) (ch_0_1 : Nat) (r : (List Int)) (h0 : s x1 = some r) (mi : Mem) (w0 : World) (G : Glob mi), okL mi [(.sl ch_0_0 (x1).length ch_0_1 (RdS (Ty.int .u8) ch_0_0 x1))] → Pre mi [] w0 → Calls Tryd.prog 37 (([(.sl ch_0_0 (x1).length ch_0_1 (RdS (Ty.int .u8) ch_0_0 x1))] : List D).map D.val).toArray w0 (RetX mi [] (fun (ch : Unit) => ((.agg [.ints .u64 r 4]) : D)) (fun (ch : Unit) => []) w0)
def keccak_Word.f (k : Nat) (x1 : List Int) : Option ((List Int)) := (keccak_Sum.f k x1).bind fun t1 => ((word_From.f k (((t1).drop 0).take 32)).bind fun t2 => (some t2))
theorem keccak_Word.ok (k : Nat) : keccak_Word.Ctr (keccak_Word.f k) := by
  intro x1 ch_0_0 ch_0_1 r h0 mi w0 G ok hm
  delta keccak_Word.f at h0
  refine c_enterX (n := 8) [(.sl ch_0_0 (x1).length ch_0_1 (RdS (Ty.int .u8) ch_0_0 x1))] (l := [(0, (.sl ch_0_0 (x1).length ch_0_1 (RdS (Ty.int .u8) ch_0_0 x1)))]) Tryd.func37 rfl rfl rfl rfl ok hm ?_
  clear ok hm
  intro b0 hb a S
  refine c_region ?_
  refine s_alloc S Z26 rfl ⟨rfl, trivial⟩ rfl ?_; clear S a; intro g1 a w S
  refine c_end ?_
  refine c_region ?_
  refine s_move S rfl rfl ?_; clear S a; intro a S
  obtain ⟨t1, et1, h1⟩ := bind_of h0; clear h0
  refine s_callP S (fun (ch : Unit) => ((.agg [.ints .u8 t1 32]) : D)) N42 rfl rfl (keccak_Sum.ok k x1 ch_0_0 ch_0_1 t1 et1 _ _ (G.mono (S.leB hb))) ?_; clear S a w; intro ch1 m le1 a w S
  refine s_alloc S Z23 rfl ⟨rfl, trivial⟩ rfl ?_; clear S a w; intro g2 a w S
  refine s_store S rfl rfl rfl (s' := [.ints .u8 t1 32]) .here T23 rfl rfl ?_; clear S w; intro w S
  refine c_end ?_
  refine c_region ?_
  refine s_sliceA S (i := 0) (j := 32) (o' := 0) (len := 32) (cap := 32) rfl Tryd.underlying23 T5 (.inl ⟨rfl, rfl⟩) (.inl ⟨rfl, rfl⟩) (by decide) rfl rfl rfl rfl ?_; clear S a; intro a S
  replace S := S.freeze .here
  obtain ⟨m, le1, S⟩ := S
  replace S := (S.slup' (u := 6) (lo := 0) (c := 32) (ys := ((t1).drop 0).take 32) rfl (Pull.mem .here).1 .here (.inl rfl) (by decide) (by decide) rfl).2
  obtain ⟨t2, et2, h2⟩ := bind_of h1; clear h1
  refine s_callP S (fun (ch : Unit) => ((.agg [.ints .u64 t2 4]) : D)) N57 rfl rfl (word_From.ok k (((t1).drop 0).take 32) (some ⟨g2, 0, none⟩) 32 t2 et2 _ _) ?_; clear S a w; intro ch2 m le1 a w S
  refine s_store S rfl rfl rfl (s' := [.ints .u64 t2 4]) (.there .here) T26 rfl rfl ?_; clear S w; intro w S
  refine c_end ?_
  refine wp_ret ?_
  obtain rfl := Option.some.inj h2
  exact b_ret1 (d := (.agg [.ints .u64 t2 4])) S rfl (resD_cell rfl (.there .here) T26 rfl rfl) fun ok => S.retX (Hx := []) hb _ _ (() : Unit) .nil ok
/-! smithy/block.Root$1 -/
abbrev block_Root_1.Ty : Type := (List Int) → Option ((Bool × (List Int) × Int))
def block_Root_1.Ctr (s : block_Root_1.Ty) : Prop := ∀ (x1 : List Int) (r : (Bool × (List Int) × Int)) (h0 : s x1 = some r) (mi : Mem) (w0 : World), okL mi [(.agg [.ints .u8 x1 32])] → Pre mi [] w0 → Calls Tryd.prog 34 (([(.agg [.ints .u8 x1 32])] : List D).map D.val).toArray w0 (RetX mi [] (fun (ch : (Option Addr) × Nat) => ((.agg [.one (.bool r.1), .sl ch.1 (r.2.1).length ch.2 (RdS (Ty.int .u8) ch.1 r.2.1), .one (.int .i64 r.2.2)]) : D)) (fun (ch : (Option Addr) × Nat) => []) w0)
def block_Root_1.f (x1 : List Int) : Option ((Bool × (List Int) × Int)) := (block_item.f (((x1).drop 0).take 32)).bind fun t1 => (some (t1.1, t1.2.1, t1.2.2))
theorem block_Root_1.ok : block_Root_1.Ctr (block_Root_1.f) := by
  intro x1 r h0 mi w0 ok hm
  delta block_Root_1.f at h0
  refine c_enterX (n := 5) [(.agg [.ints .u8 x1 32])] (l := [(0, (.agg [.ints .u8 x1 32]))]) Tryd.func34 rfl rfl rfl rfl ok hm ?_
  clear ok hm
  intro b0 hb a S
  refine c_region ?_
  refine s_box S rfl rfl rfl ?_; clear S a; intro g1 a w S
  refine s_alloc S Z54 rfl ⟨rfl, rfl, rfl, trivial⟩ rfl ?_; clear S a w; intro g2 a w S
  refine c_end ?_
  refine c_region ?_
  refine s_sliceA S (i := 0) (j := 32) (o' := 0) (len := 32) (cap := 32) rfl Tryd.underlying23 T5 (.inl ⟨rfl, rfl⟩) (.inl ⟨rfl, rfl⟩) (by decide) rfl rfl rfl rfl ?_; clear S a; intro a S
  replace S := S.freeze (.there .here)
  obtain ⟨m, le1, S⟩ := S
  replace S := (S.slup' (u := 3) (lo := 0) (c := 32) (ys := ((x1).drop 0).take 32) rfl (Pull.mem (.there .here)).1 .here (.inl rfl) (by decide) (by decide) rfl).2
  obtain ⟨t1, et1, h1⟩ := bind_of h0; clear h0
  refine s_callP S (fun (ch : (Option Addr) × Nat) => ((.agg [.one (.bool t1.1), .sl ch.1 (t1.2.1).length ch.2 (RdS (Ty.int .u8) ch.1 t1.2.1), .one (.int .i64 t1.2.2)]) : D)) N23 rfl rfl (block_item.ok (((x1).drop 0).take 32) (some ⟨g1, 0, none⟩) 32 t1 et1 _ _) ?_; clear S a w; intro ch1 m le1 a w S
  refine s_store S rfl rfl rfl (s' := [.one (.bool t1.1), .sl ch1.1 (t1.2.1).length ch1.2 (RdS (Ty.int .u8) ch1.1 t1.2.1), .one (.int .i64 t1.2.2)]) .here T54 rfl rfl ?_; clear S w; intro w S
  refine c_end ?_
  refine wp_ret ?_
  obtain rfl := Option.some.inj h1
  exact b_ret1 (d := (.agg [.one (.bool t1.1), .sl ch1.1 (t1.2.1).length ch1.2 (RdS (Ty.int .u8) ch1.1 t1.2.1), .one (.int .i64 t1.2.2)])) S rfl (resD_cell rfl .here T54 rfl rfl) fun ok => S.retX (Hx := []) hb _ _ ((ch1.1, ch1.2) : (Option Addr) × Nat) .nil ok
/-! smithy/block.each[smithy/api.Hash] -/
abbrev api_Hash_n33_1f34.Ty : Type := (List (List Int)) → Option ((List (Bool × (List Int) × Int)))
def api_Hash_n33_1f34.Ctr (s : api_Hash_n33_1f34.Ty) : Prop := ∀ (x1 : List (List Int)) (ch_0_0 : Option Addr) (ch_0_1 : Nat) (r : (List (Bool × (List Int) × Int))) (h0 : s x1 = some r) (mi : Mem) (w0 : World), okL mi [(.sl ch_0_0 (x1).length ch_0_1 (RdS (Ty.arr .u8 32) ch_0_0 x1)), (.v (.func (.func 34) #[] #[]))] → Pre mi [] w0 → Calls Tryd.prog 33 (([(.sl ch_0_0 (x1).length ch_0_1 (RdS (Ty.arr .u8 32) ch_0_0 x1)), (.v (.func (.func 34) #[] #[]))] : List D).map D.val).toArray w0 (RetX mi [] (fun (ch : (Option Addr) × Nat × Nat) => ((.v (.slice ch.1 ch.2.1 ch.2.2)) : D)) (fun (ch : (Option Addr) × Nat × Nat) => [Res.row (Ty.prod Ty.bool (Ty.prod (Ty.slice (Ty.int .u8)) (Ty.int .i64))) 54 ch.1 ch.2.1 ch.2.2 r]) w0)
def api_Hash_n33_1f34.j1 (y1 : List (Bool × (List Int) × Int)) : Option ((List (Bool × (List Int) × Int))) := some y1
def api_Hash_n33_1f34.b1 (x1 : List (List Int)) (rec1 : (List (Bool × (List Int) × Int)) → Int → Option ((List (Bool × (List Int) × Int)))) (y4 : List (Bool × (List Int) × Int)) (y5 : Int) : Option ((List (Bool × (List Int) × Int))) := if (decide (y5 < ((x1).length : Int))) = true then (if (0 : Int) ≤ y5 ∧ y5 < ((x1).length : Int) then ((block_Root_1.f (gt x1 y5)).bind fun t1 => (if ((y4).length + ([(t1.1, t1.2.1, t1.2.2)]).length) * 40 ≤ 140737488355328 then (rec1 (y4 ++ [(t1.1, t1.2.1, t1.2.2)]) (wr .i64 (y5 + 1))) else none)) else none) else (api_Hash_n33_1f34.j1 y4)
def api_Hash_n33_1f34.l1 (x1 : List (List Int)) : Nat → (List (Bool × (List Int) × Int)) → Int → Option ((List (Bool × (List Int) × Int)))
  | 0, _, _ => none
  | q + 1, y4, y5 => api_Hash_n33_1f34.b1 x1 (api_Hash_n33_1f34.l1 x1 q) y4 y5
def api_Hash_n33_1f34.f (k : Nat) (x1 : List (List Int)) : Option ((List (Bool × (List Int) × Int))) := api_Hash_n33_1f34.l1 x1 k ([] : List (Bool × (List Int) × Int)) 0
theorem api_Hash_n33_1f34.ok (k : Nat) : api_Hash_n33_1f34.Ctr (api_Hash_n33_1f34.f k) := by
  intro x1 ch_0_0 ch_0_1 r h0 mi w0 ok hm
  delta api_Hash_n33_1f34.f at h0
  refine c_enterX (n := 22) [(.sl ch_0_0 (x1).length ch_0_1 (RdS (Ty.arr .u8 32) ch_0_0 x1)), (.v (.func (.func 34) #[] #[]))] (l := [(0, (.sl ch_0_0 (x1).length ch_0_1 (RdS (Ty.arr .u8 32) ch_0_0 x1))), (1, (.v (.func (.func 34) #[] #[])))]) Tryd.func33 rfl rfl rfl rfl ok hm ?_
  clear ok hm
  intro b0 hb a S
  refine c_region ?_
  refine s_assign S rfl rfl ?_; clear S a; intro a S
  refine c_end ?_
  refine c_region ?_
  refine s_assign S rfl rfl ?_; clear S a; intro a S
  refine c_end ?_
  refine wp_seq_k ?_
  intro K1 hK1
  have j1 : ∀ (m : Mem) (A1 : Option Addr) (nn1 : Nat) (cp1 : Nat) (y1 : List (Bool × (List Int) × Int)) (a : Act) (w : World), St 22 m b0 [(5, (.v (.slice A1 nn1 cp1)))] [Res.row (Ty.prod Ty.bool (Ty.prod (Ty.slice (Ty.int .u8)) (Ty.int .i64))) 54 A1 nn1 cp1 y1] a w → api_Hash_n33_1f34.j1 y1 = some r → K1 a w := by
    intro m A1 nn1 cp1 y1 a w S h0
    delta api_Hash_n33_1f34.j1 at h0
    refine hK1 a w ?_
    refine c_region ?_
    refine s_move S rfl rfl ?_; clear S a; intro a S
    refine s_assign S rfl rfl ?_; clear S a; intro a S
    refine c_end ?_
    refine wp_ret ?_
    obtain rfl := Option.some.inj h0
    exact b_ret1 (d := (.v (.slice A1 nn1 cp1))) S rfl rfl fun ok => S.retX (Hx := []) hb _ _ ((A1, nn1, cp1) : (Option Addr) × Nat × Nat) (.cons .here .nil) ok
  refine c_region ?_
  refine s_move S rfl rfl ?_; clear S a; intro a S
  refine s_lenS S rfl Tryd.underlying31 rfl ?_; clear S a; intro a S
  refine s_move S rfl rfl ?_; clear S a; intro a S
  refine c_end ?_
  refine wp_block ?_
  replace S := S.nilrow (Ty.prod Ty.bool (Ty.prod (Ty.slice (Ty.int .u8)) (Ty.int .i64))) 54
  refine c_loop (fun q1 a w => ∃ (m : Mem) (A2 : Option Addr) (nn3 : Nat) (cp5 : Nat) (y4 : List (Bool × (List Int) × Int)) (y5 : Int), St 22 m b0 [(5, (.v (.slice A2 nn3 cp5))), (10, (.v (.int .i64 y5))), (9, (.v (.int .i64 ((x1).length : Int)))), (8, (.sl ch_0_0 (x1).length ch_0_1 (RdS (Ty.arr .u8 32) ch_0_0 x1))), (1, (.v (.func (.func 34) #[] #[])))] [Res.row (Ty.prod Ty.bool (Ty.prod (Ty.slice (Ty.int .u8)) (Ty.int .i64))) 54 A2 nn3 cp5 y4] a w ∧ api_Hash_n33_1f34.l1 x1 q1 y4 y5 = some r) ?_ ?_ (k := k) ⟨_, none, 0, 0, ([] : List (Bool × (List Int) × Int)), 0, (S.sub ⟨rfl, rfl, rfl, rfl, rfl, trivial⟩ (.cons .here .nil)), h0⟩
  · rintro a w ⟨m, A2, nn3, cp5, y4, y5, S, h0⟩
    exact (nomatch (show (none : Option ((List (Bool × (List Int) × Int)))) = some r from h0))
  · clear S h0
    rintro q1 a w ⟨m, A2, nn3, cp5, y4, y5, S, h0⟩
    replace h0 : api_Hash_n33_1f34.b1 x1 (api_Hash_n33_1f34.l1 x1 q1) y4 y5 = some r := h0
    delta api_Hash_n33_1f34.b1 at h0
    refine c_region ?_
    refine s_bin S rfl rfl rfl rfl ?_; clear S a; intro a S
    refine c_end ?_
    refine wp_seq ?_
    rcases ite_of h0 with ⟨c1, h1⟩ | ⟨c1, h1⟩ <;> clear h0
    · refine c_condT S rfl c1 ?_
      refine wp_skip ?_
      refine x_thenN ?_
      refine wp_seq ?_
      refine wp_block ?_
      refine c_region ?_
      obtain ⟨c2, h2⟩ := chk_of h1; clear h1
      refine s_iaddrS S rfl rfl rfl Tryd.underlying31 T23 c2.1 c2.2 rfl ?_; clear S a; intro p1 a S
      refine s_ldA S (fun (c : Unit) => [.ints .u8 (gt x1 y5) 32]) rfl T23 (fun _ => rfl) rfl ?_; clear S a; intro ch1 a S
      refine s_alloc S Z23 rfl ⟨rfl, trivial⟩ rfl ?_; clear S a w; intro g1 a w S
      refine s_store S rfl rfl rfl (s' := [.ints .u8 (gt x1 y5) 32]) .here T23 rfl rfl ?_; clear S w; intro w S
      refine c_end ?_
      refine c_region' ?_
      refine s_move S rfl rfl ?_; clear S a; intro a S
      refine s_move S rfl rfl ?_; clear S a; intro a S
      refine s_loada S rfl .here T23 (s' := [.ints .u8 (gt x1 y5) 32]) rfl rfl ?_; clear S a; intro a S
      obtain ⟨t1, et1, h3⟩ := bind_of h2; clear h2
      refine s_callP S (fun (ch : (Option Addr) × Nat) => ((.agg [.one (.bool t1.1), .sl ch.1 (t1.2.1).length ch.2 (RdS (Ty.int .u8) ch.1 t1.2.1), .one (.int .i64 t1.2.2)]) : D)) N34 rfl rfl (block_Root_1.ok (gt x1 y5) t1 et1 _ _) ?_; clear S a w; intro ch2 m le1 a w S
      refine s_bldSl S (ty' := (Ty.prod Ty.bool (Ty.prod (Ty.slice (Ty.int .u8)) (Ty.int .i64)))) (ds := [(0, (.agg [.one (.bool t1.1), .sl ch2.1 (t1.2.1).length ch2.2 (RdS (Ty.int .u8) ch2.1 t1.2.1), .one (.int .i64 t1.2.2)]))]) (z := (false, ([] : List Int), 0)) (c0 := ((), (none, 0), ())) (ys := [(t1.1, t1.2.1, t1.2.2)]) (cs := [((), (ch2.1, ch2.2), ())]) rfl Tryd.underlying51 J54 Z54 rfl ⟨rfl, ⟨Nat.le_refl _, Nat.zero_le _, RdS.nil _ _ _, RdS.mono _ _ _⟩, rfl, trivial⟩ rfl rfl rfl rfl rfl rfl ?_; clear S a w; intro g2 a w S
      obtain ⟨c3, h4⟩ := chk_of h3; clear h3
      refine s_app S (k2 := 1) (ys := [(t1.1, t1.2.1, t1.2.2)]) rfl (fun _ _ => (.there (.there .here))) rfl rfl (S.holds _ (Pull.mem .here).1).1 (Res.row.src (S.holds _ (Pull.mem .here).1)) Tryd.underlying51 J54 c3 rfl ?_; clear S a w; intro A3 cp6 a w S
      refine s_assign S rfl rfl ?_; clear S a; intro a S
      refine c_end' ?_
      refine x_blockN ?_
      refine x_thenN ?_
      refine c_region' ?_
      refine s_bin S rfl rfl rfl rfl ?_; clear S a; intro a S
      refine s_move S rfl rfl ?_; clear S a; intro a S
      refine c_end' ?_
      refine x_thenN ?_
      exact ⟨_, A3, (nn3 + 1), cp6, (y4 ++ [(t1.1, t1.2.1, t1.2.2)]), (wr .i64 (y5 + 1)), (S.sub ⟨rfl, rfl, rfl, rfl, rfl, trivial⟩ (.cons (.there (.there .here)) .nil)), h4⟩
    · refine c_condF S rfl c1 ?_
      refine wp_exit ?_
      refine x_thenX ?_
      refine x_thenX ?_
      refine x_blockX ?_
      refine x_thenN ?_
      exact j1 _ A2 nn3 cp5 y4 a w (S.sub ⟨rfl, trivial⟩ (.cons .here .nil)) h1
/-! smithy/block.Root -/
abbrev block_Root.Ty : Type := (List (List Int)) → Option ((List Int))
def block_Root.Ctr (s : block_Root.Ty) : Prop := ∀ (x1 : List (List Int)) (ch_0_0 : Option Addr) (ch_0_1 : Nat) (r : (List Int)) (h0 : s x1 = some r) (mi : Mem) (w0 : World) (G : Glob mi), okL mi [(.sl ch_0_0 (x1).length ch_0_1 (RdS (Ty.arr .u8 32) ch_0_0 x1))] → Pre mi [] w0 → Calls Tryd.prog 9 (([(.sl ch_0_0 (x1).length ch_0_1 (RdS (Ty.arr .u8 32) ch_0_0 x1))] : List D).map D.val).toArray w0 (RetX mi [] (fun (ch : Unit) => ((.agg [.ints .u8 r 32]) : D)) (fun (ch : Unit) => []) w0)
def block_Root.f (k : Nat) (x1 : List (List Int)) : Option ((List Int)) := (api_Hash_n33_1f34.f k x1).bind fun t1 => ((block_list.f k [t1]).bind fun t2 => ((block_hash.f k t2).bind fun t3 => (some t3)))
theorem block_Root.ok (k : Nat) : block_Root.Ctr (block_Root.f k) := by
  intro x1 ch_0_0 ch_0_1 r h0 mi w0 G ok hm
  delta block_Root.f at h0
  refine c_enterX (n := 8) [(.sl ch_0_0 (x1).length ch_0_1 (RdS (Ty.arr .u8 32) ch_0_0 x1))] (l := [(0, (.sl ch_0_0 (x1).length ch_0_1 (RdS (Ty.arr .u8 32) ch_0_0 x1)))]) Tryd.func9 rfl rfl rfl rfl ok hm ?_
  clear ok hm
  intro b0 hb a S
  refine c_region ?_
  refine s_alloc S Z23 rfl ⟨rfl, trivial⟩ rfl ?_; clear S a; intro g1 a w S
  refine c_end ?_
  refine c_region ?_
  refine s_move S rfl rfl ?_; clear S a; intro a S
  obtain ⟨t1, et1, h1⟩ := bind_of h0; clear h0
  refine s_callR S (fun (ch : (Option Addr) × Nat × Nat) => ((.v (.slice ch.1 ch.2.1 ch.2.2)) : D)) (fun (ch : (Option Addr) × Nat × Nat) => Res.row (Ty.prod Ty.bool (Ty.prod (Ty.slice (Ty.int .u8)) (Ty.int .i64))) 54 ch.1 ch.2.1 ch.2.2 t1) N33 rfl rfl (api_Hash_n33_1f34.ok k x1 ch_0_0 ch_0_1 t1 et1 _ _) ?_; clear S a w; intro ch1 m le1 a w S
  replace S := S.rowfro .here
  obtain ⟨m, le1, S, hro⟩ := S
  replace S := S.slotro (u := 4) rfl hro
  refine s_bldSl S (ty' := (Ty.slice (Ty.prod Ty.bool (Ty.prod (Ty.slice (Ty.int .u8)) (Ty.int .i64))))) (ds := [(0, (.sl ch1.1 (t1).length ch1.2.2 (RdS (Ty.prod Ty.bool (Ty.prod (Ty.slice (Ty.int .u8)) (Ty.int .i64))) ch1.1 t1)))]) (z := ([] : List (Bool × (List Int) × Int))) (c0 := (none, 0)) (ys := [t1]) (cs := [(ch1.1, ch1.2.2)]) rfl Tryd.underlying76 J51 Z51 rfl ⟨⟨Nat.le_refl _, Nat.zero_le _, RdS.nil _ _ _, RdS.mono _ _ _⟩, trivial⟩ rfl rfl rfl rfl rfl rfl ?_; clear S a w; intro g2 a w S
  replace S := S.rowfro .here
  obtain ⟨m, le1, S, hro⟩ := S
  replace S := S.slotro (u := 5) rfl hro
  obtain ⟨t2, et2, h2⟩ := bind_of h1; clear h1
  refine s_callR S (fun (ch : (Option Addr) × Nat × Nat) => ((.v (.slice ch.1 ch.2.1 ch.2.2)) : D)) (fun (ch : (Option Addr) × Nat × Nat) => Res.row (Ty.prod Ty.bool (Ty.prod (Ty.slice (Ty.int .u8)) (Ty.int .i64))) 54 ch.1 ch.2.1 ch.2.2 t2) N22 rfl rfl (block_list.ok k [t1] (some ⟨g2, 0, none⟩) 1 t2 et2 _ _) ?_; clear S a w; intro ch2 m le1 a w S
  replace S := S.rowfro .here
  obtain ⟨m, le1, S, hro⟩ := S
  replace S := S.slotro (u := 6) rfl hro
  obtain ⟨t3, et3, h3⟩ := bind_of h2; clear h2
  refine s_callP S (fun (ch : Unit) => ((.agg [.ints .u8 t3 32]) : D)) N21 rfl rfl (block_hash.ok k t2 ch2.1 ch2.2.2 t3 et3 _ _ (G.mono (S.leB hb))) ?_; clear S a w; intro ch3 m le1 a w S
  refine s_store S rfl rfl rfl (s' := [.ints .u8 t3 32]) .here T23 rfl rfl ?_; clear S w; intro w S
  refine c_end ?_
  refine wp_ret ?_
  obtain rfl := Option.some.inj h3
  exact b_ret1 (d := (.agg [.ints .u8 t3 32])) S rfl (resD_cell rfl .here T23 rfl rfl) fun ok => S.retX (Hx := []) hb _ _ (() : Unit) .nil ok
/-! smithy/block.Next -/
abbrev block_Next.Ty : Type := ((List Int) × Int × Int × Int × Int × (List Int) × (List Int) × (List Int) × (List Int) × (List Int)) → Int → Int → Option (((List Int) × Int × Int × Int × Int × (List Int) × (List Int) × (List Int) × (List Int) × (List Int)))
def block_Next.Ctr (s : block_Next.Ty) : Prop := ∀ (x1 : (List Int) × Int × Int × Int × Int × (List Int) × (List Int) × (List Int) × (List Int) × (List Int)) (x2 : Int) (x3 : Int) (r : ((List Int) × Int × Int × Int × Int × (List Int) × (List Int) × (List Int) × (List Int) × (List Int))) (h0 : s x1 x2 x3 = some r) (mi : Mem) (w0 : World) (G : Glob mi), okL mi [(.agg [.ints .u8 x1.1 32, .one (.int .u64 x1.2.1), .one (.int .u64 x1.2.2.1), .one (.int .u64 x1.2.2.2.1), .one (.int .u64 x1.2.2.2.2.1), .ints .u64 x1.2.2.2.2.2.1 4, .ints .u8 x1.2.2.2.2.2.2.1 20, .ints .u64 x1.2.2.2.2.2.2.2.1 4, .ints .u8 x1.2.2.2.2.2.2.2.2.1 32, .ints .u8 x1.2.2.2.2.2.2.2.2.2 32]), (.v (.int .u64 x2)), (.v (.int .u64 x3))] → Pre mi [] w0 → Calls Tryd.prog 14 (([(.agg [.ints .u8 x1.1 32, .one (.int .u64 x1.2.1), .one (.int .u64 x1.2.2.1), .one (.int .u64 x1.2.2.2.1), .one (.int .u64 x1.2.2.2.2.1), .ints .u64 x1.2.2.2.2.2.1 4, .ints .u8 x1.2.2.2.2.2.2.1 20, .ints .u64 x1.2.2.2.2.2.2.2.1 4, .ints .u8 x1.2.2.2.2.2.2.2.2.1 32, .ints .u8 x1.2.2.2.2.2.2.2.2.2 32]), (.v (.int .u64 x2)), (.v (.int .u64 x3))] : List D).map D.val).toArray w0 (RetX mi [] (fun (ch : Unit) => ((.agg [.ints .u8 r.1 32, .one (.int .u64 r.2.1), .one (.int .u64 r.2.2.1), .one (.int .u64 r.2.2.2.1), .one (.int .u64 r.2.2.2.2.1), .ints .u64 r.2.2.2.2.2.1 4, .ints .u8 r.2.2.2.2.2.2.1 20, .ints .u64 r.2.2.2.2.2.2.2.1 4, .ints .u8 r.2.2.2.2.2.2.2.2.1 32, .ints .u8 r.2.2.2.2.2.2.2.2.2 32]) : D)) (fun (ch : Unit) => []) w0)
def block_Next.f (k : Nat) (x1 : (List Int) × Int × Int × Int × Int × (List Int) × (List Int) × (List Int) × (List Int) × (List Int)) (x2 : Int) (x3 : Int) : Option (((List Int) × Int × Int × Int × Int × (List Int) × (List Int) × (List Int) × (List Int) × (List Int))) := (block_Hash.f k (x1.1, x1.2.1, x1.2.2.1, x1.2.2.2.1, x1.2.2.2.2.1, x1.2.2.2.2.2.1, x1.2.2.2.2.2.2.1, x1.2.2.2.2.2.2.2.1, x1.2.2.2.2.2.2.2.2.1, x1.2.2.2.2.2.2.2.2.2)).bind fun t1 => ((fee_Next.f k x1.2.2.2.2.2.1 x1.2.2.2.2.1 x1.2.2.2.1).bind fun t2 => ((keccak_Word.f k (((t1).drop 0).take 32)).bind fun t3 => ((block_Root.f k ([] : List (List Int))).bind fun t4 => ((block_Root.f k ([] : List (List Int))).bind fun t5 => (some (t1, wr .u64 (x1.2.1 + 1), x2, x3, 0, t2, x1.2.2.2.2.2.2.1, t3, t4, t5))))))
theorem block_Next.ok (k : Nat) : block_Next.Ctr (block_Next.f k) := by
  intro x1 x2 x3 r h0 mi w0 G ok hm
  delta block_Next.f at h0
  refine c_enterX (n := 30) [(.agg [.ints .u8 x1.1 32, .one (.int .u64 x1.2.1), .one (.int .u64 x1.2.2.1), .one (.int .u64 x1.2.2.2.1), .one (.int .u64 x1.2.2.2.2.1), .ints .u64 x1.2.2.2.2.2.1 4, .ints .u8 x1.2.2.2.2.2.2.1 20, .ints .u64 x1.2.2.2.2.2.2.2.1 4, .ints .u8 x1.2.2.2.2.2.2.2.2.1 32, .ints .u8 x1.2.2.2.2.2.2.2.2.2 32]), (.v (.int .u64 x2)), (.v (.int .u64 x3))] (l := [(0, (.agg [.ints .u8 x1.1 32, .one (.int .u64 x1.2.1), .one (.int .u64 x1.2.2.1), .one (.int .u64 x1.2.2.2.1), .one (.int .u64 x1.2.2.2.2.1), .ints .u64 x1.2.2.2.2.2.1 4, .ints .u8 x1.2.2.2.2.2.2.1 20, .ints .u64 x1.2.2.2.2.2.2.2.1 4, .ints .u8 x1.2.2.2.2.2.2.2.2.1 32, .ints .u8 x1.2.2.2.2.2.2.2.2.2 32])), (1, (.v (.int .u64 x2))), (2, (.v (.int .u64 x3)))]) Tryd.func14 rfl rfl rfl rfl ok hm ?_
  clear ok hm
  intro b0 hb a S
  refine c_region ?_
  refine s_box S rfl rfl rfl ?_; clear S a; intro g1 a w S
  refine s_alloc S Z30 rfl ⟨rfl, rfl, rfl, rfl, rfl, rfl, rfl, rfl, rfl, rfl, trivial⟩ rfl ?_; clear S a w; intro g2 a w S
  refine c_end ?_
  refine c_region ?_
  refine s_loada S rfl (.there .here) T30 (s' := [.ints .u8 x1.1 32, .one (.int .u64 x1.2.1), .one (.int .u64 x1.2.2.1), .one (.int .u64 x1.2.2.2.1), .one (.int .u64 x1.2.2.2.2.1), .ints .u64 x1.2.2.2.2.2.1 4, .ints .u8 x1.2.2.2.2.2.2.1 20, .ints .u64 x1.2.2.2.2.2.2.2.1 4, .ints .u8 x1.2.2.2.2.2.2.2.2.1 32, .ints .u8 x1.2.2.2.2.2.2.2.2.2 32]) rfl rfl ?_; clear S a; intro a S
  obtain ⟨t1, et1, h1⟩ := bind_of h0; clear h0
  refine s_callP S (fun (ch : Unit) => ((.agg [.ints .u8 t1 32]) : D)) N7 rfl rfl (block_Hash.ok k (x1.1, x1.2.1, x1.2.2.1, x1.2.2.2.1, x1.2.2.2.2.1, x1.2.2.2.2.2.1, x1.2.2.2.2.2.2.1, x1.2.2.2.2.2.2.2.1, x1.2.2.2.2.2.2.2.2.1, x1.2.2.2.2.2.2.2.2.2) t1 et1 _ _ (G.mono (S.leB hb))) ?_; clear S a w; intro ch1 m le1 a w S
  refine s_alloc S Z23 rfl ⟨rfl, trivial⟩ rfl ?_; clear S a w; intro g3 a w S
  refine s_store S rfl rfl rfl (s' := [.ints .u8 t1 32]) .here T23 rfl rfl ?_; clear S w; intro w S
  refine c_end ?_
  replace S := S.freeze .here
  obtain ⟨m, le1, S⟩ := S
  refine wp_seq (c_heldS S (.take 0 (.take 1 (.take 2 (.take 3 (.take 4 (.take 5 (.take 6 (.take 7 (.take 8 (.take 9 (.take 10 (.take 11 (.take 13 (.take 14 (.take 15 (.alts (.run 12 true (.alts (.run 16 true (.alts (.run 17 true (.alts (.run 18 true (.take 19 (.alts (.run 20 false .done .nil))) .nil)) .nil)) .nil)) .nil))))))))))))))))) 20 [Res.fro g3 23 [.ints .u8 t1 32], Res.cells g2 30 [.ints .u8 [0, 0, 0, 0, 0, 0, 0, 0, 0, 0, 0, 0, 0, 0, 0, 0, 0, 0, 0, 0, 0, 0, 0, 0, 0, 0, 0, 0, 0, 0, 0, 0] 32, .one (.int .u64 0), .one (.int .u64 0), .one (.int .u64 0), .one (.int .u64 0), .ints .u64 [0, 0, 0, 0] 4, .ints .u8 [0, 0, 0, 0, 0, 0, 0, 0, 0, 0, 0, 0, 0, 0, 0, 0, 0, 0, 0, 0] 20, .ints .u64 [0, 0, 0, 0] 4, .ints .u8 [0, 0, 0, 0, 0, 0, 0, 0, 0, 0, 0, 0, 0, 0, 0, 0, 0, 0, 0, 0, 0, 0, 0, 0, 0, 0, 0, 0, 0, 0, 0, 0] 32, .ints .u8 [0, 0, 0, 0, 0, 0, 0, 0, 0, 0, 0, 0, 0, 0, 0, 0, 0, 0, 0, 0, 0, 0, 0, 0, 0, 0, 0, 0, 0, 0, 0, 0] 32], Res.cells g1 30 [.ints .u8 x1.1 32, .one (.int .u64 x1.2.1), .one (.int .u64 x1.2.2.1), .one (.int .u64 x1.2.2.2.1), .one (.int .u64 x1.2.2.2.2.1), .ints .u64 x1.2.2.2.2.2.1 4, .ints .u8 x1.2.2.2.2.2.2.1 20, .ints .u64 x1.2.2.2.2.2.2.2.1 4, .ints .u8 x1.2.2.2.2.2.2.2.2.1 32, .ints .u8 x1.2.2.2.2.2.2.2.2.2 32]] (.cons .here (.cons .here (.cons .here .nil))) ⟨Res.stay_fro, Res.stay_cells, Res.stay_cells, trivial⟩ [(7, (.v (.pointer (some ⟨g3, 0, none⟩)))), (3, (.v (.pointer (some ⟨g1, 0, none⟩)))), (1, (.v (.int .u64 x2))), (2, (.v (.int .u64 x3)))] ⟨rfl, rfl, rfl, rfl, trivial⟩ (by kernel_rfl) (by kernel_rfl) ?_); clear S; intro w S CL hw le
  refine h_loadaF S CL hw le ⟨rfl, rfl, rfl, rfl, trivial⟩ rfl .here T23 (s' := [.ints .u8 t1 32]) rfl rfl rfl trivial ?_; clear S CL a; intro a S CL
  refine h_fieldAddr S CL hw le ⟨rfl, rfl, rfl, rfl, rfl, trivial⟩ rfl I30_1 T24 (by decide) rfl rfl rfl trivial ?_; clear S CL a; intro a S CL
  refine h_load1 S CL hw le ⟨rfl, rfl, rfl, rfl, rfl, rfl, trivial⟩ rfl (.there (.there .here)) T24 (v := (.int .u64 x1.2.1)) rfl rfl rfl trivial ?_; clear S CL a; intro a S CL
  refine h_bin S CL hw le ⟨rfl, rfl, rfl, rfl, rfl, rfl, rfl, trivial⟩ rfl rfl rfl rfl rfl trivial ?_; clear S CL a; intro a S CL
  refine h_move S CL hw le ⟨rfl, rfl, rfl, rfl, rfl, rfl, rfl, rfl, trivial⟩ rfl rfl rfl trivial ?_; clear S CL a; intro a S CL
  refine h_move S CL hw le ⟨rfl, rfl, rfl, rfl, rfl, rfl, rfl, rfl, rfl, trivial⟩ rfl rfl rfl trivial ?_; clear S CL a; intro a S CL
  refine h_fieldAddr S CL hw le ⟨rfl, rfl, rfl, rfl, rfl, rfl, rfl, rfl, rfl, rfl, trivial⟩ rfl I30_5 T26 (by decide) rfl rfl rfl trivial ?_; clear S CL a; intro a S CL
  refine h_loada S CL hw le ⟨rfl, rfl, rfl, rfl, rfl, rfl, rfl, rfl, rfl, rfl, rfl, trivial⟩ rfl (.there (.there .here)) T26 (s' := [.ints .u64 x1.2.2.2.2.2.1 4]) rfl rfl rfl trivial ?_; clear S CL a; intro a S CL
  refine h_fieldAddr S CL hw le ⟨rfl, rfl, rfl, rfl, rfl, rfl, rfl, rfl, rfl, rfl, rfl, rfl, trivial⟩ rfl I30_4 T24 (by decide) rfl rfl rfl trivial ?_; clear S CL a; intro a S CL
  refine h_load1 S CL hw le ⟨rfl, rfl, rfl, rfl, rfl, rfl, rfl, rfl, rfl, rfl, rfl, rfl, rfl, trivial⟩ rfl (.there (.there .here)) T24 (v := (.int .u64 x1.2.2.2.2.1)) rfl rfl rfl trivial ?_; clear S CL a; intro a S CL
  refine h_fieldAddr S CL hw le ⟨rfl, rfl, rfl, rfl, rfl, rfl, rfl, rfl, rfl, rfl, rfl, rfl, rfl, rfl, trivial⟩ rfl I30_3 T24 (by decide) rfl rfl rfl trivial ?_; clear S CL a; intro a S CL
  refine h_load1 S CL hw le ⟨rfl, rfl, rfl, rfl, rfl, rfl, rfl, rfl, rfl, rfl, rfl, rfl, rfl, rfl, rfl, trivial⟩ rfl (.there (.there .here)) T24 (v := (.int .u64 x1.2.2.2.1)) rfl rfl rfl trivial ?_; clear S CL a; intro a S CL
  refine h_fieldAddr S CL hw le ⟨rfl, rfl, rfl, rfl, rfl, rfl, rfl, rfl, rfl, rfl, rfl, rfl, rfl, rfl, rfl, rfl, trivial⟩ rfl I30_6 T28 (by decide) rfl rfl rfl trivial ?_; clear S CL a; intro a S CL
  refine h_loada S CL hw le ⟨rfl, rfl, rfl, rfl, rfl, rfl, rfl, rfl, rfl, rfl, rfl, rfl, rfl, rfl, rfl, rfl, rfl, trivial⟩ rfl (.there (.there .here)) T28 (s' := [.ints .u8 x1.2.2.2.2.2.2.1 20]) rfl rfl rfl trivial ?_; clear S CL a; intro a S CL
  refine h_sliceA S CL hw le ⟨rfl, rfl, rfl, rfl, rfl, rfl, rfl, rfl, rfl, rfl, rfl, rfl, rfl, rfl, rfl, rfl, rfl, rfl, trivial⟩ (i := 0) (j := 32) (o' := 0) (len := 32) (cap := 32) rfl Tryd.underlying23 T5 (.inl ⟨rfl, rfl⟩) (.inl ⟨rfl, rfl⟩) (by decide) rfl rfl rfl rfl rfl trivial ?_; clear S CL a; intro a S CL
  refine h_run' S rfl trivial ?_
  obtain ⟨t2, et2, h2⟩ := bind_of h1; clear h1
  refine s_callP S (fun (ch : Unit) => ((.agg [.ints .u64 t2 4]) : D)) N36 rfl rfl (fee_Next.ok k x1.2.2.2.2.2.1 x1.2.2.2.2.1 x1.2.2.2.1 t2 et2 _ _) ?_; clear S a; intro ch2 m le1 a w S
  replace le := le.trans le1
  replace hw := CL.again hw S (.cons .here (.cons .here (.cons .here .nil))) le
  refine h_back ⟨fun _ => hw, ?_⟩
  replace CL := CL.add (t := 22) (d := (.agg [.ints .u64 t2 4])) S rfl rfl
  refine h_run' S rfl trivial ?_
  replace S := (S.slup' (u := 25) (lo := 0) (c := 32) (ys := ((t1).drop 0).take 32) rfl (Pull.mem .here).1 .here (.inl rfl) (by decide) (by decide) rfl).2
  replace CL := CL.drop (lq' := [(22, (.agg [.ints .u64 t2 4])), (24, (.agg [.ints .u8 x1.2.2.2.2.2.2.1 20])), (23, (.v (.pointer (some ⟨g1, 40, none⟩)))), (21, (.v (.int .u64 x1.2.2.2.1))), (20, (.v (.pointer (some ⟨g1, 34, none⟩)))), (19, (.v (.int .u64 x1.2.2.2.2.1))), (18, (.v (.pointer (some ⟨g1, 35, none⟩)))), (17, (.agg [.ints .u64 x1.2.2.2.2.2.1 4])), (16, (.v (.pointer (some ⟨g1, 36, none⟩)))), (15, (.v (.int .u64 x3))), (14, (.v (.int .u64 x2))), (13, (.v (.int .u64 (wr .u64 (x1.2.1 + 1))))), (12, (.v (.int .u64 x1.2.1))), (11, (.v (.pointer (some ⟨g1, 32, none⟩)))), (10, (.agg [.ints .u8 t1 32])), (7, (.v (.pointer (some ⟨g3, 0, none⟩)))), (3, (.v (.pointer (some ⟨g1, 0, none⟩)))), (1, (.v (.int .u64 x2))), (2, (.v (.int .u64 x3)))]) ⟨rfl, rfl, rfl, rfl, rfl, rfl, rfl, rfl, rfl, rfl, rfl, rfl, rfl, rfl, rfl, rfl, rfl, rfl, rfl, trivial⟩
  obtain ⟨t3, et3, h3⟩ := bind_of h2; clear h2
  refine s_callP S (fun (ch : Unit) => ((.agg [.ints .u64 t3 4]) : D)) N37 rfl rfl (keccak_Word.ok k (((t1).drop 0).take 32) (some ⟨g3, 0, none⟩) 32 t3 et3 _ _ (G.mono (S.leB hb))) ?_; clear S a; intro ch3 m le1 a w S
  replace le := le.trans le1
  replace hw := CL.again hw S (.cons .here (.cons .here (.cons .here .nil))) le
  refine h_back ⟨fun _ => hw, ?_⟩
  replace CL := CL.add (t := 26) (d := (.agg [.ints .u64 t3 4])) S rfl rfl
  refine h_run' S rfl trivial ?_
  obtain ⟨t4, et4, h4⟩ := bind_of h3; clear h3
  refine s_callX S (ds' := [(.v (.slice none 0 0))]) (ds := [(.sl none (([] : List (List Int))).length 0 (RdS (Ty.arr .u8 32) none ([] : List (List Int))))]) [] [Res.fro g3 23 [.ints .u8 t1 32], Res.cells g2 30 [.ints .u8 [0, 0, 0, 0, 0, 0, 0, 0, 0, 0, 0, 0, 0, 0, 0, 0, 0, 0, 0, 0, 0, 0, 0, 0, 0, 0, 0, 0, 0, 0, 0, 0] 32, .one (.int .u64 0), .one (.int .u64 0), .one (.int .u64 0), .one (.int .u64 0), .ints .u64 [0, 0, 0, 0] 4, .ints .u8 [0, 0, 0, 0, 0, 0, 0, 0, 0, 0, 0, 0, 0, 0, 0, 0, 0, 0, 0, 0] 20, .ints .u64 [0, 0, 0, 0] 4, .ints .u8 [0, 0, 0, 0, 0, 0, 0, 0, 0, 0, 0, 0, 0, 0, 0, 0, 0, 0, 0, 0, 0, 0, 0, 0, 0, 0, 0, 0, 0, 0, 0, 0] 32, .ints .u8 [0, 0, 0, 0, 0, 0, 0, 0, 0, 0, 0, 0, 0, 0, 0, 0, 0, 0, 0, 0, 0, 0, 0, 0, 0, 0, 0, 0, 0, 0, 0, 0] 32], Res.cells g1 30 [.ints .u8 x1.1 32, .one (.int .u64 x1.2.1), .one (.int .u64 x1.2.2.1), .one (.int .u64 x1.2.2.2.1), .one (.int .u64 x1.2.2.2.2.1), .ints .u64 x1.2.2.2.2.2.1 4, .ints .u8 x1.2.2.2.2.2.2.1 20, .ints .u64 x1.2.2.2.2.2.2.2.1 4, .ints .u8 x1.2.2.2.2.2.2.2.2.1 32, .ints .u8 x1.2.2.2.2.2.2.2.2.2 32]] (fun (ch : Unit) => ((.agg [.ints .u8 t4 32]) : D)) (fun (ch : Unit) => []) (fun (ch : Unit) => [Res.fro g3 23 [.ints .u8 t1 32], Res.cells g2 30 [.ints .u8 [0, 0, 0, 0, 0, 0, 0, 0, 0, 0, 0, 0, 0, 0, 0, 0, 0, 0, 0, 0, 0, 0, 0, 0, 0, 0, 0, 0, 0, 0, 0, 0] 32, .one (.int .u64 0), .one (.int .u64 0), .one (.int .u64 0), .one (.int .u64 0), .ints .u64 [0, 0, 0, 0] 4, .ints .u8 [0, 0, 0, 0, 0, 0, 0, 0, 0, 0, 0, 0, 0, 0, 0, 0, 0, 0, 0, 0] 20, .ints .u64 [0, 0, 0, 0] 4, .ints .u8 [0, 0, 0, 0, 0, 0, 0, 0, 0, 0, 0, 0, 0, 0, 0, 0, 0, 0, 0, 0, 0, 0, 0, 0, 0, 0, 0, 0, 0, 0, 0, 0] 32, .ints .u8 [0, 0, 0, 0, 0, 0, 0, 0, 0, 0, 0, 0, 0, 0, 0, 0, 0, 0, 0, 0, 0, 0, 0, 0, 0, 0, 0, 0, 0, 0, 0, 0] 32], Res.cells g1 30 [.ints .u8 x1.1 32, .one (.int .u64 x1.2.1), .one (.int .u64 x1.2.2.1), .one (.int .u64 x1.2.2.2.1), .one (.int .u64 x1.2.2.2.2.1), .ints .u64 x1.2.2.2.2.2.1 4, .ints .u8 x1.2.2.2.2.2.2.1 20, .ints .u64 x1.2.2.2.2.2.2.2.1 4, .ints .u8 x1.2.2.2.2.2.2.2.2.1 32, .ints .u8 x1.2.2.2.2.2.2.2.2.2 32]]) (fun _ => rfl) N9 rfl rfl (fun ok => ⟨ok_nil, trivial⟩) (.cons .here (.cons .here (.cons .here .nil))) rfl (block_Root.ok k ([] : List (List Int)) none 0 t4 et4 _ _ (G.mono (S.leB hb))) ?_; clear S a; intro ch4 m le1 a w S
  replace le := le.trans le1
  replace hw := CL.again hw S (.cons .here (.cons .here (.cons .here .nil))) le
  refine h_back ⟨fun _ => hw, ?_⟩
  replace CL := CL.add (t := 27) (d := (.agg [.ints .u8 t4 32])) S rfl rfl
  refine h_run' S rfl trivial ?_
  obtain ⟨t5, et5, h5⟩ := bind_of h4; clear h4
  refine s_callX S (ds' := [(.v (.slice none 0 0))]) (ds := [(.sl none (([] : List (List Int))).length 0 (RdS (Ty.arr .u8 32) none ([] : List (List Int))))]) [] [Res.fro g3 23 [.ints .u8 t1 32], Res.cells g2 30 [.ints .u8 [0, 0, 0, 0, 0, 0, 0, 0, 0, 0, 0, 0, 0, 0, 0, 0, 0, 0, 0, 0, 0, 0, 0, 0, 0, 0, 0, 0, 0, 0, 0, 0] 32, .one (.int .u64 0), .one (.int .u64 0), .one (.int .u64 0), .one (.int .u64 0), .ints .u64 [0, 0, 0, 0] 4, .ints .u8 [0, 0, 0, 0, 0, 0, 0, 0, 0, 0, 0, 0, 0, 0, 0, 0, 0, 0, 0, 0] 20, .ints .u64 [0, 0, 0, 0] 4, .ints .u8 [0, 0, 0, 0, 0, 0, 0, 0, 0, 0, 0, 0, 0, 0, 0, 0, 0, 0, 0, 0, 0, 0, 0, 0, 0, 0, 0, 0, 0, 0, 0, 0] 32, .ints .u8 [0, 0, 0, 0, 0, 0, 0, 0, 0, 0, 0, 0, 0, 0, 0, 0, 0, 0, 0, 0, 0, 0, 0, 0, 0, 0, 0, 0, 0, 0, 0, 0] 32], Res.cells g1 30 [.ints .u8 x1.1 32, .one (.int .u64 x1.2.1), .one (.int .u64 x1.2.2.1), .one (.int .u64 x1.2.2.2.1), .one (.int .u64 x1.2.2.2.2.1), .ints .u64 x1.2.2.2.2.2.1 4, .ints .u8 x1.2.2.2.2.2.2.1 20, .ints .u64 x1.2.2.2.2.2.2.2.1 4, .ints .u8 x1.2.2.2.2.2.2.2.2.1 32, .ints .u8 x1.2.2.2.2.2.2.2.2.2 32]] (fun (ch : Unit) => ((.agg [.ints .u8 t5 32]) : D)) (fun (ch : Unit) => []) (fun (ch : Unit) => [Res.fro g3 23 [.ints .u8 t1 32], Res.cells g2 30 [.ints .u8 [0, 0, 0, 0, 0, 0, 0, 0, 0, 0, 0, 0, 0, 0, 0, 0, 0, 0, 0, 0, 0, 0, 0, 0, 0, 0, 0, 0, 0, 0, 0, 0] 32, .one (.int .u64 0), .one (.int .u64 0), .one (.int .u64 0), .one (.int .u64 0), .ints .u64 [0, 0, 0, 0] 4, .ints .u8 [0, 0, 0, 0, 0, 0, 0, 0, 0, 0, 0, 0, 0, 0, 0, 0, 0, 0, 0, 0] 20, .ints .u64 [0, 0, 0, 0] 4, .ints .u8 [0, 0, 0, 0, 0, 0, 0, 0, 0, 0, 0, 0, 0, 0, 0, 0, 0, 0, 0, 0, 0, 0, 0, 0, 0, 0, 0, 0, 0, 0, 0, 0] 32, .ints .u8 [0, 0, 0, 0, 0, 0, 0, 0, 0, 0, 0, 0, 0, 0, 0, 0, 0, 0, 0, 0, 0, 0, 0, 0, 0, 0, 0, 0, 0, 0, 0, 0] 32], Res.cells g1 30 [.ints .u8 x1.1 32, .one (.int .u64 x1.2.1), .one (.int .u64 x1.2.2.1), .one (.int .u64 x1.2.2.2.1), .one (.int .u64 x1.2.2.2.2.1), .ints .u64 x1.2.2.2.2.2.1 4, .ints .u8 x1.2.2.2.2.2.2.1 20, .ints .u64 x1.2.2.2.2.2.2.2.1 4, .ints .u8 x1.2.2.2.2.2.2.2.2.1 32, .ints .u8 x1.2.2.2.2.2.2.2.2.2 32]]) (fun _ => rfl) N9 rfl rfl (fun ok => ⟨ok_nil, trivial⟩) (.cons .here (.cons .here (.cons .here .nil))) rfl (block_Root.ok k ([] : List (List Int)) none 0 t5 et5 _ _ (G.mono (S.leB hb))) ?_; clear S a; intro ch5 m le1 a w S
  replace le := le.trans le1
  replace hw := CL.again hw S (.cons .here (.cons .here (.cons .here .nil))) le
  refine h_back ⟨fun _ => hw, ?_⟩
  replace CL := CL.add (t := 28) (d := (.agg [.ints .u8 t5 32])) S rfl rfl
  refine h_bldS S CL hw le ⟨rfl, rfl, rfl, rfl, rfl, rfl, rfl, rfl, rfl, rfl, rfl, rfl, rfl, rfl, rfl, rfl, rfl, rfl, rfl, rfl, rfl, rfl, trivial⟩ (ds := [(0, (.agg [.ints .u8 t1 32])), (1, (.v (.int .u64 (wr .u64 (x1.2.1 + 1))))), (2, (.v (.int .u64 x2))), (3, (.v (.int .u64 x3))), (5, (.agg [.ints .u64 t2 4])), (6, (.agg [.ints .u8 x1.2.2.2.2.2.2.1 20])), (7, (.agg [.ints .u64 t3 4])), (8, (.agg [.ints .u8 t4 32])), (9, (.agg [.ints .u8 t5 32]))]) (zs := [.ints .u8 [0, 0, 0, 0, 0, 0, 0, 0, 0, 0, 0, 0, 0, 0, 0, 0, 0, 0, 0, 0, 0, 0, 0, 0, 0, 0, 0, 0, 0, 0, 0, 0] 32, .one (.int .u64 0), .one (.int .u64 0), .one (.int .u64 0), .one (.int .u64 0), .ints .u64 [0, 0, 0, 0] 4, .ints .u8 [0, 0, 0, 0, 0, 0, 0, 0, 0, 0, 0, 0, 0, 0, 0, 0, 0, 0, 0, 0] 20, .ints .u64 [0, 0, 0, 0] 4, .ints .u8 [0, 0, 0, 0, 0, 0, 0, 0, 0, 0, 0, 0, 0, 0, 0, 0, 0, 0, 0, 0, 0, 0, 0, 0, 0, 0, 0, 0, 0, 0, 0, 0] 32, .ints .u8 [0, 0, 0, 0, 0, 0, 0, 0, 0, 0, 0, 0, 0, 0, 0, 0, 0, 0, 0, 0, 0, 0, 0, 0, 0, 0, 0, 0, 0, 0, 0, 0] 32]) (s' := [.ints .u8 t1 32, .one (.int .u64 (wr .u64 (x1.2.1 + 1))), .one (.int .u64 x2), .one (.int .u64 x3), .one (.int .u64 0), .ints .u64 t2 4, .ints .u8 x1.2.2.2.2.2.2.1 20, .ints .u64 t3 4, .ints .u8 t4 32, .ints .u8 t5 32]) rfl Tryd.underlying30 P30 Z30 ⟨rfl, rfl, rfl, rfl, rfl, rfl, rfl, rfl, rfl, rfl, trivial⟩ rfl rfl rfl trivial ?_; clear S CL a; intro a S CL
  refine h_run' S rfl trivial ?_
  refine s_store S rfl rfl rfl (s' := [.ints .u8 t1 32, .one (.int .u64 (wr .u64 (x1.2.1 + 1))), .one (.int .u64 x2), .one (.int .u64 x3), .one (.int .u64 0), .ints .u64 t2 4, .ints .u8 x1.2.2.2.2.2.2.1 20, .ints .u64 t3 4, .ints .u8 t4 32, .ints .u8 t5 32]) (.there .here) T30 rfl rfl ?_; clear S; intro w S
  refine h_back ⟨fun h => (nomatch h), ?_⟩
  refine h_done ?_; clear CL hw le
  refine x_thenN ?_
  refine wp_ret ?_
  obtain rfl := Option.some.inj h5
  exact b_ret1 (d := (.agg [.ints .u8 t1 32, .one (.int .u64 (wr .u64 (x1.2.1 + 1))), .one (.int .u64 x2), .one (.int .u64 x3), .one (.int .u64 0), .ints .u64 t2 4, .ints .u8 x1.2.2.2.2.2.2.1 20, .ints .u64 t3 4, .ints .u8 t4 32, .ints .u8 t5 32])) S rfl (resD_cell rfl (.there .here) T30 rfl rfl) fun ok => S.retX (Hx := []) hb _ _ (() : Unit) .nil ok
/-! smithy/smithylaw23.fixed -/
abbrev smithylaw23_fixed.Ty : Type := Option Bool
def smithylaw23_fixed.Ctr (s : smithylaw23_fixed.Ty) : Prop := ∀ (r : Bool) (h0 : s = some r) (mi : Mem) (w0 : World) (G : Glob mi), okL mi [] → Pre mi [] w0 → Calls Tryd.prog 6 (([] : List D).map D.val).toArray w0 (RetX mi [] (fun (ch : Unit) => ((.v (.bool r)) : D)) (fun (ch : Unit) => []) w0)
def smithylaw23_fixed.f (k : Nat) : Option Bool := (block_Next.f k ([0, 0, 0, 0, 0, 0, 0, 0, 0, 0, 0, 0, 0, 0, 0, 0, 0, 0, 0, 0, 0, 0, 0, 0, 0, 0, 0, 0, 0, 0, 0, 0], 0, 0, 30000000, 30000000, [1000000000, 0, 0, 0], [0, 0, 0, 0, 0, 0, 0, 0, 0, 0, 0, 0, 0, 0, 0, 0, 0, 0, 0, 0], [0, 0, 0, 0], [0, 0, 0, 0, 0, 0, 0, 0, 0, 0, 0, 0, 0, 0, 0, 0, 0, 0, 0, 0, 0, 0, 0, 0, 0, 0, 0, 0, 0, 0, 0, 0], [0, 0, 0, 0, 0, 0, 0, 0, 0, 0, 0, 0, 0, 0, 0, 0, 0, 0, 0, 0, 0, 0, 0, 0, 0, 0, 0, 0, 0, 0, 0, 0]) 5 7).bind fun t1 => (some (decide (t1.2.2.2.2.2.1 = [1125000000, 0, 0, 0])))
theorem smithylaw23_fixed.ok (k : Nat) : smithylaw23_fixed.Ctr (smithylaw23_fixed.f k) := by
  intro r h0 mi w0 G ok hm
  delta smithylaw23_fixed.f at h0
  refine c_enterX (n := 9) [] (l := []) Tryd.func6 rfl rfl rfl rfl ok hm ?_
  clear ok hm
  intro b0 hb a S
  refine c_region ?_
  refine s_assign S rfl rfl ?_; clear S a; intro a S
  refine c_end ?_
  refine c_region ?_
  refine s_build S (ds := [(0, (.v (.int .u64 1000000000)))]) (dv := (.agg [.ints .u64 [1000000000, 0, 0, 0] 4])) rfl (fun _ => by kernel_rfl) ⟨rfl, trivial⟩ rfl ?_; clear S a; intro a S
  refine s_bldS S (ds := [(4, (.v (.int .u64 30000000))), (3, (.v (.int .u64 30000000))), (5, (.agg [.ints .u64 [1000000000, 0, 0, 0] 4]))]) (zs := [.ints .u8 [0, 0, 0, 0, 0, 0, 0, 0, 0, 0, 0, 0, 0, 0, 0, 0, 0, 0, 0, 0, 0, 0, 0, 0, 0, 0, 0, 0, 0, 0, 0, 0] 32, .one (.int .u64 0), .one (.int .u64 0), .one (.int .u64 0), .one (.int .u64 0), .ints .u64 [0, 0, 0, 0] 4, .ints .u8 [0, 0, 0, 0, 0, 0, 0, 0, 0, 0, 0, 0, 0, 0, 0, 0, 0, 0, 0, 0] 20, .ints .u64 [0, 0, 0, 0] 4, .ints .u8 [0, 0, 0, 0, 0, 0, 0, 0, 0, 0, 0, 0, 0, 0, 0, 0, 0, 0, 0, 0, 0, 0, 0, 0, 0, 0, 0, 0, 0, 0, 0, 0] 32, .ints .u8 [0, 0, 0, 0, 0, 0, 0, 0, 0, 0, 0, 0, 0, 0, 0, 0, 0, 0, 0, 0, 0, 0, 0, 0, 0, 0, 0, 0, 0, 0, 0, 0] 32]) (s' := [.ints .u8 [0, 0, 0, 0, 0, 0, 0, 0, 0, 0, 0, 0, 0, 0, 0, 0, 0, 0, 0, 0, 0, 0, 0, 0, 0, 0, 0, 0, 0, 0, 0, 0] 32, .one (.int .u64 0), .one (.int .u64 0), .one (.int .u64 30000000), .one (.int .u64 30000000), .ints .u64 [1000000000, 0, 0, 0] 4, .ints .u8 [0, 0, 0, 0, 0, 0, 0, 0, 0, 0, 0, 0, 0, 0, 0, 0, 0, 0, 0, 0] 20, .ints .u64 [0, 0, 0, 0] 4, .ints .u8 [0, 0, 0, 0, 0, 0, 0, 0, 0, 0, 0, 0, 0, 0, 0, 0, 0, 0, 0, 0, 0, 0, 0, 0, 0, 0, 0, 0, 0, 0, 0, 0] 32, .ints .u8 [0, 0, 0, 0, 0, 0, 0, 0, 0, 0, 0, 0, 0, 0, 0, 0, 0, 0, 0, 0, 0, 0, 0, 0, 0, 0, 0, 0, 0, 0, 0, 0] 32]) rfl Tryd.underlying30 P30 Z30 ⟨rfl, rfl, rfl, rfl, rfl, rfl, rfl, rfl, rfl, rfl, trivial⟩ rfl rfl ?_; clear S a; intro a S
  refine s_alloc S Z30 rfl ⟨rfl, rfl, rfl, rfl, rfl, rfl, rfl, rfl, rfl, rfl, trivial⟩ rfl ?_; clear S a; intro g1 a w S
  refine s_store S rfl rfl rfl (s' := [.ints .u8 [0, 0, 0, 0, 0, 0, 0, 0, 0, 0, 0, 0, 0, 0, 0, 0, 0, 0, 0, 0, 0, 0, 0, 0, 0, 0, 0, 0, 0, 0, 0, 0] 32, .one (.int .u64 0), .one (.int .u64 0), .one (.int .u64 30000000), .one (.int .u64 30000000), .ints .u64 [1000000000, 0, 0, 0] 4, .ints .u8 [0, 0, 0, 0, 0, 0, 0, 0, 0, 0, 0, 0, 0, 0, 0, 0, 0, 0, 0, 0] 20, .ints .u64 [0, 0, 0, 0] 4, .ints .u8 [0, 0, 0, 0, 0, 0, 0, 0, 0, 0, 0, 0, 0, 0, 0, 0, 0, 0, 0, 0, 0, 0, 0, 0, 0, 0, 0, 0, 0, 0, 0, 0] 32, .ints .u8 [0, 0, 0, 0, 0, 0, 0, 0, 0, 0, 0, 0, 0, 0, 0, 0, 0, 0, 0, 0, 0, 0, 0, 0, 0, 0, 0, 0, 0, 0, 0, 0] 32]) .here T30 rfl rfl ?_; clear S w; intro w S
  refine c_end ?_
  refine c_region ?_
  refine s_loada S rfl .here T30 (s' := [.ints .u8 [0, 0, 0, 0, 0, 0, 0, 0, 0, 0, 0, 0, 0, 0, 0, 0, 0, 0, 0, 0, 0, 0, 0, 0, 0, 0, 0, 0, 0, 0, 0, 0] 32, .one (.int .u64 0), .one (.int .u64 0), .one (.int .u64 30000000), .one (.int .u64 30000000), .ints .u64 [1000000000, 0, 0, 0] 4, .ints .u8 [0, 0, 0, 0, 0, 0, 0, 0, 0, 0, 0, 0, 0, 0, 0, 0, 0, 0, 0, 0] 20, .ints .u64 [0, 0, 0, 0] 4, .ints .u8 [0, 0, 0, 0, 0, 0, 0, 0, 0, 0, 0, 0, 0, 0, 0, 0, 0, 0, 0, 0, 0, 0, 0, 0, 0, 0, 0, 0, 0, 0, 0, 0] 32, .ints .u8 [0, 0, 0, 0, 0, 0, 0, 0, 0, 0, 0, 0, 0, 0, 0, 0, 0, 0, 0, 0, 0, 0, 0, 0, 0, 0, 0, 0, 0, 0, 0, 0] 32]) rfl rfl ?_; clear S a; intro a S
  obtain ⟨t1, et1, h1⟩ := bind_of h0; clear h0
  refine s_callP S (fun (ch : Unit) => ((.agg [.ints .u8 t1.1 32, .one (.int .u64 t1.2.1), .one (.int .u64 t1.2.2.1), .one (.int .u64 t1.2.2.2.1), .one (.int .u64 t1.2.2.2.2.1), .ints .u64 t1.2.2.2.2.2.1 4, .ints .u8 t1.2.2.2.2.2.2.1 20, .ints .u64 t1.2.2.2.2.2.2.2.1 4, .ints .u8 t1.2.2.2.2.2.2.2.2.1 32, .ints .u8 t1.2.2.2.2.2.2.2.2.2 32]) : D)) N14 rfl rfl (block_Next.ok k ([0, 0, 0, 0, 0, 0, 0, 0, 0, 0, 0, 0, 0, 0, 0, 0, 0, 0, 0, 0, 0, 0, 0, 0, 0, 0, 0, 0, 0, 0, 0, 0], 0, 0, 30000000, 30000000, [1000000000, 0, 0, 0], [0, 0, 0, 0, 0, 0, 0, 0, 0, 0, 0, 0, 0, 0, 0, 0, 0, 0, 0, 0], [0, 0, 0, 0], [0, 0, 0, 0, 0, 0, 0, 0, 0, 0, 0, 0, 0, 0, 0, 0, 0, 0, 0, 0, 0, 0, 0, 0, 0, 0, 0, 0, 0, 0, 0, 0], [0, 0, 0, 0, 0, 0, 0, 0, 0, 0, 0, 0, 0, 0, 0, 0, 0, 0, 0, 0, 0, 0, 0, 0, 0, 0, 0, 0, 0, 0, 0, 0]) 5 7 t1 et1 _ _ (G.mono (S.leB hb))) ?_; clear S a w; intro ch1 m le1 a w S
  refine s_fielda S rfl I30_5 T26 (s' := [.ints .u64 t1.2.2.2.2.2.1 4]) rfl rfl ?_; clear S a; intro a S
  refine s_build S (ds := [(0, (.v (.int .u64 1125000000)))]) (dv := (.agg [.ints .u64 [1125000000, 0, 0, 0] 4])) rfl (fun _ => by kernel_rfl) ⟨rfl, trivial⟩ rfl ?_; clear S a; intro a S
  refine s_eqa S rfl rfl Tryd.underlying26 Tryd.underlying24 T24 Q26 rfl ?_; clear S a; intro a S
  refine s_assign S rfl rfl ?_; clear S a; intro a S
  refine c_end ?_
  refine wp_ret ?_
  obtain rfl := Option.some.inj h1
  exact b_ret1 (d := (.v (.bool (decide (t1.2.2.2.2.2.1 = [1125000000, 0, 0, 0]))))) S rfl rfl fun ok => S.retX (Hx := []) hb _ _ (() : Unit) .nil ok
/-! smithy/smithyref01.Of -/
abbrev smithyref01_Of.Ty : Type := (List Int) → Option ((List Int))
def smithyref01_Of.Ctr (s : smithyref01_Of.Ty) : Prop := ∀ (x1 : List Int) (r : (List Int)) (h0 : s x1 = some r) (mi : Mem) (w0 : World), okL mi [(.agg [.ints .u64 x1 4])] → Pre mi [] w0 → Calls Tryd.prog 49 (([(.agg [.ints .u64 x1 4])] : List D).map D.val).toArray w0 (RetX mi [] (fun (ch : Unit) => ((.agg [.ints .i64 r 32]) : D)) (fun (ch : Unit) => []) w0)
def smithyref01_Of.j1 (y1 : List Int) : Option ((List Int)) := some y1
def smithyref01_Of.b1 (x1 : List Int) (rec1 : Int → (List Int) → Option ((List Int))) (y4 : Int) (y5 : List Int) : Option ((List Int)) := if (decide (y4 < 32)) = true then (if (0 : Int) ≤ (wr .i64 (Int.tdiv y4 8)) ∧ (wr .i64 (Int.tdiv y4 8)) < 4 then (if (0 : Int) ≤ (wr .i64 (8 * (Int.tmod y4 8))) then (if (0 : Int) ≤ y4 ∧ y4 < 32 then (rec1 (wr .i64 (y4 + 1)) (y5.set (Int.toNat y4) (wr .i64 (Int.tmod (shr (rd x1 (wr .i64 (Int.tdiv y4 8))) (min (Int.toNat (wr .i64 (8 * (Int.tmod y4 8)))) 64)) 256)))) else none) else none) else none) else (smithyref01_Of.j1 y5)
def smithyref01_Of.l1 (x1 : List Int) : Nat → Int → (List Int) → Option ((List Int))
  | 0, _, _ => none
  | q + 1, y4, y5 => smithyref01_Of.b1 x1 (smithyref01_Of.l1 x1 q) y4 y5
def smithyref01_Of.f (k : Nat) (x1 : List Int) : Option ((List Int)) := smithyref01_Of.l1 x1 k 0 [0, 0, 0, 0, 0, 0, 0, 0, 0, 0, 0, 0, 0, 0, 0, 0, 0, 0, 0, 0, 0, 0, 0, 0, 0, 0, 0, 0, 0, 0, 0, 0]
theorem smithyref01_Of.ok (k : Nat) : smithyref01_Of.Ctr (smithyref01_Of.f k) := by
  intro x1 r h0 mi w0 ok hm
  delta smithyref01_Of.f at h0
  refine c_enterX (n := 23) [(.agg [.ints .u64 x1 4])] (l := [(0, (.agg [.ints .u64 x1 4]))]) Tryd.func49 rfl rfl rfl rfl ok hm ?_
  clear ok hm
  intro b0 hb a S
  refine c_region ?_
  refine s_box S rfl rfl rfl ?_; clear S a; intro g1 a w S
  refine s_alloc S Z81 rfl ⟨rfl, trivial⟩ rfl ?_; clear S a w; intro g2 a w S
  refine c_end ?_
  refine c_region ?_
  refine s_build S (ds := []) (dv := (.agg [.ints .i64 [0, 0, 0, 0, 0, 0, 0, 0, 0, 0, 0, 0, 0, 0, 0, 0, 0, 0, 0, 0, 0, 0, 0, 0, 0, 0, 0, 0, 0, 0, 0, 0] 32])) rfl (fun _ => by kernel_rfl) ⟨rfl, trivial⟩ rfl ?_; clear S a; intro a S
  refine s_alloc S Z81 rfl ⟨rfl, trivial⟩ rfl ?_; clear S a w; intro g3 a w S
  refine s_store S rfl rfl rfl (s' := [.ints .i64 [0, 0, 0, 0, 0, 0, 0, 0, 0, 0, 0, 0, 0, 0, 0, 0, 0, 0, 0, 0, 0, 0, 0, 0, 0, 0, 0, 0, 0, 0, 0, 0] 32]) .here T81 rfl rfl ?_; clear S w; intro w S
  refine c_end ?_
  refine wp_seq_k ?_
  intro K1 hK1
  have j1 : ∀ (m : Mem) (g13 : Nat) (g14 : Nat) (y1 : List Int) (a : Act) (w : World), St 23 m b0 [(3, (.v (.pointer (some ⟨g13, 0, none⟩)))), (2, (.v (.pointer (some ⟨g14, 0, none⟩))))] [Res.cells g13 81 [.ints .i64 y1 32], Res.cells g14 81 [.ints .i64 [0, 0, 0, 0, 0, 0, 0, 0, 0, 0, 0, 0, 0, 0, 0, 0, 0, 0, 0, 0, 0, 0, 0, 0, 0, 0, 0, 0, 0, 0, 0, 0] 32]] a w → smithyref01_Of.j1 y1 = some r → K1 a w := by
    intro m g13 g14 y1 a w S h0
    delta smithyref01_Of.j1 at h0
    refine hK1 a w ?_
    refine c_region ?_
    refine s_loada S rfl .here T81 (s' := [.ints .i64 y1 32]) rfl rfl ?_; clear S a; intro a S
    refine s_store S rfl rfl rfl (s' := [.ints .i64 y1 32]) (.there .here) T81 rfl rfl ?_; clear S w; intro w S
    refine c_end ?_
    refine wp_ret ?_
    obtain rfl := Option.some.inj h0
    exact b_ret1 (d := (.agg [.ints .i64 y1 32])) S rfl (resD_cell rfl (.there .here) T81 rfl rfl) fun ok => S.retX (Hx := []) hb _ _ (() : Unit) .nil ok
  refine c_region ?_
  refine s_assign S rfl rfl ?_; clear S a; intro a S
  refine c_end ?_
  refine wp_block ?_
  refine c_loop (fun q1 a w => ∃ (m : Mem) (y4 : Int) (g21 : Nat) (g22 : Nat) (g23 : Nat) (y5 : List Int), St 23 m b0 [(4, (.v (.int .i64 y4))), (3, (.v (.pointer (some ⟨g21, 0, none⟩)))), (2, (.v (.pointer (some ⟨g22, 0, none⟩)))), (1, (.v (.pointer (some ⟨g23, 0, none⟩))))] [Res.cells g21 81 [.ints .i64 y5 32], Res.cells g22 81 [.ints .i64 [0, 0, 0, 0, 0, 0, 0, 0, 0, 0, 0, 0, 0, 0, 0, 0, 0, 0, 0, 0, 0, 0, 0, 0, 0, 0, 0, 0, 0, 0, 0, 0] 32], Res.cells g23 26 [.ints .u64 x1 4]] a w ∧ smithyref01_Of.l1 x1 q1 y4 y5 = some r) ?_ ?_ (k := k) ⟨_, 0, g3, g2, g1, [0, 0, 0, 0, 0, 0, 0, 0, 0, 0, 0, 0, 0, 0, 0, 0, 0, 0, 0, 0, 0, 0, 0, 0, 0, 0, 0, 0, 0, 0, 0, 0], (S.sub ⟨rfl, rfl, rfl, rfl, trivial⟩ (.cons .here (.cons .here (.cons .here .nil)))), h0⟩
  · rintro a w ⟨m, y4, g21, g22, g23, y5, S, h0⟩
    exact (nomatch (show (none : Option ((List Int))) = some r from h0))
  · clear S h0
    rintro q1 a w ⟨m, y4, g21, g22, g23, y5, S, h0⟩
    replace h0 : smithyref01_Of.b1 x1 (smithyref01_Of.l1 x1 q1) y4 y5 = some r := h0
    delta smithyref01_Of.b1 at h0
    refine wp_seq ?_
    refine c_region ?_
    refine s_move S rfl rfl ?_; clear S a; intro a S
    refine s_bin S rfl rfl rfl rfl ?_; clear S a; intro a S
    refine c_end ?_
    rcases ite_of h0 with ⟨c1, h1⟩ | ⟨c1, h1⟩ <;> clear h0
    · refine c_condT S rfl c1 ?_
      refine wp_skip ?_
      refine x_thenN ?_
      refine wp_seq ?_
      refine wp_block ?_
      refine c_region' ?_
      refine s_move S rfl rfl ?_; clear S a; intro a S
      refine s_move S rfl rfl ?_; clear S a; intro a S
      refine s_quo S rfl rfl (by decide) rfl ?_; clear S a; intro a S
      obtain ⟨c2, h2⟩ := chk_of h1; clear h1
      refine s_iaddr S rfl rfl Tryd.underlying26 T24 c2.1 c2.2 (mul1 _ _) rfl ?_; clear S a; intro a S
      refine s_loadi S (i := (wr .i64 (Int.tdiv y4 8))) rfl (.there (.there .here)) T24 .here rfl c2.1 c2.2 rfl ?_; clear S a; intro a S
      refine s_move S rfl rfl ?_; clear S a; intro a S
      refine s_rem S rfl rfl (by decide) rfl ?_; clear S a; intro a S
      refine s_bin S rfl rfl rfl rfl ?_; clear S a; intro a S
      obtain ⟨c3, h3⟩ := chk_of h2; clear h2
      refine s_shr S (e := (min (Int.toNat (wr .i64 (8 * (Int.tmod y4 8)))) 64)) rfl rfl c3 rfl rfl ?_; clear S a; intro a S
      refine s_rem S rfl rfl (by decide) rfl ?_; clear S a; intro a S
      refine s_conv S rfl rfl Tryd.underlying3 rfl ?_; clear S a; intro a S
      obtain ⟨c4, h4⟩ := chk_of h3; clear h3
      refine s_iaddr S rfl rfl Tryd.underlying81 T3 c4.1 c4.2 (mul1 _ _) rfl ?_; clear S a; intro a S
      refine s_storei S (i := y4) rfl rfl .here T3 .here rfl c4.1 c4.2 ?_; clear S w; intro w S
      refine c_end' ?_
      refine x_blockN ?_
      refine x_thenN ?_
      refine c_region' ?_
      refine s_move S rfl rfl ?_; clear S a; intro a S
      refine s_bin S rfl rfl rfl rfl ?_; clear S a; intro a S
      refine s_assign S rfl rfl ?_; clear S a; intro a S
      refine c_end' ?_
      refine x_thenN ?_
      exact ⟨_, (wr .i64 (y4 + 1)), g21, g22, g23, (y5.set (Int.toNat y4) (wr .i64 (Int.tmod (shr (rd x1 (wr .i64 (Int.tdiv y4 8))) (min (Int.toNat (wr .i64 (8 * (Int.tmod y4 8)))) 64)) 256))), (S.sub ⟨rfl, rfl, rfl, rfl, trivial⟩ (.cons .here (.cons .here (.cons .here .nil)))), h4⟩
    · refine c_condF S rfl c1 ?_
      refine wp_exit ?_
      refine x_thenX ?_
      refine x_thenX ?_
      refine x_blockX ?_
      refine x_thenN ?_
      exact j1 _ g21 g22 y5 a w (S.sub ⟨rfl, rfl, trivial⟩ (.cons .here (.cons .here .nil))) h1
/-! (smithy/smithyref01.D).Bytes -/
abbrev smithyref01_D_Bytes.Ty : Type := (List Int) → Option ((List Int))
def smithyref01_D_Bytes.Ctr (s : smithyref01_D_Bytes.Ty) : Prop := ∀ (x1 : List Int) (r : (List Int)) (h0 : s x1 = some r) (mi : Mem) (w0 : World), okL mi [(.agg [.ints .i64 x1 32])] → Pre mi [] w0 → Calls Tryd.prog 50 (([(.agg [.ints .i64 x1 32])] : List D).map D.val).toArray w0 (RetX mi [] (fun (ch : Unit) => ((.agg [.ints .u8 r 32]) : D)) (fun (ch : Unit) => []) w0)
def smithyref01_D_Bytes.j1 (y1 : List Int) : Option ((List Int)) := some y1
def smithyref01_D_Bytes.b1 (x1 : List Int) (rec1 : Int → (List Int) → Option ((List Int))) (y4 : Int) (y5 : List Int) : Option ((List Int)) := if (decide (y4 < 32)) = true then (if (0 : Int) ≤ y4 ∧ y4 < 32 then (if (0 : Int) ≤ (wr .i64 (31 - y4)) ∧ (wr .i64 (31 - y4)) < 32 then (rec1 (wr .i64 (y4 + 1)) (y5.set (Int.toNat (wr .i64 (31 - y4))) (wr .u8 (rd x1 y4)))) else none) else none) else (smithyref01_D_Bytes.j1 y5)
def smithyref01_D_Bytes.l1 (x1 : List Int) : Nat → Int → (List Int) → Option ((List Int))
  | 0, _, _ => none
  | q + 1, y4, y5 => smithyref01_D_Bytes.b1 x1 (smithyref01_D_Bytes.l1 x1 q) y4 y5
def smithyref01_D_Bytes.f (k : Nat) (x1 : List Int) : Option ((List Int)) := smithyref01_D_Bytes.l1 x1 k 0 [0, 0, 0, 0, 0, 0, 0, 0, 0, 0, 0, 0, 0, 0, 0, 0, 0, 0, 0, 0, 0, 0, 0, 0, 0, 0, 0, 0, 0, 0, 0, 0]
theorem smithyref01_D_Bytes.ok (k : Nat) : smithyref01_D_Bytes.Ctr (smithyref01_D_Bytes.f k) := by
  intro x1 r h0 mi w0 ok hm
  delta smithyref01_D_Bytes.f at h0
  refine c_enterX (n := 18) [(.agg [.ints .i64 x1 32])] (l := [(0, (.agg [.ints .i64 x1 32]))]) Tryd.func50 rfl rfl rfl rfl ok hm ?_
  clear ok hm
  intro b0 hb a S
  refine c_region ?_
  refine s_box S rfl rfl rfl ?_; clear S a; intro g1 a w S
  refine s_alloc S Z22 rfl ⟨rfl, trivial⟩ rfl ?_; clear S a w; intro g2 a w S
  refine c_end ?_
  refine c_region ?_
  refine s_build S (ds := []) (dv := (.agg [.ints .u8 [0, 0, 0, 0, 0, 0, 0, 0, 0, 0, 0, 0, 0, 0, 0, 0, 0, 0, 0, 0, 0, 0, 0, 0, 0, 0, 0, 0, 0, 0, 0, 0] 32])) rfl (fun _ => by kernel_rfl) ⟨rfl, trivial⟩ rfl ?_; clear S a; intro a S
  refine s_alloc S Z22 rfl ⟨rfl, trivial⟩ rfl ?_; clear S a w; intro g3 a w S
  refine s_store S rfl rfl rfl (s' := [.ints .u8 [0, 0, 0, 0, 0, 0, 0, 0, 0, 0, 0, 0, 0, 0, 0, 0, 0, 0, 0, 0, 0, 0, 0, 0, 0, 0, 0, 0, 0, 0, 0, 0] 32]) .here T22 rfl rfl ?_; clear S w; intro w S
  refine c_end ?_
  refine wp_seq_k ?_
  intro K1 hK1
  have j1 : ∀ (m : Mem) (g13 : Nat) (g14 : Nat) (y1 : List Int) (a : Act) (w : World), St 18 m b0 [(3, (.v (.pointer (some ⟨g13, 0, none⟩)))), (2, (.v (.pointer (some ⟨g14, 0, none⟩))))] [Res.cells g13 22 [.ints .u8 y1 32], Res.cells g14 22 [.ints .u8 [0, 0, 0, 0, 0, 0, 0, 0, 0, 0, 0, 0, 0, 0, 0, 0, 0, 0, 0, 0, 0, 0, 0, 0, 0, 0, 0, 0, 0, 0, 0, 0] 32]] a w → smithyref01_D_Bytes.j1 y1 = some r → K1 a w := by
    intro m g13 g14 y1 a w S h0
    delta smithyref01_D_Bytes.j1 at h0
    refine hK1 a w ?_
    refine c_region ?_
    refine s_loada S rfl .here T22 (s' := [.ints .u8 y1 32]) rfl rfl ?_; clear S a; intro a S
    refine s_store S rfl rfl rfl (s' := [.ints .u8 y1 32]) (.there .here) T22 rfl rfl ?_; clear S w; intro w S
    refine c_end ?_
    refine wp_ret ?_
    obtain rfl := Option.some.inj h0
    exact b_ret1 (d := (.agg [.ints .u8 y1 32])) S rfl (resD_cell rfl (.there .here) T22 rfl rfl) fun ok => S.retX (Hx := []) hb _ _ (() : Unit) .nil ok
  refine c_region ?_
  refine s_assign S rfl rfl ?_; clear S a; intro a S
  refine c_end ?_
  refine wp_block ?_
  refine c_loop (fun q1 a w => ∃ (m : Mem) (y4 : Int) (g21 : Nat) (g22 : Nat) (g23 : Nat) (y5 : List Int), St 18 m b0 [(4, (.v (.int .i64 y4))), (3, (.v (.pointer (some ⟨g21, 0, none⟩)))), (2, (.v (.pointer (some ⟨g22, 0, none⟩)))), (1, (.v (.pointer (some ⟨g23, 0, none⟩))))] [Res.cells g21 22 [.ints .u8 y5 32], Res.cells g22 22 [.ints .u8 [0, 0, 0, 0, 0, 0, 0, 0, 0, 0, 0, 0, 0, 0, 0, 0, 0, 0, 0, 0, 0, 0, 0, 0, 0, 0, 0, 0, 0, 0, 0, 0] 32], Res.cells g23 81 [.ints .i64 x1 32]] a w ∧ smithyref01_D_Bytes.l1 x1 q1 y4 y5 = some r) ?_ ?_ (k := k) ⟨_, 0, g3, g2, g1, [0, 0, 0, 0, 0, 0, 0, 0, 0, 0, 0, 0, 0, 0, 0, 0, 0, 0, 0, 0, 0, 0, 0, 0, 0, 0, 0, 0, 0, 0, 0, 0], (S.sub ⟨rfl, rfl, rfl, rfl, trivial⟩ (.cons .here (.cons .here (.cons .here .nil)))), h0⟩
  · rintro a w ⟨m, y4, g21, g22, g23, y5, S, h0⟩
    exact (nomatch (show (none : Option ((List Int))) = some r from h0))
  · clear S h0
    rintro q1 a w ⟨m, y4, g21, g22, g23, y5, S, h0⟩
    replace h0 : smithyref01_D_Bytes.b1 x1 (smithyref01_D_Bytes.l1 x1 q1) y4 y5 = some r := h0
    delta smithyref01_D_Bytes.b1 at h0
    refine wp_seq ?_
    refine c_region ?_
    refine s_move S rfl rfl ?_; clear S a; intro a S
    refine s_bin S rfl rfl rfl rfl ?_; clear S a; intro a S
    refine c_end ?_
    rcases ite_of h0 with ⟨c1, h1⟩ | ⟨c1, h1⟩ <;> clear h0
    · refine c_condT S rfl c1 ?_
      refine wp_skip ?_
      refine x_thenN ?_
      refine wp_seq ?_
      refine wp_block ?_
      refine c_region' ?_
      refine s_move S rfl rfl ?_; clear S a; intro a S
      refine s_bin S rfl rfl rfl rfl ?_; clear S a; intro a S
      refine s_move S rfl rfl ?_; clear S a; intro a S
      obtain ⟨c2, h2⟩ := chk_of h1; clear h1
      refine s_iaddr S rfl rfl Tryd.underlying81 T3 c2.1 c2.2 (mul1 _ _) rfl ?_; clear S a; intro a S
      refine s_loadi S (i := y4) rfl (.there (.there .here)) T3 .here rfl c2.1 c2.2 rfl ?_; clear S a; intro a S
      refine s_conv S rfl rfl Tryd.underlying5 rfl ?_; clear S a; intro a S
      obtain ⟨c3, h3⟩ := chk_of h2; clear h2
      refine s_iaddr S rfl rfl Tryd.underlying22 T5 c3.1 c3.2 (mul1 _ _) rfl ?_; clear S a; intro a S
      refine s_storei S (i := (wr .i64 (31 - y4))) rfl rfl .here T5 .here rfl c3.1 c3.2 ?_; clear S w; intro w S
      refine c_end' ?_
      refine x_blockN ?_
      refine x_thenN ?_
      refine c_region' ?_
      refine s_move S rfl rfl ?_; clear S a; intro a S
      refine s_bin S rfl rfl rfl rfl ?_; clear S a; intro a S
      refine s_assign S rfl rfl ?_; clear S a; intro a S
      refine c_end' ?_
      refine x_thenN ?_
      exact ⟨_, (wr .i64 (y4 + 1)), g21, g22, g23, (y5.set (Int.toNat (wr .i64 (31 - y4))) (wr .u8 (rd x1 y4))), (S.sub ⟨rfl, rfl, rfl, rfl, trivial⟩ (.cons .here (.cons .here (.cons .here .nil)))), h3⟩
    · refine c_condF S rfl c1 ?_
      refine wp_exit ?_
      refine x_thenX ?_
      refine x_thenX ?_
      refine x_blockX ?_
      refine x_thenN ?_
      exact j1 _ g21 g22 y5 a w (S.sub ⟨rfl, rfl, trivial⟩ (.cons .here (.cons .here .nil))) h1
/-! smithy/smithyref07.Number -/
abbrev smithyref07_Number.Ty : Type := (List Int) → Option ((List Int))
def smithyref07_Number.Ctr (s : smithyref07_Number.Ty) : Prop := ∀ (x1 : List Int) (r : (List Int)) (h0 : s x1 = some r) (mi : Mem) (w0 : World), okL mi [(.agg [.ints .u64 x1 4])] → Pre mi [] w0 → Calls Tryd.prog 48 (([(.agg [.ints .u64 x1 4])] : List D).map D.val).toArray w0 (RetX mi [] (fun (ch : (Option Addr) × Nat × Nat) => ((.v (.slice ch.1 ch.2.1 ch.2.2)) : D)) (fun (ch : (Option Addr) × Nat × Nat) => [Res.row (Ty.int .u8) 5 ch.1 ch.2.1 ch.2.2 r]) w0)
def smithyref07_Number.j1 (t2 : (List Int)) (y1 : Int) : Option ((List Int)) := if (0 : Int) ≤ y1 ∧ (y1 : Int) ≤ 32 ∧ 32 ≤ ((32 : Nat) : Int) then (if ((([] : List Int)).length + (((t2).drop (Int.toNat y1)).take (Int.toNat 32 - Int.toNat y1)).length) * 1 ≤ 140737488355328 then (some (([] : List Int) ++ (((t2).drop (Int.toNat y1)).take (Int.toNat 32 - Int.toNat y1)))) else none) else none
def smithyref07_Number.j2 (t2 : (List Int)) (y4 : Int) (rec1 : Int → Option ((List Int))) (y5 : Bool) : Option ((List Int)) := if y5 = true then (rec1 (wr .i64 (y4 + 1))) else (smithyref07_Number.j1 t2 y4)
def smithyref07_Number.b1 (t2 : (List Int)) (rec1 : Int → Option ((List Int))) (y4 : Int) : Option ((List Int)) := if (decide (y4 < 32)) = true then (if (0 : Int) ≤ y4 ∧ y4 < 32 then (smithyref07_Number.j2 t2 y4 rec1 ((rd t2 y4) == 0)) else none) else (smithyref07_Number.j2 t2 y4 rec1 false)
def smithyref07_Number.l1 (t2 : (List Int)) : Nat → Int → Option ((List Int))
  | 0, _ => none
  | q + 1, y4 => smithyref07_Number.b1 t2 (smithyref07_Number.l1 t2 q) y4
def smithyref07_Number.f (k : Nat) (x1 : List Int) : Option ((List Int)) := (smithyref01_Of.f k x1).bind fun t1 => ((smithyref01_D_Bytes.f k t1).bind fun t2 => (smithyref07_Number.l1 t2 k 0))
theorem smithyref07_Number.ok (k : Nat) : smithyref07_Number.Ctr (smithyref07_Number.f k) := by
  intro x1 r h0 mi w0 ok hm
  delta smithyref07_Number.f at h0
  refine c_enterX (n := 25) [(.agg [.ints .u64 x1 4])] (l := [(0, (.agg [.ints .u64 x1 4]))]) Tryd.func48 rfl rfl rfl rfl ok hm ?_
  clear ok hm
  intro b0 hb a S
  refine c_region ?_
  refine s_box S rfl rfl rfl ?_; clear S a; intro g1 a w S
  refine s_assign S rfl rfl ?_; clear S a; intro a S
  refine c_end ?_
  refine c_region ?_
  refine s_loada S rfl .here T26 (s' := [.ints .u64 x1 4]) rfl rfl ?_; clear S a; intro a S
  obtain ⟨t1, et1, h1⟩ := bind_of h0; clear h0
  refine s_callP S (fun (ch : Unit) => ((.agg [.ints .i64 t1 32]) : D)) N49 rfl rfl (smithyref01_Of.ok k x1 t1 et1 _ _) ?_; clear S a w; intro ch1 m le1 a w S
  obtain ⟨t2, et2, h2⟩ := bind_of h1; clear h1
  refine s_callP S (fun (ch : Unit) => ((.agg [.ints .u8 t2 32]) : D)) N50 rfl rfl (smithyref01_D_Bytes.ok k t1 t2 et2 _ _) ?_; clear S a w; intro ch2 m le1 a w S
  refine s_alloc S Z22 rfl ⟨rfl, trivial⟩ rfl ?_; clear S a w; intro g2 a w S
  refine s_store S rfl rfl rfl (s' := [.ints .u8 t2 32]) .here T22 rfl rfl ?_; clear S w; intro w S
  refine c_end ?_
  refine c_region ?_
  refine s_assign S rfl rfl ?_; clear S a; intro a S
  refine c_end ?_
  refine wp_seq_k ?_
  intro K1 hK1
  have j1 : ∀ (m : Mem) (y1 : Int) (g8 : Nat) (a : Act) (w : World), St 25 m b0 [(4, (.v (.int .i64 y1))), (3, (.v (.pointer (some ⟨g8, 0, none⟩))))] [Res.cells g8 22 [.ints .u8 t2 32]] a w → smithyref07_Number.j1 t2 y1 = some r → K1 a w := by
    intro m y1 g8 a w S h0
    delta smithyref07_Number.j1 at h0
    refine hK1 a w ?_
    refine c_region ?_
    refine s_bldSl S (ty' := (Ty.int .u8)) (ds := []) (z := 0) (c0 := ()) (ys := ([] : List Int)) (cs := []) rfl Tryd.underlying37 J5 Z5 rfl ⟨rfl, trivial⟩ rfl rfl rfl rfl rfl rfl ?_; clear S a w; intro g9 a w S
    refine s_assign S rfl rfl ?_; clear S a; intro a S
    refine c_end ?_
    refine c_region ?_
    refine s_move S rfl rfl ?_; clear S a; intro a S
    refine s_move S rfl rfl ?_; clear S a; intro a S
    obtain ⟨c1, h1⟩ := chk_of h0; clear h0
    refine s_sliceA S (i := y1) (j := 32) (o' := if 32 = Int.toNat y1 then 0 else 0 + Int.toNat y1 * 1) (len := Int.toNat 32 - Int.toNat y1) (cap := 32 - Int.toNat y1) rfl Tryd.underlying22 T5 (.inr ⟨_, _, rfl, rfl⟩) (.inl ⟨rfl, rfl⟩) c1 rfl rfl rfl rfl ?_; clear S a; intro a S
    replace S := S.freeze (.there .here)
    obtain ⟨m, le1, S⟩ := S
    replace S := (S.slup' (u := 22) (lo := Int.toNat y1) (c := 32) (ys := ((t2).drop (Int.toNat y1)).take (Int.toNat 32 - Int.toNat y1)) rfl (Pull.mem (.there .here)).1 .here (ho_if c1) (hl_if c1) (hcap_if c1 rfl) rfl).2
    obtain ⟨c2, h2⟩ := chk_of h1; clear h1
    refine s_app S (k2 := ((((t2).drop (Int.toNat y1)).take (Int.toNat 32 - Int.toNat y1)).length)) (ys := (((t2).drop (Int.toNat y1)).take (Int.toNat 32 - Int.toNat y1))) rfl (fun _ _ => .here) rfl rfl rfl (RdS.src (S.get 22 (.sl (some ⟨g8, if 32 = Int.toNat y1 then 0 else 0 + Int.toNat y1 * 1, none⟩) (((t2).drop (Int.toNat y1)).take (Int.toNat 32 - Int.toNat y1)).length (32 - Int.toNat y1) (RdS (Ty.int .u8) (some ⟨g8, if 32 = Int.toNat y1 then 0 else 0 + Int.toNat y1 * 1, none⟩) (((t2).drop (Int.toNat y1)).take (Int.toNat 32 - Int.toNat y1)))) rfl).2.2.2.1 (by decide) S.frz) Tryd.underlying37 J5 c2 rfl ?_; clear S a w; intro A1 cp1 a w S
    refine s_assign S rfl rfl ?_; clear S a; intro a S
    refine c_end ?_
    refine c_region ?_
    refine s_move S rfl rfl ?_; clear S a; intro a S
    refine s_assign S rfl rfl ?_; clear S a; intro a S
    refine c_end ?_
    refine wp_ret ?_
    obtain rfl := Option.some.inj h2
    exact b_ret1 (d := (.v (.slice A1 (0 + ((((t2).drop (Int.toNat y1)).take (Int.toNat 32 - Int.toNat y1)).length)) cp1))) S rfl rfl fun ok => S.retX (Hx := []) hb _ _ ((A1, 0 + ((((t2).drop (Int.toNat y1)).take (Int.toNat 32 - Int.toNat y1)).length), cp1) : (Option Addr) × Nat × Nat) (.cons .here .nil) ok
  refine wp_block ?_
  refine c_loop (fun q1 a w => ∃ (m : Mem) (y4 : Int) (g13 : Nat), St 25 m b0 [(4, (.v (.int .i64 y4))), (3, (.v (.pointer (some ⟨g13, 0, none⟩))))] [Res.cells g13 22 [.ints .u8 t2 32]] a w ∧ smithyref07_Number.l1 t2 q1 y4 = some r) ?_ ?_ (k := k) ⟨_, 0, g2, (S.sub ⟨rfl, rfl, trivial⟩ (.cons .here .nil)), h2⟩
  · rintro a w ⟨m, y4, g13, S, h0⟩
    exact (nomatch (show (none : Option ((List Int))) = some r from h0))
  · clear S h2
    rintro q1 a w ⟨m, y4, g13, S, h0⟩
    replace h0 : smithyref07_Number.b1 t2 (smithyref07_Number.l1 t2 q1) y4 = some r := h0
    delta smithyref07_Number.b1 at h0
    refine wp_seq ?_
    refine wp_seq_k ?_
    intro K2 hK2
    have j2 : ∀ (m : Mem) (y5 : Bool) (g14 : Nat) (a : Act) (w : World), St 25 m b0 [(16, (.v (.bool y5))), (4, (.v (.int .i64 y4))), (3, (.v (.pointer (some ⟨g14, 0, none⟩))))] [Res.cells g14 22 [.ints .u8 t2 32]] a w → smithyref07_Number.j2 t2 y4 (smithyref07_Number.l1 t2 q1) y5 = some r → K2 a w := by
      intro m y5 g14 a w S h0
      delta smithyref07_Number.j2 at h0
      refine hK2 a w ?_
      rcases ite_of h0 with ⟨c3, h1⟩ | ⟨c3, h1⟩ <;> clear h0
      · refine c_condT S rfl c3 ?_
        refine wp_skip ?_
        refine x_thenN ?_
        refine wp_block ?_
        refine c_region' ?_
        refine s_move S rfl rfl ?_; clear S a; intro a S
        refine s_bin S rfl rfl rfl rfl ?_; clear S a; intro a S
        refine s_assign S rfl rfl ?_; clear S a; intro a S
        refine c_end' ?_
        refine x_blockN ?_
        refine x_thenN ?_
        exact ⟨_, (wr .i64 (y4 + 1)), g14, (S.sub ⟨rfl, rfl, trivial⟩ (.cons .here .nil)), h1⟩
      · refine c_condF S rfl c3 ?_
        refine wp_exit ?_
        refine x_thenX ?_
        refine x_thenX ?_
        refine x_blockX ?_
        refine x_thenN ?_
        exact j1 _ y4 g14 a w (S.sub ⟨rfl, rfl, trivial⟩ (.cons .here .nil)) h1
    refine c_region' ?_
    refine s_move S rfl rfl ?_; clear S a; intro a S
    refine s_bin S rfl rfl rfl rfl ?_; clear S a; intro a S
    refine s_move S rfl rfl ?_; clear S a; intro a S
    rcases ite_of h0 with ⟨c4, h1⟩ | ⟨c4, h1⟩ <;> clear h0
    · refine s_gT S (b := (decide (y4 < 32))) rfl rfl c4 ?_
      refine s_move S rfl rfl ?_; clear S a; intro a S
      refine s_gT S (b := (decide (y4 < 32))) rfl rfl c4 ?_
      obtain ⟨c5, h2⟩ := chk_of h1; clear h1
      refine s_iaddr S rfl rfl Tryd.underlying22 T5 c5.1 c5.2 (mul1 _ _) rfl ?_; clear S a; intro a S
      refine s_gT S (b := (decide (y4 < 32))) rfl rfl c4 ?_
      refine s_loadi S (i := y4) rfl .here T5 .here rfl c5.1 c5.2 rfl ?_; clear S a; intro a S
      refine s_gT S (b := (decide (y4 < 32))) rfl rfl c4 ?_
      refine s_bin S rfl rfl rfl rfl ?_; clear S a; intro a S
      refine s_pick S (b := true) (hc_of rfl c4) rfl rfl ?_; clear S a; intro a S
      refine c_end' ?_
      refine x_thenN ?_
      exact j2 _ ((rd t2 y4) == 0) g13 a w (S.sub ⟨rfl, rfl, rfl, trivial⟩ (.cons .here .nil)) h2
    · refine s_gF S (b := (decide (y4 < 32))) rfl rfl c4 rfl ?_; clear S a; intro a S
      refine s_gF S (b := (decide (y4 < 32))) rfl rfl c4 rfl ?_; clear S a; intro a S
      refine s_gF S (b := (decide (y4 < 32))) rfl rfl c4 rfl ?_; clear S a; intro a S
      refine s_gF S (b := (decide (y4 < 32))) rfl rfl c4 rfl ?_; clear S a; intro a S
      refine s_pick S (b := false) (hc_of rfl c4) rfl rfl ?_; clear S a; intro a S
      refine c_end' ?_
      refine x_thenN ?_
      exact j2 _ false g13 a w (S.sub ⟨rfl, rfl, rfl, trivial⟩ (.cons .here .nil)) h1
/-! smithy/smithyref07.Head -/
abbrev smithyref07_Head.Ty : Type := Int → Int → Option ((List Int))
def smithyref07_Head.Ctr (s : smithyref07_Head.Ty) : Prop := ∀ (x1 : Int) (x2 : Int) (r : (List Int)) (h0 : s x1 x2 = some r) (mi : Mem) (w0 : World), okL mi [(.v (.int .i64 x1)), (.v (.int .i64 x2))] → Pre mi [] w0 → Calls Tryd.prog 47 (([(.v (.int .i64 x1)), (.v (.int .i64 x2))] : List D).map D.val).toArray w0 (RetX mi [] (fun (ch : (Option Addr) × Nat × Nat) => ((.v (.slice ch.1 ch.2.1 ch.2.2)) : D)) (fun (ch : (Option Addr) × Nat × Nat) => [Res.row (Ty.int .u8) 5 ch.1 ch.2.1 ch.2.2 r]) w0)
def smithyref07_Head.f (k : Nat) (x1 : Int) (x2 : Int) : Option ((List Int)) := if (decide (x1 ≤ 55)) = true then (some [wr .u8 (wr .i64 ((wr .i64 (128 + x2)) + x1))]) else ((smithyref07_Number.f k [wr .u64 x1, 0, 0, 0]).bind fun t1 => (if (([wr .u8 (wr .i64 ((wr .i64 (183 + x2)) + ((t1).length : Int)))]).length + (t1).length) * 1 ≤ 140737488355328 then (some ([wr .u8 (wr .i64 ((wr .i64 (183 + x2)) + ((t1).length : Int)))] ++ t1)) else none))
theorem smithyref07_Head.ok (k : Nat) : smithyref07_Head.Ctr (smithyref07_Head.f k) := by
  intro x1 x2 r h0 mi w0 ok hm
  delta smithyref07_Head.f at h0
  refine c_enterX (n := 30) [(.v (.int .i64 x1)), (.v (.int .i64 x2))] (l := [(0, (.v (.int .i64 x1))), (1, (.v (.int .i64 x2)))]) Tryd.func47 rfl rfl rfl rfl ok hm ?_
  clear ok hm
  intro b0 hb a S
  refine c_region ?_
  refine s_assign S rfl rfl ?_; clear S a; intro a S
  refine c_end ?_
  refine wp_seq ?_
  refine c_region ?_
  refine s_move S rfl rfl ?_; clear S a; intro a S
  refine s_bin S rfl rfl rfl rfl ?_; clear S a; intro a S
  refine c_end ?_
  rcases ite_of h0 with ⟨c1, h1⟩ | ⟨c1, h1⟩ <;> clear h0
  · refine c_condT S rfl c1 ?_
    refine c_region ?_
    refine s_move S rfl rfl ?_; clear S a; intro a S
    refine s_bin S rfl rfl rfl rfl ?_; clear S a; intro a S
    refine s_move S rfl rfl ?_; clear S a; intro a S
    refine s_bin S rfl rfl rfl rfl ?_; clear S a; intro a S
    refine s_conv S rfl rfl Tryd.underlying5 rfl ?_; clear S a; intro a S
    refine s_bldSl S (ty' := (Ty.int .u8)) (ds := [(0, (.v (.int .u8 (wr .u8 (wr .i64 ((wr .i64 (128 + x2)) + x1))))))]) (z := 0) (c0 := ()) (ys := [wr .u8 (wr .i64 ((wr .i64 (128 + x2)) + x1))]) (cs := [()]) rfl Tryd.underlying37 J5 Z5 rfl ⟨rfl, trivial⟩ rfl rfl rfl rfl rfl rfl ?_; clear S a; intro g1 a w S
    refine s_assign S rfl rfl ?_; clear S a; intro a S
    refine c_end ?_
    refine wp_ret ?_
    refine x_thenR ?_
    obtain rfl := Option.some.inj h1
    exact b_ret1 (d := (.v (.slice (some ⟨g1, 0, none⟩) 1 1))) S rfl rfl fun ok => S.retX (Hx := []) hb _ _ (((some ⟨g1, 0, none⟩), 1, 1) : (Option Addr) × Nat × Nat) (.cons .here .nil) ok
  · refine c_condF S rfl c1 ?_
    refine wp_skip ?_
    refine x_thenN ?_
    refine c_region ?_
    refine s_move S rfl rfl ?_; clear S a; intro a S
    refine s_conv S rfl rfl Tryd.underlying24 rfl ?_; clear S a; intro a S
    refine s_build S (ds := [(0, (.v (.int .u64 (wr .u64 x1))))]) (dv := (.agg [.ints .u64 [wr .u64 x1, 0, 0, 0] 4])) rfl (fun _ => by kernel_rfl) ⟨rfl, trivial⟩ rfl ?_; clear S a; intro a S
    obtain ⟨t1, et1, h2⟩ := bind_of h1; clear h1
    refine s_callR S (fun (ch : (Option Addr) × Nat × Nat) => ((.v (.slice ch.1 ch.2.1 ch.2.2)) : D)) (fun (ch : (Option Addr) × Nat × Nat) => Res.row (Ty.int .u8) 5 ch.1 ch.2.1 ch.2.2 t1) N48 rfl rfl (smithyref07_Number.ok k [wr .u64 x1, 0, 0, 0] t1 et1 _ _) ?_; clear S a; intro ch1 m le1 a w S
    refine s_assign S rfl rfl ?_; clear S a; intro a S
    refine c_end ?_
    refine c_region ?_
    refine s_move S rfl rfl ?_; clear S a; intro a S
    refine s_bin S rfl rfl rfl rfl ?_; clear S a; intro a S
    refine s_move S rfl rfl ?_; clear S a; intro a S
    refine s_lenO S rfl .here Tryd.underlying37 rfl ?_; clear S a; intro a S
    refine s_bin S rfl rfl rfl rfl ?_; clear S a; intro a S
    refine s_conv S rfl rfl Tryd.underlying5 rfl ?_; clear S a; intro a S
    refine s_bldSl S (ty' := (Ty.int .u8)) (ds := [(0, (.v (.int .u8 (wr .u8 (wr .i64 ((wr .i64 (183 + x2)) + ((t1).length : Int)))))))]) (z := 0) (c0 := ()) (ys := [wr .u8 (wr .i64 ((wr .i64 (183 + x2)) + ((t1).length : Int)))]) (cs := [()]) rfl Tryd.underlying37 J5 Z5 rfl ⟨rfl, trivial⟩ rfl rfl rfl rfl rfl rfl ?_; clear S a w; intro g2 a w S
    refine s_assign S rfl rfl ?_; clear S a; intro a S
    refine c_end ?_
    refine c_region ?_
    refine s_move S rfl rfl ?_; clear S a; intro a S
    refine s_move S rfl rfl ?_; clear S a; intro a S
    obtain ⟨c2, h3⟩ := chk_of h2; clear h2
    refine s_app S (k2 := ch1.2.1) (ys := t1) rfl (fun _ _ => .here) rfl rfl (S.holds _ (Pull.mem (.there .here)).1).1 (Res.row.src (S.holds _ (Pull.mem (.there .here)).1)) Tryd.underlying37 J5 c2 rfl ?_; clear S a w; intro A1 cp1 a w S
    refine s_assign S rfl rfl ?_; clear S a; intro a S
    refine c_end ?_
    refine c_region ?_
    refine s_move S rfl rfl ?_; clear S a; intro a S
    refine s_assign S rfl rfl ?_; clear S a; intro a S
    refine c_end ?_
    refine wp_ret ?_
    obtain rfl := Option.some.inj h3
    exact b_ret1 (d := (.v (.slice A1 (1 + ch1.2.1) cp1))) S rfl rfl fun ok => S.retX (Hx := []) hb _ _ ((A1, 1 + ch1.2.1, cp1) : (Option Addr) × Nat × Nat) (.cons .here .nil) ok
/-! smithy/smithyref23.bytes -/
abbrev smithyref23_bytes.Ty : Type := (List Int) → Option ((List Int))
def smithyref23_bytes.Ctr (s : smithyref23_bytes.Ty) : Prop := ∀ (x1 : List Int) (ch_0_0 : Option Addr) (ch_0_1 : Nat) (r : (List Int)) (h0 : s x1 = some r) (mi : Mem) (w0 : World), okL mi [(.sl ch_0_0 (x1).length ch_0_1 (RdS (Ty.int .u8) ch_0_0 x1))] → Pre mi [] w0 → Calls Tryd.prog 29 (([(.sl ch_0_0 (x1).length ch_0_1 (RdS (Ty.int .u8) ch_0_0 x1))] : List D).map D.val).toArray w0 (RetX mi [] (fun (ch : (Option Addr) × Nat) => ((.sl ch.1 (r).length ch.2 (RdS (Ty.int .u8) ch.1 r)) : D)) (fun (ch : (Option Addr) × Nat) => []) w0)
def smithyref23_bytes.j1 (k : Nat) (x1 : List Int) (y1 : Bool) : Option ((List Int)) := if y1 = true then (some x1) else ((smithyref07_Head.f k ((x1).length : Int) 0).bind fun t1 => (if ((t1).length + (x1).length) * 1 ≤ 140737488355328 then (some (t1 ++ x1)) else none))
def smithyref23_bytes.f (k : Nat) (x1 : List Int) : Option ((List Int)) := if (((x1).length : Int) == 1) = true then (if (0 : Int) ≤ 0 ∧ 0 < ((x1).length : Int) then (smithyref23_bytes.j1 k x1 (decide ((rd x1 0) < 128))) else none) else (smithyref23_bytes.j1 k x1 false)
theorem smithyref23_bytes.ok (k : Nat) : smithyref23_bytes.Ctr (smithyref23_bytes.f k) := by
  intro x1 ch_0_0 ch_0_1 r h0 mi w0 ok hm
  delta smithyref23_bytes.f at h0
  refine c_enterX (n := 21) [(.sl ch_0_0 (x1).length ch_0_1 (RdS (Ty.int .u8) ch_0_0 x1))] (l := [(0, (.sl ch_0_0 (x1).length ch_0_1 (RdS (Ty.int .u8) ch_0_0 x1)))]) Tryd.func29 rfl rfl rfl rfl ok hm ?_
  clear ok hm
  intro b0 hb a S
  refine c_region ?_
  refine s_assign S rfl rfl ?_; clear S a; intro a S
  refine c_end ?_
  refine wp_seq ?_
  refine wp_seq_k ?_
  intro K1 hK1
  have j1 : ∀ (m : Mem) (y1 : Bool) (a : Act) (w : World), St 21 m b0 [(12, (.v (.bool y1))), (0, (.sl ch_0_0 (x1).length ch_0_1 (RdS (Ty.int .u8) ch_0_0 x1)))] [] a w → smithyref23_bytes.j1 k x1 y1 = some r → K1 a w := by
    intro m y1 a w S h0
    delta smithyref23_bytes.j1 at h0
    refine hK1 a w ?_
    rcases ite_of h0 with ⟨c1, h1⟩ | ⟨c1, h1⟩ <;> clear h0
    · refine c_condT S rfl c1 ?_
      refine c_region ?_
      refine s_move S rfl rfl ?_; clear S a; intro a S
      refine s_assign S rfl rfl ?_; clear S a; intro a S
      refine c_end ?_
      refine wp_ret ?_
      refine x_thenR ?_
      obtain rfl := Option.some.inj h1
      exact b_ret1 (d := (.sl ch_0_0 (x1).length ch_0_1 (RdS (Ty.int .u8) ch_0_0 x1))) S rfl rfl fun ok => S.retX (Hx := []) hb _ _ ((ch_0_0, ch_0_1) : (Option Addr) × Nat) .nil ok
    · refine c_condF S rfl c1 ?_
      refine wp_skip ?_
      refine x_thenN ?_
      refine c_region ?_
      refine s_move S rfl rfl ?_; clear S a; intro a S
      refine s_lenS S rfl Tryd.underlying37 rfl ?_; clear S a; intro a S
      obtain ⟨t1, et1, h2⟩ := bind_of h1; clear h1
      refine s_callR S (fun (ch : (Option Addr) × Nat × Nat) => ((.v (.slice ch.1 ch.2.1 ch.2.2)) : D)) (fun (ch : (Option Addr) × Nat × Nat) => Res.row (Ty.int .u8) 5 ch.1 ch.2.1 ch.2.2 t1) N47 rfl rfl (smithyref07_Head.ok k ((x1).length : Int) 0 t1 et1 _ _) ?_; clear S a w; intro ch1 m le1 a w S
      refine s_assign S rfl rfl ?_; clear S a; intro a S
      refine c_end ?_
      refine c_region ?_
      refine s_move S rfl rfl ?_; clear S a; intro a S
      refine s_move S rfl rfl ?_; clear S a; intro a S
      obtain ⟨c2, h3⟩ := chk_of h2; clear h2
      refine s_app S (k2 := ((x1).length)) (ys := x1) rfl (fun _ _ => .here) rfl rfl rfl (RdS.src (S.get 18 (.sl ch_0_0 (x1).length ch_0_1 (RdS (Ty.int .u8) ch_0_0 x1)) rfl).2.2.2.1 (by decide) S.frz) Tryd.underlying37 J5 c2 rfl ?_; clear S a w; intro A1 cp1 a w S
      refine s_assign S rfl rfl ?_; clear S a; intro a S
      refine c_end ?_
      refine c_region ?_
      refine s_move S rfl rfl ?_; clear S a; intro a S
      refine s_assign S rfl rfl ?_; clear S a; intro a S
      refine c_end ?_
      refine wp_ret ?_
      replace S := S.rowfro .here
      obtain ⟨m, le1, S, hro⟩ := S
      replace S := S.slotro (u := 2) rfl hro
      replace S := S.slotro (u := 20) rfl hro
      replace S := S.slotro (u := 3) rfl hro
      replace S := S.slotro (u := 19) rfl hro
      obtain rfl := Option.some.inj h3
      exact b_ret1 (d := (.sl A1 (t1 ++ x1).length cp1 (RdS (Ty.int .u8) A1 (t1 ++ x1)))) S rfl rfl fun ok => S.retX (Hx := []) hb _ _ ((A1, cp1) : (Option Addr) × Nat) .nil ok
  refine c_region' ?_
  refine s_move S rfl rfl ?_; clear S a; intro a S
  refine s_lenS S rfl Tryd.underlying37 rfl ?_; clear S a; intro a S
  refine s_bin S rfl rfl rfl rfl ?_; clear S a; intro a S
  refine s_move S rfl rfl ?_; clear S a; intro a S
  rcases ite_of h0 with ⟨c3, h1⟩ | ⟨c3, h1⟩ <;> clear h0
  · refine s_gT S (b := (((x1).length : Int) == 1)) rfl rfl c3 ?_
    refine s_move S rfl rfl ?_; clear S a; intro a S
    refine s_gT S (b := (((x1).length : Int) == 1)) rfl rfl c3 ?_
    obtain ⟨c4, h2⟩ := chk_of h1; clear h1
    refine s_iaddrS S rfl rfl rfl Tryd.underlying37 T5 c4.1 c4.2 rfl ?_; clear S a; intro p1 a S
    refine s_gT S (b := (((x1).length : Int) == 1)) rfl rfl c3 ?_
    refine s_ld1 S (v := (.int .u8 (rd x1 0))) rfl T5 (fun _ => rfl) rfl ?_; clear S a; intro a S
    refine s_gT S (b := (((x1).length : Int) == 1)) rfl rfl c3 ?_
    refine s_bin S rfl rfl rfl rfl ?_; clear S a; intro a S
    refine s_pick S (b := true) (hc_of rfl c3) rfl rfl ?_; clear S a; intro a S
    refine c_end' ?_
    refine x_thenN ?_
    exact j1 _ (decide ((rd x1 0) < 128)) a w0 (S.sub ⟨rfl, rfl, trivial⟩ .nil) h2
  · refine s_gF S (b := (((x1).length : Int) == 1)) rfl rfl c3 rfl ?_; clear S a; intro a S
    refine s_gF S (b := (((x1).length : Int) == 1)) rfl rfl c3 rfl ?_; clear S a; intro a S
    refine s_gF S (b := (((x1).length : Int) == 1)) rfl rfl c3 rfl ?_; clear S a; intro a S
    refine s_gF S (b := (((x1).length : Int) == 1)) rfl rfl c3 rfl ?_; clear S a; intro a S
    refine s_pick S (b := false) (hc_of rfl c3) rfl rfl ?_; clear S a; intro a S
    refine c_end' ?_
    refine x_thenN ?_
    exact j1 _ false a w0 (S.sub ⟨rfl, rfl, trivial⟩ .nil) h1
/-! smithy/smithyref23.full -/
abbrev smithyref23_full.Ty : Type := (List Int) → Option ((List Int))
def smithyref23_full.Ctr (s : smithyref23_full.Ty) : Prop := ∀ (x1 : List Int) (r : (List Int)) (h0 : s x1 = some r) (mi : Mem) (w0 : World), okL mi [(.agg [.ints .u64 x1 4])] → Pre mi [] w0 → Calls Tryd.prog 32 (([(.agg [.ints .u64 x1 4])] : List D).map D.val).toArray w0 (RetX mi [] (fun (ch : (Option Addr) × Nat) => ((.sl ch.1 (r).length ch.2 (RdS (Ty.int .u8) ch.1 r)) : D)) (fun (ch : (Option Addr) × Nat) => []) w0)
def smithyref23_full.f (k : Nat) (x1 : List Int) : Option ((List Int)) := (smithyref01_Of.f k x1).bind fun t1 => ((smithyref01_D_Bytes.f k t1).bind fun t2 => ((smithyref23_bytes.f k (((t2).drop 0).take 32)).bind fun t3 => (some t3)))
theorem smithyref23_full.ok (k : Nat) : smithyref23_full.Ctr (smithyref23_full.f k) := by
  intro x1 r h0 mi w0 ok hm
  delta smithyref23_full.f at h0
  refine c_enterX (n := 9) [(.agg [.ints .u64 x1 4])] (l := [(0, (.agg [.ints .u64 x1 4]))]) Tryd.func32 rfl rfl rfl rfl ok hm ?_
  clear ok hm
  intro b0 hb a S
  refine c_region ?_
  refine s_box S rfl rfl rfl ?_; clear S a; intro g1 a w S
  refine s_assign S rfl rfl ?_; clear S a; intro a S
  refine c_end ?_
  refine c_region ?_
  refine s_loada S rfl .here T26 (s' := [.ints .u64 x1 4]) rfl rfl ?_; clear S a; intro a S
  obtain ⟨t1, et1, h1⟩ := bind_of h0; clear h0
  refine s_callP S (fun (ch : Unit) => ((.agg [.ints .i64 t1 32]) : D)) N49 rfl rfl (smithyref01_Of.ok k x1 t1 et1 _ _) ?_; clear S a w; intro ch1 m le1 a w S
  obtain ⟨t2, et2, h2⟩ := bind_of h1; clear h1
  refine s_callP S (fun (ch : Unit) => ((.agg [.ints .u8 t2 32]) : D)) N50 rfl rfl (smithyref01_D_Bytes.ok k t1 t2 et2 _ _) ?_; clear S a w; intro ch2 m le1 a w S
  refine s_alloc S Z22 rfl ⟨rfl, trivial⟩ rfl ?_; clear S a w; intro g2 a w S
  refine s_store S rfl rfl rfl (s' := [.ints .u8 t2 32]) .here T22 rfl rfl ?_; clear S w; intro w S
  refine c_end ?_
  refine c_region ?_
  refine s_sliceA S (i := 0) (j := 32) (o' := 0) (len := 32) (cap := 32) rfl Tryd.underlying22 T5 (.inl ⟨rfl, rfl⟩) (.inl ⟨rfl, rfl⟩) (by decide) rfl rfl rfl rfl ?_; clear S a; intro a S
  replace S := S.freeze .here
  obtain ⟨m, le1, S⟩ := S
  replace S := (S.slup' (u := 7) (lo := 0) (c := 32) (ys := ((t2).drop 0).take 32) rfl (Pull.mem .here).1 .here (.inl rfl) (by decide) (by decide) rfl).2
  obtain ⟨t3, et3, h3⟩ := bind_of h2; clear h2
  refine s_callP S (fun (ch : (Option Addr) × Nat) => ((.sl ch.1 (t3).length ch.2 (RdS (Ty.int .u8) ch.1 t3)) : D)) N29 rfl rfl (smithyref23_bytes.ok k (((t2).drop 0).take 32) (some ⟨g2, 0, none⟩) 32 t3 et3 _ _) ?_; clear S a w; intro ch3 m le1 a w S
  refine s_assign S rfl rfl ?_; clear S a; intro a S
  refine c_end ?_
  refine wp_ret ?_
  obtain rfl := Option.some.inj h3
  exact b_ret1 (d := (.sl ch3.1 (t3).length ch3.2 (RdS (Ty.int .u8) ch3.1 t3))) S rfl rfl fun ok => S.retX (Hx := []) hb _ _ ((ch3.1, ch3.2) : (Option Addr) × Nat) .nil ok
/-! smithy/smithyref23.list -/
abbrev smithyref23_list.Ty : Type := (List (List Int)) → Option ((List Int))
def smithyref23_list.Ctr (s : smithyref23_list.Ty) : Prop := ∀ (x1 : List (List Int)) (ch_0_0 : Option Addr) (ch_0_1 : Nat) (r : (List Int)) (h0 : s x1 = some r) (mi : Mem) (w0 : World), okL mi [(.sl ch_0_0 (x1).length ch_0_1 (RdS (Ty.slice (Ty.int .u8)) ch_0_0 x1))] → Pre mi [] w0 → Calls Tryd.prog 28 (([(.sl ch_0_0 (x1).length ch_0_1 (RdS (Ty.slice (Ty.int .u8)) ch_0_0 x1))] : List D).map D.val).toArray w0 (RetX mi [] (fun (ch : (Option Addr) × Nat × Nat) => ((.v (.slice ch.1 ch.2.1 ch.2.2)) : D)) (fun (ch : (Option Addr) × Nat × Nat) => [Res.row (Ty.int .u8) 5 ch.1 ch.2.1 ch.2.2 r]) w0)
def smithyref23_list.j1 (k : Nat) (y1 : List Int) : Option ((List Int)) := (smithyref07_Head.f k ((y1).length : Int) 64).bind fun t1 => (if ((t1).length + (y1).length) * 1 ≤ 140737488355328 then (some (t1 ++ y1)) else none)
def smithyref23_list.b1 (k : Nat) (x1 : List (List Int)) (rec1 : Int → (List Int) → Option ((List Int))) (y4 : Int) (y5 : List Int) : Option ((List Int)) := if (decide (y4 < ((x1).length : Int))) = true then (if (0 : Int) ≤ y4 ∧ y4 < ((x1).length : Int) then (if ((y5).length + (gt x1 y4).length) * 1 ≤ 140737488355328 then (rec1 (wr .i64 (y4 + 1)) (y5 ++ (gt x1 y4))) else none) else none) else (smithyref23_list.j1 k y5)
def smithyref23_list.l1 (k : Nat) (x1 : List (List Int)) : Nat → Int → (List Int) → Option ((List Int))
  | 0, _, _ => none
  | q + 1, y4, y5 => smithyref23_list.b1 k x1 (smithyref23_list.l1 k x1 q) y4 y5
def smithyref23_list.f (k : Nat) (x1 : List (List Int)) : Option ((List Int)) := smithyref23_list.l1 k x1 k 0 ([] : List Int)
theorem smithyref23_list.ok (k : Nat) : smithyref23_list.Ctr (smithyref23_list.f k) := by
  intro x1 ch_0_0 ch_0_1 r h0 mi w0 ok hm
  delta smithyref23_list.f at h0
  refine c_enterX (n := 26) [(.sl ch_0_0 (x1).length ch_0_1 (RdS (Ty.slice (Ty.int .u8)) ch_0_0 x1))] (l := [(0, (.sl ch_0_0 (x1).length ch_0_1 (RdS (Ty.slice (Ty.int .u8)) ch_0_0 x1)))]) Tryd.func28 rfl rfl rfl rfl ok hm ?_
  clear ok hm
  intro b0 hb a S
  refine c_region ?_
  refine s_assign S rfl rfl ?_; clear S a; intro a S
  refine c_end ?_
  refine c_region ?_
  refine s_bldSl S (ty' := (Ty.int .u8)) (ds := []) (z := 0) (c0 := ()) (ys := ([] : List Int)) (cs := []) rfl Tryd.underlying37 J5 Z5 rfl ⟨rfl, trivial⟩ rfl rfl rfl rfl rfl rfl ?_; clear S a; intro g1 a w S
  refine s_assign S rfl rfl ?_; clear S a; intro a S
  refine c_end ?_
  refine wp_seq_k ?_
  intro K1 hK1
  have j1 : ∀ (m : Mem) (A1 : Option Addr) (nn1 : Nat) (cp1 : Nat) (y1 : List Int) (a : Act) (w : World), St 26 m b0 [(3, (.v (.slice A1 nn1 cp1)))] [Res.row (Ty.int .u8) 5 A1 nn1 cp1 y1] a w → smithyref23_list.j1 k y1 = some r → K1 a w := by
    intro m A1 nn1 cp1 y1 a w S h0
    delta smithyref23_list.j1 at h0
    refine hK1 a w ?_
    refine c_region ?_
    refine s_move S rfl rfl ?_; clear S a; intro a S
    refine s_lenO S rfl .here Tryd.underlying37 rfl ?_; clear S a; intro a S
    obtain ⟨t1, et1, h1⟩ := bind_of h0; clear h0
    refine s_callR S (fun (ch : (Option Addr) × Nat × Nat) => ((.v (.slice ch.1 ch.2.1 ch.2.2)) : D)) (fun (ch : (Option Addr) × Nat × Nat) => Res.row (Ty.int .u8) 5 ch.1 ch.2.1 ch.2.2 t1) N47 rfl rfl (smithyref07_Head.ok k ((y1).length : Int) 64 t1 et1 _ _) ?_; clear S a w; intro ch1 m le1 a w S
    refine s_assign S rfl rfl ?_; clear S a; intro a S
    refine c_end ?_
    refine c_region ?_
    refine s_move S rfl rfl ?_; clear S a; intro a S
    refine s_move S rfl rfl ?_; clear S a; intro a S
    obtain ⟨c1, h2⟩ := chk_of h1; clear h1
    refine s_app S (k2 := nn1) (ys := y1) rfl (fun _ _ => .here) rfl rfl (S.holds _ (Pull.mem (.there .here)).1).1 (Res.row.src (S.holds _ (Pull.mem (.there .here)).1)) Tryd.underlying37 J5 c1 rfl ?_; clear S a w; intro A2 cp2 a w S
    refine s_assign S rfl rfl ?_; clear S a; intro a S
    refine c_end ?_
    refine c_region ?_
    refine s_move S rfl rfl ?_; clear S a; intro a S
    refine s_assign S rfl rfl ?_; clear S a; intro a S
    refine c_end ?_
    refine wp_ret ?_
    obtain rfl := Option.some.inj h2
    exact b_ret1 (d := (.v (.slice A2 (ch1.2.1 + nn1) cp2))) S rfl rfl fun ok => S.retX (Hx := []) hb _ _ ((A2, ch1.2.1 + nn1, cp2) : (Option Addr) × Nat × Nat) (.cons .here .nil) ok
  refine c_region ?_
  refine s_move S rfl rfl ?_; clear S a; intro a S
  refine s_lenS S rfl Tryd.underlying63 rfl ?_; clear S a; intro a S
  refine s_move S rfl rfl ?_; clear S a; intro a S
  refine c_end ?_
  refine wp_block ?_
  refine c_loop (fun q1 a w => ∃ (m : Mem) (y4 : Int) (A3 : Option Addr) (nn3 : Nat) (cp8 : Nat) (y5 : List Int), St 26 m b0 [(9, (.v (.int .i64 y4))), (8, (.v (.int .i64 ((x1).length : Int)))), (3, (.v (.slice A3 nn3 cp8))), (0, (.sl ch_0_0 (x1).length ch_0_1 (RdS (Ty.slice (Ty.int .u8)) ch_0_0 x1)))] [Res.row (Ty.int .u8) 5 A3 nn3 cp8 y5] a w ∧ smithyref23_list.l1 k x1 q1 y4 y5 = some r) ?_ ?_ (k := k) ⟨_, 0, (some ⟨g1, 0, none⟩), 0, 0, ([] : List Int), (S.sub ⟨rfl, rfl, rfl, rfl, trivial⟩ (.cons .here .nil)), h0⟩
  · rintro a w ⟨m, y4, A3, nn3, cp8, y5, S, h0⟩
    exact (nomatch (show (none : Option ((List Int))) = some r from h0))
  · clear S h0
    rintro q1 a w ⟨m, y4, A3, nn3, cp8, y5, S, h0⟩
    replace h0 : smithyref23_list.b1 k x1 (smithyref23_list.l1 k x1 q1) y4 y5 = some r := h0
    delta smithyref23_list.b1 at h0
    refine c_region ?_
    refine s_bin S rfl rfl rfl rfl ?_; clear S a; intro a S
    refine c_end ?_
    refine wp_seq ?_
    rcases ite_of h0 with ⟨c2, h1⟩ | ⟨c2, h1⟩ <;> clear h0
    · refine c_condT S rfl c2 ?_
      refine wp_skip ?_
      refine x_thenN ?_
      refine wp_seq ?_
      refine wp_block ?_
      refine c_region ?_
      refine s_move S rfl rfl ?_; clear S a; intro a S
      refine s_assign S rfl rfl ?_; clear S a; intro a S
      refine c_end ?_
      refine c_region' ?_
      refine s_move S rfl rfl ?_; clear S a; intro a S
      refine s_move S rfl rfl ?_; clear S a; intro a S
      refine s_move S rfl rfl ?_; clear S a; intro a S
      obtain ⟨c3, h2⟩ := chk_of h1; clear h1
      refine s_iaddrS S rfl rfl rfl Tryd.underlying63 T37 c3.1 c3.2 rfl ?_; clear S a; intro p1 a S
      refine s_ldS S (fun c => c) rfl T37 (fun _ => rfl) rfl ?_; clear S a; intro A4 cp9 a S
      obtain ⟨c4, h3⟩ := chk_of h2; clear h2
      refine s_app S (k2 := ((gt x1 y4).length)) (ys := (gt x1 y4)) rfl (fun _ _ => .here) rfl rfl rfl (RdS.src (S.get 16 (.sl A4 (gt x1 y4).length cp9 (RdS (Ty.int .u8) A4 (gt x1 y4))) rfl).2.2.2.1 (by decide) S.frz) Tryd.underlying37 J5 c4 rfl ?_; clear S a w; intro A5 cp10 a w S
      refine s_assign S rfl rfl ?_; clear S a; intro a S
      refine c_end' ?_
      refine x_blockN ?_
      refine x_thenN ?_
      refine c_region' ?_
      refine s_bin S rfl rfl rfl rfl ?_; clear S a; intro a S
      refine s_move S rfl rfl ?_; clear S a; intro a S
      refine c_end' ?_
      refine x_thenN ?_
      exact ⟨_, (wr .i64 (y4 + 1)), A5, (nn3 + ((gt x1 y4).length)), cp10, (y5 ++ (gt x1 y4)), (S.sub ⟨rfl, rfl, rfl, rfl, trivial⟩ (.cons .here .nil)), h3⟩
    · refine c_condF S rfl c2 ?_
      refine wp_exit ?_
      refine x_thenX ?_
      refine x_thenX ?_
      refine x_blockX ?_
      refine x_thenN ?_
      exact j1 _ A3 nn3 cp8 y5 a w (S.sub ⟨rfl, trivial⟩ (.cons .here .nil)) h1
/-! smithy/smithyref23.number -/
abbrev smithyref23_number.Ty : Type := (List Int) → Option ((List Int))
def smithyref23_number.Ctr (s : smithyref23_number.Ty) : Prop := ∀ (x1 : List Int) (r : (List Int)) (h0 : s x1 = some r) (mi : Mem) (w0 : World), okL mi [(.agg [.ints .u64 x1 4])] → Pre mi [] w0 → Calls Tryd.prog 31 (([(.agg [.ints .u64 x1 4])] : List D).map D.val).toArray w0 (RetX mi [] (fun (ch : (Option Addr) × Nat) => ((.sl ch.1 (r).length ch.2 (RdS (Ty.int .u8) ch.1 r)) : D)) (fun (ch : (Option Addr) × Nat) => []) w0)
def smithyref23_number.f (k : Nat) (x1 : List Int) : Option ((List Int)) := (smithyref07_Number.f k x1).bind fun t1 => ((smithyref23_bytes.f k t1).bind fun t2 => (some t2))
theorem smithyref23_number.ok (k : Nat) : smithyref23_number.Ctr (smithyref23_number.f k) := by
  intro x1 r h0 mi w0 ok hm
  delta smithyref23_number.f at h0
  refine c_enterX (n := 6) [(.agg [.ints .u64 x1 4])] (l := [(0, (.agg [.ints .u64 x1 4]))]) Tryd.func31 rfl rfl rfl rfl ok hm ?_
  clear ok hm
  intro b0 hb a S
  refine c_region ?_
  refine s_box S rfl rfl rfl ?_; clear S a; intro g1 a w S
  refine s_assign S rfl rfl ?_; clear S a; intro a S
  refine c_end ?_
  refine c_region ?_
  refine s_loada S rfl .here T26 (s' := [.ints .u64 x1 4]) rfl rfl ?_; clear S a; intro a S
  obtain ⟨t1, et1, h1⟩ := bind_of h0; clear h0
  refine s_callR S (fun (ch : (Option Addr) × Nat × Nat) => ((.v (.slice ch.1 ch.2.1 ch.2.2)) : D)) (fun (ch : (Option Addr) × Nat × Nat) => Res.row (Ty.int .u8) 5 ch.1 ch.2.1 ch.2.2 t1) N48 rfl rfl (smithyref07_Number.ok k x1 t1 et1 _ _) ?_; clear S a w; intro ch1 m le1 a w S
  replace S := S.rowfro .here
  obtain ⟨m, le1, S, hro⟩ := S
  replace S := S.slotro (u := 4) rfl hro
  obtain ⟨t2, et2, h2⟩ := bind_of h1; clear h1
  refine s_callP S (fun (ch : (Option Addr) × Nat) => ((.sl ch.1 (t2).length ch.2 (RdS (Ty.int .u8) ch.1 t2)) : D)) N29 rfl rfl (smithyref23_bytes.ok k t1 ch1.1 ch1.2.2 t2 et2 _ _) ?_; clear S a w; intro ch2 m le1 a w S
  refine s_assign S rfl rfl ?_; clear S a; intro a S
  refine c_end ?_
  refine wp_ret ?_
  obtain rfl := Option.some.inj h2
  exact b_ret1 (d := (.sl ch2.1 (t2).length ch2.2 (RdS (Ty.int .u8) ch2.1 t2))) S rfl rfl fun ok => S.retX (Hx := []) hb _ _ ((ch2.1, ch2.2) : (Option Addr) × Nat) .nil ok
/-! smithy/smithyref23.count -/
abbrev smithyref23_count.Ty : Type := Int → Option ((List Int))
def smithyref23_count.Ctr (s : smithyref23_count.Ty) : Prop := ∀ (x1 : Int) (r : (List Int)) (h0 : s x1 = some r) (mi : Mem) (w0 : World), okL mi [(.v (.int .u64 x1))] → Pre mi [] w0 → Calls Tryd.prog 30 (([(.v (.int .u64 x1))] : List D).map D.val).toArray w0 (RetX mi [] (fun (ch : (Option Addr) × Nat) => ((.sl ch.1 (r).length ch.2 (RdS (Ty.int .u8) ch.1 r)) : D)) (fun (ch : (Option Addr) × Nat) => []) w0)
def smithyref23_count.f (k : Nat) (x1 : Int) : Option ((List Int)) := (smithyref23_number.f k [x1, 0, 0, 0]).bind fun t1 => (some t1)
theorem smithyref23_count.ok (k : Nat) : smithyref23_count.Ctr (smithyref23_count.f k) := by
  intro x1 r h0 mi w0 ok hm
  delta smithyref23_count.f at h0
  refine c_enterX (n := 6) [(.v (.int .u64 x1))] (l := [(0, (.v (.int .u64 x1)))]) Tryd.func30 rfl rfl rfl rfl ok hm ?_
  clear ok hm
  intro b0 hb a S
  refine c_region ?_
  refine s_assign S rfl rfl ?_; clear S a; intro a S
  refine c_end ?_
  refine c_region ?_
  refine s_move S rfl rfl ?_; clear S a; intro a S
  refine s_build S (ds := [(0, (.v (.int .u64 x1)))]) (dv := (.agg [.ints .u64 [x1, 0, 0, 0] 4])) rfl (fun _ => by kernel_rfl) ⟨rfl, trivial⟩ rfl ?_; clear S a; intro a S
  obtain ⟨t1, et1, h1⟩ := bind_of h0; clear h0
  refine s_callP S (fun (ch : (Option Addr) × Nat) => ((.sl ch.1 (t1).length ch.2 (RdS (Ty.int .u8) ch.1 t1)) : D)) N31 rfl rfl (smithyref23_number.ok k [x1, 0, 0, 0] t1 et1 _ _) ?_; clear S a; intro ch1 m le1 a w S
  refine s_assign S rfl rfl ?_; clear S a; intro a S
  refine c_end ?_
  refine wp_ret ?_
  obtain rfl := Option.some.inj h1
  exact b_ret1 (d := (.sl ch1.1 (t1).length ch1.2 (RdS (Ty.int .u8) ch1.1 t1))) S rfl rfl fun ok => S.retX (Hx := []) hb _ _ ((ch1.1, ch1.2) : (Option Addr) × Nat) .nil ok
end GW
