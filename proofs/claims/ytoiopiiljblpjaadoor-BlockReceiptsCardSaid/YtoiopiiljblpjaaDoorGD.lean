/-
  Printed by a program of these sessions (wip/gw/gx.py): for each Go function a Lean function with the same answers, and the walk that shows it.
-/
import Derived.Test.YtoiopiiljblpjaaDoorProg
import Derived.Test.YtoiopiiljblpjaaDoorGC
set_option linter.unusedVariables false
set_option maxRecDepth 10000
namespace GW
open Go Go.RowKit Go.Proofs
/-! smithy/smithyref05.Constants -/
abbrev smithyref05_Constants.Ty : Type := Option ((List Int))
def smithyref05_Constants.Ctr (s : smithyref05_Constants.Ty) : Prop := ∀ (r : (List Int)) (h0 : s = some r) (mi : Mem) (w0 : World), okL mi [] → Pre mi [] w0 → Calls Tryd.prog 87 (([] : List D).map D.val).toArray w0 (RetX mi [] (fun (ch : Unit) => ((.agg [.ints .u64 r 24]) : D)) (fun (ch : Unit) => []) w0)
def smithyref05_Constants.j1 (y1 : List Int) : Option ((List Int)) := some y1
def smithyref05_Constants.j2 (y31 : Int) (rec1 : Int → Int → (List Int) → Option ((List Int))) (y46 : Int) (y47 : List Int) : Option ((List Int)) := rec1 (wr .i64 (y31 + 1)) y46 y47
def smithyref05_Constants.j3 (y57 : Int) (rec2 : Int → Int → (List Int) → Option ((List Int))) (y61 : Int) (y62 : List Int) : Option ((List Int)) := rec2 (wr .i64 (y57 + 1)) y61 y62
def smithyref05_Constants.j4 (y57 : Int) (y58 : Int) (rec2 : Int → Int → (List Int) → Option ((List Int))) (y63 : List Int) : Option ((List Int)) := if (decide (256 ≤ (wr .i64 (y58 * 2)))) = true then (smithyref05_Constants.j3 y57 rec2 (bits .xor .i64 (wr .i64 (y58 * 2)) 369) y63) else (smithyref05_Constants.j3 y57 rec2 (wr .i64 (y58 * 2)) y63)
def smithyref05_Constants.b2 (y31 : Int) (rec1 : Int → Int → (List Int) → Option ((List Int))) (rec2 : Int → Int → (List Int) → Option ((List Int))) (y57 : Int) (y58 : Int) (y59 : List Int) : Option ((List Int)) := if (decide (y57 < 7)) = true then (if ((Int.tmod y58 2) == 1) = true then (if (0 : Int) ≤ y31 ∧ y31 < 24 then (if (0 : Int) ≤ y57 then (if (0 : Int) ≤ (wr .u64 ((shl .u64 1 (min (Int.toNat y57) 64)) - 1)) then (smithyref05_Constants.j4 y57 y58 rec2 (y59.set (Int.toNat y31) (bits .or .u64 (rd y59 y31) (shl .u64 1 (min (Int.toNat (wr .u64 ((shl .u64 1 (min (Int.toNat y57) 64)) - 1))) 64))))) else none) else none) else none) else (smithyref05_Constants.j4 y57 y58 rec2 y59)) else (smithyref05_Constants.j2 y31 rec1 y58 y59)
def smithyref05_Constants.l2 (y31 : Int) (rec1 : Int → Int → (List Int) → Option ((List Int))) : Nat → Int → Int → (List Int) → Option ((List Int))
  | 0, _, _, _ => none
  | q + 1, y57, y58, y59 => smithyref05_Constants.b2 y31 rec1 (smithyref05_Constants.l2 y31 rec1 q) y57 y58 y59
def smithyref05_Constants.b1 (k : Nat) (rec1 : Int → Int → (List Int) → Option ((List Int))) (y31 : Int) (y32 : Int) (y33 : List Int) : Option ((List Int)) := if (decide (y31 < 24)) = true then (smithyref05_Constants.l2 y31 rec1 k 0 y32 y33) else (smithyref05_Constants.j1 y33)
def smithyref05_Constants.l1 (k : Nat) : Nat → Int → Int → (List Int) → Option ((List Int))
  | 0, _, _, _ => none
  | q + 1, y31, y32, y33 => smithyref05_Constants.b1 k (smithyref05_Constants.l1 k q) y31 y32 y33
def smithyref05_Constants.f (k : Nat) : Option ((List Int)) := smithyref05_Constants.l1 k k 0 1 [0, 0, 0, 0, 0, 0, 0, 0, 0, 0, 0, 0, 0, 0, 0, 0, 0, 0, 0, 0, 0, 0, 0, 0]
theorem smithyref05_Constants.ok (k : Nat) : smithyref05_Constants.Ctr (smithyref05_Constants.f k) := by
  intro r h0 mi w0 ok hm
  delta smithyref05_Constants.f at h0
  refine c_enterX (n := 34) [] (l := []) Tryd.func87 rfl rfl rfl rfl ok hm ?_
  clear ok hm
  intro b0 hb a S
  refine c_region ?_
  refine s_alloc S Z118 rfl ⟨rfl, trivial⟩ rfl ?_; clear S a; intro g1 a w S
  refine c_end ?_
  refine c_region ?_
  refine s_build S (ds := []) (dv := (.agg [.ints .u64 [0, 0, 0, 0, 0, 0, 0, 0, 0, 0, 0, 0, 0, 0, 0, 0, 0, 0, 0, 0, 0, 0, 0, 0] 24])) rfl (fun _ => by kernel_rfl) ⟨rfl, trivial⟩ rfl ?_; clear S a; intro a S
  refine s_alloc S Z118 rfl ⟨rfl, trivial⟩ rfl ?_; clear S a w; intro g2 a w S
  refine s_store S rfl rfl rfl (s' := [.ints .u64 [0, 0, 0, 0, 0, 0, 0, 0, 0, 0, 0, 0, 0, 0, 0, 0, 0, 0, 0, 0, 0, 0, 0, 0] 24]) .here T118 rfl rfl ?_; clear S w; intro w S
  refine c_end ?_
  refine c_region ?_
  refine s_assign S rfl rfl ?_; clear S a; intro a S
  refine c_end ?_
  refine wp_seq_k ?_
  intro K1 hK1
  have j1 : ∀ (m : Mem) (g39 : Nat) (g40 : Nat) (y1 : List Int) (a : Act) (w : World), St 34 m b0 [(1, (.v (.pointer (some ⟨g39, 0, none⟩)))), (0, (.v (.pointer (some ⟨g40, 0, none⟩))))] [Res.cells g39 118 [.ints .u64 y1 24], Res.cells g40 118 [.ints .u64 [0, 0, 0, 0, 0, 0, 0, 0, 0, 0, 0, 0, 0, 0, 0, 0, 0, 0, 0, 0, 0, 0, 0, 0] 24]] a w → smithyref05_Constants.j1 y1 = some r → K1 a w := by
    intro m g39 g40 y1 a w S h0
    delta smithyref05_Constants.j1 at h0
    refine hK1 a w ?_
    refine c_region ?_
    refine s_loada S rfl .here T118 (s' := [.ints .u64 y1 24]) rfl rfl ?_; clear S a; intro a S
    refine s_store S rfl rfl rfl (s' := [.ints .u64 y1 24]) (.there .here) T118 rfl rfl ?_; clear S w; intro w S
    refine c_end ?_
    refine wp_ret ?_
    obtain rfl := Option.some.inj h0
    exact b_ret1 (d := (.agg [.ints .u64 y1 24])) S rfl (resD_cell rfl (.there .here) T118 rfl rfl) fun ok => S.retX (Hx := []) hb _ _ (() : Unit) .nil ok
  refine c_region ?_
  refine s_assign S rfl rfl ?_; clear S a; intro a S
  refine c_end ?_
  refine wp_block ?_
  refine c_loop (fun q1 a w => ∃ (m : Mem) (y31 : Int) (y32 : Int) (g75 : Nat) (g76 : Nat) (y33 : List Int), St 34 m b0 [(3, (.v (.int .i64 y31))), (2, (.v (.int .i64 y32))), (1, (.v (.pointer (some ⟨g75, 0, none⟩)))), (0, (.v (.pointer (some ⟨g76, 0, none⟩))))] [Res.cells g75 118 [.ints .u64 y33 24], Res.cells g76 118 [.ints .u64 [0, 0, 0, 0, 0, 0, 0, 0, 0, 0, 0, 0, 0, 0, 0, 0, 0, 0, 0, 0, 0, 0, 0, 0] 24]] a w ∧ smithyref05_Constants.l1 k q1 y31 y32 y33 = some r) ?_ ?_ (k := k) ⟨_, 0, 1, g2, g1, [0, 0, 0, 0, 0, 0, 0, 0, 0, 0, 0, 0, 0, 0, 0, 0, 0, 0, 0, 0, 0, 0, 0, 0], (S.sub ⟨rfl, rfl, rfl, rfl, trivial⟩ (.cons .here (.cons .here .nil))), h0⟩
  · rintro a w ⟨m, y31, y32, g75, g76, y33, S, h0⟩
    exact (nomatch (show (none : Option ((List Int))) = some r from h0))
  · clear S h0
    rintro q1 a w ⟨m, y31, y32, g75, g76, y33, S, h0⟩
    replace h0 : smithyref05_Constants.b1 k (smithyref05_Constants.l1 k q1) y31 y32 y33 = some r := h0
    delta smithyref05_Constants.b1 at h0
    refine wp_seq ?_
    refine c_region ?_
    refine s_move S rfl rfl ?_; clear S a; intro a S
    refine s_bin S rfl rfl rfl rfl ?_; clear S a; intro a S
    refine c_end ?_
    rcases ite_of h0 with ⟨c1, h1⟩ | ⟨c1, h1⟩ <;> clear h0
    · refine c_condT S rfl c1 ?_
      refine wp_skip ?_
      refine x_thenN ?_
      refine wp_seq_k ?_
      intro K2 hK2
      have j2 : ∀ (m : Mem) (y46 : Int) (g91 : Nat) (g92 : Nat) (y47 : List Int) (a : Act) (w : World), St 34 m b0 [(3, (.v (.int .i64 y31))), (2, (.v (.int .i64 y46))), (1, (.v (.pointer (some ⟨g91, 0, none⟩)))), (0, (.v (.pointer (some ⟨g92, 0, none⟩))))] [Res.cells g91 118 [.ints .u64 y47 24], Res.cells g92 118 [.ints .u64 [0, 0, 0, 0, 0, 0, 0, 0, 0, 0, 0, 0, 0, 0, 0, 0, 0, 0, 0, 0, 0, 0, 0, 0] 24]] a w → smithyref05_Constants.j2 y31 (smithyref05_Constants.l1 k q1) y46 y47 = some r → K2 a w := by
        intro m y46 g91 g92 y47 a w S h0
        delta smithyref05_Constants.j2 at h0
        refine hK2 a w ?_
        refine c_region' ?_
        refine s_move S rfl rfl ?_; clear S a; intro a S
        refine s_bin S rfl rfl rfl rfl ?_; clear S a; intro a S
        refine s_assign S rfl rfl ?_; clear S a; intro a S
        refine c_end' ?_
        refine x_thenN ?_
        exact ⟨_, (wr .i64 (y31 + 1)), y46, g91, g92, y47, (S.sub ⟨rfl, rfl, rfl, rfl, trivial⟩ (.cons .here (.cons .here .nil))), h0⟩
      refine wp_block ?_
      refine c_region ?_
      refine s_assign S rfl rfl ?_; clear S a; intro a S
      refine c_end ?_
      refine wp_block ?_
      refine c_loop (fun q2 a w => ∃ (m : Mem) (y57 : Int) (y58 : Int) (g105 : Nat) (g106 : Nat) (y59 : List Int), St 34 m b0 [(4, (.v (.int .i64 y57))), (3, (.v (.int .i64 y31))), (2, (.v (.int .i64 y58))), (1, (.v (.pointer (some ⟨g105, 0, none⟩)))), (0, (.v (.pointer (some ⟨g106, 0, none⟩))))] [Res.cells g105 118 [.ints .u64 y59 24], Res.cells g106 118 [.ints .u64 [0, 0, 0, 0, 0, 0, 0, 0, 0, 0, 0, 0, 0, 0, 0, 0, 0, 0, 0, 0, 0, 0, 0, 0] 24]] a w ∧ smithyref05_Constants.l2 y31 (smithyref05_Constants.l1 k q1) q2 y57 y58 y59 = some r) ?_ ?_ (k := k) ⟨_, 0, y32, g75, g76, y33, (S.sub ⟨rfl, rfl, rfl, rfl, rfl, trivial⟩ (.cons .here (.cons .here .nil))), h1⟩
      · rintro a w ⟨m, y57, y58, g105, g106, y59, S, h0⟩
        exact (nomatch (show (none : Option ((List Int))) = some r from h0))
      · clear S h1
        rintro q2 a w ⟨m, y57, y58, g105, g106, y59, S, h0⟩
        replace h0 : smithyref05_Constants.b2 y31 (smithyref05_Constants.l1 k q1) (smithyref05_Constants.l2 y31 (smithyref05_Constants.l1 k q1) q2) y57 y58 y59 = some r := h0
        delta smithyref05_Constants.b2 at h0
        refine wp_seq ?_
        refine c_region ?_
        refine s_move S rfl rfl ?_; clear S a; intro a S
        refine s_bin S rfl rfl rfl rfl ?_; clear S a; intro a S
        refine c_end ?_
        rcases ite_of h0 with ⟨c2, h1⟩ | ⟨c2, h1⟩ <;> clear h0
        · refine c_condT S rfl c2 ?_
          refine wp_skip ?_
          refine x_thenN ?_
          refine wp_seq_k ?_
          intro K3 hK3
          have j3 : ∀ (m : Mem) (y61 : Int) (g109 : Nat) (g110 : Nat) (y62 : List Int) (a : Act) (w : World), St 34 m b0 [(2, (.v (.int .i64 y61))), (4, (.v (.int .i64 y57))), (3, (.v (.int .i64 y31))), (1, (.v (.pointer (some ⟨g109, 0, none⟩)))), (0, (.v (.pointer (some ⟨g110, 0, none⟩))))] [Res.cells g109 118 [.ints .u64 y62 24], Res.cells g110 118 [.ints .u64 [0, 0, 0, 0, 0, 0, 0, 0, 0, 0, 0, 0, 0, 0, 0, 0, 0, 0, 0, 0, 0, 0, 0, 0] 24]] a w → smithyref05_Constants.j3 y57 (smithyref05_Constants.l2 y31 (smithyref05_Constants.l1 k q1) q2) y61 y62 = some r → K3 a w := by
            intro m y61 g109 g110 y62 a w S h0
            delta smithyref05_Constants.j3 at h0
            refine hK3 a w ?_
            refine c_region' ?_
            refine s_move S rfl rfl ?_; clear S a; intro a S
            refine s_bin S rfl rfl rfl rfl ?_; clear S a; intro a S
            refine s_assign S rfl rfl ?_; clear S a; intro a S
            refine c_end' ?_
            refine x_thenN ?_
            exact ⟨_, (wr .i64 (y57 + 1)), y61, g109, g110, y62, (S.sub ⟨rfl, rfl, rfl, rfl, rfl, trivial⟩ (.cons .here (.cons .here .nil))), h0⟩
          refine wp_block ?_
          refine wp_seq_k ?_
          intro K4 hK4
          have j4 : ∀ (m : Mem) (g111 : Nat) (g112 : Nat) (y63 : List Int) (a : Act) (w : World), St 34 m b0 [(4, (.v (.int .i64 y57))), (3, (.v (.int .i64 y31))), (2, (.v (.int .i64 y58))), (1, (.v (.pointer (some ⟨g111, 0, none⟩)))), (0, (.v (.pointer (some ⟨g112, 0, none⟩))))] [Res.cells g111 118 [.ints .u64 y63 24], Res.cells g112 118 [.ints .u64 [0, 0, 0, 0, 0, 0, 0, 0, 0, 0, 0, 0, 0, 0, 0, 0, 0, 0, 0, 0, 0, 0, 0, 0] 24]] a w → smithyref05_Constants.j4 y57 y58 (smithyref05_Constants.l2 y31 (smithyref05_Constants.l1 k q1) q2) y63 = some r → K4 a w := by
            intro m g111 g112 y63 a w S h0
            delta smithyref05_Constants.j4 at h0
            refine hK4 a w ?_
            refine c_region ?_
            refine s_move S rfl rfl ?_; clear S a; intro a S
            refine s_bin S rfl rfl rfl rfl ?_; clear S a; intro a S
            refine s_assign S rfl rfl ?_; clear S a; intro a S
            refine c_end ?_
            refine c_region ?_
            refine s_move S rfl rfl ?_; clear S a; intro a S
            refine s_bin S rfl rfl rfl rfl ?_; clear S a; intro a S
            refine c_end ?_
            rcases ite_of h0 with ⟨c3, h1⟩ | ⟨c3, h1⟩ <;> clear h0
            · refine c_condT S rfl c3 ?_
              refine c_region' ?_
              refine s_move S rfl rfl ?_; clear S a; intro a S
              refine s_bin S rfl rfl rfl rfl ?_; clear S a; intro a S
              refine s_assign S rfl rfl ?_; clear S a; intro a S
              refine c_end' ?_
              refine x_blockN ?_
              refine x_thenN ?_
              exact j3 _ (bits .xor .i64 (wr .i64 (y58 * 2)) 369) g111 g112 y63 a w (S.sub ⟨rfl, rfl, rfl, rfl, rfl, trivial⟩ (.cons .here (.cons .here .nil))) h1
            · refine c_condF S rfl c3 ?_
              refine wp_skip ?_
              refine x_blockN ?_
              refine x_thenN ?_
              exact j3 _ (wr .i64 (y58 * 2)) g111 g112 y63 a w (S.sub ⟨rfl, rfl, rfl, rfl, rfl, trivial⟩ (.cons .here (.cons .here .nil))) h1
          refine c_region ?_
          refine s_move S rfl rfl ?_; clear S a; intro a S
          refine s_rem S rfl rfl (by decide) rfl ?_; clear S a; intro a S
          refine s_bin S rfl rfl rfl rfl ?_; clear S a; intro a S
          refine c_end ?_
          rcases ite_of h1 with ⟨c4, h2⟩ | ⟨c4, h2⟩ <;> clear h1
          · refine c_condT S rfl c4 ?_
            refine c_heldS S (.take 0 (.take 1 (.take 2 (.take 3 (.take 4 (.take 5 (.take 6 (.take 7 (.take 8 (.take 9 (.alts (.run 10 false .done .nil)))))))))))) 10 [Res.cells g105 118 [.ints .u64 y59 24], Res.cells g106 118 [.ints .u64 [0, 0, 0, 0, 0, 0, 0, 0, 0, 0, 0, 0, 0, 0, 0, 0, 0, 0, 0, 0, 0, 0, 0, 0] 24]] (.cons .here (.cons .here .nil)) ⟨Res.stay_cells, Res.stay_cells, trivial⟩ [(4, (.v (.int .i64 y57))), (3, (.v (.int .i64 y31))), (1, (.v (.pointer (some ⟨g105, 0, none⟩))))] ⟨rfl, rfl, rfl, trivial⟩ (by kernel_rfl) (by kernel_rfl) ?_; clear S; intro w S CL hw le
            refine h_move S CL hw le ⟨rfl, rfl, rfl, trivial⟩ rfl rfl rfl trivial ?_; clear S CL a; intro a S CL
            refine h_move S CL hw le ⟨rfl, rfl, rfl, rfl, trivial⟩ rfl rfl rfl trivial ?_; clear S CL a; intro a S CL
            obtain ⟨c5, h3⟩ := chk_of h2; clear h2
            refine h_iaddr S CL hw le ⟨rfl, rfl, rfl, rfl, rfl, trivial⟩ rfl rfl Tryd.underlying118 T24 c5.1 c5.2 (mul1 _ _) rfl rfl trivial ?_; clear S CL a; intro a S CL
            refine h_loadi S CL hw le ⟨rfl, rfl, rfl, rfl, rfl, rfl, trivial⟩ (i := y31) rfl .here T24 .here rfl c5.1 c5.2 rfl rfl trivial ?_; clear S CL a; intro a S CL
            refine h_move S CL hw le ⟨rfl, rfl, rfl, rfl, rfl, rfl, rfl, trivial⟩ rfl rfl rfl trivial ?_; clear S CL a; intro a S CL
            obtain ⟨c6, h4⟩ := chk_of h3; clear h3
            refine h_shl S CL hw le ⟨rfl, rfl, rfl, rfl, rfl, rfl, rfl, rfl, trivial⟩ (e := (min (Int.toNat y57) 64)) rfl rfl c6 rfl rfl rfl trivial ?_; clear S CL a; intro a S CL
            refine h_bin S CL hw le ⟨rfl, rfl, rfl, rfl, rfl, rfl, rfl, rfl, rfl, trivial⟩ rfl rfl rfl rfl rfl trivial ?_; clear S CL a; intro a S CL
            obtain ⟨c7, h5⟩ := chk_of h4; clear h4
            refine h_shl S CL hw le ⟨rfl, rfl, rfl, rfl, rfl, rfl, rfl, rfl, rfl, rfl, trivial⟩ (e := (min (Int.toNat (wr .u64 ((shl .u64 1 (min (Int.toNat y57) 64)) - 1))) 64)) rfl rfl c7 rfl rfl rfl trivial ?_; clear S CL a; intro a S CL
            refine h_bin S CL hw le ⟨rfl, rfl, rfl, rfl, rfl, rfl, rfl, rfl, rfl, rfl, rfl, trivial⟩ rfl rfl rfl rfl rfl trivial ?_; clear S CL a; intro a S CL
            refine h_iaddr S CL hw le ⟨rfl, rfl, rfl, rfl, rfl, rfl, rfl, rfl, rfl, rfl, rfl, rfl, trivial⟩ rfl rfl Tryd.underlying118 T24 c5.1 c5.2 (mul1 _ _) rfl rfl trivial ?_; clear S CL a; intro a S CL
            refine h_run' S rfl trivial ?_
            refine s_storei S (i := y31) rfl rfl .here T24 .here rfl c5.1 c5.2 ?_; clear S; intro w S
            refine h_back ⟨fun h => (nomatch h), ?_⟩
            refine h_done ?_; clear CL hw le
            refine x_thenN ?_
            exact j4 _ g105 g106 (y59.set (Int.toNat y31) (bits .or .u64 (rd y59 y31) (shl .u64 1 (min (Int.toNat (wr .u64 ((shl .u64 1 (min (Int.toNat y57) 64)) - 1))) 64)))) a w (S.sub ⟨rfl, rfl, rfl, rfl, rfl, trivial⟩ (.cons .here (.cons .here .nil))) h5
          · refine c_condF S rfl c4 ?_
            refine wp_skip ?_
            refine x_thenN ?_
            exact j4 _ g105 g106 y59 a w (S.sub ⟨rfl, rfl, rfl, rfl, rfl, trivial⟩ (.cons .here (.cons .here .nil))) h2
        · refine c_condF S rfl c2 ?_
          refine wp_exit ?_
          refine x_thenX ?_
          refine x_thenX ?_
          refine x_blockX ?_
          refine x_blockN ?_
          refine x_thenN ?_
          exact j2 _ y58 g105 g106 y59 a w (S.sub ⟨rfl, rfl, rfl, rfl, trivial⟩ (.cons .here (.cons .here .nil))) h1
    · refine c_condF S rfl c1 ?_
      refine wp_exit ?_
      refine x_thenX ?_
      refine x_thenX ?_
      refine x_blockX ?_
      refine x_thenN ?_
      exact j1 _ g75 g76 y33 a w (S.sub ⟨rfl, rfl, trivial⟩ (.cons .here (.cons .here .nil))) h1
/-! smithy/smithyref05.up -/
abbrev smithyref05_up.Ty : Type := Int → Int → Option Int
def smithyref05_up.Ctr (s : smithyref05_up.Ty) : Prop := ∀ (x1 : Int) (x2 : Int) (r : Int) (h0 : s x1 x2 = some r) (mi : Mem) (w0 : World), okL mi [(.v (.int .u64 x1)), (.v (.int .i64 x2))] → Pre mi [] w0 → Calls Tryd.prog 94 (([(.v (.int .u64 x1)), (.v (.int .i64 x2))] : List D).map D.val).toArray w0 (RetX mi [] (fun (ch : Unit) => ((.v (.int .u64 r)) : D)) (fun (ch : Unit) => []) w0)
def smithyref05_up.f (x1 : Int) (x2 : Int) : Option Int := if ((Int.tmod x2 64) == 0) = true then (some x1) else (if (0 : Int) ≤ (Int.tmod x2 64) then (if (0 : Int) ≤ (wr .i64 (64 - (Int.tmod x2 64))) then (some (bits .or .u64 (shl .u64 x1 (min (Int.toNat (Int.tmod x2 64)) 64)) (shr x1 (min (Int.toNat (wr .i64 (64 - (Int.tmod x2 64)))) 64)))) else none) else none)
theorem smithyref05_up.ok : smithyref05_up.Ctr (smithyref05_up.f) := by
  intro x1 x2 r h0 mi w0 ok hm
  delta smithyref05_up.f at h0
  refine c_enterX (n := 18) [(.v (.int .u64 x1)), (.v (.int .i64 x2))] (l := [(0, (.v (.int .u64 x1))), (1, (.v (.int .i64 x2)))]) Tryd.func94 rfl rfl rfl rfl ok hm ?_
  clear ok hm
  intro b0 hb a S
  refine c_region ?_
  refine s_assign S rfl rfl ?_; clear S a; intro a S
  refine c_end ?_
  refine c_region ?_
  refine s_move S rfl rfl ?_; clear S a; intro a S
  refine s_rem S rfl rfl (by decide) rfl ?_; clear S a; intro a S
  refine s_assign S rfl rfl ?_; clear S a; intro a S
  refine c_end ?_
  refine wp_seq ?_
  refine c_region ?_
  refine s_move S rfl rfl ?_; clear S a; intro a S
  refine s_bin S rfl rfl rfl rfl ?_; clear S a; intro a S
  refine c_end ?_
  rcases ite_of h0 with ⟨c1, h1⟩ | ⟨c1, h1⟩ <;> clear h0
  · refine c_condT S rfl c1 ?_
    refine c_region ?_
    refine s_move S rfl rfl ?_; clear S a; intro a S
    refine s_assign S rfl rfl ?_; clear S a; intro a S
    refine c_end ?_
    refine wp_ret ?_
    refine x_thenR ?_
    obtain rfl := Option.some.inj h1
    exact b_ret1 (d := (.v (.int .u64 x1))) S rfl rfl fun ok => S.retX (Hx := []) hb _ _ (() : Unit) .nil ok
  · refine c_condF S rfl c1 ?_
    refine wp_skip ?_
    refine x_thenN ?_
    refine wp_seq (c_heldS S (.take 0 (.take 1 (.take 2 (.take 3 (.take 4 (.take 5 (.take 6 (.take 7 (.take 8 .done))))))))) 9 [] .nil trivial [(1, (.v (.int .i64 (Int.tmod x2 64)))), (0, (.v (.int .u64 x1)))] ⟨rfl, rfl, trivial⟩ (by kernel_rfl) (by kernel_rfl) ?_); clear S; intro w S CL hw le
    refine h_move S CL hw le ⟨rfl, rfl, trivial⟩ rfl rfl rfl trivial ?_; clear S CL a; intro a S CL
    refine h_move S CL hw le ⟨rfl, rfl, rfl, trivial⟩ rfl rfl rfl trivial ?_; clear S CL a; intro a S CL
    obtain ⟨c2, h2⟩ := chk_of h1; clear h1
    refine h_shl S CL hw le ⟨rfl, rfl, rfl, rfl, trivial⟩ (e := (min (Int.toNat (Int.tmod x2 64)) 64)) rfl rfl c2 rfl rfl rfl trivial ?_; clear S CL a; intro a S CL
    refine h_move S CL hw le ⟨rfl, rfl, rfl, rfl, rfl, trivial⟩ rfl rfl rfl trivial ?_; clear S CL a; intro a S CL
    refine h_move S CL hw le ⟨rfl, rfl, rfl, rfl, rfl, rfl, trivial⟩ rfl rfl rfl trivial ?_; clear S CL a; intro a S CL
    refine h_bin S CL hw le ⟨rfl, rfl, rfl, rfl, rfl, rfl, rfl, trivial⟩ rfl rfl rfl rfl rfl trivial ?_; clear S CL a; intro a S CL
    obtain ⟨c3, h3⟩ := chk_of h2; clear h2
    refine h_shr S CL hw le ⟨rfl, rfl, rfl, rfl, rfl, rfl, rfl, rfl, trivial⟩ (e := (min (Int.toNat (wr .i64 (64 - (Int.tmod x2 64)))) 64)) rfl rfl c3 rfl rfl rfl trivial ?_; clear S CL a; intro a S CL
    refine h_bin S CL hw le ⟨rfl, rfl, rfl, rfl, rfl, rfl, rfl, rfl, rfl, trivial⟩ rfl rfl rfl rfl rfl trivial ?_; clear S CL a; intro a S CL
    refine h_assign S CL hw le ⟨rfl, rfl, rfl, rfl, rfl, rfl, rfl, rfl, rfl, rfl, trivial⟩ rfl rfl rfl trivial ?_; clear S CL a; intro a S CL
    refine h_done ?_; clear CL hw le
    refine x_thenN ?_
    refine wp_ret ?_
    obtain rfl := Option.some.inj h3
    exact b_ret1 (d := (.v (.int .u64 (bits .or .u64 (shl .u64 x1 (min (Int.toNat (Int.tmod x2 64)) 64)) (shr x1 (min (Int.toNat (wr .i64 (64 - (Int.tmod x2 64)))) 64)))))) S rfl rfl fun ok => S.retX (Hx := []) hb _ _ (() : Unit) .nil ok
/-! smithy/smithyref05.Round -/
abbrev smithyref05_Round.Ty : Type := (List Int) → Int → Option ((List Int))
def smithyref05_Round.Ctr (s : smithyref05_Round.Ty) : Prop := ∀ (x1 : List Int) (x2 : Int) (r : (List Int)) (h0 : s x1 x2 = some r) (mi : Mem) (w0 : World), okL mi [(.agg [.ints .u64 x1 25]), (.v (.int .u64 x2))] → Pre mi [] w0 → Calls Tryd.prog 88 (([(.agg [.ints .u64 x1 25]), (.v (.int .u64 x2))] : List D).map D.val).toArray w0 (RetX mi [] (fun (ch : Unit) => ((.agg [.ints .u64 r 25]) : D)) (fun (ch : Unit) => []) w0)
def smithyref05_Round.j4 (x2 : Int) (y40 : List Int) : Option ((List Int)) := some (y40.set (Int.toNat 0) (bits .xor .u64 (rd y40 0) x2))
def smithyref05_Round.j5 (y53 : Int) (rec1 : Int → (List Int) → Option ((List Int))) (y59 : List Int) : Option ((List Int)) := rec1 (wr .i64 (y53 + 1)) y59
def smithyref05_Round.b2 (y25 : List Int) (y53 : Int) (rec1 : Int → (List Int) → Option ((List Int))) (rec2 : Int → (List Int) → Option ((List Int))) (y62 : Int) (y63 : List Int) : Option ((List Int)) := if (decide (y62 < 5)) = true then (if (0 : Int) ≤ (wr .i64 (y53 + (wr .i64 (5 * y62)))) ∧ (wr .i64 (y53 + (wr .i64 (5 * y62)))) < 25 then (if (0 : Int) ≤ (wr .i64 ((Int.tmod (wr .i64 (y53 + 1)) 5) + (wr .i64 (5 * y62)))) ∧ (wr .i64 ((Int.tmod (wr .i64 (y53 + 1)) 5) + (wr .i64 (5 * y62)))) < 25 then (if (0 : Int) ≤ (wr .i64 ((Int.tmod (wr .i64 (y53 + 2)) 5) + (wr .i64 (5 * y62)))) ∧ (wr .i64 ((Int.tmod (wr .i64 (y53 + 2)) 5) + (wr .i64 (5 * y62)))) < 25 then (rec2 (wr .i64 (y62 + 1)) (y63.set (Int.toNat (wr .i64 (y53 + (wr .i64 (5 * y62))))) (bits .xor .u64 (rd y25 (wr .i64 (y53 + (wr .i64 (5 * y62))))) (bits .and .u64 (wr .u64 (18446744073709551615 - (rd y25 (wr .i64 ((Int.tmod (wr .i64 (y53 + 1)) 5) + (wr .i64 (5 * y62))))))) (rd y25 (wr .i64 ((Int.tmod (wr .i64 (y53 + 2)) 5) + (wr .i64 (5 * y62))))))))) else none) else none) else none) else (smithyref05_Round.j5 y53 rec1 y63)
def smithyref05_Round.l2 (y25 : List Int) (y53 : Int) (rec1 : Int → (List Int) → Option ((List Int))) : Nat → Int → (List Int) → Option ((List Int))
  | 0, _, _ => none
  | q + 1, y62, y63 => smithyref05_Round.b2 y25 y53 rec1 (smithyref05_Round.l2 y25 y53 rec1 q) y62 y63
def smithyref05_Round.b1 (k : Nat) (x2 : Int) (y25 : List Int) (rec1 : Int → (List Int) → Option ((List Int))) (y53 : Int) (y54 : List Int) : Option ((List Int)) := if (decide (y53 < 5)) = true then (smithyref05_Round.l2 y25 y53 rec1 k 0 y54) else (smithyref05_Round.j4 x2 y54)
def smithyref05_Round.l1 (k : Nat) (x2 : Int) (y25 : List Int) : Nat → Int → (List Int) → Option ((List Int))
  | 0, _, _ => none
  | q + 1, y53, y54 => smithyref05_Round.b1 k x2 y25 (smithyref05_Round.l1 k x2 y25 q) y53 y54
def smithyref05_Round.j3 (k : Nat) (x2 : Int) (y25 : List Int) : Option ((List Int)) := smithyref05_Round.l1 k x2 y25 k 0 [0, 0, 0, 0, 0, 0, 0, 0, 0, 0, 0, 0, 0, 0, 0, 0, 0, 0, 0, 0, 0, 0, 0, 0, 0]
def smithyref05_Round.b3 (k : Nat) (x2 : Int) (y16 : List Int) (rec3 : Int → Int → Int → (List Int) → Option ((List Int))) (y68 : Int) (y69 : Int) (y70 : Int) (y71 : List Int) : Option ((List Int)) := if (decide (y68 < 24)) = true then (if (0 : Int) ≤ (wr .i64 (y70 + (wr .i64 (5 * y69)))) ∧ (wr .i64 (y70 + (wr .i64 (5 * y69)))) < 25 then ((smithyref05_up.f (rd y16 (wr .i64 (y70 + (wr .i64 (5 * y69))))) (wr .i64 (Int.tdiv (wr .i64 ((wr .i64 (y68 + 1)) * (wr .i64 (y68 + 2)))) 2))).bind fun t1 => (if (0 : Int) ≤ (wr .i64 (y69 + (wr .i64 (5 * (Int.tmod (wr .i64 ((wr .i64 (2 * y70)) + (wr .i64 (3 * y69)))) 5))))) ∧ (wr .i64 (y69 + (wr .i64 (5 * (Int.tmod (wr .i64 ((wr .i64 (2 * y70)) + (wr .i64 (3 * y69)))) 5))))) < 25 then (rec3 (wr .i64 (y68 + 1)) (Int.tmod (wr .i64 ((wr .i64 (2 * y70)) + (wr .i64 (3 * y69)))) 5) y69 (y71.set (Int.toNat (wr .i64 (y69 + (wr .i64 (5 * (Int.tmod (wr .i64 ((wr .i64 (2 * y70)) + (wr .i64 (3 * y69)))) 5)))))) t1)) else none)) else none) else (smithyref05_Round.j3 k x2 y71)
def smithyref05_Round.l3 (k : Nat) (x2 : Int) (y16 : List Int) : Nat → Int → Int → Int → (List Int) → Option ((List Int))
  | 0, _, _, _, _ => none
  | q + 1, y68, y69, y70, y71 => smithyref05_Round.b3 k x2 y16 (smithyref05_Round.l3 k x2 y16 q) y68 y69 y70 y71
def smithyref05_Round.j2 (k : Nat) (x2 : Int) (y16 : List Int) : Option ((List Int)) := smithyref05_Round.l3 k x2 y16 k 0 0 1 ([0, 0, 0, 0, 0, 0, 0, 0, 0, 0, 0, 0, 0, 0, 0, 0, 0, 0, 0, 0, 0, 0, 0, 0, 0].set (Int.toNat 0) (rd y16 0))
def smithyref05_Round.j6 (y84 : Int) (rec4 : Int → (List Int) → Option ((List Int))) (y90 : List Int) : Option ((List Int)) := rec4 (wr .i64 (y84 + 1)) y90
def smithyref05_Round.b5 (x1 : List Int) (y1 : List Int) (y84 : Int) (rec4 : Int → (List Int) → Option ((List Int))) (rec5 : Int → (List Int) → Option ((List Int))) (y93 : Int) (y94 : List Int) : Option ((List Int)) := if (decide (y93 < 5)) = true then (if (0 : Int) ≤ (wr .i64 (y84 + (wr .i64 (5 * y93)))) ∧ (wr .i64 (y84 + (wr .i64 (5 * y93)))) < 25 then (if (0 : Int) ≤ (Int.tmod (wr .i64 (y84 + 4)) 5) ∧ (Int.tmod (wr .i64 (y84 + 4)) 5) < 5 then (if (0 : Int) ≤ (Int.tmod (wr .i64 (y84 + 1)) 5) ∧ (Int.tmod (wr .i64 (y84 + 1)) 5) < 5 then ((smithyref05_up.f (rd y1 (Int.tmod (wr .i64 (y84 + 1)) 5)) 1).bind fun t4 => (rec5 (wr .i64 (y93 + 1)) (y94.set (Int.toNat (wr .i64 (y84 + (wr .i64 (5 * y93))))) (bits .xor .u64 (bits .xor .u64 (rd x1 (wr .i64 (y84 + (wr .i64 (5 * y93))))) (rd y1 (Int.tmod (wr .i64 (y84 + 4)) 5))) t4)))) else none) else none) else none) else (smithyref05_Round.j6 y84 rec4 y94)
def smithyref05_Round.l5 (x1 : List Int) (y1 : List Int) (y84 : Int) (rec4 : Int → (List Int) → Option ((List Int))) : Nat → Int → (List Int) → Option ((List Int))
  | 0, _, _ => none
  | q + 1, y93, y94 => smithyref05_Round.b5 x1 y1 y84 rec4 (smithyref05_Round.l5 x1 y1 y84 rec4 q) y93 y94
def smithyref05_Round.b4 (k : Nat) (x1 : List Int) (x2 : Int) (y1 : List Int) (rec4 : Int → (List Int) → Option ((List Int))) (y84 : Int) (y85 : List Int) : Option ((List Int)) := if (decide (y84 < 5)) = true then (smithyref05_Round.l5 x1 y1 y84 rec4 k 0 y85) else (smithyref05_Round.j2 k x2 y85)
def smithyref05_Round.l4 (k : Nat) (x1 : List Int) (x2 : Int) (y1 : List Int) : Nat → Int → (List Int) → Option ((List Int))
  | 0, _, _ => none
  | q + 1, y84, y85 => smithyref05_Round.b4 k x1 x2 y1 (smithyref05_Round.l4 k x1 x2 y1 q) y84 y85
def smithyref05_Round.j1 (k : Nat) (x1 : List Int) (x2 : Int) (y1 : List Int) : Option ((List Int)) := smithyref05_Round.l4 k x1 x2 y1 k 0 [0, 0, 0, 0, 0, 0, 0, 0, 0, 0, 0, 0, 0, 0, 0, 0, 0, 0, 0, 0, 0, 0, 0, 0, 0]
def smithyref05_Round.j7 (y107 : Int) (rec6 : Int → (List Int) → Option ((List Int))) (y113 : List Int) : Option ((List Int)) := rec6 (wr .i64 (y107 + 1)) y113
def smithyref05_Round.b7 (x1 : List Int) (y107 : Int) (rec6 : Int → (List Int) → Option ((List Int))) (rec7 : Int → (List Int) → Option ((List Int))) (y116 : Int) (y117 : List Int) : Option ((List Int)) := if (decide (y116 < 5)) = true then (if (0 : Int) ≤ y107 ∧ y107 < 5 then (if (0 : Int) ≤ (wr .i64 (y107 + (wr .i64 (5 * y116)))) ∧ (wr .i64 (y107 + (wr .i64 (5 * y116)))) < 25 then (rec7 (wr .i64 (y116 + 1)) (y117.set (Int.toNat y107) (bits .xor .u64 (rd y117 y107) (rd x1 (wr .i64 (y107 + (wr .i64 (5 * y116)))))))) else none) else none) else (smithyref05_Round.j7 y107 rec6 y117)
def smithyref05_Round.l7 (x1 : List Int) (y107 : Int) (rec6 : Int → (List Int) → Option ((List Int))) : Nat → Int → (List Int) → Option ((List Int))
  | 0, _, _ => none
  | q + 1, y116, y117 => smithyref05_Round.b7 x1 y107 rec6 (smithyref05_Round.l7 x1 y107 rec6 q) y116 y117
def smithyref05_Round.b6 (k : Nat) (x1 : List Int) (x2 : Int) (rec6 : Int → (List Int) → Option ((List Int))) (y107 : Int) (y108 : List Int) : Option ((List Int)) := if (decide (y107 < 5)) = true then (smithyref05_Round.l7 x1 y107 rec6 k 0 y108) else (smithyref05_Round.j1 k x1 x2 y108)
def smithyref05_Round.l6 (k : Nat) (x1 : List Int) (x2 : Int) : Nat → Int → (List Int) → Option ((List Int))
  | 0, _, _ => none
  | q + 1, y107, y108 => smithyref05_Round.b6 k x1 x2 (smithyref05_Round.l6 k x1 x2 q) y107 y108
def smithyref05_Round.f (k : Nat) (x1 : List Int) (x2 : Int) : Option ((List Int)) := smithyref05_Round.l6 k x1 x2 k 0 [0, 0, 0, 0, 0]
theorem smithyref05_Round.ok (k : Nat) : smithyref05_Round.Ctr (smithyref05_Round.f k) := by
  intro x1 x2 r h0 mi w0 ok hm
  delta smithyref05_Round.f at h0
  refine c_enterX (n := 157) [(.agg [.ints .u64 x1 25]), (.v (.int .u64 x2))] (l := [(0, (.agg [.ints .u64 x1 25])), (1, (.v (.int .u64 x2)))]) Tryd.func88 rfl rfl rfl rfl ok hm ?_
  clear ok hm
  intro b0 hb a S
  refine c_region ?_
  refine s_box S rfl rfl rfl ?_; clear S a; intro g1 a w S
  refine s_alloc S Z100 rfl ⟨rfl, trivial⟩ rfl ?_; clear S a w; intro g2 a w S
  refine c_end ?_
  refine c_region ?_
  refine s_build S (ds := []) (dv := (.agg [.ints .u64 [0, 0, 0, 0, 0] 5])) rfl (fun _ => by kernel_rfl) ⟨rfl, trivial⟩ rfl ?_; clear S a; intro a S
  refine s_alloc S Z128 rfl ⟨rfl, trivial⟩ rfl ?_; clear S a w; intro g3 a w S
  refine s_store S rfl rfl rfl (s' := [.ints .u64 [0, 0, 0, 0, 0] 5]) .here T128 rfl rfl ?_; clear S w; intro w S
  refine c_end ?_
  refine wp_seq_k ?_
  intro K1 hK1
  have j1 : ∀ (m : Mem) (g37 : Nat) (g38 : Nat) (g39 : Nat) (y1 : List Int) (a : Act) (w : World), St 157 m b0 [(5, (.v (.pointer (some ⟨g37, 0, none⟩)))), (4, (.v (.pointer (some ⟨g38, 0, none⟩)))), (2, (.v (.pointer (some ⟨g39, 0, none⟩)))), (1, (.v (.int .u64 x2)))] [Res.cells g37 128 [.ints .u64 y1 5], Res.cells g38 100 [.ints .u64 [0, 0, 0, 0, 0, 0, 0, 0, 0, 0, 0, 0, 0, 0, 0, 0, 0, 0, 0, 0, 0, 0, 0, 0, 0] 25], Res.cells g39 100 [.ints .u64 x1 25]] a w → smithyref05_Round.j1 k x1 x2 y1 = some r → K1 a w := by
    intro m g37 g38 g39 y1 a w S h0
    delta smithyref05_Round.j1 at h0
    refine hK1 a w ?_
    refine c_region ?_
    refine s_build S (ds := []) (dv := (.agg [.ints .u64 [0, 0, 0, 0, 0, 0, 0, 0, 0, 0, 0, 0, 0, 0, 0, 0, 0, 0, 0, 0, 0, 0, 0, 0, 0] 25])) rfl (fun _ => by kernel_rfl) ⟨rfl, trivial⟩ rfl ?_; clear S a; intro a S
    refine s_alloc S Z100 rfl ⟨rfl, trivial⟩ rfl ?_; clear S a w; intro g40 a w S
    refine s_store S rfl rfl rfl (s' := [.ints .u64 [0, 0, 0, 0, 0, 0, 0, 0, 0, 0, 0, 0, 0, 0, 0, 0, 0, 0, 0, 0, 0, 0, 0, 0, 0] 25]) .here T100 rfl rfl ?_; clear S w; intro w S
    refine c_end ?_
    refine wp_seq_k ?_
    intro K2 hK2
    have j2 : ∀ (m : Mem) (g85 : Nat) (g86 : Nat) (y16 : List Int) (a : Act) (w : World), St 157 m b0 [(8, (.v (.pointer (some ⟨g85, 0, none⟩)))), (4, (.v (.pointer (some ⟨g86, 0, none⟩)))), (1, (.v (.int .u64 x2)))] [Res.cells g85 100 [.ints .u64 y16 25], Res.cells g86 100 [.ints .u64 [0, 0, 0, 0, 0, 0, 0, 0, 0, 0, 0, 0, 0, 0, 0, 0, 0, 0, 0, 0, 0, 0, 0, 0, 0] 25]] a w → smithyref05_Round.j2 k x2 y16 = some r → K2 a w := by
      intro m g85 g86 y16 a w S h0
      delta smithyref05_Round.j2 at h0
      refine hK2 a w ?_
      refine c_region ?_
      refine s_build S (ds := []) (dv := (.agg [.ints .u64 [0, 0, 0, 0, 0, 0, 0, 0, 0, 0, 0, 0, 0, 0, 0, 0, 0, 0, 0, 0, 0, 0, 0, 0, 0] 25])) rfl (fun _ => by kernel_rfl) ⟨rfl, trivial⟩ rfl ?_; clear S a; intro a S
      refine s_alloc S Z100 rfl ⟨rfl, trivial⟩ rfl ?_; clear S a w; intro g87 a w S
      refine s_store S rfl rfl rfl (s' := [.ints .u64 [0, 0, 0, 0, 0, 0, 0, 0, 0, 0, 0, 0, 0, 0, 0, 0, 0, 0, 0, 0, 0, 0, 0, 0, 0] 25]) .here T100 rfl rfl ?_; clear S w; intro w S
      refine c_end ?_
      refine c_region ?_
      refine s_iaddr S (o' := 0) rfl rfl Tryd.underlying100 T24 (by decide) (by decide) rfl rfl ?_; clear S a; intro a S
      refine s_loadi S (i := 0) rfl (.there .here) T24 .here rfl (by decide) (by decide) rfl ?_; clear S a; intro a S
      refine s_iaddr S (o' := 0) rfl rfl Tryd.underlying100 T24 (by decide) (by decide) rfl rfl ?_; clear S a; intro a S
      refine s_storei S (i := 0) rfl rfl .here T24 .here rfl (by decide) (by decide) ?_; clear S w; intro w S
      refine c_end ?_
      refine c_region ?_
      refine s_assign S rfl rfl ?_; clear S a; intro a S
      refine c_end ?_
      refine c_region ?_
      refine s_assign S rfl rfl ?_; clear S a; intro a S
      refine c_end ?_
      refine wp_seq_k ?_
      intro K3 hK3
      have j3 : ∀ (m : Mem) (g97 : Nat) (g98 : Nat) (y25 : List Int) (a : Act) (w : World), St 157 m b0 [(11, (.v (.pointer (some ⟨g97, 0, none⟩)))), (4, (.v (.pointer (some ⟨g98, 0, none⟩)))), (1, (.v (.int .u64 x2)))] [Res.cells g97 100 [.ints .u64 y25 25], Res.cells g98 100 [.ints .u64 [0, 0, 0, 0, 0, 0, 0, 0, 0, 0, 0, 0, 0, 0, 0, 0, 0, 0, 0, 0, 0, 0, 0, 0, 0] 25]] a w → smithyref05_Round.j3 k x2 y25 = some r → K3 a w := by
        intro m g97 g98 y25 a w S h0
        delta smithyref05_Round.j3 at h0
        refine hK3 a w ?_
        refine c_region ?_
        refine s_build S (ds := []) (dv := (.agg [.ints .u64 [0, 0, 0, 0, 0, 0, 0, 0, 0, 0, 0, 0, 0, 0, 0, 0, 0, 0, 0, 0, 0, 0, 0, 0, 0] 25])) rfl (fun _ => by kernel_rfl) ⟨rfl, trivial⟩ rfl ?_; clear S a; intro a S
        refine s_alloc S Z100 rfl ⟨rfl, trivial⟩ rfl ?_; clear S a w; intro g99 a w S
        refine s_store S rfl rfl rfl (s' := [.ints .u64 [0, 0, 0, 0, 0, 0, 0, 0, 0, 0, 0, 0, 0, 0, 0, 0, 0, 0, 0, 0, 0, 0, 0, 0, 0] 25]) .here T100 rfl rfl ?_; clear S w; intro w S
        refine c_end ?_
        refine wp_seq_k ?_
        intro K4 hK4
        have j4 : ∀ (m : Mem) (g133 : Nat) (g134 : Nat) (y40 : List Int) (a : Act) (w : World), St 157 m b0 [(16, (.v (.pointer (some ⟨g133, 0, none⟩)))), (4, (.v (.pointer (some ⟨g134, 0, none⟩)))), (1, (.v (.int .u64 x2)))] [Res.cells g133 100 [.ints .u64 y40 25], Res.cells g134 100 [.ints .u64 [0, 0, 0, 0, 0, 0, 0, 0, 0, 0, 0, 0, 0, 0, 0, 0, 0, 0, 0, 0, 0, 0, 0, 0, 0] 25]] a w → smithyref05_Round.j4 x2 y40 = some r → K4 a w := by
          intro m g133 g134 y40 a w S h0
          delta smithyref05_Round.j4 at h0
          refine hK4 a w ?_
          refine c_region ?_
          refine s_iaddr S (o' := 0) rfl rfl Tryd.underlying100 T24 (by decide) (by decide) rfl rfl ?_; clear S a; intro a S
          refine s_loadi S (i := 0) rfl .here T24 .here rfl (by decide) (by decide) rfl ?_; clear S a; intro a S
          refine s_move S rfl rfl ?_; clear S a; intro a S
          refine s_bin S rfl rfl rfl rfl ?_; clear S a; intro a S
          refine s_iaddr S (o' := 0) rfl rfl Tryd.underlying100 T24 (by decide) (by decide) rfl rfl ?_; clear S a; intro a S
          refine s_storei S (i := 0) rfl rfl .here T24 .here rfl (by decide) (by decide) ?_; clear S w; intro w S
          refine c_end ?_
          refine c_region ?_
          refine s_loada S rfl .here T100 (s' := [.ints .u64 (y40.set (Int.toNat 0) (bits .xor .u64 (rd y40 0) x2)) 25]) rfl rfl ?_; clear S a; intro a S
          refine s_store S rfl rfl rfl (s' := [.ints .u64 (y40.set (Int.toNat 0) (bits .xor .u64 (rd y40 0) x2)) 25]) (.there .here) T100 rfl rfl ?_; clear S w; intro w S
          refine c_end ?_
          refine wp_ret ?_
          obtain rfl := Option.some.inj h0
          exact b_ret1 (d := (.agg [.ints .u64 (y40.set (Int.toNat 0) (bits .xor .u64 (rd y40 0) x2)) 25])) S rfl (resD_cell rfl (.there .here) T100 rfl rfl) fun ok => S.retX (Hx := []) hb _ _ (() : Unit) .nil ok
        refine c_region ?_
        refine s_assign S rfl rfl ?_; clear S a; intro a S
        refine c_end ?_
        refine wp_block ?_
        refine c_loop (fun q1 a w => ∃ (m : Mem) (y53 : Int) (g165 : Nat) (g166 : Nat) (g167 : Nat) (y54 : List Int), St 157 m b0 [(17, (.v (.int .i64 y53))), (16, (.v (.pointer (some ⟨g165, 0, none⟩)))), (11, (.v (.pointer (some ⟨g166, 0, none⟩)))), (4, (.v (.pointer (some ⟨g167, 0, none⟩)))), (1, (.v (.int .u64 x2)))] [Res.cells g165 100 [.ints .u64 y54 25], Res.cells g166 100 [.ints .u64 y25 25], Res.cells g167 100 [.ints .u64 [0, 0, 0, 0, 0, 0, 0, 0, 0, 0, 0, 0, 0, 0, 0, 0, 0, 0, 0, 0, 0, 0, 0, 0, 0] 25]] a w ∧ smithyref05_Round.l1 k x2 y25 q1 y53 y54 = some r) ?_ ?_ (k := k) ⟨_, 0, g99, g97, g98, [0, 0, 0, 0, 0, 0, 0, 0, 0, 0, 0, 0, 0, 0, 0, 0, 0, 0, 0, 0, 0, 0, 0, 0, 0], (S.sub ⟨rfl, rfl, rfl, rfl, rfl, trivial⟩ (.cons .here (.cons .here (.cons .here .nil)))), h0⟩
        · rintro a w ⟨m, y53, g165, g166, g167, y54, S, h0⟩
          exact (nomatch (show (none : Option ((List Int))) = some r from h0))
        · clear S h0
          rintro q1 a w ⟨m, y53, g165, g166, g167, y54, S, h0⟩
          replace h0 : smithyref05_Round.b1 k x2 y25 (smithyref05_Round.l1 k x2 y25 q1) y53 y54 = some r := h0
          delta smithyref05_Round.b1 at h0
          refine wp_seq ?_
          refine c_region ?_
          refine s_move S rfl rfl ?_; clear S a; intro a S
          refine s_bin S rfl rfl rfl rfl ?_; clear S a; intro a S
          refine c_end ?_
          rcases ite_of h0 with ⟨c1, h1⟩ | ⟨c1, h1⟩ <;> clear h0
          · refine c_condT S rfl c1 ?_
            refine wp_skip ?_
            refine x_thenN ?_
            refine wp_seq_k ?_
            intro K5 hK5
            have j5 : ∀ (m : Mem) (g177 : Nat) (g178 : Nat) (g179 : Nat) (y59 : List Int) (a : Act) (w : World), St 157 m b0 [(17, (.v (.int .i64 y53))), (16, (.v (.pointer (some ⟨g177, 0, none⟩)))), (11, (.v (.pointer (some ⟨g178, 0, none⟩)))), (4, (.v (.pointer (some ⟨g179, 0, none⟩)))), (1, (.v (.int .u64 x2)))] [Res.cells g177 100 [.ints .u64 y59 25], Res.cells g178 100 [.ints .u64 y25 25], Res.cells g179 100 [.ints .u64 [0, 0, 0, 0, 0, 0, 0, 0, 0, 0, 0, 0, 0, 0, 0, 0, 0, 0, 0, 0, 0, 0, 0, 0, 0] 25]] a w → smithyref05_Round.j5 y53 (smithyref05_Round.l1 k x2 y25 q1) y59 = some r → K5 a w := by
              intro m g177 g178 g179 y59 a w S h0
              delta smithyref05_Round.j5 at h0
              refine hK5 a w ?_
              refine c_region' ?_
              refine s_move S rfl rfl ?_; clear S a; intro a S
              refine s_bin S rfl rfl rfl rfl ?_; clear S a; intro a S
              refine s_assign S rfl rfl ?_; clear S a; intro a S
              refine c_end' ?_
              refine x_thenN ?_
              exact ⟨_, (wr .i64 (y53 + 1)), g177, g178, g179, y59, (S.sub ⟨rfl, rfl, rfl, rfl, rfl, trivial⟩ (.cons .here (.cons .here (.cons .here .nil)))), h0⟩
            refine wp_block ?_
            refine c_region ?_
            refine s_assign S rfl rfl ?_; clear S a; intro a S
            refine c_end ?_
            refine wp_block ?_
            refine c_loop (fun q2 a w => ∃ (m : Mem) (y62 : Int) (g186 : Nat) (g187 : Nat) (g188 : Nat) (y63 : List Int), St 157 m b0 [(18, (.v (.int .i64 y62))), (17, (.v (.int .i64 y53))), (16, (.v (.pointer (some ⟨g186, 0, none⟩)))), (11, (.v (.pointer (some ⟨g187, 0, none⟩)))), (4, (.v (.pointer (some ⟨g188, 0, none⟩)))), (1, (.v (.int .u64 x2)))] [Res.cells g186 100 [.ints .u64 y63 25], Res.cells g187 100 [.ints .u64 y25 25], Res.cells g188 100 [.ints .u64 [0, 0, 0, 0, 0, 0, 0, 0, 0, 0, 0, 0, 0, 0, 0, 0, 0, 0, 0, 0, 0, 0, 0, 0, 0] 25]] a w ∧ smithyref05_Round.l2 y25 y53 (smithyref05_Round.l1 k x2 y25 q1) q2 y62 y63 = some r) ?_ ?_ (k := k) ⟨_, 0, g165, g166, g167, y54, (S.sub ⟨rfl, rfl, rfl, rfl, rfl, rfl, trivial⟩ (.cons .here (.cons .here (.cons .here .nil)))), h1⟩
            · rintro a w ⟨m, y62, g186, g187, g188, y63, S, h0⟩
              exact (nomatch (show (none : Option ((List Int))) = some r from h0))
            · clear S h1
              rintro q2 a w ⟨m, y62, g186, g187, g188, y63, S, h0⟩
              replace h0 : smithyref05_Round.b2 y25 y53 (smithyref05_Round.l1 k x2 y25 q1) (smithyref05_Round.l2 y25 y53 (smithyref05_Round.l1 k x2 y25 q1) q2) y62 y63 = some r := h0
              delta smithyref05_Round.b2 at h0
              refine wp_seq ?_
              refine c_region ?_
              refine s_move S rfl rfl ?_; clear S a; intro a S
              refine s_bin S rfl rfl rfl rfl ?_; clear S a; intro a S
              refine c_end ?_
              rcases ite_of h0 with ⟨c2, h1⟩ | ⟨c2, h1⟩ <;> clear h0
              · refine c_condT S rfl c2 ?_
                refine wp_skip ?_
                refine x_thenN ?_
                refine wp_seq ?_
                refine wp_block ?_
                refine c_heldS S (.take 0 (.take 1 (.take 2 (.take 3 (.take 4 (.take 5 (.take 6 (.take 7 (.take 8 (.take 9 (.take 10 (.take 11 (.take 12 (.take 13 (.take 14 (.take 15 (.take 16 (.take 17 (.take 18 (.take 19 (.take 20 (.take 21 (.take 22 (.take 23 (.take 24 (.take 25 (.take 26 (.take 27 (.take 28 (.take 29 (.alts (.run 30 false .done .nil)))))))))))))))))))))))))))))))) 30 [Res.cells g186 100 [.ints .u64 y63 25], Res.cells g187 100 [.ints .u64 y25 25], Res.cells g188 100 [.ints .u64 [0, 0, 0, 0, 0, 0, 0, 0, 0, 0, 0, 0, 0, 0, 0, 0, 0, 0, 0, 0, 0, 0, 0, 0, 0] 25]] (.cons .here (.cons .here (.cons .here .nil))) ⟨Res.stay_cells, Res.stay_cells, Res.stay_cells, trivial⟩ [(18, (.v (.int .i64 y62))), (17, (.v (.int .i64 y53))), (16, (.v (.pointer (some ⟨g186, 0, none⟩)))), (11, (.v (.pointer (some ⟨g187, 0, none⟩))))] ⟨rfl, rfl, rfl, rfl, trivial⟩ (by kernel_rfl) (by kernel_rfl) ?_; clear S; intro w S CL hw le
                refine h_move S CL hw le ⟨rfl, rfl, rfl, rfl, trivial⟩ rfl rfl rfl trivial ?_; clear S CL a; intro a S CL
                refine h_move S CL hw le ⟨rfl, rfl, rfl, rfl, rfl, trivial⟩ rfl rfl rfl trivial ?_; clear S CL a; intro a S CL
                refine h_bin S CL hw le ⟨rfl, rfl, rfl, rfl, rfl, rfl, trivial⟩ rfl rfl rfl rfl rfl trivial ?_; clear S CL a; intro a S CL
                refine h_bin S CL hw le ⟨rfl, rfl, rfl, rfl, rfl, rfl, rfl, trivial⟩ rfl rfl rfl rfl rfl trivial ?_; clear S CL a; intro a S CL
                refine h_move S CL hw le ⟨rfl, rfl, rfl, rfl, rfl, rfl, rfl, rfl, trivial⟩ rfl rfl rfl trivial ?_; clear S CL a; intro a S CL
                refine h_move S CL hw le ⟨rfl, rfl, rfl, rfl, rfl, rfl, rfl, rfl, rfl, trivial⟩ rfl rfl rfl trivial ?_; clear S CL a; intro a S CL
                refine h_bin S CL hw le ⟨rfl, rfl, rfl, rfl, rfl, rfl, rfl, rfl, rfl, rfl, trivial⟩ rfl rfl rfl rfl rfl trivial ?_; clear S CL a; intro a S CL
                refine h_bin S CL hw le ⟨rfl, rfl, rfl, rfl, rfl, rfl, rfl, rfl, rfl, rfl, rfl, trivial⟩ rfl rfl rfl rfl rfl trivial ?_; clear S CL a; intro a S CL
                obtain ⟨c3, h2⟩ := chk_of h1; clear h1
                refine h_iaddr S CL hw le ⟨rfl, rfl, rfl, rfl, rfl, rfl, rfl, rfl, rfl, rfl, rfl, rfl, trivial⟩ rfl rfl Tryd.underlying100 T24 c3.1 c3.2 (mul1 _ _) rfl rfl trivial ?_; clear S CL a; intro a S CL
                refine h_loadi S CL hw le ⟨rfl, rfl, rfl, rfl, rfl, rfl, rfl, rfl, rfl, rfl, rfl, rfl, rfl, trivial⟩ (i := (wr .i64 (y53 + (wr .i64 (5 * y62))))) rfl (.there .here) T24 .here rfl c3.1 c3.2 rfl rfl trivial ?_; clear S CL a; intro a S CL
                refine h_move S CL hw le ⟨rfl, rfl, rfl, rfl, rfl, rfl, rfl, rfl, rfl, rfl, rfl, rfl, rfl, rfl, trivial⟩ rfl rfl rfl trivial ?_; clear S CL a; intro a S CL
                refine h_bin S CL hw le ⟨rfl, rfl, rfl, rfl, rfl, rfl, rfl, rfl, rfl, rfl, rfl, rfl, rfl, rfl, rfl, trivial⟩ rfl rfl rfl rfl rfl trivial ?_; clear S CL a; intro a S CL
                refine h_rem S CL hw le ⟨rfl, rfl, rfl, rfl, rfl, rfl, rfl, rfl, rfl, rfl, rfl, rfl, rfl, rfl, rfl, rfl, trivial⟩ rfl rfl (by decide) rfl rfl trivial ?_; clear S CL a; intro a S CL
                refine h_move S CL hw le ⟨rfl, rfl, rfl, rfl, rfl, rfl, rfl, rfl, rfl, rfl, rfl, rfl, rfl, rfl, rfl, rfl, rfl, trivial⟩ rfl rfl rfl trivial ?_; clear S CL a; intro a S CL
                refine h_bin S CL hw le ⟨rfl, rfl, rfl, rfl, rfl, rfl, rfl, rfl, rfl, rfl, rfl, rfl, rfl, rfl, rfl, rfl, rfl, rfl, trivial⟩ rfl rfl rfl rfl rfl trivial ?_; clear S CL a; intro a S CL
                refine h_bin S CL hw le ⟨rfl, rfl, rfl, rfl, rfl, rfl, rfl, rfl, rfl, rfl, rfl, rfl, rfl, rfl, rfl, rfl, rfl, rfl, rfl, trivial⟩ rfl rfl rfl rfl rfl trivial ?_; clear S CL a; intro a S CL
                obtain ⟨c4, h3⟩ := chk_of h2; clear h2
                refine h_iaddr S CL hw le ⟨rfl, rfl, rfl, rfl, rfl, rfl, rfl, rfl, rfl, rfl, rfl, rfl, rfl, rfl, rfl, rfl, rfl, rfl, rfl, rfl, trivial⟩ rfl rfl Tryd.underlying100 T24 c4.1 c4.2 (mul1 _ _) rfl rfl trivial ?_; clear S CL a; intro a S CL
                refine h_loadi S CL hw le ⟨rfl, rfl, rfl, rfl, rfl, rfl, rfl, rfl, rfl, rfl, rfl, rfl, rfl, rfl, rfl, rfl, rfl, rfl, rfl, rfl, rfl, trivial⟩ (i := (wr .i64 ((Int.tmod (wr .i64 (y53 + 1)) 5) + (wr .i64 (5 * y62))))) rfl (.there .here) T24 .here rfl c4.1 c4.2 rfl rfl trivial ?_; clear S CL a; intro a S CL
                refine h_bin S CL hw le ⟨rfl, rfl, rfl, rfl, rfl, rfl, rfl, rfl, rfl, rfl, rfl, rfl, rfl, rfl, rfl, rfl, rfl, rfl, rfl, rfl, rfl, rfl, trivial⟩ rfl rfl rfl rfl rfl trivial ?_; clear S CL a; intro a S CL
                refine h_move S CL hw le ⟨rfl, rfl, rfl, rfl, rfl, rfl, rfl, rfl, rfl, rfl, rfl, rfl, rfl, rfl, rfl, rfl, rfl, rfl, rfl, rfl, rfl, rfl, rfl, trivial⟩ rfl rfl rfl trivial ?_; clear S CL a; intro a S CL
                refine h_bin S CL hw le ⟨rfl, rfl, rfl, rfl, rfl, rfl, rfl, rfl, rfl, rfl, rfl, rfl, rfl, rfl, rfl, rfl, rfl, rfl, rfl, rfl, rfl, rfl, rfl, rfl, trivial⟩ rfl rfl rfl rfl rfl trivial ?_; clear S CL a; intro a S CL
                refine h_rem S CL hw le ⟨rfl, rfl, rfl, rfl, rfl, rfl, rfl, rfl, rfl, rfl, rfl, rfl, rfl, rfl, rfl, rfl, rfl, rfl, rfl, rfl, rfl, rfl, rfl, rfl, rfl, trivial⟩ rfl rfl (by decide) rfl rfl trivial ?_; clear S CL a; intro a S CL
                refine h_move S CL hw le ⟨rfl, rfl, rfl, rfl, rfl, rfl, rfl, rfl, rfl, rfl, rfl, rfl, rfl, rfl, rfl, rfl, rfl, rfl, rfl, rfl, rfl, rfl, rfl, rfl, rfl, rfl, trivial⟩ rfl rfl rfl trivial ?_; clear S CL a; intro a S CL
                refine h_bin S CL hw le ⟨rfl, rfl, rfl, rfl, rfl, rfl, rfl, rfl, rfl, rfl, rfl, rfl, rfl, rfl, rfl, rfl, rfl, rfl, rfl, rfl, rfl, rfl, rfl, rfl, rfl, rfl, rfl, trivial⟩ rfl rfl rfl rfl rfl trivial ?_; clear S CL a; intro a S CL
                refine h_bin S CL hw le ⟨rfl, rfl, rfl, rfl, rfl, rfl, rfl, rfl, rfl, rfl, rfl, rfl, rfl, rfl, rfl, rfl, rfl, rfl, rfl, rfl, rfl, rfl, rfl, rfl, rfl, rfl, rfl, rfl, trivial⟩ rfl rfl rfl rfl rfl trivial ?_; clear S CL a; intro a S CL
                obtain ⟨c5, h4⟩ := chk_of h3; clear h3
                refine h_iaddr S CL hw le ⟨rfl, rfl, rfl, rfl, rfl, rfl, rfl, rfl, rfl, rfl, rfl, rfl, rfl, rfl, rfl, rfl, rfl, rfl, rfl, rfl, rfl, rfl, rfl, rfl, rfl, rfl, rfl, rfl, rfl, trivial⟩ rfl rfl Tryd.underlying100 T24 c5.1 c5.2 (mul1 _ _) rfl rfl trivial ?_; clear S CL a; intro a S CL
                refine h_loadi S CL hw le ⟨rfl, rfl, rfl, rfl, rfl, rfl, rfl, rfl, rfl, rfl, rfl, rfl, rfl, rfl, rfl, rfl, rfl, rfl, rfl, rfl, rfl, rfl, rfl, rfl, rfl, rfl, rfl, rfl, rfl, rfl, trivial⟩ (i := (wr .i64 ((Int.tmod (wr .i64 (y53 + 2)) 5) + (wr .i64 (5 * y62))))) rfl (.there .here) T24 .here rfl c5.1 c5.2 rfl rfl trivial ?_; clear S CL a; intro a S CL
                refine h_bin S CL hw le ⟨rfl, rfl, rfl, rfl, rfl, rfl, rfl, rfl, rfl, rfl, rfl, rfl, rfl, rfl, rfl, rfl, rfl, rfl, rfl, rfl, rfl, rfl, rfl, rfl, rfl, rfl, rfl, rfl, rfl, rfl, rfl, trivial⟩ rfl rfl rfl rfl rfl trivial ?_; clear S CL a; intro a S CL
                refine h_bin S CL hw le ⟨rfl, rfl, rfl, rfl, rfl, rfl, rfl, rfl, rfl, rfl, rfl, rfl, rfl, rfl, rfl, rfl, rfl, rfl, rfl, rfl, rfl, rfl, rfl, rfl, rfl, rfl, rfl, rfl, rfl, rfl, rfl, rfl, trivial⟩ rfl rfl rfl rfl rfl trivial ?_; clear S CL a; intro a S CL
                refine h_iaddr S CL hw le ⟨rfl, rfl, rfl, rfl, rfl, rfl, rfl, rfl, rfl, rfl, rfl, rfl, rfl, rfl, rfl, rfl, rfl, rfl, rfl, rfl, rfl, rfl, rfl, rfl, rfl, rfl, rfl, rfl, rfl, rfl, rfl, rfl, rfl, trivial⟩ rfl rfl Tryd.underlying100 T24 c3.1 c3.2 (mul1 _ _) rfl rfl trivial ?_; clear S CL a; intro a S CL
                refine h_run' S rfl trivial ?_
                refine s_storei S (i := (wr .i64 (y53 + (wr .i64 (5 * y62))))) rfl rfl .here T24 .here rfl c3.1 c3.2 ?_; clear S; intro w S
                refine h_back ⟨fun h => (nomatch h), ?_⟩
                refine h_done ?_; clear CL hw le
                refine x_blockN ?_
                refine x_thenN ?_
                refine c_region' ?_
                refine s_move S rfl rfl ?_; clear S a; intro a S
                refine s_bin S rfl rfl rfl rfl ?_; clear S a; intro a S
                refine s_assign S rfl rfl ?_; clear S a; intro a S
                refine c_end' ?_
                refine x_thenN ?_
                exact ⟨_, (wr .i64 (y62 + 1)), g186, g187, g188, (y63.set (Int.toNat (wr .i64 (y53 + (wr .i64 (5 * y62))))) (bits .xor .u64 (rd y25 (wr .i64 (y53 + (wr .i64 (5 * y62))))) (bits .and .u64 (wr .u64 (18446744073709551615 - (rd y25 (wr .i64 ((Int.tmod (wr .i64 (y53 + 1)) 5) + (wr .i64 (5 * y62))))))) (rd y25 (wr .i64 ((Int.tmod (wr .i64 (y53 + 2)) 5) + (wr .i64 (5 * y62)))))))), (S.sub ⟨rfl, rfl, rfl, rfl, rfl, rfl, trivial⟩ (.cons .here (.cons .here (.cons .here .nil)))), h4⟩
              · refine c_condF S rfl c2 ?_
                refine wp_exit ?_
                refine x_thenX ?_
                refine x_thenX ?_
                refine x_blockX ?_
                refine x_blockN ?_
                refine x_thenN ?_
                exact j5 _ g186 g187 g188 y63 a w (S.sub ⟨rfl, rfl, rfl, rfl, rfl, trivial⟩ (.cons .here (.cons .here (.cons .here .nil)))) h1
          · refine c_condF S rfl c1 ?_
            refine wp_exit ?_
            refine x_thenX ?_
            refine x_thenX ?_
            refine x_blockX ?_
            refine x_thenN ?_
            exact j4 _ g165 g167 y54 a w (S.sub ⟨rfl, rfl, rfl, trivial⟩ (.cons .here (.cons (.there .here) .nil))) h1
      refine c_region ?_
      refine s_assign S rfl rfl ?_; clear S a; intro a S
      refine c_end ?_
      refine wp_block ?_
      refine c_loop (fun q3 a w => ∃ (m : Mem) (y68 : Int) (y69 : Int) (y70 : Int) (g195 : Nat) (g196 : Nat) (g197 : Nat) (y71 : List Int), St 157 m b0 [(14, (.v (.int .i64 y68))), (13, (.v (.int .i64 y69))), (12, (.v (.int .i64 y70))), (11, (.v (.pointer (some ⟨g195, 0, none⟩)))), (8, (.v (.pointer (some ⟨g196, 0, none⟩)))), (4, (.v (.pointer (some ⟨g197, 0, none⟩)))), (1, (.v (.int .u64 x2)))] [Res.cells g195 100 [.ints .u64 y71 25], Res.cells g196 100 [.ints .u64 y16 25], Res.cells g197 100 [.ints .u64 [0, 0, 0, 0, 0, 0, 0, 0, 0, 0, 0, 0, 0, 0, 0, 0, 0, 0, 0, 0, 0, 0, 0, 0, 0] 25]] a w ∧ smithyref05_Round.l3 k x2 y16 q3 y68 y69 y70 y71 = some r) ?_ ?_ (k := k) ⟨_, 0, 0, 1, g87, g85, g86, ([0, 0, 0, 0, 0, 0, 0, 0, 0, 0, 0, 0, 0, 0, 0, 0, 0, 0, 0, 0, 0, 0, 0, 0, 0].set (Int.toNat 0) (rd y16 0)), (S.sub ⟨rfl, rfl, rfl, rfl, rfl, rfl, rfl, trivial⟩ (.cons .here (.cons .here (.cons .here .nil)))), h0⟩
      · rintro a w ⟨m, y68, y69, y70, g195, g196, g197, y71, S, h0⟩
        exact (nomatch (show (none : Option ((List Int))) = some r from h0))
      · clear S h0
        rintro q3 a w ⟨m, y68, y69, y70, g195, g196, g197, y71, S, h0⟩
        replace h0 : smithyref05_Round.b3 k x2 y16 (smithyref05_Round.l3 k x2 y16 q3) y68 y69 y70 y71 = some r := h0
        delta smithyref05_Round.b3 at h0
        refine wp_seq ?_
        refine c_region ?_
        refine s_move S rfl rfl ?_; clear S a; intro a S
        refine s_bin S rfl rfl rfl rfl ?_; clear S a; intro a S
        refine c_end ?_
        rcases ite_of h0 with ⟨c6, h1⟩ | ⟨c6, h1⟩ <;> clear h0
        · refine c_condT S rfl c6 ?_
          refine wp_skip ?_
          refine x_thenN ?_
          refine wp_seq ?_
          refine wp_block ?_
          refine c_region ?_
          refine s_move S rfl rfl ?_; clear S a; intro a S
          refine s_move S rfl rfl ?_; clear S a; intro a S
          refine s_bin S rfl rfl rfl rfl ?_; clear S a; intro a S
          refine s_move S rfl rfl ?_; clear S a; intro a S
          refine s_bin S rfl rfl rfl rfl ?_; clear S a; intro a S
          refine s_bin S rfl rfl rfl rfl ?_; clear S a; intro a S
          refine s_rem S rfl rfl (by decide) rfl ?_; clear S a; intro a S
          refine s_bin S rfl rfl rfl rfl ?_; clear S a; intro a S
          refine s_bin S rfl rfl rfl rfl ?_; clear S a; intro a S
          refine s_move S rfl rfl ?_; clear S a; intro a S
          refine s_move S rfl rfl ?_; clear S a; intro a S
          refine s_bin S rfl rfl rfl rfl ?_; clear S a; intro a S
          refine s_bin S rfl rfl rfl rfl ?_; clear S a; intro a S
          obtain ⟨c7, h2⟩ := chk_of h1; clear h1
          refine s_iaddr S rfl rfl Tryd.underlying100 T24 c7.1 c7.2 (mul1 _ _) rfl ?_; clear S a; intro a S
          refine s_loadi S (i := (wr .i64 (y70 + (wr .i64 (5 * y69))))) rfl (.there .here) T24 .here rfl c7.1 c7.2 rfl ?_; clear S a; intro a S
          refine s_move S rfl rfl ?_; clear S a; intro a S
          refine s_bin S rfl rfl rfl rfl ?_; clear S a; intro a S
          refine s_move S rfl rfl ?_; clear S a; intro a S
          refine s_bin S rfl rfl rfl rfl ?_; clear S a; intro a S
          refine s_bin S rfl rfl rfl rfl ?_; clear S a; intro a S
          refine s_quo S rfl rfl (by decide) rfl ?_; clear S a; intro a S
          obtain ⟨t1, et1, h3⟩ := bind_of h2; clear h2
          refine s_callP S (fun (ch : Unit) => ((.v (.int .u64 t1)) : D)) N94 rfl rfl (smithyref05_up.ok (rd y16 (wr .i64 (y70 + (wr .i64 (5 * y69))))) (wr .i64 (Int.tdiv (wr .i64 ((wr .i64 (y68 + 1)) * (wr .i64 (y68 + 2)))) 2)) t1 et1 _ _) ?_; clear S a w; intro ch1 m le1 a w S
          obtain ⟨c8, h4⟩ := chk_of h3; clear h3
          refine s_iaddr S rfl rfl Tryd.underlying100 T24 c8.1 c8.2 (mul1 _ _) rfl ?_; clear S a; intro a S
          refine s_storei S (i := (wr .i64 (y69 + (wr .i64 (5 * (Int.tmod (wr .i64 ((wr .i64 (2 * y70)) + (wr .i64 (3 * y69)))) 5)))))) rfl rfl .here T24 .here rfl c8.1 c8.2 ?_; clear S w; intro w S
          refine c_end ?_
          refine c_region ?_
          refine s_move S rfl rfl ?_; clear S a; intro a S
          refine s_bin S rfl rfl rfl rfl ?_; clear S a; intro a S
          refine s_move S rfl rfl ?_; clear S a; intro a S
          refine s_bin S rfl rfl rfl rfl ?_; clear S a; intro a S
          refine s_bin S rfl rfl rfl rfl ?_; clear S a; intro a S
          refine s_rem S rfl rfl (by decide) rfl ?_; clear S a; intro a S
          refine s_assign S rfl rfl ?_; clear S a; intro a S
          refine c_end ?_
          refine c_region ?_
          refine s_move S rfl rfl ?_; clear S a; intro a S
          refine s_assign S rfl rfl ?_; clear S a; intro a S
          refine c_end ?_
          refine c_region' ?_
          refine s_move S rfl rfl ?_; clear S a; intro a S
          refine s_assign S rfl rfl ?_; clear S a; intro a S
          refine c_end' ?_
          refine x_blockN ?_
          refine x_thenN ?_
          refine c_region' ?_
          refine s_move S rfl rfl ?_; clear S a; intro a S
          refine s_bin S rfl rfl rfl rfl ?_; clear S a; intro a S
          refine s_assign S rfl rfl ?_; clear S a; intro a S
          refine c_end' ?_
          refine x_thenN ?_
          exact ⟨_, (wr .i64 (y68 + 1)), (Int.tmod (wr .i64 ((wr .i64 (2 * y70)) + (wr .i64 (3 * y69)))) 5), y69, g195, g196, g197, (y71.set (Int.toNat (wr .i64 (y69 + (wr .i64 (5 * (Int.tmod (wr .i64 ((wr .i64 (2 * y70)) + (wr .i64 (3 * y69)))) 5)))))) t1), (S.sub ⟨rfl, rfl, rfl, rfl, rfl, rfl, rfl, trivial⟩ (.cons .here (.cons .here (.cons .here .nil)))), h4⟩
        · refine c_condF S rfl c6 ?_
          refine wp_exit ?_
          refine x_thenX ?_
          refine x_thenX ?_
          refine x_blockX ?_
          refine x_thenN ?_
          exact j3 _ g195 g197 y71 a w (S.sub ⟨rfl, rfl, rfl, trivial⟩ (.cons .here (.cons (.there .here) .nil))) h1
    refine c_region ?_
    refine s_assign S rfl rfl ?_; clear S a; intro a S
    refine c_end ?_
    refine wp_block ?_
    refine c_loop (fun q4 a w => ∃ (m : Mem) (y84 : Int) (g238 : Nat) (g239 : Nat) (g240 : Nat) (g241 : Nat) (y85 : List Int), St 157 m b0 [(9, (.v (.int .i64 y84))), (8, (.v (.pointer (some ⟨g238, 0, none⟩)))), (5, (.v (.pointer (some ⟨g239, 0, none⟩)))), (4, (.v (.pointer (some ⟨g240, 0, none⟩)))), (2, (.v (.pointer (some ⟨g241, 0, none⟩)))), (1, (.v (.int .u64 x2)))] [Res.cells g238 100 [.ints .u64 y85 25], Res.cells g239 128 [.ints .u64 y1 5], Res.cells g240 100 [.ints .u64 [0, 0, 0, 0, 0, 0, 0, 0, 0, 0, 0, 0, 0, 0, 0, 0, 0, 0, 0, 0, 0, 0, 0, 0, 0] 25], Res.cells g241 100 [.ints .u64 x1 25]] a w ∧ smithyref05_Round.l4 k x1 x2 y1 q4 y84 y85 = some r) ?_ ?_ (k := k) ⟨_, 0, g40, g37, g38, g39, [0, 0, 0, 0, 0, 0, 0, 0, 0, 0, 0, 0, 0, 0, 0, 0, 0, 0, 0, 0, 0, 0, 0, 0, 0], (S.sub ⟨rfl, rfl, rfl, rfl, rfl, rfl, trivial⟩ (.cons .here (.cons .here (.cons .here (.cons .here .nil))))), h0⟩
    · rintro a w ⟨m, y84, g238, g239, g240, g241, y85, S, h0⟩
      exact (nomatch (show (none : Option ((List Int))) = some r from h0))
    · clear S h0
      rintro q4 a w ⟨m, y84, g238, g239, g240, g241, y85, S, h0⟩
      replace h0 : smithyref05_Round.b4 k x1 x2 y1 (smithyref05_Round.l4 k x1 x2 y1 q4) y84 y85 = some r := h0
      delta smithyref05_Round.b4 at h0
      refine wp_seq ?_
      refine c_region ?_
      refine s_move S rfl rfl ?_; clear S a; intro a S
      refine s_bin S rfl rfl rfl rfl ?_; clear S a; intro a S
      refine c_end ?_
      rcases ite_of h0 with ⟨c9, h1⟩ | ⟨c9, h1⟩ <;> clear h0
      · refine c_condT S rfl c9 ?_
        refine wp_skip ?_
        refine x_thenN ?_
        refine wp_seq_k ?_
        intro K6 hK6
        have j6 : ∀ (m : Mem) (g254 : Nat) (g255 : Nat) (g256 : Nat) (g257 : Nat) (y90 : List Int) (a : Act) (w : World), St 157 m b0 [(9, (.v (.int .i64 y84))), (8, (.v (.pointer (some ⟨g254, 0, none⟩)))), (5, (.v (.pointer (some ⟨g255, 0, none⟩)))), (4, (.v (.pointer (some ⟨g256, 0, none⟩)))), (2, (.v (.pointer (some ⟨g257, 0, none⟩)))), (1, (.v (.int .u64 x2)))] [Res.cells g254 100 [.ints .u64 y90 25], Res.cells g255 128 [.ints .u64 y1 5], Res.cells g256 100 [.ints .u64 [0, 0, 0, 0, 0, 0, 0, 0, 0, 0, 0, 0, 0, 0, 0, 0, 0, 0, 0, 0, 0, 0, 0, 0, 0] 25], Res.cells g257 100 [.ints .u64 x1 25]] a w → smithyref05_Round.j6 y84 (smithyref05_Round.l4 k x1 x2 y1 q4) y90 = some r → K6 a w := by
          intro m g254 g255 g256 g257 y90 a w S h0
          delta smithyref05_Round.j6 at h0
          refine hK6 a w ?_
          refine c_region' ?_
          refine s_move S rfl rfl ?_; clear S a; intro a S
          refine s_bin S rfl rfl rfl rfl ?_; clear S a; intro a S
          refine s_assign S rfl rfl ?_; clear S a; intro a S
          refine c_end' ?_
          refine x_thenN ?_
          exact ⟨_, (wr .i64 (y84 + 1)), g254, g255, g256, g257, y90, (S.sub ⟨rfl, rfl, rfl, rfl, rfl, rfl, trivial⟩ (.cons .here (.cons .here (.cons .here (.cons .here .nil))))), h0⟩
        refine wp_block ?_
        refine c_region ?_
        refine s_assign S rfl rfl ?_; clear S a; intro a S
        refine c_end ?_
        refine wp_block ?_
        refine c_loop (fun q5 a w => ∃ (m : Mem) (y93 : Int) (g266 : Nat) (g267 : Nat) (g268 : Nat) (g269 : Nat) (y94 : List Int), St 157 m b0 [(10, (.v (.int .i64 y93))), (9, (.v (.int .i64 y84))), (8, (.v (.pointer (some ⟨g266, 0, none⟩)))), (5, (.v (.pointer (some ⟨g267, 0, none⟩)))), (4, (.v (.pointer (some ⟨g268, 0, none⟩)))), (2, (.v (.pointer (some ⟨g269, 0, none⟩)))), (1, (.v (.int .u64 x2)))] [Res.cells g266 100 [.ints .u64 y94 25], Res.cells g267 128 [.ints .u64 y1 5], Res.cells g268 100 [.ints .u64 [0, 0, 0, 0, 0, 0, 0, 0, 0, 0, 0, 0, 0, 0, 0, 0, 0, 0, 0, 0, 0, 0, 0, 0, 0] 25], Res.cells g269 100 [.ints .u64 x1 25]] a w ∧ smithyref05_Round.l5 x1 y1 y84 (smithyref05_Round.l4 k x1 x2 y1 q4) q5 y93 y94 = some r) ?_ ?_ (k := k) ⟨_, 0, g238, g239, g240, g241, y85, (S.sub ⟨rfl, rfl, rfl, rfl, rfl, rfl, rfl, trivial⟩ (.cons .here (.cons .here (.cons .here (.cons .here .nil))))), h1⟩
        · rintro a w ⟨m, y93, g266, g267, g268, g269, y94, S, h0⟩
          exact (nomatch (show (none : Option ((List Int))) = some r from h0))
        · clear S h1
          rintro q5 a w ⟨m, y93, g266, g267, g268, g269, y94, S, h0⟩
          replace h0 : smithyref05_Round.b5 x1 y1 y84 (smithyref05_Round.l4 k x1 x2 y1 q4) (smithyref05_Round.l5 x1 y1 y84 (smithyref05_Round.l4 k x1 x2 y1 q4) q5) y93 y94 = some r := h0
          delta smithyref05_Round.b5 at h0
          refine wp_seq ?_
          refine c_region ?_
          refine s_move S rfl rfl ?_; clear S a; intro a S
          refine s_bin S rfl rfl rfl rfl ?_; clear S a; intro a S
          refine c_end ?_
          rcases ite_of h0 with ⟨c10, h1⟩ | ⟨c10, h1⟩ <;> clear h0
          · refine c_condT S rfl c10 ?_
            refine wp_skip ?_
            refine x_thenN ?_
            refine wp_seq ?_
            refine wp_block ?_
            refine c_heldS S (.take 0 (.take 1 (.take 2 (.take 3 (.take 4 (.take 5 (.take 6 (.take 7 (.take 8 (.take 9 (.take 10 (.take 11 (.take 12 (.take 13 (.take 14 (.take 15 (.take 16 (.take 17 (.take 18 (.take 19 (.take 20 (.alts (.run 21 true (.take 22 (.take 23 (.alts (.run 24 false .done .nil)))) .nil))))))))))))))))))))))) 24 [Res.cells g266 100 [.ints .u64 y94 25], Res.cells g267 128 [.ints .u64 y1 5], Res.cells g268 100 [.ints .u64 [0, 0, 0, 0, 0, 0, 0, 0, 0, 0, 0, 0, 0, 0, 0, 0, 0, 0, 0, 0, 0, 0, 0, 0, 0] 25], Res.cells g269 100 [.ints .u64 x1 25]] (.cons .here (.cons .here (.cons .here (.cons .here .nil)))) ⟨Res.stay_cells, Res.stay_cells, Res.stay_cells, Res.stay_cells, trivial⟩ [(10, (.v (.int .i64 y93))), (9, (.v (.int .i64 y84))), (8, (.v (.pointer (some ⟨g266, 0, none⟩)))), (5, (.v (.pointer (some ⟨g267, 0, none⟩)))), (2, (.v (.pointer (some ⟨g269, 0, none⟩))))] ⟨rfl, rfl, rfl, rfl, rfl, trivial⟩ (by kernel_rfl) (by kernel_rfl) ?_; clear S; intro w S CL hw le
            refine h_move S CL hw le ⟨rfl, rfl, rfl, rfl, rfl, trivial⟩ rfl rfl rfl trivial ?_; clear S CL a; intro a S CL
            refine h_move S CL hw le ⟨rfl, rfl, rfl, rfl, rfl, rfl, trivial⟩ rfl rfl rfl trivial ?_; clear S CL a; intro a S CL
            refine h_bin S CL hw le ⟨rfl, rfl, rfl, rfl, rfl, rfl, rfl, trivial⟩ rfl rfl rfl rfl rfl trivial ?_; clear S CL a; intro a S CL
            refine h_bin S CL hw le ⟨rfl, rfl, rfl, rfl, rfl, rfl, rfl, rfl, trivial⟩ rfl rfl rfl rfl rfl trivial ?_; clear S CL a; intro a S CL
            refine h_move S CL hw le ⟨rfl, rfl, rfl, rfl, rfl, rfl, rfl, rfl, rfl, trivial⟩ rfl rfl rfl trivial ?_; clear S CL a; intro a S CL
            refine h_move S CL hw le ⟨rfl, rfl, rfl, rfl, rfl, rfl, rfl, rfl, rfl, rfl, trivial⟩ rfl rfl rfl trivial ?_; clear S CL a; intro a S CL
            refine h_bin S CL hw le ⟨rfl, rfl, rfl, rfl, rfl, rfl, rfl, rfl, rfl, rfl, rfl, trivial⟩ rfl rfl rfl rfl rfl trivial ?_; clear S CL a; intro a S CL
            refine h_bin S CL hw le ⟨rfl, rfl, rfl, rfl, rfl, rfl, rfl, rfl, rfl, rfl, rfl, rfl, trivial⟩ rfl rfl rfl rfl rfl trivial ?_; clear S CL a; intro a S CL
            obtain ⟨c11, h2⟩ := chk_of h1; clear h1
            refine h_iaddr S CL hw le ⟨rfl, rfl, rfl, rfl, rfl, rfl, rfl, rfl, rfl, rfl, rfl, rfl, rfl, trivial⟩ rfl rfl Tryd.underlying100 T24 c11.1 c11.2 (mul1 _ _) rfl rfl trivial ?_; clear S CL a; intro a S CL
            refine h_loadi S CL hw le ⟨rfl, rfl, rfl, rfl, rfl, rfl, rfl, rfl, rfl, rfl, rfl, rfl, rfl, rfl, trivial⟩ (i := (wr .i64 (y84 + (wr .i64 (5 * y93))))) rfl (.there (.there (.there .here))) T24 .here rfl c11.1 c11.2 rfl rfl trivial ?_; clear S CL a; intro a S CL
            refine h_move S CL hw le ⟨rfl, rfl, rfl, rfl, rfl, rfl, rfl, rfl, rfl, rfl, rfl, rfl, rfl, rfl, rfl, trivial⟩ rfl rfl rfl trivial ?_; clear S CL a; intro a S CL
            refine h_bin S CL hw le ⟨rfl, rfl, rfl, rfl, rfl, rfl, rfl, rfl, rfl, rfl, rfl, rfl, rfl, rfl, rfl, rfl, trivial⟩ rfl rfl rfl rfl rfl trivial ?_; clear S CL a; intro a S CL
            refine h_rem S CL hw le ⟨rfl, rfl, rfl, rfl, rfl, rfl, rfl, rfl, rfl, rfl, rfl, rfl, rfl, rfl, rfl, rfl, rfl, trivial⟩ rfl rfl (by decide) rfl rfl trivial ?_; clear S CL a; intro a S CL
            obtain ⟨c12, h3⟩ := chk_of h2; clear h2
            refine h_iaddr S CL hw le ⟨rfl, rfl, rfl, rfl, rfl, rfl, rfl, rfl, rfl, rfl, rfl, rfl, rfl, rfl, rfl, rfl, rfl, rfl, trivial⟩ rfl rfl Tryd.underlying128 T24 c12.1 c12.2 (mul1 _ _) rfl rfl trivial ?_; clear S CL a; intro a S CL
            refine h_loadi S CL hw le ⟨rfl, rfl, rfl, rfl, rfl, rfl, rfl, rfl, rfl, rfl, rfl, rfl, rfl, rfl, rfl, rfl, rfl, rfl, rfl, trivial⟩ (i := (Int.tmod (wr .i64 (y84 + 4)) 5)) rfl (.there .here) T24 .here rfl c12.1 c12.2 rfl rfl trivial ?_; clear S CL a; intro a S CL
            refine h_bin S CL hw le ⟨rfl, rfl, rfl, rfl, rfl, rfl, rfl, rfl, rfl, rfl, rfl, rfl, rfl, rfl, rfl, rfl, rfl, rfl, rfl, rfl, trivial⟩ rfl rfl rfl rfl rfl trivial ?_; clear S CL a; intro a S CL
            refine h_move S CL hw le ⟨rfl, rfl, rfl, rfl, rfl, rfl, rfl, rfl, rfl, rfl, rfl, rfl, rfl, rfl, rfl, rfl, rfl, rfl, rfl, rfl, rfl, trivial⟩ rfl rfl rfl trivial ?_; clear S CL a; intro a S CL
            refine h_bin S CL hw le ⟨rfl, rfl, rfl, rfl, rfl, rfl, rfl, rfl, rfl, rfl, rfl, rfl, rfl, rfl, rfl, rfl, rfl, rfl, rfl, rfl, rfl, rfl, trivial⟩ rfl rfl rfl rfl rfl trivial ?_; clear S CL a; intro a S CL
            refine h_rem S CL hw le ⟨rfl, rfl, rfl, rfl, rfl, rfl, rfl, rfl, rfl, rfl, rfl, rfl, rfl, rfl, rfl, rfl, rfl, rfl, rfl, rfl, rfl, rfl, rfl, trivial⟩ rfl rfl (by decide) rfl rfl trivial ?_; clear S CL a; intro a S CL
            obtain ⟨c13, h4⟩ := chk_of h3; clear h3
            refine h_iaddr S CL hw le ⟨rfl, rfl, rfl, rfl, rfl, rfl, rfl, rfl, rfl, rfl, rfl, rfl, rfl, rfl, rfl, rfl, rfl, rfl, rfl, rfl, rfl, rfl, rfl, rfl, trivial⟩ rfl rfl Tryd.underlying128 T24 c13.1 c13.2 (mul1 _ _) rfl rfl trivial ?_; clear S CL a; intro a S CL
            refine h_loadi S CL hw le ⟨rfl, rfl, rfl, rfl, rfl, rfl, rfl, rfl, rfl, rfl, rfl, rfl, rfl, rfl, rfl, rfl, rfl, rfl, rfl, rfl, rfl, rfl, rfl, rfl, rfl, trivial⟩ (i := (Int.tmod (wr .i64 (y84 + 1)) 5)) rfl (.there .here) T24 .here rfl c13.1 c13.2 rfl rfl trivial ?_; clear S CL a; intro a S CL
            refine h_run' S rfl trivial ?_
            obtain ⟨t4, et4, h5⟩ := bind_of h4; clear h4
            refine s_callP S (fun (ch : Unit) => ((.v (.int .u64 t4)) : D)) N94 rfl rfl (smithyref05_up.ok (rd y1 (Int.tmod (wr .i64 (y84 + 1)) 5)) 1 t4 et4 _ _) ?_; clear S a; intro ch2 m le1 a w S
            replace le := le.trans le1
            replace hw := CL.again hw S (.cons .here (.cons .here (.cons .here (.cons .here .nil)))) le
            refine h_back ⟨fun _ => hw, ?_⟩
            replace CL := CL.add (t := 70) (d := (.v (.int .u64 t4))) S rfl rfl
            refine h_bin S CL hw le ⟨rfl, rfl, rfl, rfl, rfl, rfl, rfl, rfl, rfl, rfl, rfl, rfl, rfl, rfl, rfl, rfl, rfl, rfl, rfl, rfl, rfl, rfl, rfl, rfl, rfl, rfl, rfl, trivial⟩ rfl rfl rfl rfl rfl trivial ?_; clear S CL a; intro a S CL
            refine h_iaddr S CL hw le ⟨rfl, rfl, rfl, rfl, rfl, rfl, rfl, rfl, rfl, rfl, rfl, rfl, rfl, rfl, rfl, rfl, rfl, rfl, rfl, rfl, rfl, rfl, rfl, rfl, rfl, rfl, rfl, rfl, trivial⟩ rfl rfl Tryd.underlying100 T24 c11.1 c11.2 (mul1 _ _) rfl rfl trivial ?_; clear S CL a; intro a S CL
            refine h_run' S rfl trivial ?_
            refine s_storei S (i := (wr .i64 (y84 + (wr .i64 (5 * y93))))) rfl rfl .here T24 .here rfl c11.1 c11.2 ?_; clear S; intro w S
            refine h_back ⟨fun h => (nomatch h), ?_⟩
            refine h_done ?_; clear CL hw le
            refine x_blockN ?_
            refine x_thenN ?_
            refine c_region' ?_
            refine s_move S rfl rfl ?_; clear S a; intro a S
            refine s_bin S rfl rfl rfl rfl ?_; clear S a; intro a S
            refine s_assign S rfl rfl ?_; clear S a; intro a S
            refine c_end' ?_
            refine x_thenN ?_
            exact ⟨_, (wr .i64 (y93 + 1)), g266, g267, g268, g269, (y94.set (Int.toNat (wr .i64 (y84 + (wr .i64 (5 * y93))))) (bits .xor .u64 (bits .xor .u64 (rd x1 (wr .i64 (y84 + (wr .i64 (5 * y93))))) (rd y1 (Int.tmod (wr .i64 (y84 + 4)) 5))) t4)), (S.sub ⟨rfl, rfl, rfl, rfl, rfl, rfl, rfl, trivial⟩ (.cons .here (.cons .here (.cons .here (.cons .here .nil))))), h5⟩
          · refine c_condF S rfl c10 ?_
            refine wp_exit ?_
            refine x_thenX ?_
            refine x_thenX ?_
            refine x_blockX ?_
            refine x_blockN ?_
            refine x_thenN ?_
            exact j6 _ g266 g267 g268 g269 y94 a w (S.sub ⟨rfl, rfl, rfl, rfl, rfl, rfl, trivial⟩ (.cons .here (.cons .here (.cons .here (.cons .here .nil))))) h1
      · refine c_condF S rfl c9 ?_
        refine wp_exit ?_
        refine x_thenX ?_
        refine x_thenX ?_
        refine x_blockX ?_
        refine x_thenN ?_
        exact j2 _ g238 g240 y85 a w (S.sub ⟨rfl, rfl, rfl, trivial⟩ (.cons .here (.cons (.there .here) .nil))) h1
  refine c_region ?_
  refine s_assign S rfl rfl ?_; clear S a; intro a S
  refine c_end ?_
  refine wp_block ?_
  refine c_loop (fun q6 a w => ∃ (m : Mem) (y107 : Int) (g300 : Nat) (g301 : Nat) (g302 : Nat) (y108 : List Int), St 157 m b0 [(6, (.v (.int .i64 y107))), (5, (.v (.pointer (some ⟨g300, 0, none⟩)))), (4, (.v (.pointer (some ⟨g301, 0, none⟩)))), (2, (.v (.pointer (some ⟨g302, 0, none⟩)))), (1, (.v (.int .u64 x2)))] [Res.cells g300 128 [.ints .u64 y108 5], Res.cells g301 100 [.ints .u64 [0, 0, 0, 0, 0, 0, 0, 0, 0, 0, 0, 0, 0, 0, 0, 0, 0, 0, 0, 0, 0, 0, 0, 0, 0] 25], Res.cells g302 100 [.ints .u64 x1 25]] a w ∧ smithyref05_Round.l6 k x1 x2 q6 y107 y108 = some r) ?_ ?_ (k := k) ⟨_, 0, g3, g2, g1, [0, 0, 0, 0, 0], (S.sub ⟨rfl, rfl, rfl, rfl, rfl, trivial⟩ (.cons .here (.cons .here (.cons .here .nil)))), h0⟩
  · rintro a w ⟨m, y107, g300, g301, g302, y108, S, h0⟩
    exact (nomatch (show (none : Option ((List Int))) = some r from h0))
  · clear S h0
    rintro q6 a w ⟨m, y107, g300, g301, g302, y108, S, h0⟩
    replace h0 : smithyref05_Round.b6 k x1 x2 (smithyref05_Round.l6 k x1 x2 q6) y107 y108 = some r := h0
    delta smithyref05_Round.b6 at h0
    refine wp_seq ?_
    refine c_region ?_
    refine s_move S rfl rfl ?_; clear S a; intro a S
    refine s_bin S rfl rfl rfl rfl ?_; clear S a; intro a S
    refine c_end ?_
    rcases ite_of h0 with ⟨c14, h1⟩ | ⟨c14, h1⟩ <;> clear h0
    · refine c_condT S rfl c14 ?_
      refine wp_skip ?_
      refine x_thenN ?_
      refine wp_seq_k ?_
      intro K7 hK7
      have j7 : ∀ (m : Mem) (g312 : Nat) (g313 : Nat) (g314 : Nat) (y113 : List Int) (a : Act) (w : World), St 157 m b0 [(6, (.v (.int .i64 y107))), (5, (.v (.pointer (some ⟨g312, 0, none⟩)))), (4, (.v (.pointer (some ⟨g313, 0, none⟩)))), (2, (.v (.pointer (some ⟨g314, 0, none⟩)))), (1, (.v (.int .u64 x2)))] [Res.cells g312 128 [.ints .u64 y113 5], Res.cells g313 100 [.ints .u64 [0, 0, 0, 0, 0, 0, 0, 0, 0, 0, 0, 0, 0, 0, 0, 0, 0, 0, 0, 0, 0, 0, 0, 0, 0] 25], Res.cells g314 100 [.ints .u64 x1 25]] a w → smithyref05_Round.j7 y107 (smithyref05_Round.l6 k x1 x2 q6) y113 = some r → K7 a w := by
        intro m g312 g313 g314 y113 a w S h0
        delta smithyref05_Round.j7 at h0
        refine hK7 a w ?_
        refine c_region' ?_
        refine s_move S rfl rfl ?_; clear S a; intro a S
        refine s_bin S rfl rfl rfl rfl ?_; clear S a; intro a S
        refine s_assign S rfl rfl ?_; clear S a; intro a S
        refine c_end' ?_
        refine x_thenN ?_
        exact ⟨_, (wr .i64 (y107 + 1)), g312, g313, g314, y113, (S.sub ⟨rfl, rfl, rfl, rfl, rfl, trivial⟩ (.cons .here (.cons .here (.cons .here .nil)))), h0⟩
      refine wp_block ?_
      refine c_region ?_
      refine s_assign S rfl rfl ?_; clear S a; intro a S
      refine c_end ?_
      refine wp_block ?_
      refine c_loop (fun q7 a w => ∃ (m : Mem) (y116 : Int) (g321 : Nat) (g322 : Nat) (g323 : Nat) (y117 : List Int), St 157 m b0 [(7, (.v (.int .i64 y116))), (6, (.v (.int .i64 y107))), (5, (.v (.pointer (some ⟨g321, 0, none⟩)))), (4, (.v (.pointer (some ⟨g322, 0, none⟩)))), (2, (.v (.pointer (some ⟨g323, 0, none⟩)))), (1, (.v (.int .u64 x2)))] [Res.cells g321 128 [.ints .u64 y117 5], Res.cells g322 100 [.ints .u64 [0, 0, 0, 0, 0, 0, 0, 0, 0, 0, 0, 0, 0, 0, 0, 0, 0, 0, 0, 0, 0, 0, 0, 0, 0] 25], Res.cells g323 100 [.ints .u64 x1 25]] a w ∧ smithyref05_Round.l7 x1 y107 (smithyref05_Round.l6 k x1 x2 q6) q7 y116 y117 = some r) ?_ ?_ (k := k) ⟨_, 0, g300, g301, g302, y108, (S.sub ⟨rfl, rfl, rfl, rfl, rfl, rfl, trivial⟩ (.cons .here (.cons .here (.cons .here .nil)))), h1⟩
      · rintro a w ⟨m, y116, g321, g322, g323, y117, S, h0⟩
        exact (nomatch (show (none : Option ((List Int))) = some r from h0))
      · clear S h1
        rintro q7 a w ⟨m, y116, g321, g322, g323, y117, S, h0⟩
        replace h0 : smithyref05_Round.b7 x1 y107 (smithyref05_Round.l6 k x1 x2 q6) (smithyref05_Round.l7 x1 y107 (smithyref05_Round.l6 k x1 x2 q6) q7) y116 y117 = some r := h0
        delta smithyref05_Round.b7 at h0
        refine wp_seq ?_
        refine c_region ?_
        refine s_move S rfl rfl ?_; clear S a; intro a S
        refine s_bin S rfl rfl rfl rfl ?_; clear S a; intro a S
        refine c_end ?_
        rcases ite_of h0 with ⟨c15, h1⟩ | ⟨c15, h1⟩ <;> clear h0
        · refine c_condT S rfl c15 ?_
          refine wp_skip ?_
          refine x_thenN ?_
          refine wp_seq ?_
          refine wp_block ?_
          refine c_heldS S (.take 0 (.take 1 (.take 2 (.take 3 (.take 4 (.take 5 (.take 6 (.take 7 (.take 8 (.take 9 (.take 10 (.take 11 (.alts (.run 12 false .done .nil)))))))))))))) 12 [Res.cells g321 128 [.ints .u64 y117 5], Res.cells g322 100 [.ints .u64 [0, 0, 0, 0, 0, 0, 0, 0, 0, 0, 0, 0, 0, 0, 0, 0, 0, 0, 0, 0, 0, 0, 0, 0, 0] 25], Res.cells g323 100 [.ints .u64 x1 25]] (.cons .here (.cons .here (.cons .here .nil))) ⟨Res.stay_cells, Res.stay_cells, Res.stay_cells, trivial⟩ [(7, (.v (.int .i64 y116))), (6, (.v (.int .i64 y107))), (5, (.v (.pointer (some ⟨g321, 0, none⟩)))), (2, (.v (.pointer (some ⟨g323, 0, none⟩))))] ⟨rfl, rfl, rfl, rfl, trivial⟩ (by kernel_rfl) (by kernel_rfl) ?_; clear S; intro w S CL hw le
          refine h_move S CL hw le ⟨rfl, rfl, rfl, rfl, trivial⟩ rfl rfl rfl trivial ?_; clear S CL a; intro a S CL
          refine h_move S CL hw le ⟨rfl, rfl, rfl, rfl, rfl, trivial⟩ rfl rfl rfl trivial ?_; clear S CL a; intro a S CL
          obtain ⟨c16, h2⟩ := chk_of h1; clear h1
          refine h_iaddr S CL hw le ⟨rfl, rfl, rfl, rfl, rfl, rfl, trivial⟩ rfl rfl Tryd.underlying128 T24 c16.1 c16.2 (mul1 _ _) rfl rfl trivial ?_; clear S CL a; intro a S CL
          refine h_loadi S CL hw le ⟨rfl, rfl, rfl, rfl, rfl, rfl, rfl, trivial⟩ (i := y107) rfl .here T24 .here rfl c16.1 c16.2 rfl rfl trivial ?_; clear S CL a; intro a S CL
          refine h_move S CL hw le ⟨rfl, rfl, rfl, rfl, rfl, rfl, rfl, rfl, trivial⟩ rfl rfl rfl trivial ?_; clear S CL a; intro a S CL
          refine h_move S CL hw le ⟨rfl, rfl, rfl, rfl, rfl, rfl, rfl, rfl, rfl, trivial⟩ rfl rfl rfl trivial ?_; clear S CL a; intro a S CL
          refine h_bin S CL hw le ⟨rfl, rfl, rfl, rfl, rfl, rfl, rfl, rfl, rfl, rfl, trivial⟩ rfl rfl rfl rfl rfl trivial ?_; clear S CL a; intro a S CL
          refine h_bin S CL hw le ⟨rfl, rfl, rfl, rfl, rfl, rfl, rfl, rfl, rfl, rfl, rfl, trivial⟩ rfl rfl rfl rfl rfl trivial ?_; clear S CL a; intro a S CL
          obtain ⟨c17, h3⟩ := chk_of h2; clear h2
          refine h_iaddr S CL hw le ⟨rfl, rfl, rfl, rfl, rfl, rfl, rfl, rfl, rfl, rfl, rfl, rfl, trivial⟩ rfl rfl Tryd.underlying100 T24 c17.1 c17.2 (mul1 _ _) rfl rfl trivial ?_; clear S CL a; intro a S CL
          refine h_loadi S CL hw le ⟨rfl, rfl, rfl, rfl, rfl, rfl, rfl, rfl, rfl, rfl, rfl, rfl, rfl, trivial⟩ (i := (wr .i64 (y107 + (wr .i64 (5 * y116))))) rfl (.there (.there .here)) T24 .here rfl c17.1 c17.2 rfl rfl trivial ?_; clear S CL a; intro a S CL
          refine h_bin S CL hw le ⟨rfl, rfl, rfl, rfl, rfl, rfl, rfl, rfl, rfl, rfl, rfl, rfl, rfl, rfl, trivial⟩ rfl rfl rfl rfl rfl trivial ?_; clear S CL a; intro a S CL
          refine h_iaddr S CL hw le ⟨rfl, rfl, rfl, rfl, rfl, rfl, rfl, rfl, rfl, rfl, rfl, rfl, rfl, rfl, rfl, trivial⟩ rfl rfl Tryd.underlying128 T24 c16.1 c16.2 (mul1 _ _) rfl rfl trivial ?_; clear S CL a; intro a S CL
          refine h_run' S rfl trivial ?_
          refine s_storei S (i := y107) rfl rfl .here T24 .here rfl c16.1 c16.2 ?_; clear S; intro w S
          refine h_back ⟨fun h => (nomatch h), ?_⟩
          refine h_done ?_; clear CL hw le
          refine x_blockN ?_
          refine x_thenN ?_
          refine c_region' ?_
          refine s_move S rfl rfl ?_; clear S a; intro a S
          refine s_bin S rfl rfl rfl rfl ?_; clear S a; intro a S
          refine s_assign S rfl rfl ?_; clear S a; intro a S
          refine c_end' ?_
          refine x_thenN ?_
          exact ⟨_, (wr .i64 (y116 + 1)), g321, g322, g323, (y117.set (Int.toNat y107) (bits .xor .u64 (rd y117 y107) (rd x1 (wr .i64 (y107 + (wr .i64 (5 * y116))))))), (S.sub ⟨rfl, rfl, rfl, rfl, rfl, rfl, trivial⟩ (.cons .here (.cons .here (.cons .here .nil)))), h3⟩
        · refine c_condF S rfl c15 ?_
          refine wp_exit ?_
          refine x_thenX ?_
          refine x_thenX ?_
          refine x_blockX ?_
          refine x_blockN ?_
          refine x_thenN ?_
          exact j7 _ g321 g322 g323 y117 a w (S.sub ⟨rfl, rfl, rfl, rfl, rfl, trivial⟩ (.cons .here (.cons .here (.cons .here .nil)))) h1
    · refine c_condF S rfl c14 ?_
      refine wp_exit ?_
      refine x_thenX ?_
      refine x_thenX ?_
      refine x_blockX ?_
      refine x_thenN ?_
      exact j1 _ g300 g301 g302 y108 a w (S.sub ⟨rfl, rfl, rfl, rfl, trivial⟩ (.cons .here (.cons .here (.cons .here .nil)))) h1
/-! smithy/smithyref05.Turn -/
abbrev smithyref05_Turn.Ty : Type := (List Int) → Option ((List Int))
def smithyref05_Turn.Ctr (s : smithyref05_Turn.Ty) : Prop := ∀ (x1 : List Int) (r : (List Int)) (h0 : s x1 = some r) (mi : Mem) (w0 : World), okL mi [(.agg [.ints .u64 x1 25])] → Pre mi [] w0 → Calls Tryd.prog 71 (([(.agg [.ints .u64 x1 25])] : List D).map D.val).toArray w0 (RetX mi [] (fun (ch : Unit) => ((.agg [.ints .u64 r 25]) : D)) (fun (ch : Unit) => []) w0)
def smithyref05_Turn.j1 (y1 : List Int) : Option ((List Int)) := some y1
def smithyref05_Turn.b1 (k : Nat) (t1 : (List Int)) (rec1 : Int → (List Int) → Option ((List Int))) (y4 : Int) (y5 : List Int) : Option ((List Int)) := if (decide (y4 < 24)) = true then (if (0 : Int) ≤ y4 ∧ y4 < 24 then ((smithyref05_Round.f k y5 (rd t1 y4)).bind fun t4 => (rec1 (wr .i64 (y4 + 1)) t4)) else none) else (smithyref05_Turn.j1 y5)
def smithyref05_Turn.l1 (k : Nat) (t1 : (List Int)) : Nat → Int → (List Int) → Option ((List Int))
  | 0, _, _ => none
  | q + 1, y4, y5 => smithyref05_Turn.b1 k t1 (smithyref05_Turn.l1 k t1 q) y4 y5
def smithyref05_Turn.f (k : Nat) (x1 : List Int) : Option ((List Int)) := (smithyref05_Constants.f k).bind fun t1 => (smithyref05_Turn.l1 k t1 k 0 x1)
theorem smithyref05_Turn.ok (k : Nat) : smithyref05_Turn.Ctr (smithyref05_Turn.f k) := by
  intro x1 r h0 mi w0 ok hm
  delta smithyref05_Turn.f at h0
  refine c_enterX (n := 16) [(.agg [.ints .u64 x1 25])] (l := [(0, (.agg [.ints .u64 x1 25]))]) Tryd.func71 rfl rfl rfl rfl ok hm ?_
  clear ok hm
  intro b0 hb a S
  refine c_region ?_
  refine s_box S rfl rfl rfl ?_; clear S a; intro g1 a w S
  refine s_alloc S Z100 rfl ⟨rfl, trivial⟩ rfl ?_; clear S a w; intro g2 a w S
  refine c_end ?_
  refine c_region ?_
  obtain ⟨t1, et1, h1⟩ := bind_of h0; clear h0
  refine s_callP S (fun (ch : Unit) => ((.agg [.ints .u64 t1 24]) : D)) N87 rfl rfl (smithyref05_Constants.ok k t1 et1 _ _) ?_; clear S a w; intro ch1 m le1 a w S
  refine s_alloc S Z118 rfl ⟨rfl, trivial⟩ rfl ?_; clear S a w; intro g3 a w S
  refine s_store S rfl rfl rfl (s' := [.ints .u64 t1 24]) .here T118 rfl rfl ?_; clear S w; intro w S
  refine c_end ?_
  refine wp_seq_k ?_
  intro K1 hK1
  have j1 : ∀ (m : Mem) (g13 : Nat) (g14 : Nat) (y1 : List Int) (a : Act) (w : World), St 16 m b0 [(2, (.v (.pointer (some ⟨g13, 0, none⟩)))), (1, (.v (.pointer (some ⟨g14, 0, none⟩))))] [Res.cells g13 100 [.ints .u64 [0, 0, 0, 0, 0, 0, 0, 0, 0, 0, 0, 0, 0, 0, 0, 0, 0, 0, 0, 0, 0, 0, 0, 0, 0] 25], Res.cells g14 100 [.ints .u64 y1 25]] a w → smithyref05_Turn.j1 y1 = some r → K1 a w := by
    intro m g13 g14 y1 a w S h0
    delta smithyref05_Turn.j1 at h0
    refine hK1 a w ?_
    refine c_region ?_
    refine s_loada S rfl (.there .here) T100 (s' := [.ints .u64 y1 25]) rfl rfl ?_; clear S a; intro a S
    refine s_store S rfl rfl rfl (s' := [.ints .u64 y1 25]) .here T100 rfl rfl ?_; clear S w; intro w S
    refine c_end ?_
    refine wp_ret ?_
    obtain rfl := Option.some.inj h0
    exact b_ret1 (d := (.agg [.ints .u64 y1 25])) S rfl (resD_cell rfl .here T100 rfl rfl) fun ok => S.retX (Hx := []) hb _ _ (() : Unit) .nil ok
  refine c_region ?_
  refine s_assign S rfl rfl ?_; clear S a; intro a S
  refine c_end ?_
  refine wp_block ?_
  refine c_loop (fun q1 a w => ∃ (m : Mem) (y4 : Int) (g21 : Nat) (g22 : Nat) (g23 : Nat) (y5 : List Int), St 16 m b0 [(4, (.v (.int .i64 y4))), (3, (.v (.pointer (some ⟨g21, 0, none⟩)))), (2, (.v (.pointer (some ⟨g22, 0, none⟩)))), (1, (.v (.pointer (some ⟨g23, 0, none⟩))))] [Res.cells g21 118 [.ints .u64 t1 24], Res.cells g22 100 [.ints .u64 [0, 0, 0, 0, 0, 0, 0, 0, 0, 0, 0, 0, 0, 0, 0, 0, 0, 0, 0, 0, 0, 0, 0, 0, 0] 25], Res.cells g23 100 [.ints .u64 y5 25]] a w ∧ smithyref05_Turn.l1 k t1 q1 y4 y5 = some r) ?_ ?_ (k := k) ⟨_, 0, g3, g2, g1, x1, (S.sub ⟨rfl, rfl, rfl, rfl, trivial⟩ (.cons .here (.cons .here (.cons .here .nil)))), h1⟩
  · rintro a w ⟨m, y4, g21, g22, g23, y5, S, h0⟩
    exact (nomatch (show (none : Option ((List Int))) = some r from h0))
  · clear S h1
    rintro q1 a w ⟨m, y4, g21, g22, g23, y5, S, h0⟩
    replace h0 : smithyref05_Turn.b1 k t1 (smithyref05_Turn.l1 k t1 q1) y4 y5 = some r := h0
    delta smithyref05_Turn.b1 at h0
    refine wp_seq ?_
    refine c_region ?_
    refine s_move S rfl rfl ?_; clear S a; intro a S
    refine s_bin S rfl rfl rfl rfl ?_; clear S a; intro a S
    refine c_end ?_
    rcases ite_of h0 with ⟨c1, h1⟩ | ⟨c1, h1⟩ <;> clear h0
    · refine c_condT S rfl c1 ?_
      refine wp_skip ?_
      refine x_thenN ?_
      refine wp_seq ?_
      refine wp_block ?_
      refine c_heldS S (.take 0 (.take 1 (.take 2 (.take 3 (.alts (.run 4 true (.alts (.run 5 false .done .nil)) .nil)))))) 5 [Res.cells g21 118 [.ints .u64 t1 24], Res.cells g22 100 [.ints .u64 [0, 0, 0, 0, 0, 0, 0, 0, 0, 0, 0, 0, 0, 0, 0, 0, 0, 0, 0, 0, 0, 0, 0, 0, 0] 25], Res.cells g23 100 [.ints .u64 y5 25]] (.cons .here (.cons .here (.cons .here .nil))) ⟨Res.stay_cells, Res.stay_cells, Res.stay_cells, trivial⟩ [(4, (.v (.int .i64 y4))), (3, (.v (.pointer (some ⟨g21, 0, none⟩)))), (1, (.v (.pointer (some ⟨g23, 0, none⟩))))] ⟨rfl, rfl, rfl, trivial⟩ (by kernel_rfl) (by kernel_rfl) ?_; clear S; intro w S CL hw le
      refine h_loada S CL hw le ⟨rfl, rfl, rfl, trivial⟩ rfl (.there (.there .here)) T100 (s' := [.ints .u64 y5 25]) rfl rfl rfl trivial ?_; clear S CL a; intro a S CL
      refine h_move S CL hw le ⟨rfl, rfl, rfl, rfl, trivial⟩ rfl rfl rfl trivial ?_; clear S CL a; intro a S CL
      obtain ⟨c2, h2⟩ := chk_of h1; clear h1
      refine h_iaddr S CL hw le ⟨rfl, rfl, rfl, rfl, rfl, trivial⟩ rfl rfl Tryd.underlying118 T24 c2.1 c2.2 (mul1 _ _) rfl rfl trivial ?_; clear S CL a; intro a S CL
      refine h_loadi S CL hw le ⟨rfl, rfl, rfl, rfl, rfl, rfl, trivial⟩ (i := y4) rfl .here T24 .here rfl c2.1 c2.2 rfl rfl trivial ?_; clear S CL a; intro a S CL
      refine h_run' S rfl trivial ?_
      obtain ⟨t4, et4, h3⟩ := bind_of h2; clear h2
      refine s_callP S (fun (ch : Unit) => ((.agg [.ints .u64 t4 25]) : D)) N88 rfl rfl (smithyref05_Round.ok k y5 (rd t1 y4) t4 et4 _ _) ?_; clear S a; intro ch2 m le1 a w S
      replace le := le.trans le1
      replace hw := CL.again hw S (.cons .here (.cons .here (.cons .here .nil))) le
      refine h_back ⟨fun _ => hw, ?_⟩
      refine h_run' S rfl trivial ?_
      refine s_store S rfl rfl rfl (s' := [.ints .u64 t4 25]) (.there (.there .here)) T100 rfl rfl ?_; clear S; intro w S
      refine h_back ⟨fun h => (nomatch h), ?_⟩
      refine h_done ?_; clear CL hw le
      refine x_blockN ?_
      refine x_thenN ?_
      refine c_region' ?_
      refine s_move S rfl rfl ?_; clear S a; intro a S
      refine s_bin S rfl rfl rfl rfl ?_; clear S a; intro a S
      refine s_assign S rfl rfl ?_; clear S a; intro a S
      refine c_end' ?_
      refine x_thenN ?_
      exact ⟨_, (wr .i64 (y4 + 1)), g21, g22, g23, t4, (S.sub ⟨rfl, rfl, rfl, rfl, trivial⟩ (.cons .here (.cons .here (.cons .here .nil)))), h3⟩
    · refine c_condF S rfl c1 ?_
      refine wp_exit ?_
      refine x_thenX ?_
      refine x_thenX ?_
      refine x_blockX ?_
      refine x_thenN ?_
      exact j1 _ g22 g23 y5 a w (S.sub ⟨rfl, rfl, trivial⟩ (.cons (.there .here) (.cons (.there .here) .nil))) h1
/-! smithy/smithyref05.Sum -/
abbrev smithyref05_Sum.Ty : Type := (List Int) → Option ((List Int))
def smithyref05_Sum.Ctr (s : smithyref05_Sum.Ty) : Prop := ∀ (x1 : List Int) (ch_0_0 : Option Addr) (ch_0_1 : Nat) (r : (List Int)) (h0 : s x1 = some r) (mi : Mem) (w0 : World), okL mi [(.sl ch_0_0 (x1).length ch_0_1 (RdS (Ty.int .u8) ch_0_0 x1))] → Pre mi [] w0 → Calls Tryd.prog 46 (([(.sl ch_0_0 (x1).length ch_0_1 (RdS (Ty.int .u8) ch_0_0 x1))] : List D).map D.val).toArray w0 (RetX mi [] (fun (ch : Unit) => ((.agg [.ints .u8 r 32]) : D)) (fun (ch : Unit) => []) w0)
def smithyref05_Sum.j3 (y13 : List Int) : Option ((List Int)) := some y13
def smithyref05_Sum.b1 (y8 : List Int) (rec1 : Int → (List Int) → Option ((List Int))) (y16 : Int) (y17 : List Int) : Option ((List Int)) := if (decide (y16 < 32)) = true then (if (0 : Int) ≤ (wr .i64 (Int.tdiv y16 8)) ∧ (wr .i64 (Int.tdiv y16 8)) < 25 then (if (0 : Int) ≤ (wr .i64 (8 * (Int.tmod y16 8))) then (if (0 : Int) ≤ y16 ∧ y16 < 32 then (rec1 (wr .i64 (y16 + 1)) (y17.set (Int.toNat y16) (wr .u8 (Int.tmod (shr (rd y8 (wr .i64 (Int.tdiv y16 8))) (min (Int.toNat (wr .i64 (8 * (Int.tmod y16 8)))) 64)) 256)))) else none) else none) else none) else (smithyref05_Sum.j3 y17)
def smithyref05_Sum.l1 (y8 : List Int) : Nat → Int → (List Int) → Option ((List Int))
  | 0, _, _ => none
  | q + 1, y16, y17 => smithyref05_Sum.b1 y8 (smithyref05_Sum.l1 y8 q) y16 y17
def smithyref05_Sum.j2 (k : Nat) (y8 : List Int) : Option ((List Int)) := smithyref05_Sum.l1 y8 k 0 [0, 0, 0, 0, 0, 0, 0, 0, 0, 0, 0, 0, 0, 0, 0, 0, 0, 0, 0, 0, 0, 0, 0, 0, 0, 0, 0, 0, 0, 0, 0, 0]
def smithyref05_Sum.j4 (y22 : Int) (rec2 : Int → (List Int) → Option ((List Int))) (y24 : List Int) : Option ((List Int)) := rec2 (wr .i64 (y22 + 1)) y24
def smithyref05_Sum.b2 (k : Nat) (y1 : List Int) (rec2 : Int → (List Int) → Option ((List Int))) (y22 : Int) (y23 : List Int) : Option ((List Int)) := if (decide (y22 < ((y1.set (Int.toNat (wr .i64 (((y1).length : Int) - 1))) (bits .or .u8 (rd y1 (wr .i64 (((y1).length : Int) - 1))) 128)).length : Int))) = true then (if (0 : Int) ≤ (wr .i64 (Int.tdiv (Int.tmod y22 136) 8)) ∧ (wr .i64 (Int.tdiv (Int.tmod y22 136) 8)) < 25 then (if (0 : Int) ≤ y22 ∧ y22 < ((y1.set (Int.toNat (wr .i64 (((y1).length : Int) - 1))) (bits .or .u8 (rd y1 (wr .i64 (((y1).length : Int) - 1))) 128)).length : Int) then (if (0 : Int) ≤ (wr .i64 (8 * (Int.tmod (Int.tmod y22 136) 8))) then (if ((Int.tmod y22 136) == 135) = true then ((smithyref05_Turn.f k (y23.set (Int.toNat (wr .i64 (Int.tdiv (Int.tmod y22 136) 8))) (bits .xor .u64 (rd y23 (wr .i64 (Int.tdiv (Int.tmod y22 136) 8))) (shl .u64 (wr .u64 (rd (y1.set (Int.toNat (wr .i64 (((y1).length : Int) - 1))) (bits .or .u8 (rd y1 (wr .i64 (((y1).length : Int) - 1))) 128)) y22)) (min (Int.toNat (wr .i64 (8 * (Int.tmod (Int.tmod y22 136) 8)))) 64))))).bind fun t1 => (smithyref05_Sum.j4 y22 rec2 t1)) else (smithyref05_Sum.j4 y22 rec2 (y23.set (Int.toNat (wr .i64 (Int.tdiv (Int.tmod y22 136) 8))) (bits .xor .u64 (rd y23 (wr .i64 (Int.tdiv (Int.tmod y22 136) 8))) (shl .u64 (wr .u64 (rd (y1.set (Int.toNat (wr .i64 (((y1).length : Int) - 1))) (bits .or .u8 (rd y1 (wr .i64 (((y1).length : Int) - 1))) 128)) y22)) (min (Int.toNat (wr .i64 (8 * (Int.tmod (Int.tmod y22 136) 8)))) 64)))))) else none) else none) else none) else (smithyref05_Sum.j2 k y23)
def smithyref05_Sum.l2 (k : Nat) (y1 : List Int) : Nat → Int → (List Int) → Option ((List Int))
  | 0, _, _ => none
  | q + 1, y22, y23 => smithyref05_Sum.b2 k y1 (smithyref05_Sum.l2 k y1 q) y22 y23
def smithyref05_Sum.j1 (k : Nat) (y1 : List Int) : Option ((List Int)) := if (0 : Int) ≤ (wr .i64 (((y1).length : Int) - 1)) ∧ (wr .i64 (((y1).length : Int) - 1)) < ((y1).length : Int) then (smithyref05_Sum.l2 k y1 k 0 [0, 0, 0, 0, 0, 0, 0, 0, 0, 0, 0, 0, 0, 0, 0, 0, 0, 0, 0, 0, 0, 0, 0, 0, 0]) else none
def smithyref05_Sum.b3 (k : Nat) (rec3 : (List Int) → Option ((List Int))) (y26 : List Int) : Option ((List Int)) := if ((Int.tmod ((y26).length : Int) 136) != 0) = true then (if ((y26).length + ([0]).length) * 1 ≤ 140737488355328 then (rec3 (y26 ++ [0])) else none) else (smithyref05_Sum.j1 k y26)
def smithyref05_Sum.l3 (k : Nat) : Nat → (List Int) → Option ((List Int))
  | 0, _ => none
  | q + 1, y26 => smithyref05_Sum.b3 k (smithyref05_Sum.l3 k q) y26
def smithyref05_Sum.f (k : Nat) (x1 : List Int) : Option ((List Int)) := if ((([] : List Int)).length + (x1).length) * 1 ≤ 140737488355328 then (if ((([] : List Int) ++ x1).length + ([1]).length) * 1 ≤ 140737488355328 then (smithyref05_Sum.l3 k k ((([] : List Int) ++ x1) ++ [1])) else none) else none
theorem smithyref05_Sum.ok (k : Nat) : smithyref05_Sum.Ctr (smithyref05_Sum.f k) := by
  intro x1 ch_0_0 ch_0_1 r h0 mi w0 ok hm
  delta smithyref05_Sum.f at h0
  refine c_enterX (n := 83) [(.sl ch_0_0 (x1).length ch_0_1 (RdS (Ty.int .u8) ch_0_0 x1))] (l := [(0, (.sl ch_0_0 (x1).length ch_0_1 (RdS (Ty.int .u8) ch_0_0 x1)))]) Tryd.func46 rfl rfl rfl rfl ok hm ?_
  clear ok hm
  intro b0 hb a S
  refine c_region ?_
  refine s_alloc S Z23 rfl ⟨rfl, trivial⟩ rfl ?_; clear S a; intro g1 a w S
  refine c_end ?_
  refine c_region ?_
  refine s_bldSl S (ty' := (Ty.int .u8)) (ds := []) (z := 0) (c0 := ()) (ys := ([] : List Int)) (cs := []) rfl Tryd.underlying37 J5 Z5 rfl ⟨rfl, trivial⟩ rfl rfl rfl rfl rfl rfl ?_; clear S a w; intro g2 a w S
  refine s_assign S rfl rfl ?_; clear S a; intro a S
  refine c_end ?_
  refine c_region ?_
  refine s_move S rfl rfl ?_; clear S a; intro a S
  refine s_move S rfl rfl ?_; clear S a; intro a S
  obtain ⟨c1, h1⟩ := chk_of h0; clear h0
  refine s_app S (k2 := ((x1).length)) (ys := x1) rfl (fun _ _ => .here) rfl rfl rfl (RdS.src (S.get 11 (.sl ch_0_0 (x1).length ch_0_1 (RdS (Ty.int .u8) ch_0_0 x1)) rfl).2.2.2.1 (by decide) S.frz) Tryd.underlying37 J5 c1 rfl ?_; clear S a w; intro A1 cp1 a w S
  refine s_assign S rfl rfl ?_; clear S a; intro a S
  refine c_end ?_
  refine c_region ?_
  refine s_move S rfl rfl ?_; clear S a; intro a S
  refine s_bldSl S (ty' := (Ty.int .u8)) (ds := [(0, (.v (.int .u8 1)))]) (z := 0) (c0 := ()) (ys := [1]) (cs := [()]) rfl Tryd.underlying37 J5 Z5 rfl ⟨rfl, trivial⟩ rfl rfl rfl rfl rfl rfl ?_; clear S a w; intro g3 a w S
  obtain ⟨c2, h2⟩ := chk_of h1; clear h1
  refine s_app S (k2 := 1) (ys := [1]) rfl (fun _ _ => (.there .here)) rfl rfl (S.holds _ (Pull.mem .here).1).1 (Res.row.src (S.holds _ (Pull.mem .here).1)) Tryd.underlying37 J5 c2 rfl ?_; clear S a w; intro A2 cp2 a w S
  refine s_assign S rfl rfl ?_; clear S a; intro a S
  refine c_end ?_
  refine wp_seq_k ?_
  intro K1 hK1
  have j1 : ∀ (m : Mem) (A3 : Option Addr) (nn1 : Nat) (cp8 : Nat) (y1 : List Int) (g9 : Nat) (a : Act) (w : World), St 83 m b0 [(3, (.v (.slice A3 nn1 cp8))), (2, (.v (.pointer (some ⟨g9, 0, none⟩))))] [Res.row (Ty.int .u8) 5 A3 nn1 cp8 y1, Res.cells g9 23 [.ints .u8 [0, 0, 0, 0, 0, 0, 0, 0, 0, 0, 0, 0, 0, 0, 0, 0, 0, 0, 0, 0, 0, 0, 0, 0, 0, 0, 0, 0, 0, 0, 0, 0] 32]] a w → smithyref05_Sum.j1 k y1 = some r → K1 a w := by
    intro m A3 nn1 cp8 y1 g9 a w S h0
    delta smithyref05_Sum.j1 at h0
    refine hK1 a w ?_
    refine c_region ?_
    refine s_move S rfl rfl ?_; clear S a; intro a S
    refine s_move S rfl rfl ?_; clear S a; intro a S
    refine s_lenO S rfl .here Tryd.underlying37 rfl ?_; clear S a; intro a S
    refine s_bin S rfl rfl rfl rfl ?_; clear S a; intro a S
    refine s_move S rfl rfl ?_; clear S a; intro a S
    refine s_move S rfl rfl ?_; clear S a; intro a S
    refine s_lenO S rfl .here Tryd.underlying37 rfl ?_; clear S a; intro a S
    refine s_bin S rfl rfl rfl rfl ?_; clear S a; intro a S
    obtain ⟨c3, h1⟩ := chk_of h0; clear h0
    refine s_iaddrO S (ty' := (Ty.int .u8)) rfl .here rfl Tryd.underlying37 T5 c3.1 c3.2 rfl ?_; clear S a; intro g10 a hA1 S
    refine s_ldR1 S (ty' := (Ty.int .u8)) (i := (wr .i64 (((y1).length : Int) - 1))) (off := 0) (v := (.int .u8 (rd y1 (wr .i64 (((y1).length : Int) - 1))))) rfl hA1 .here T5 c3.1 c3.2 rfl (fun _ => rfl) rfl ?_; clear S a; intro a S
    refine s_bin S rfl rfl rfl rfl ?_; clear S a; intro a S
    refine s_iaddrO S (ty' := (Ty.int .u8)) rfl .here rfl Tryd.underlying37 T5 c3.1 c3.2 rfl ?_; clear S a; intro g11 a hA2 S
    refine s_stR S (ty' := (Ty.int .u8)) (i := (wr .i64 (((y1).length : Int) - 1))) (off := 0) (u := bits .or .u8 (rd y1 (wr .i64 (((y1).length : Int) - 1))) 128) (fun (c : Unit) => ()) rfl rfl rfl hA2 .here T5 c3.1 c3.2 rfl (by decide) rfl (fun _ => rfl) ?_; clear S w; intro w S
    refine c_end ?_
    refine c_region ?_
    refine s_build S (ds := []) (dv := (.agg [.ints .u64 [0, 0, 0, 0, 0, 0, 0, 0, 0, 0, 0, 0, 0, 0, 0, 0, 0, 0, 0, 0, 0, 0, 0, 0, 0] 25])) rfl (fun _ => by kernel_rfl) ⟨rfl, trivial⟩ rfl ?_; clear S a; intro a S
    refine s_alloc S Z100 rfl ⟨rfl, trivial⟩ rfl ?_; clear S a w; intro g12 a w S
    refine s_store S rfl rfl rfl (s' := [.ints .u64 [0, 0, 0, 0, 0, 0, 0, 0, 0, 0, 0, 0, 0, 0, 0, 0, 0, 0, 0, 0, 0, 0, 0, 0, 0] 25]) .here T100 rfl rfl ?_; clear S w; intro w S
    refine c_end ?_
    refine wp_seq_k ?_
    intro K2 hK2
    have j2 : ∀ (m : Mem) (g25 : Nat) (g26 : Nat) (y8 : List Int) (a : Act) (w : World), St 83 m b0 [(4, (.v (.pointer (some ⟨g25, 0, none⟩)))), (2, (.v (.pointer (some ⟨g26, 0, none⟩))))] [Res.cells g25 100 [.ints .u64 y8 25], Res.cells g26 23 [.ints .u8 [0, 0, 0, 0, 0, 0, 0, 0, 0, 0, 0, 0, 0, 0, 0, 0, 0, 0, 0, 0, 0, 0, 0, 0, 0, 0, 0, 0, 0, 0, 0, 0] 32]] a w → smithyref05_Sum.j2 k y8 = some r → K2 a w := by
      intro m g25 g26 y8 a w S h0
      delta smithyref05_Sum.j2 at h0
      refine hK2 a w ?_
      refine c_region ?_
      refine s_build S (ds := []) (dv := (.agg [.ints .u8 [0, 0, 0, 0, 0, 0, 0, 0, 0, 0, 0, 0, 0, 0, 0, 0, 0, 0, 0, 0, 0, 0, 0, 0, 0, 0, 0, 0, 0, 0, 0, 0] 32])) rfl (fun _ => by kernel_rfl) ⟨rfl, trivial⟩ rfl ?_; clear S a; intro a S
      refine s_alloc S Z23 rfl ⟨rfl, trivial⟩ rfl ?_; clear S a w; intro g27 a w S
      refine s_store S rfl rfl rfl (s' := [.ints .u8 [0, 0, 0, 0, 0, 0, 0, 0, 0, 0, 0, 0, 0, 0, 0, 0, 0, 0, 0, 0, 0, 0, 0, 0, 0, 0, 0, 0, 0, 0, 0, 0] 32]) .here T23 rfl rfl ?_; clear S w; intro w S
      refine c_end ?_
      refine wp_seq_k ?_
      intro K3 hK3
      have j3 : ∀ (m : Mem) (g37 : Nat) (g38 : Nat) (y13 : List Int) (a : Act) (w : World), St 83 m b0 [(7, (.v (.pointer (some ⟨g37, 0, none⟩)))), (2, (.v (.pointer (some ⟨g38, 0, none⟩))))] [Res.cells g37 23 [.ints .u8 y13 32], Res.cells g38 23 [.ints .u8 [0, 0, 0, 0, 0, 0, 0, 0, 0, 0, 0, 0, 0, 0, 0, 0, 0, 0, 0, 0, 0, 0, 0, 0, 0, 0, 0, 0, 0, 0, 0, 0] 32]] a w → smithyref05_Sum.j3 y13 = some r → K3 a w := by
        intro m g37 g38 y13 a w S h0
        delta smithyref05_Sum.j3 at h0
        refine hK3 a w ?_
        refine c_region ?_
        refine s_loada S rfl .here T23 (s' := [.ints .u8 y13 32]) rfl rfl ?_; clear S a; intro a S
        refine s_store S rfl rfl rfl (s' := [.ints .u8 y13 32]) (.there .here) T23 rfl rfl ?_; clear S w; intro w S
        refine c_end ?_
        refine wp_ret ?_
        obtain rfl := Option.some.inj h0
        exact b_ret1 (d := (.agg [.ints .u8 y13 32])) S rfl (resD_cell rfl (.there .here) T23 rfl rfl) fun ok => S.retX (Hx := []) hb _ _ (() : Unit) .nil ok
      refine c_region ?_
      refine s_assign S rfl rfl ?_; clear S a; intro a S
      refine c_end ?_
      refine wp_block ?_
      refine c_loop (fun q1 a w => ∃ (m : Mem) (y16 : Int) (g45 : Nat) (g46 : Nat) (g47 : Nat) (y17 : List Int), St 83 m b0 [(8, (.v (.int .i64 y16))), (7, (.v (.pointer (some ⟨g45, 0, none⟩)))), (4, (.v (.pointer (some ⟨g46, 0, none⟩)))), (2, (.v (.pointer (some ⟨g47, 0, none⟩))))] [Res.cells g45 23 [.ints .u8 y17 32], Res.cells g46 100 [.ints .u64 y8 25], Res.cells g47 23 [.ints .u8 [0, 0, 0, 0, 0, 0, 0, 0, 0, 0, 0, 0, 0, 0, 0, 0, 0, 0, 0, 0, 0, 0, 0, 0, 0, 0, 0, 0, 0, 0, 0, 0] 32]] a w ∧ smithyref05_Sum.l1 y8 q1 y16 y17 = some r) ?_ ?_ (k := k) ⟨_, 0, g27, g25, g26, [0, 0, 0, 0, 0, 0, 0, 0, 0, 0, 0, 0, 0, 0, 0, 0, 0, 0, 0, 0, 0, 0, 0, 0, 0, 0, 0, 0, 0, 0, 0, 0], (S.sub ⟨rfl, rfl, rfl, rfl, trivial⟩ (.cons .here (.cons .here (.cons .here .nil)))), h0⟩
      · rintro a w ⟨m, y16, g45, g46, g47, y17, S, h0⟩
        exact (nomatch (show (none : Option ((List Int))) = some r from h0))
      · clear S h0
        rintro q1 a w ⟨m, y16, g45, g46, g47, y17, S, h0⟩
        replace h0 : smithyref05_Sum.b1 y8 (smithyref05_Sum.l1 y8 q1) y16 y17 = some r := h0
        delta smithyref05_Sum.b1 at h0
        refine wp_seq ?_
        refine c_region ?_
        refine s_move S rfl rfl ?_; clear S a; intro a S
        refine s_bin S rfl rfl rfl rfl ?_; clear S a; intro a S
        refine c_end ?_
        rcases ite_of h0 with ⟨c4, h1⟩ | ⟨c4, h1⟩ <;> clear h0
        · refine c_condT S rfl c4 ?_
          refine wp_skip ?_
          refine x_thenN ?_
          refine wp_seq ?_
          refine wp_block ?_
          refine c_region' ?_
          refine s_move S rfl rfl ?_; clear S a; intro a S
          refine s_move S rfl rfl ?_; clear S a; intro a S
          refine s_quo S rfl rfl (by decide) rfl ?_; clear S a; intro a S
          obtain ⟨c5, h2⟩ := chk_of h1; clear h1
          refine s_iaddr S rfl rfl Tryd.underlying100 T24 c5.1 c5.2 (mul1 _ _) rfl ?_; clear S a; intro a S
          refine s_loadi S (i := (wr .i64 (Int.tdiv y16 8))) rfl (.there .here) T24 .here rfl c5.1 c5.2 rfl ?_; clear S a; intro a S
          refine s_move S rfl rfl ?_; clear S a; intro a S
          refine s_rem S rfl rfl (by decide) rfl ?_; clear S a; intro a S
          refine s_bin S rfl rfl rfl rfl ?_; clear S a; intro a S
          obtain ⟨c6, h3⟩ := chk_of h2; clear h2
          refine s_shr S (e := (min (Int.toNat (wr .i64 (8 * (Int.tmod y16 8)))) 64)) rfl rfl c6 rfl rfl ?_; clear S a; intro a S
          refine s_rem S rfl rfl (by decide) rfl ?_; clear S a; intro a S
          refine s_conv S rfl rfl Tryd.underlying5 rfl ?_; clear S a; intro a S
          obtain ⟨c7, h4⟩ := chk_of h3; clear h3
          refine s_iaddr S rfl rfl Tryd.underlying23 T5 c7.1 c7.2 (mul1 _ _) rfl ?_; clear S a; intro a S
          refine s_storei S (i := y16) rfl rfl .here T5 .here rfl c7.1 c7.2 ?_; clear S w; intro w S
          refine c_end' ?_
          refine x_blockN ?_
          refine x_thenN ?_
          refine c_region' ?_
          refine s_move S rfl rfl ?_; clear S a; intro a S
          refine s_bin S rfl rfl rfl rfl ?_; clear S a; intro a S
          refine s_assign S rfl rfl ?_; clear S a; intro a S
          refine c_end' ?_
          refine x_thenN ?_
          exact ⟨_, (wr .i64 (y16 + 1)), g45, g46, g47, (y17.set (Int.toNat y16) (wr .u8 (Int.tmod (shr (rd y8 (wr .i64 (Int.tdiv y16 8))) (min (Int.toNat (wr .i64 (8 * (Int.tmod y16 8)))) 64)) 256))), (S.sub ⟨rfl, rfl, rfl, rfl, trivial⟩ (.cons .here (.cons .here (.cons .here .nil)))), h4⟩
        · refine c_condF S rfl c4 ?_
          refine wp_exit ?_
          refine x_thenX ?_
          refine x_thenX ?_
          refine x_blockX ?_
          refine x_thenN ?_
          exact j3 _ g45 g47 y17 a w (S.sub ⟨rfl, rfl, trivial⟩ (.cons .here (.cons (.there .here) .nil))) h1
    refine c_region ?_
    refine s_assign S rfl rfl ?_; clear S a; intro a S
    refine c_end ?_
    refine wp_block ?_
    refine c_loop (fun q2 a w => ∃ (m : Mem) (y22 : Int) (g58 : Nat) (g59 : Nat) (y23 : List Int), St 83 m b0 [(5, (.v (.int .i64 y22))), (4, (.v (.pointer (some ⟨g58, 0, none⟩)))), (3, (.v (.slice A3 nn1 cp8))), (2, (.v (.pointer (some ⟨g59, 0, none⟩))))] [Res.cells g58 100 [.ints .u64 y23 25], Res.row (Ty.int .u8) 5 A3 nn1 cp8 (y1.set (Int.toNat (wr .i64 (((y1).length : Int) - 1))) (bits .or .u8 (rd y1 (wr .i64 (((y1).length : Int) - 1))) 128)), Res.cells g59 23 [.ints .u8 [0, 0, 0, 0, 0, 0, 0, 0, 0, 0, 0, 0, 0, 0, 0, 0, 0, 0, 0, 0, 0, 0, 0, 0, 0, 0, 0, 0, 0, 0, 0, 0] 32]] a w ∧ smithyref05_Sum.l2 k y1 q2 y22 y23 = some r) ?_ ?_ (k := k) ⟨_, 0, g12, g9, [0, 0, 0, 0, 0, 0, 0, 0, 0, 0, 0, 0, 0, 0, 0, 0, 0, 0, 0, 0, 0, 0, 0, 0, 0], (S.sub ⟨rfl, rfl, rfl, rfl, trivial⟩ (.cons .here (.cons .here (.cons .here .nil)))), h1⟩
    · rintro a w ⟨m, y22, g58, g59, y23, S, h0⟩
      exact (nomatch (show (none : Option ((List Int))) = some r from h0))
    · clear S h1
      rintro q2 a w ⟨m, y22, g58, g59, y23, S, h0⟩
      replace h0 : smithyref05_Sum.b2 k y1 (smithyref05_Sum.l2 k y1 q2) y22 y23 = some r := h0
      delta smithyref05_Sum.b2 at h0
      refine wp_seq ?_
      refine c_region ?_
      refine s_move S rfl rfl ?_; clear S a; intro a S
      refine s_move S rfl rfl ?_; clear S a; intro a S
      refine s_lenO S rfl (.there .here) Tryd.underlying37 rfl ?_; clear S a; intro a S
      refine s_bin S rfl rfl rfl rfl ?_; clear S a; intro a S
      refine c_end ?_
      rcases ite_of h0 with ⟨c8, h1⟩ | ⟨c8, h1⟩ <;> clear h0
      · refine c_condT S rfl c8 ?_
        refine wp_skip ?_
        refine x_thenN ?_
        refine wp_seq_k ?_
        intro K4 hK4
        have j4 : ∀ (m : Mem) (g61 : Nat) (g62 : Nat) (y24 : List Int) (a : Act) (w : World), St 83 m b0 [(5, (.v (.int .i64 y22))), (4, (.v (.pointer (some ⟨g61, 0, none⟩)))), (3, (.v (.slice A3 nn1 cp8))), (2, (.v (.pointer (some ⟨g62, 0, none⟩))))] [Res.cells g61 100 [.ints .u64 y24 25], Res.row (Ty.int .u8) 5 A3 nn1 cp8 (y1.set (Int.toNat (wr .i64 (((y1).length : Int) - 1))) (bits .or .u8 (rd y1 (wr .i64 (((y1).length : Int) - 1))) 128)), Res.cells g62 23 [.ints .u8 [0, 0, 0, 0, 0, 0, 0, 0, 0, 0, 0, 0, 0, 0, 0, 0, 0, 0, 0, 0, 0, 0, 0, 0, 0, 0, 0, 0, 0, 0, 0, 0] 32]] a w → smithyref05_Sum.j4 y22 (smithyref05_Sum.l2 k y1 q2) y24 = some r → K4 a w := by
          intro m g61 g62 y24 a w S h0
          delta smithyref05_Sum.j4 at h0
          refine hK4 a w ?_
          refine c_region' ?_
          refine s_move S rfl rfl ?_; clear S a; intro a S
          refine s_bin S rfl rfl rfl rfl ?_; clear S a; intro a S
          refine s_assign S rfl rfl ?_; clear S a; intro a S
          refine c_end' ?_
          refine x_thenN ?_
          exact ⟨_, (wr .i64 (y22 + 1)), g61, g62, y24, (S.sub ⟨rfl, rfl, rfl, rfl, trivial⟩ (.cons .here (.cons .here (.cons .here .nil)))), h0⟩
        refine wp_block ?_
        refine c_region ?_
        refine s_move S rfl rfl ?_; clear S a; intro a S
        refine s_rem S rfl rfl (by decide) rfl ?_; clear S a; intro a S
        refine s_assign S rfl rfl ?_; clear S a; intro a S
        refine c_end ?_
        refine wp_seq (c_heldS S (.take 0 (.take 1 (.take 2 (.take 3 (.take 4 (.take 5 (.take 6 (.take 7 (.take 8 (.take 9 (.take 10 (.take 11 (.take 12 (.take 13 (.take 14 (.take 15 (.take 16 (.alts (.run 17 false .done .nil))))))))))))))))))) 17 [Res.cells g58 100 [.ints .u64 y23 25], Res.row (Ty.int .u8) 5 A3 nn1 cp8 (y1.set (Int.toNat (wr .i64 (((y1).length : Int) - 1))) (bits .or .u8 (rd y1 (wr .i64 (((y1).length : Int) - 1))) 128)), Res.cells g59 23 [.ints .u8 [0, 0, 0, 0, 0, 0, 0, 0, 0, 0, 0, 0, 0, 0, 0, 0, 0, 0, 0, 0, 0, 0, 0, 0, 0, 0, 0, 0, 0, 0, 0, 0] 32]] (.cons .here (.cons .here (.cons .here .nil))) ⟨Res.stay_cells, Res.stay_row flat_int, Res.stay_cells, trivial⟩ [(6, (.v (.int .i64 (Int.tmod y22 136)))), (5, (.v (.int .i64 y22))), (4, (.v (.pointer (some ⟨g58, 0, none⟩)))), (3, (.v (.slice A3 nn1 cp8)))] ⟨rfl, rfl, rfl, rfl, trivial⟩ (by kernel_rfl) (by kernel_rfl) ?_); clear S; intro w S CL hw le
        refine h_move S CL hw le ⟨rfl, rfl, rfl, rfl, trivial⟩ rfl rfl rfl trivial ?_; clear S CL a; intro a S CL
        refine h_quo S CL hw le ⟨rfl, rfl, rfl, rfl, rfl, trivial⟩ rfl rfl (by decide) rfl rfl trivial ?_; clear S CL a; intro a S CL
        refine h_move S CL hw le ⟨rfl, rfl, rfl, rfl, rfl, rfl, trivial⟩ rfl rfl rfl trivial ?_; clear S CL a; intro a S CL
        refine h_quo S CL hw le ⟨rfl, rfl, rfl, rfl, rfl, rfl, rfl, trivial⟩ rfl rfl (by decide) rfl rfl trivial ?_; clear S CL a; intro a S CL
        obtain ⟨c9, h2⟩ := chk_of h1; clear h1
        refine h_iaddr S CL hw le ⟨rfl, rfl, rfl, rfl, rfl, rfl, rfl, rfl, trivial⟩ rfl rfl Tryd.underlying100 T24 c9.1 c9.2 (mul1 _ _) rfl rfl trivial ?_; clear S CL a; intro a S CL
        refine h_loadi S CL hw le ⟨rfl, rfl, rfl, rfl, rfl, rfl, rfl, rfl, rfl, trivial⟩ (i := (wr .i64 (Int.tdiv (Int.tmod y22 136) 8))) rfl .here T24 .here rfl c9.1 c9.2 rfl rfl trivial ?_; clear S CL a; intro a S CL
        refine h_move S CL hw le ⟨rfl, rfl, rfl, rfl, rfl, rfl, rfl, rfl, rfl, rfl, trivial⟩ rfl rfl rfl trivial ?_; clear S CL a; intro a S CL
        refine h_move S CL hw le ⟨rfl, rfl, rfl, rfl, rfl, rfl, rfl, rfl, rfl, rfl, rfl, trivial⟩ rfl rfl rfl trivial ?_; clear S CL a; intro a S CL
        obtain ⟨c10, h3⟩ := chk_of h2; clear h2
        refine h_iaddrO S CL hw le ⟨rfl, rfl, rfl, rfl, rfl, rfl, rfl, rfl, rfl, rfl, rfl, rfl, trivial⟩ (ty' := (Ty.int .u8)) rfl (.there .here) rfl Tryd.underlying37 T5 c10.1 c10.2 rfl rfl trivial ?_; clear S CL a; intro g63 a hA3 S CL
        refine h_ldR1 S CL hw le ⟨rfl, rfl, rfl, rfl, rfl, rfl, rfl, rfl, rfl, rfl, rfl, rfl, rfl, trivial⟩ (ty' := (Ty.int .u8)) (i := y22) (off := 0) (v := (.int .u8 (rd (y1.set (Int.toNat (wr .i64 (((y1).length : Int) - 1))) (bits .or .u8 (rd y1 (wr .i64 (((y1).length : Int) - 1))) 128)) y22))) rfl hA3 (.there .here) T5 c10.1 c10.2 rfl (fun _ => rfl) rfl rfl trivial ?_; clear S CL a; intro a S CL
        refine h_conv S CL hw le ⟨rfl, rfl, rfl, rfl, rfl, rfl, rfl, rfl, rfl, rfl, rfl, rfl, rfl, rfl, trivial⟩ rfl rfl Tryd.underlying24 rfl rfl trivial ?_; clear S CL a; intro a S CL
        refine h_move S CL hw le ⟨rfl, rfl, rfl, rfl, rfl, rfl, rfl, rfl, rfl, rfl, rfl, rfl, rfl, rfl, rfl, trivial⟩ rfl rfl rfl trivial ?_; clear S CL a; intro a S CL
        refine h_rem S CL hw le ⟨rfl, rfl, rfl, rfl, rfl, rfl, rfl, rfl, rfl, rfl, rfl, rfl, rfl, rfl, rfl, rfl, trivial⟩ rfl rfl (by decide) rfl rfl trivial ?_; clear S CL a; intro a S CL
        refine h_bin S CL hw le ⟨rfl, rfl, rfl, rfl, rfl, rfl, rfl, rfl, rfl, rfl, rfl, rfl, rfl, rfl, rfl, rfl, rfl, trivial⟩ rfl rfl rfl rfl rfl trivial ?_; clear S CL a; intro a S CL
        obtain ⟨c11, h4⟩ := chk_of h3; clear h3
        refine h_shl S CL hw le ⟨rfl, rfl, rfl, rfl, rfl, rfl, rfl, rfl, rfl, rfl, rfl, rfl, rfl, rfl, rfl, rfl, rfl, rfl, trivial⟩ (e := (min (Int.toNat (wr .i64 (8 * (Int.tmod (Int.tmod y22 136) 8)))) 64)) rfl rfl c11 rfl rfl rfl trivial ?_; clear S CL a; intro a S CL
        refine h_bin S CL hw le ⟨rfl, rfl, rfl, rfl, rfl, rfl, rfl, rfl, rfl, rfl, rfl, rfl, rfl, rfl, rfl, rfl, rfl, rfl, rfl, trivial⟩ rfl rfl rfl rfl rfl trivial ?_; clear S CL a; intro a S CL
        refine h_iaddr S CL hw le ⟨rfl, rfl, rfl, rfl, rfl, rfl, rfl, rfl, rfl, rfl, rfl, rfl, rfl, rfl, rfl, rfl, rfl, rfl, rfl, rfl, trivial⟩ rfl rfl Tryd.underlying100 T24 c9.1 c9.2 (mul1 _ _) rfl rfl trivial ?_; clear S CL a; intro a S CL
        refine h_run' S rfl trivial ?_
        refine s_storei S (i := (wr .i64 (Int.tdiv (Int.tmod y22 136) 8))) rfl rfl .here T24 .here rfl c9.1 c9.2 ?_; clear S; intro w S
        refine h_back ⟨fun h => (nomatch h), ?_⟩
        refine h_done ?_; clear CL hw le
        refine x_thenN ?_
        refine c_region ?_
        refine s_move S rfl rfl ?_; clear S a; intro a S
        refine s_bin S rfl rfl rfl rfl ?_; clear S a; intro a S
        refine c_end ?_
        rcases ite_of h4 with ⟨c12, h5⟩ | ⟨c12, h5⟩ <;> clear h4
        · refine c_condT S rfl c12 ?_
          refine c_region' ?_
          refine s_loada S rfl .here T100 (s' := [.ints .u64 (y23.set (Int.toNat (wr .i64 (Int.tdiv (Int.tmod y22 136) 8))) (bits .xor .u64 (rd y23 (wr .i64 (Int.tdiv (Int.tmod y22 136) 8))) (shl .u64 (wr .u64 (rd (y1.set (Int.toNat (wr .i64 (((y1).length : Int) - 1))) (bits .or .u8 (rd y1 (wr .i64 (((y1).length : Int) - 1))) 128)) y22)) (min (Int.toNat (wr .i64 (8 * (Int.tmod (Int.tmod y22 136) 8)))) 64)))) 25]) rfl rfl ?_; clear S a; intro a S
          obtain ⟨t1, et1, h6⟩ := bind_of h5; clear h5
          refine s_callP S (fun (ch : Unit) => ((.agg [.ints .u64 t1 25]) : D)) N71 rfl rfl (smithyref05_Turn.ok k (y23.set (Int.toNat (wr .i64 (Int.tdiv (Int.tmod y22 136) 8))) (bits .xor .u64 (rd y23 (wr .i64 (Int.tdiv (Int.tmod y22 136) 8))) (shl .u64 (wr .u64 (rd (y1.set (Int.toNat (wr .i64 (((y1).length : Int) - 1))) (bits .or .u8 (rd y1 (wr .i64 (((y1).length : Int) - 1))) 128)) y22)) (min (Int.toNat (wr .i64 (8 * (Int.tmod (Int.tmod y22 136) 8)))) 64)))) t1 et1 _ _) ?_; clear S a w; intro ch1 m le1 a w S
          refine s_store S rfl rfl rfl (s' := [.ints .u64 t1 25]) .here T100 rfl rfl ?_; clear S w; intro w S
          refine c_end' ?_
          refine x_blockN ?_
          refine x_thenN ?_
          exact j4 _ g58 g59 t1 a w (S.sub ⟨rfl, rfl, rfl, rfl, trivial⟩ (.cons .here (.cons .here (.cons .here .nil)))) h6
        · refine c_condF S rfl c12 ?_
          refine wp_skip ?_
          refine x_blockN ?_
          refine x_thenN ?_
          exact j4 _ g58 g59 (y23.set (Int.toNat (wr .i64 (Int.tdiv (Int.tmod y22 136) 8))) (bits .xor .u64 (rd y23 (wr .i64 (Int.tdiv (Int.tmod y22 136) 8))) (shl .u64 (wr .u64 (rd (y1.set (Int.toNat (wr .i64 (((y1).length : Int) - 1))) (bits .or .u8 (rd y1 (wr .i64 (((y1).length : Int) - 1))) 128)) y22)) (min (Int.toNat (wr .i64 (8 * (Int.tmod (Int.tmod y22 136) 8)))) 64)))) a w (S.sub ⟨rfl, rfl, rfl, rfl, trivial⟩ (.cons .here (.cons .here (.cons .here .nil)))) h5
      · refine c_condF S rfl c8 ?_
        refine wp_exit ?_
        refine x_thenX ?_
        refine x_thenX ?_
        refine x_blockX ?_
        refine x_thenN ?_
        exact j2 _ g58 g59 y23 a w (S.sub ⟨rfl, rfl, trivial⟩ (.cons .here (.cons (.there .here) .nil))) h1
  refine wp_block ?_
  refine c_loop (fun q3 a w => ∃ (m : Mem) (A4 : Option Addr) (nn3 : Nat) (cp13 : Nat) (y26 : List Int) (g68 : Nat), St 83 m b0 [(3, (.v (.slice A4 nn3 cp13))), (2, (.v (.pointer (some ⟨g68, 0, none⟩))))] [Res.row (Ty.int .u8) 5 A4 nn3 cp13 y26, Res.cells g68 23 [.ints .u8 [0, 0, 0, 0, 0, 0, 0, 0, 0, 0, 0, 0, 0, 0, 0, 0, 0, 0, 0, 0, 0, 0, 0, 0, 0, 0, 0, 0, 0, 0, 0, 0] 32]] a w ∧ smithyref05_Sum.l3 k q3 y26 = some r) ?_ ?_ (k := k) ⟨_, A2, ((0 + ((x1).length)) + 1), cp2, ((([] : List Int) ++ x1) ++ [1]), g1, (S.sub ⟨rfl, rfl, trivial⟩ (.cons (.there .here) (.cons (.there .here) .nil))), h2⟩
  · rintro a w ⟨m, A4, nn3, cp13, y26, g68, S, h0⟩
    exact (nomatch (show (none : Option ((List Int))) = some r from h0))
  · clear S h2
    rintro q3 a w ⟨m, A4, nn3, cp13, y26, g68, S, h0⟩
    replace h0 : smithyref05_Sum.b3 k (smithyref05_Sum.l3 k q3) y26 = some r := h0
    delta smithyref05_Sum.b3 at h0
    refine wp_seq ?_
    refine c_region ?_
    refine s_move S rfl rfl ?_; clear S a; intro a S
    refine s_lenO S rfl .here Tryd.underlying37 rfl ?_; clear S a; intro a S
    refine s_rem S rfl rfl (by decide) rfl ?_; clear S a; intro a S
    refine s_bin S rfl rfl rfl rfl ?_; clear S a; intro a S
    refine c_end ?_
    rcases ite_of h0 with ⟨c13, h1⟩ | ⟨c13, h1⟩ <;> clear h0
    · refine c_condT S rfl c13 ?_
      refine wp_skip ?_
      refine x_thenN ?_
      refine wp_block ?_
      refine c_region' ?_
      refine s_move S rfl rfl ?_; clear S a; intro a S
      refine s_bldSl S (ty' := (Ty.int .u8)) (ds := [(0, (.v (.int .u8 0)))]) (z := 0) (c0 := ()) (ys := [0]) (cs := [()]) rfl Tryd.underlying37 J5 Z5 rfl ⟨rfl, trivial⟩ rfl rfl rfl rfl rfl rfl ?_; clear S a w; intro g69 a w S
      obtain ⟨c14, h2⟩ := chk_of h1; clear h1
      refine s_app S (k2 := 1) (ys := [0]) rfl (fun _ _ => (.there .here)) rfl rfl (S.holds _ (Pull.mem .here).1).1 (Res.row.src (S.holds _ (Pull.mem .here).1)) Tryd.underlying37 J5 c14 rfl ?_; clear S a w; intro A5 cp14 a w S
      refine s_assign S rfl rfl ?_; clear S a; intro a S
      refine c_end' ?_
      refine x_blockN ?_
      refine x_thenN ?_
      exact ⟨_, A5, (nn3 + 1), cp14, (y26 ++ [0]), g68, (S.sub ⟨rfl, rfl, trivial⟩ (.cons (.there .here) (.cons (.there .here) .nil))), h2⟩
    · refine c_condF S rfl c13 ?_
      refine wp_exit ?_
      refine x_thenX ?_
      refine x_thenX ?_
      refine x_blockX ?_
      refine x_thenN ?_
      exact j1 _ A4 nn3 cp13 y26 g68 a w (S.sub ⟨rfl, rfl, trivial⟩ (.cons .here (.cons .here .nil))) h1
/-! smithy/smithyref23.hash -/
abbrev smithyref23_hash.Ty : Type := (List Int) → Option ((List Int))
def smithyref23_hash.Ctr (s : smithyref23_hash.Ty) : Prop := ∀ (x1 : List Int) (ch_0_0 : Option Addr) (ch_0_1 : Nat) (r : (List Int)) (h0 : s x1 = some r) (mi : Mem) (w0 : World), okL mi [(.sl ch_0_0 (x1).length ch_0_1 (RdS (Ty.int .u8) ch_0_0 x1))] → Pre mi [] w0 → Calls Tryd.prog 27 (([(.sl ch_0_0 (x1).length ch_0_1 (RdS (Ty.int .u8) ch_0_0 x1))] : List D).map D.val).toArray w0 (RetX mi [] (fun (ch : Unit) => ((.agg [.ints .u8 r 32]) : D)) (fun (ch : Unit) => []) w0)
def smithyref23_hash.f (k : Nat) (x1 : List Int) : Option ((List Int)) := if (decide (1048576 < ((x1).length : Int))) = true then (some [0, 0, 0, 0, 0, 0, 0, 0, 0, 0, 0, 0, 0, 0, 0, 0, 0, 0, 0, 0, 0, 0, 0, 0, 0, 0, 0, 0, 0, 0, 0, 0]) else ((smithyref05_Sum.f k x1).bind fun t1 => (some t1))
theorem smithyref23_hash.ok (k : Nat) : smithyref23_hash.Ctr (smithyref23_hash.f k) := by
  intro x1 ch_0_0 ch_0_1 r h0 mi w0 ok hm
  delta smithyref23_hash.f at h0
  refine c_enterX (n := 9) [(.sl ch_0_0 (x1).length ch_0_1 (RdS (Ty.int .u8) ch_0_0 x1))] (l := [(0, (.sl ch_0_0 (x1).length ch_0_1 (RdS (Ty.int .u8) ch_0_0 x1)))]) Tryd.func27 rfl rfl rfl rfl ok hm ?_
  clear ok hm
  intro b0 hb a S
  refine c_region ?_
  refine s_alloc S Z23 rfl ⟨rfl, trivial⟩ rfl ?_; clear S a; intro g1 a w S
  refine c_end ?_
  refine wp_seq ?_
  refine c_region ?_
  refine s_move S rfl rfl ?_; clear S a; intro a S
  refine s_lenS S rfl Tryd.underlying37 rfl ?_; clear S a; intro a S
  refine s_bin S rfl rfl rfl rfl ?_; clear S a; intro a S
  refine c_end ?_
  rcases ite_of h0 with ⟨c1, h1⟩ | ⟨c1, h1⟩ <;> clear h0
  · refine c_condT S rfl c1 ?_
    refine c_region ?_
    refine s_build S (ds := []) (dv := (.agg [.ints .u8 [0, 0, 0, 0, 0, 0, 0, 0, 0, 0, 0, 0, 0, 0, 0, 0, 0, 0, 0, 0, 0, 0, 0, 0, 0, 0, 0, 0, 0, 0, 0, 0] 32])) rfl (fun _ => by kernel_rfl) ⟨rfl, trivial⟩ rfl ?_; clear S a; intro a S
    refine s_store S rfl rfl rfl (s' := [.ints .u8 [0, 0, 0, 0, 0, 0, 0, 0, 0, 0, 0, 0, 0, 0, 0, 0, 0, 0, 0, 0, 0, 0, 0, 0, 0, 0, 0, 0, 0, 0, 0, 0] 32]) .here T23 rfl rfl ?_; clear S w; intro w S
    refine c_end ?_
    refine wp_ret ?_
    refine x_thenR ?_
    obtain rfl := Option.some.inj h1
    exact b_ret1 (d := (.agg [.ints .u8 [0, 0, 0, 0, 0, 0, 0, 0, 0, 0, 0, 0, 0, 0, 0, 0, 0, 0, 0, 0, 0, 0, 0, 0, 0, 0, 0, 0, 0, 0, 0, 0] 32])) S rfl (resD_cell rfl .here T23 rfl rfl) fun ok => S.retX (Hx := []) hb _ _ (() : Unit) .nil ok
  · refine c_condF S rfl c1 ?_
    refine wp_skip ?_
    refine x_thenN ?_
    refine c_region ?_
    refine s_move S rfl rfl ?_; clear S a; intro a S
    obtain ⟨t1, et1, h2⟩ := bind_of h1; clear h1
    refine s_callP S (fun (ch : Unit) => ((.agg [.ints .u8 t1 32]) : D)) N46 rfl rfl (smithyref05_Sum.ok k x1 ch_0_0 ch_0_1 t1 et1 _ _) ?_; clear S a w; intro ch1 m le1 a w S
    refine s_store S rfl rfl rfl (s' := [.ints .u8 t1 32]) .here T23 rfl rfl ?_; clear S w; intro w S
    refine c_end ?_
    refine wp_ret ?_
    obtain rfl := Option.some.inj h2
    exact b_ret1 (d := (.agg [.ints .u8 t1 32])) S rfl (resD_cell rfl .here T23 rfl rfl) fun ok => S.retX (Hx := []) hb _ _ (() : Unit) .nil ok
/-! smithy/smithyref23.Receipt -/
abbrev smithyref23_Receipt.Ty : Type := ((List Int) × Int × Bool × Int × (List Int) × (List Int) × (List ((List Int) × (List (List Int)) × (List Int))) × (List Int)) → Option ((List Int))
def smithyref23_Receipt.Ctr (s : smithyref23_Receipt.Ty) : Prop := ∀ (x1 : (List Int) × Int × Bool × Int × (List Int) × (List Int) × (List ((List Int) × (List (List Int)) × (List Int))) × (List Int)) (ch_0_0 : Option Addr) (ch_0_1 : Nat) (ch_0_2 : Option Addr) (ch_0_3 : Nat) (r : (List Int)) (h0 : s x1 = some r) (mi : Mem) (w0 : World), okL mi [(.agg [.ints .u8 x1.1 20, .one (.int .u64 x1.2.1), .one (.bool x1.2.2.1), .one (.int .u64 x1.2.2.2.1), .ints .u64 x1.2.2.2.2.1 4, .ints .u8 x1.2.2.2.2.2.1 20, .sl ch_0_0 (x1.2.2.2.2.2.2.1).length ch_0_1 (RdS (Ty.prod (Ty.arr .u8 20) (Ty.prod (Ty.slice (Ty.arr .u64 4)) (Ty.slice (Ty.int .u8)))) ch_0_0 x1.2.2.2.2.2.2.1), .sl ch_0_2 (x1.2.2.2.2.2.2.2).length ch_0_3 (RdS (Ty.int .u8) ch_0_2 x1.2.2.2.2.2.2.2)])] → Pre mi [] w0 → Calls Tryd.prog 12 (([(.agg [.ints .u8 x1.1 20, .one (.int .u64 x1.2.1), .one (.bool x1.2.2.1), .one (.int .u64 x1.2.2.2.1), .ints .u64 x1.2.2.2.2.1 4, .ints .u8 x1.2.2.2.2.2.1 20, .sl ch_0_0 (x1.2.2.2.2.2.2.1).length ch_0_1 (RdS (Ty.prod (Ty.arr .u8 20) (Ty.prod (Ty.slice (Ty.arr .u64 4)) (Ty.slice (Ty.int .u8)))) ch_0_0 x1.2.2.2.2.2.2.1), .sl ch_0_2 (x1.2.2.2.2.2.2.2).length ch_0_3 (RdS (Ty.int .u8) ch_0_2 x1.2.2.2.2.2.2.2)])] : List D).map D.val).toArray w0 (RetX mi [] (fun (ch : Unit) => ((.agg [.ints .u8 r 32]) : D)) (fun (ch : Unit) => []) w0)
def smithyref23_Receipt.j2 (k : Nat) (x1 : (List Int) × Int × Bool × Int × (List Int) × (List Int) × (List ((List Int) × (List (List Int)) × (List Int))) × (List Int)) (y1 : Int) (y18 : List (List Int)) : Option ((List Int)) := (smithyref23_bytes.f k (((x1.1).drop 0).take 20)).bind fun t1 => ((smithyref23_count.f k x1.2.1).bind fun t2 => ((smithyref23_count.f k y1).bind fun t3 => ((smithyref23_count.f k x1.2.2.2.1).bind fun t4 => ((smithyref23_number.f k x1.2.2.2.2.1).bind fun t5 => ((smithyref23_bytes.f k (((x1.2.2.2.2.2.1).drop 0).take 20)).bind fun t6 => ((smithyref23_bytes.f k x1.2.2.2.2.2.2.2).bind fun t7 => ((smithyref23_list.f k y18).bind fun t8 => ((smithyref23_list.f k [t1, t2, t3, t4, t5, t6, t7, t8]).bind fun t9 => ((smithyref23_hash.f k t9).bind fun t10 => (some t10))))))))))
def smithyref23_Receipt.j3 (y33 : Int) (rec1 : Int → (List (List Int)) → Option ((List Int))) (y40 : List (List Int)) : Option ((List Int)) := rec1 (wr .i64 (y33 + 1)) y40
def smithyref23_Receipt.j4 (k : Nat) (x1 : (List Int) × Int × Bool × Int × (List Int) × (List Int) × (List ((List Int) × (List (List Int)) × (List Int))) × (List Int)) (y33 : Int) (y34 : List (List Int)) (rec1 : Int → (List (List Int)) → Option ((List Int))) (y45 : List (List Int)) : Option ((List Int)) := (smithyref23_bytes.f k ((((gt x1.2.2.2.2.2.2.1 y33).1).drop 0).take 20)).bind fun t15 => ((smithyref23_list.f k y45).bind fun t16 => ((smithyref23_bytes.f k ((gt x1.2.2.2.2.2.2.1 y33).2.2)).bind fun t17 => ((smithyref23_list.f k [t15, t16, t17]).bind fun t18 => (if ((y34).length + ([t18]).length) * 24 ≤ 140737488355328 then (smithyref23_Receipt.j3 y33 rec1 (y34 ++ [t18])) else none))))
def smithyref23_Receipt.b2 (k : Nat) (x1 : (List Int) × Int × Bool × Int × (List Int) × (List Int) × (List ((List Int) × (List (List Int)) × (List Int))) × (List Int)) (y33 : Int) (y34 : List (List Int)) (rec1 : Int → (List (List Int)) → Option ((List Int))) (rec2 : Int → (List (List Int)) → Option ((List Int))) (y48 : Int) (y49 : List (List Int)) : Option ((List Int)) := if (decide (y48 < (((gt x1.2.2.2.2.2.2.1 y33).2.1).length : Int))) = true then (if (0 : Int) ≤ y48 ∧ y48 < (((gt x1.2.2.2.2.2.2.1 y33).2.1).length : Int) then ((smithyref23_full.f k (gt ((gt x1.2.2.2.2.2.2.1 y33).2.1) y48)).bind fun t21 => (if ((y49).length + ([t21]).length) * 24 ≤ 140737488355328 then (rec2 (wr .i64 (y48 + 1)) (y49 ++ [t21])) else none)) else none) else (smithyref23_Receipt.j4 k x1 y33 y34 rec1 y49)
def smithyref23_Receipt.l2 (k : Nat) (x1 : (List Int) × Int × Bool × Int × (List Int) × (List Int) × (List ((List Int) × (List (List Int)) × (List Int))) × (List Int)) (y33 : Int) (y34 : List (List Int)) (rec1 : Int → (List (List Int)) → Option ((List Int))) : Nat → Int → (List (List Int)) → Option ((List Int))
  | 0, _, _ => none
  | q + 1, y48, y49 => smithyref23_Receipt.b2 k x1 y33 y34 rec1 (smithyref23_Receipt.l2 k x1 y33 y34 rec1 q) y48 y49
def smithyref23_Receipt.b1 (k : Nat) (x1 : (List Int) × Int × Bool × Int × (List Int) × (List Int) × (List ((List Int) × (List (List Int)) × (List Int))) × (List Int)) (y1 : Int) (rec1 : Int → (List (List Int)) → Option ((List Int))) (y33 : Int) (y34 : List (List Int)) : Option ((List Int)) := if (decide (y33 < ((x1.2.2.2.2.2.2.1).length : Int))) = true then (if (0 : Int) ≤ y33 ∧ y33 < ((x1.2.2.2.2.2.2.1).length : Int) then (smithyref23_Receipt.l2 k x1 y33 y34 rec1 k 0 ([] : List (List Int))) else none) else (smithyref23_Receipt.j2 k x1 y1 y34)
def smithyref23_Receipt.l1 (k : Nat) (x1 : (List Int) × Int × Bool × Int × (List Int) × (List Int) × (List ((List Int) × (List (List Int)) × (List Int))) × (List Int)) (y1 : Int) : Nat → Int → (List (List Int)) → Option ((List Int))
  | 0, _, _ => none
  | q + 1, y33, y34 => smithyref23_Receipt.b1 k x1 y1 (smithyref23_Receipt.l1 k x1 y1 q) y33 y34
def smithyref23_Receipt.j1 (k : Nat) (x1 : (List Int) × Int × Bool × Int × (List Int) × (List Int) × (List ((List Int) × (List (List Int)) × (List Int))) × (List Int)) (y1 : Int) : Option ((List Int)) := smithyref23_Receipt.l1 k x1 y1 k 0 ([] : List (List Int))
def smithyref23_Receipt.f (k : Nat) (x1 : (List Int) × Int × Bool × Int × (List Int) × (List Int) × (List ((List Int) × (List (List Int)) × (List Int))) × (List Int)) : Option ((List Int)) := if x1.2.2.1 = true then (smithyref23_Receipt.j1 k x1 1) else (smithyref23_Receipt.j1 k x1 0)
theorem smithyref23_Receipt.ok (k : Nat) : smithyref23_Receipt.Ctr (smithyref23_Receipt.f k) := by
  intro x1 ch_0_0 ch_0_1 ch_0_2 ch_0_3 r h0 mi w0 ok hm
  delta smithyref23_Receipt.f at h0
  refine c_enterX (n := 79) [(.agg [.ints .u8 x1.1 20, .one (.int .u64 x1.2.1), .one (.bool x1.2.2.1), .one (.int .u64 x1.2.2.2.1), .ints .u64 x1.2.2.2.2.1 4, .ints .u8 x1.2.2.2.2.2.1 20, .sl ch_0_0 (x1.2.2.2.2.2.2.1).length ch_0_1 (RdS (Ty.prod (Ty.arr .u8 20) (Ty.prod (Ty.slice (Ty.arr .u64 4)) (Ty.slice (Ty.int .u8)))) ch_0_0 x1.2.2.2.2.2.2.1), .sl ch_0_2 (x1.2.2.2.2.2.2.2).length ch_0_3 (RdS (Ty.int .u8) ch_0_2 x1.2.2.2.2.2.2.2)])] (l := [(0, (.agg [.ints .u8 x1.1 20, .one (.int .u64 x1.2.1), .one (.bool x1.2.2.1), .one (.int .u64 x1.2.2.2.1), .ints .u64 x1.2.2.2.2.1 4, .ints .u8 x1.2.2.2.2.2.1 20, .sl ch_0_0 (x1.2.2.2.2.2.2.1).length ch_0_1 (RdS (Ty.prod (Ty.arr .u8 20) (Ty.prod (Ty.slice (Ty.arr .u64 4)) (Ty.slice (Ty.int .u8)))) ch_0_0 x1.2.2.2.2.2.2.1), .sl ch_0_2 (x1.2.2.2.2.2.2.2).length ch_0_3 (RdS (Ty.int .u8) ch_0_2 x1.2.2.2.2.2.2.2)]))]) Tryd.func12 rfl rfl rfl rfl ok hm ?_
  clear ok hm
  intro b0 hb a S
  refine c_region ?_
  refine s_box S rfl rfl rfl ?_; clear S a; intro g1 a w S
  refine s_alloc S Z23 rfl ⟨rfl, trivial⟩ rfl ?_; clear S a w; intro g2 a w S
  refine c_end ?_
  refine c_region ?_
  refine s_assign S rfl rfl ?_; clear S a; intro a S
  refine c_end ?_
  refine wp_seq_k ?_
  intro K1 hK1
  have j1 : ∀ (m : Mem) (y1 : Int) (g3 : Nat) (g4 : Nat) (a : Act) (w : World), St 79 m b0 [(3, (.v (.int .u64 y1))), (2, (.v (.pointer (some ⟨g3, 0, none⟩)))), (1, (.v (.pointer (some ⟨g4, 0, none⟩))))] [Res.cells g3 23 [.ints .u8 [0, 0, 0, 0, 0, 0, 0, 0, 0, 0, 0, 0, 0, 0, 0, 0, 0, 0, 0, 0, 0, 0, 0, 0, 0, 0, 0, 0, 0, 0, 0, 0] 32], Res.cells g4 39 [.ints .u8 x1.1 20, .one (.int .u64 x1.2.1), .one (.bool x1.2.2.1), .one (.int .u64 x1.2.2.2.1), .ints .u64 x1.2.2.2.2.1 4, .ints .u8 x1.2.2.2.2.2.1 20, .sl ch_0_0 (x1.2.2.2.2.2.2.1).length ch_0_1 (RdS (Ty.prod (Ty.arr .u8 20) (Ty.prod (Ty.slice (Ty.arr .u64 4)) (Ty.slice (Ty.int .u8)))) ch_0_0 x1.2.2.2.2.2.2.1), .sl ch_0_2 (x1.2.2.2.2.2.2.2).length ch_0_3 (RdS (Ty.int .u8) ch_0_2 x1.2.2.2.2.2.2.2)]] a w → smithyref23_Receipt.j1 k x1 y1 = some r → K1 a w := by
    intro m y1 g3 g4 a w S h0
    delta smithyref23_Receipt.j1 at h0
    refine hK1 a w ?_
    refine c_region ?_
    refine s_bldSl S (ty' := (Ty.slice (Ty.int .u8))) (ds := []) (z := ([] : List Int)) (c0 := (none, 0)) (ys := ([] : List (List Int))) (cs := []) rfl Tryd.underlying63 J37 Z37 rfl ⟨⟨Nat.le_refl _, Nat.zero_le _, RdS.nil _ _ _, RdS.mono _ _ _⟩, trivial⟩ rfl rfl rfl rfl rfl rfl ?_; clear S a w; intro g5 a w S
    refine s_assign S rfl rfl ?_; clear S a; intro a S
    refine c_end ?_
    refine wp_seq_k ?_
    intro K2 hK2
    have j2 : ∀ (m : Mem) (A1 : Option Addr) (nn1 : Nat) (cp1 : Nat) (y18 : List (List Int)) (g52 : Nat) (g53 : Nat) (a : Act) (w : World), St 79 m b0 [(4, (.v (.slice A1 nn1 cp1))), (3, (.v (.int .u64 y1))), (2, (.v (.pointer (some ⟨g52, 0, none⟩)))), (1, (.v (.pointer (some ⟨g53, 0, none⟩))))] [Res.row (Ty.slice (Ty.int .u8)) 37 A1 nn1 cp1 y18, Res.cells g52 23 [.ints .u8 [0, 0, 0, 0, 0, 0, 0, 0, 0, 0, 0, 0, 0, 0, 0, 0, 0, 0, 0, 0, 0, 0, 0, 0, 0, 0, 0, 0, 0, 0, 0, 0] 32], Res.cells g53 39 [.ints .u8 x1.1 20, .one (.int .u64 x1.2.1), .one (.bool x1.2.2.1), .one (.int .u64 x1.2.2.2.1), .ints .u64 x1.2.2.2.2.1 4, .ints .u8 x1.2.2.2.2.2.1 20, .sl ch_0_0 (x1.2.2.2.2.2.2.1).length ch_0_1 (RdS (Ty.prod (Ty.arr .u8 20) (Ty.prod (Ty.slice (Ty.arr .u64 4)) (Ty.slice (Ty.int .u8)))) ch_0_0 x1.2.2.2.2.2.2.1), .sl ch_0_2 (x1.2.2.2.2.2.2.2).length ch_0_3 (RdS (Ty.int .u8) ch_0_2 x1.2.2.2.2.2.2.2)]] a w → smithyref23_Receipt.j2 k x1 y1 y18 = some r → K2 a w := by
      intro m A1 nn1 cp1 y18 g52 g53 a w S h0
      delta smithyref23_Receipt.j2 at h0
      refine hK2 a w ?_
      replace S := S.freeze (.there (.there .here))
      obtain ⟨m, le1, S⟩ := S
      refine wp_seq (c_heldS S (.take 0 (.take 1 (.take 3 (.take 4 (.take 6 (.take 8 (.take 9 (.take 11 (.take 12 (.take 14 (.take 15 (.take 17 (.take 18 (.take 20 (.alts (.run 2 true (.alts (.run 5 true (.alts (.run 7 true (.alts (.run 10 true (.alts (.run 13 true (.alts (.run 16 true (.alts (.run 19 true (.alts (.run 21 true (.alts (.run 22 true (.alts (.run 23 true (.alts (.run 24 true (.alts (.run 25 false .done .nil)) .nil)) .nil)) .nil)) .nil)) .nil)) .nil)) .nil)) .nil)) .nil)) .nil)) .nil)))))))))))))))) 25 [Res.cells g52 23 [.ints .u8 [0, 0, 0, 0, 0, 0, 0, 0, 0, 0, 0, 0, 0, 0, 0, 0, 0, 0, 0, 0, 0, 0, 0, 0, 0, 0, 0, 0, 0, 0, 0, 0] 32], Res.fro g53 39 [.ints .u8 x1.1 20, .one (.int .u64 x1.2.1), .one (.bool x1.2.2.1), .one (.int .u64 x1.2.2.2.1), .ints .u64 x1.2.2.2.2.1 4, .ints .u8 x1.2.2.2.2.2.1 20, .sl ch_0_0 (x1.2.2.2.2.2.2.1).length ch_0_1 (RdS (Ty.prod (Ty.arr .u8 20) (Ty.prod (Ty.slice (Ty.arr .u64 4)) (Ty.slice (Ty.int .u8)))) ch_0_0 x1.2.2.2.2.2.2.1), .sl ch_0_2 (x1.2.2.2.2.2.2.2).length ch_0_3 (RdS (Ty.int .u8) ch_0_2 x1.2.2.2.2.2.2.2)]] (.cons (.there .here) (.cons (.there .here) .nil)) ⟨Res.stay_cells, Res.stay_fro, trivial⟩ [(4, (.v (.slice A1 nn1 cp1))), (3, (.v (.int .u64 y1))), (1, (.v (.pointer (some ⟨g53, 0, none⟩))))] ⟨rfl, rfl, rfl, trivial⟩ (by kernel_rfl) (by kernel_rfl) ?_); clear S; intro w S CL hw le
      refine h_fieldAddr S CL hw le ⟨rfl, rfl, rfl, trivial⟩ rfl I39_0 T28 (by decide) rfl rfl rfl trivial ?_; clear S CL a; intro a S CL
      refine h_sliceA S CL hw le ⟨rfl, rfl, rfl, rfl, trivial⟩ (i := 0) (j := 20) (o' := 0) (len := 20) (cap := 20) rfl Tryd.underlying28 T5 (.inl ⟨rfl, rfl⟩) (.inl ⟨rfl, rfl⟩) (by decide) rfl rfl rfl rfl rfl trivial ?_; clear S CL a; intro a S CL
      refine h_fieldAddr S CL hw le ⟨rfl, rfl, rfl, rfl, rfl, trivial⟩ rfl I39_1 T24 (by decide) rfl rfl rfl trivial ?_; clear S CL a; intro a S CL
      refine h_load1F S CL hw le ⟨rfl, rfl, rfl, rfl, rfl, rfl, trivial⟩ rfl (.there .here) T24 (v := (.int .u64 x1.2.1)) rfl rfl rfl trivial ?_; clear S CL a; intro a S CL
      refine h_move S CL hw le ⟨rfl, rfl, rfl, rfl, rfl, rfl, rfl, trivial⟩ rfl rfl rfl trivial ?_; clear S CL a; intro a S CL
      refine h_fieldAddr S CL hw le ⟨rfl, rfl, rfl, rfl, rfl, rfl, rfl, rfl, trivial⟩ rfl I39_3 T24 (by decide) rfl rfl rfl trivial ?_; clear S CL a; intro a S CL
      refine h_load1F S CL hw le ⟨rfl, rfl, rfl, rfl, rfl, rfl, rfl, rfl, rfl, trivial⟩ rfl (.there .here) T24 (v := (.int .u64 x1.2.2.2.1)) rfl rfl rfl trivial ?_; clear S CL a; intro a S CL
      refine h_fieldAddr S CL hw le ⟨rfl, rfl, rfl, rfl, rfl, rfl, rfl, rfl, rfl, rfl, trivial⟩ rfl I39_4 T26 (by decide) rfl rfl rfl trivial ?_; clear S CL a; intro a S CL
      refine h_loadaF S CL hw le ⟨rfl, rfl, rfl, rfl, rfl, rfl, rfl, rfl, rfl, rfl, rfl, trivial⟩ rfl (.there .here) T26 (s' := [.ints .u64 x1.2.2.2.2.1 4]) rfl rfl rfl trivial ?_; clear S CL a; intro a S CL
      refine h_fieldAddr S CL hw le ⟨rfl, rfl, rfl, rfl, rfl, rfl, rfl, rfl, rfl, rfl, rfl, rfl, trivial⟩ rfl I39_5 T28 (by decide) rfl rfl rfl trivial ?_; clear S CL a; intro a S CL
      refine h_sliceA S CL hw le ⟨rfl, rfl, rfl, rfl, rfl, rfl, rfl, rfl, rfl, rfl, rfl, rfl, rfl, trivial⟩ (i := 0) (j := 20) (o' := 27) (len := 20) (cap := 20) rfl Tryd.underlying28 T5 (.inl ⟨rfl, rfl⟩) (.inl ⟨rfl, rfl⟩) (by decide) rfl rfl rfl rfl rfl trivial ?_; clear S CL a; intro a S CL
      refine h_fieldAddr S CL hw le ⟨rfl, rfl, rfl, rfl, rfl, rfl, rfl, rfl, rfl, rfl, rfl, rfl, rfl, rfl, trivial⟩ rfl I39_7 T37 (by decide) rfl rfl rfl trivial ?_; clear S CL a; intro a S CL
      refine h_loadSlF S CL hw le ⟨rfl, rfl, rfl, rfl, rfl, rfl, rfl, rfl, rfl, rfl, rfl, rfl, rfl, rfl, rfl, trivial⟩ rfl (.there .here) T37 (A := ch_0_2) (len := (x1.2.2.2.2.2.2.2).length) (cap := ch_0_3) rfl rfl rfl trivial ?_; clear S CL a; intro a S CL
      refine h_move S CL hw le ⟨rfl, rfl, rfl, rfl, rfl, rfl, rfl, rfl, rfl, rfl, rfl, rfl, rfl, rfl, rfl, rfl, trivial⟩ rfl rfl rfl trivial ?_; clear S CL a; intro a S CL
      refine h_run' S rfl trivial ?_
      replace S := (S.slup' (u := 55) (lo := 0) (c := 20) (ys := ((x1.1).drop 0).take 20) rfl (Pull.mem (.there (.there .here))).1 .here (.inl rfl) (by decide) (by decide) rfl).2
      replace CL := CL.drop (lq' := [(74, (.v (.slice A1 nn1 cp1))), (72, (.sl ch_0_2 (x1.2.2.2.2.2.2.2).length ch_0_3 (RdS (Ty.int .u8) ch_0_2 x1.2.2.2.2.2.2.2))), (71, (.v (.pointer (some ⟨g53, 48, none⟩)))), (69, (.v (.slice (some ⟨g53, 27, none⟩) 20 20))), (68, (.v (.pointer (some ⟨g53, 27, none⟩)))), (66, (.agg [.ints .u64 x1.2.2.2.2.1 4])), (65, (.v (.pointer (some ⟨g53, 23, none⟩)))), (63, (.v (.int .u64 x1.2.2.2.1))), (62, (.v (.pointer (some ⟨g53, 22, none⟩)))), (60, (.v (.int .u64 y1))), (58, (.v (.int .u64 x1.2.1))), (57, (.v (.pointer (some ⟨g53, 20, none⟩)))), (54, (.v (.pointer (some ⟨g53, 0, none⟩)))), (4, (.v (.slice A1 nn1 cp1))), (3, (.v (.int .u64 y1))), (1, (.v (.pointer (some ⟨g53, 0, none⟩))))]) ⟨rfl, rfl, rfl, rfl, rfl, rfl, rfl, rfl, rfl, rfl, rfl, rfl, rfl, rfl, rfl, rfl, trivial⟩
      obtain ⟨t1, et1, h1⟩ := bind_of h0; clear h0
      refine s_callP S (fun (ch : (Option Addr) × Nat) => ((.sl ch.1 (t1).length ch.2 (RdS (Ty.int .u8) ch.1 t1)) : D)) N29 rfl rfl (smithyref23_bytes.ok k (((x1.1).drop 0).take 20) (some ⟨g53, 0, none⟩) 20 t1 et1 _ _) ?_; clear S a; intro ch1 m le1 a w S
      replace le := le.trans le1
      replace hw := CL.again hw S (.cons (.there .here) (.cons (.there .here) .nil)) le
      refine h_back ⟨fun _ => hw, ?_⟩
      refine h_run' S rfl trivial ?_
      obtain ⟨t2, et2, h2⟩ := bind_of h1; clear h1
      refine s_callP S (fun (ch : (Option Addr) × Nat) => ((.sl ch.1 (t2).length ch.2 (RdS (Ty.int .u8) ch.1 t2)) : D)) N30 rfl rfl (smithyref23_count.ok k x1.2.1 t2 et2 _ _) ?_; clear S a; intro ch2 m le1 a w S
      replace le := le.trans le1
      replace hw := CL.again hw S (.cons (.there .here) (.cons (.there .here) .nil)) le
      refine h_back ⟨fun _ => hw, ?_⟩
      refine h_run' S rfl trivial ?_
      obtain ⟨t3, et3, h3⟩ := bind_of h2; clear h2
      refine s_callP S (fun (ch : (Option Addr) × Nat) => ((.sl ch.1 (t3).length ch.2 (RdS (Ty.int .u8) ch.1 t3)) : D)) N30 rfl rfl (smithyref23_count.ok k y1 t3 et3 _ _) ?_; clear S a; intro ch3 m le1 a w S
      replace le := le.trans le1
      replace hw := CL.again hw S (.cons (.there .here) (.cons (.there .here) .nil)) le
      refine h_back ⟨fun _ => hw, ?_⟩
      refine h_run' S rfl trivial ?_
      obtain ⟨t4, et4, h4⟩ := bind_of h3; clear h3
      refine s_callP S (fun (ch : (Option Addr) × Nat) => ((.sl ch.1 (t4).length ch.2 (RdS (Ty.int .u8) ch.1 t4)) : D)) N30 rfl rfl (smithyref23_count.ok k x1.2.2.2.1 t4 et4 _ _) ?_; clear S a; intro ch4 m le1 a w S
      replace le := le.trans le1
      replace hw := CL.again hw S (.cons (.there .here) (.cons (.there .here) .nil)) le
      refine h_back ⟨fun _ => hw, ?_⟩
      refine h_run' S rfl trivial ?_
      obtain ⟨t5, et5, h5⟩ := bind_of h4; clear h4
      refine s_callP S (fun (ch : (Option Addr) × Nat) => ((.sl ch.1 (t5).length ch.2 (RdS (Ty.int .u8) ch.1 t5)) : D)) N31 rfl rfl (smithyref23_number.ok k x1.2.2.2.2.1 t5 et5 _ _) ?_; clear S a; intro ch5 m le1 a w S
      replace le := le.trans le1
      replace hw := CL.again hw S (.cons (.there .here) (.cons (.there .here) .nil)) le
      refine h_back ⟨fun _ => hw, ?_⟩
      refine h_run' S rfl trivial ?_
      replace S := (S.slup' (u := 69) (lo := 0) (c := 20) (ys := ((x1.2.2.2.2.2.1).drop 0).take 20) rfl (Pull.mem (.there (.there .here))).1 (.there (.there (.there (.there (.there .here rfl) rfl) rfl) rfl) rfl) (.inl rfl) (by decide) (by decide) rfl).2
      replace CL := CL.drop (lq' := [(74, (.v (.slice A1 nn1 cp1))), (72, (.sl ch_0_2 (x1.2.2.2.2.2.2.2).length ch_0_3 (RdS (Ty.int .u8) ch_0_2 x1.2.2.2.2.2.2.2))), (71, (.v (.pointer (some ⟨g53, 48, none⟩)))), (68, (.v (.pointer (some ⟨g53, 27, none⟩)))), (66, (.agg [.ints .u64 x1.2.2.2.2.1 4])), (65, (.v (.pointer (some ⟨g53, 23, none⟩)))), (63, (.v (.int .u64 x1.2.2.2.1))), (62, (.v (.pointer (some ⟨g53, 22, none⟩)))), (60, (.v (.int .u64 y1))), (58, (.v (.int .u64 x1.2.1))), (57, (.v (.pointer (some ⟨g53, 20, none⟩)))), (54, (.v (.pointer (some ⟨g53, 0, none⟩)))), (4, (.v (.slice A1 nn1 cp1))), (3, (.v (.int .u64 y1))), (1, (.v (.pointer (some ⟨g53, 0, none⟩))))]) ⟨rfl, rfl, rfl, rfl, rfl, rfl, rfl, rfl, rfl, rfl, rfl, rfl, rfl, rfl, rfl, trivial⟩
      obtain ⟨t6, et6, h6⟩ := bind_of h5; clear h5
      refine s_callP S (fun (ch : (Option Addr) × Nat) => ((.sl ch.1 (t6).length ch.2 (RdS (Ty.int .u8) ch.1 t6)) : D)) N29 rfl rfl (smithyref23_bytes.ok k (((x1.2.2.2.2.2.1).drop 0).take 20) (some ⟨g53, 27, none⟩) 20 t6 et6 _ _) ?_; clear S a; intro ch6 m le1 a w S
      replace le := le.trans le1
      replace hw := CL.again hw S (.cons (.there .here) (.cons (.there .here) .nil)) le
      refine h_back ⟨fun _ => hw, ?_⟩
      refine h_run' S rfl trivial ?_
      obtain ⟨t7, et7, h7⟩ := bind_of h6; clear h6
      refine s_callP S (fun (ch : (Option Addr) × Nat) => ((.sl ch.1 (t7).length ch.2 (RdS (Ty.int .u8) ch.1 t7)) : D)) N29 rfl rfl (smithyref23_bytes.ok k x1.2.2.2.2.2.2.2 ch_0_2 ch_0_3 t7 et7 _ _) ?_; clear S a; intro ch7 m le1 a w S
      replace le := le.trans le1
      replace hw := CL.again hw S (.cons (.there .here) (.cons (.there .here) .nil)) le
      refine h_back ⟨fun _ => hw, ?_⟩
      refine h_run' S rfl trivial ?_
      replace S := S.rowfro .here
      obtain ⟨m, le1, S, hro⟩ := S
      replace le := le.trans le1
      replace S := S.slotro (u := 74) rfl hro
      replace S := S.slotro (u := 4) rfl hro
      replace CL := CL.drop (lq' := [(72, (.sl ch_0_2 (x1.2.2.2.2.2.2.2).length ch_0_3 (RdS (Ty.int .u8) ch_0_2 x1.2.2.2.2.2.2.2))), (71, (.v (.pointer (some ⟨g53, 48, none⟩)))), (68, (.v (.pointer (some ⟨g53, 27, none⟩)))), (66, (.agg [.ints .u64 x1.2.2.2.2.1 4])), (65, (.v (.pointer (some ⟨g53, 23, none⟩)))), (63, (.v (.int .u64 x1.2.2.2.1))), (62, (.v (.pointer (some ⟨g53, 22, none⟩)))), (60, (.v (.int .u64 y1))), (58, (.v (.int .u64 x1.2.1))), (57, (.v (.pointer (some ⟨g53, 20, none⟩)))), (54, (.v (.pointer (some ⟨g53, 0, none⟩)))), (3, (.v (.int .u64 y1))), (1, (.v (.pointer (some ⟨g53, 0, none⟩))))]) ⟨rfl, rfl, rfl, rfl, rfl, rfl, rfl, rfl, rfl, rfl, rfl, rfl, rfl, trivial⟩
      obtain ⟨t8, et8, h8⟩ := bind_of h7; clear h7
      refine s_callR S (fun (ch : (Option Addr) × Nat × Nat) => ((.v (.slice ch.1 ch.2.1 ch.2.2)) : D)) (fun (ch : (Option Addr) × Nat × Nat) => Res.row (Ty.int .u8) 5 ch.1 ch.2.1 ch.2.2 t8) N28 rfl rfl (smithyref23_list.ok k y18 A1 cp1 t8 et8 _ _) ?_; clear S a; intro ch8 m le1 a w S
      replace le := le.trans le1
      replace hw := CL.again hw S (.cons (.there .here) (.cons (.there .here) .nil)) le
      refine h_back ⟨fun _ => hw, ?_⟩
      refine h_run' S rfl trivial ?_
      replace S := S.rowfro .here
      obtain ⟨m, le1, S, hro⟩ := S
      replace le := le.trans le1
      replace S := S.slotro (u := 75) rfl hro
      refine s_bldSl S (ty' := (Ty.slice (Ty.int .u8))) (ds := [(0, (.sl ch1.1 (t1).length ch1.2 (RdS (Ty.int .u8) ch1.1 t1))), (1, (.sl ch2.1 (t2).length ch2.2 (RdS (Ty.int .u8) ch2.1 t2))), (2, (.sl ch3.1 (t3).length ch3.2 (RdS (Ty.int .u8) ch3.1 t3))), (3, (.sl ch4.1 (t4).length ch4.2 (RdS (Ty.int .u8) ch4.1 t4))), (4, (.sl ch5.1 (t5).length ch5.2 (RdS (Ty.int .u8) ch5.1 t5))), (5, (.sl ch6.1 (t6).length ch6.2 (RdS (Ty.int .u8) ch6.1 t6))), (6, (.sl ch7.1 (t7).length ch7.2 (RdS (Ty.int .u8) ch7.1 t7))), (7, (.sl ch8.1 (t8).length ch8.2.2 (RdS (Ty.int .u8) ch8.1 t8)))]) (z := ([] : List Int)) (c0 := (none, 0)) (ys := [t1, t2, t3, t4, t5, t6, t7, t8]) (cs := [(ch1.1, ch1.2), (ch2.1, ch2.2), (ch3.1, ch3.2), (ch4.1, ch4.2), (ch5.1, ch5.2), (ch6.1, ch6.2), (ch7.1, ch7.2), (ch8.1, ch8.2.2)]) rfl Tryd.underlying63 J37 Z37 rfl ⟨⟨Nat.le_refl _, Nat.zero_le _, RdS.nil _ _ _, RdS.mono _ _ _⟩, trivial⟩ rfl rfl rfl rfl rfl rfl ?_; clear S a; intro g54 a w S
      replace hw := CL.again hw S (.cons (.there .here) (.cons (.there .here) .nil)) le
      refine h_back ⟨fun _ => hw, ?_⟩
      refine h_run' S rfl trivial ?_
      replace S := S.rowfro .here
      obtain ⟨m, le1, S, hro⟩ := S
      replace le := le.trans le1
      replace S := S.slotro (u := 76) rfl hro
      obtain ⟨t9, et9, h9⟩ := bind_of h8; clear h8
      refine s_callR S (fun (ch : (Option Addr) × Nat × Nat) => ((.v (.slice ch.1 ch.2.1 ch.2.2)) : D)) (fun (ch : (Option Addr) × Nat × Nat) => Res.row (Ty.int .u8) 5 ch.1 ch.2.1 ch.2.2 t9) N28 rfl rfl (smithyref23_list.ok k [t1, t2, t3, t4, t5, t6, t7, t8] (some ⟨g54, 0, none⟩) 8 t9 et9 _ _) ?_; clear S a; intro ch9 m le1 a w S
      replace le := le.trans le1
      replace hw := CL.again hw S (.cons (.there .here) (.cons (.there .here) .nil)) le
      refine h_back ⟨fun _ => hw, ?_⟩
      refine h_run' S rfl trivial ?_
      replace S := S.rowfro .here
      obtain ⟨m, le1, S, hro⟩ := S
      replace le := le.trans le1
      replace S := S.slotro (u := 77) rfl hro
      obtain ⟨t10, et10, h10⟩ := bind_of h9; clear h9
      refine s_callP S (fun (ch : Unit) => ((.agg [.ints .u8 t10 32]) : D)) N27 rfl rfl (smithyref23_hash.ok k t9 ch9.1 ch9.2.2 t10 et10 _ _) ?_; clear S a; intro ch10 m le1 a w S
      replace le := le.trans le1
      replace hw := CL.again hw S (.cons .here (.cons .here .nil)) le
      refine h_back ⟨fun _ => hw, ?_⟩
      refine h_run' S rfl trivial ?_
      refine s_store S rfl rfl rfl (s' := [.ints .u8 t10 32]) .here T23 rfl rfl ?_; clear S; intro w S
      refine h_back ⟨fun h => (nomatch h), ?_⟩
      refine h_done ?_; clear CL hw le
      refine x_thenN ?_
      refine wp_ret ?_
      obtain rfl := Option.some.inj h10
      exact b_ret1 (d := (.agg [.ints .u8 t10 32])) S rfl (resD_cell rfl .here T23 rfl rfl) fun ok => S.retX (Hx := []) hb _ _ (() : Unit) .nil ok
    refine c_region ?_
    refine s_fieldAddr S rfl I39_6 T36 (by decide) rfl rfl ?_; clear S a; intro a S
    refine s_loadSl S rfl (.there (.there .here)) T36 (A := ch_0_0) (len := (x1.2.2.2.2.2.2.1).length) (cap := ch_0_1) rfl rfl ?_; clear S a; intro a S
    refine s_lenS S rfl Tryd.underlying36 rfl ?_; clear S a; intro a S
    refine s_move S rfl rfl ?_; clear S a; intro a S
    refine c_end ?_
    refine wp_block ?_
    refine c_loop (fun q1 a w => ∃ (m : Mem) (y33 : Int) (A2 : Option Addr) (nn3 : Nat) (cp33 : Nat) (y34 : List (List Int)) (g99 : Nat) (g100 : Nat), St 79 m b0 [(15, (.v (.int .i64 y33))), (14, (.v (.int .i64 ((x1.2.2.2.2.2.2.1).length : Int)))), (4, (.v (.slice A2 nn3 cp33))), (3, (.v (.int .u64 y1))), (2, (.v (.pointer (some ⟨g99, 0, none⟩)))), (1, (.v (.pointer (some ⟨g100, 0, none⟩))))] [Res.row (Ty.slice (Ty.int .u8)) 37 A2 nn3 cp33 y34, Res.cells g99 23 [.ints .u8 [0, 0, 0, 0, 0, 0, 0, 0, 0, 0, 0, 0, 0, 0, 0, 0, 0, 0, 0, 0, 0, 0, 0, 0, 0, 0, 0, 0, 0, 0, 0, 0] 32], Res.cells g100 39 [.ints .u8 x1.1 20, .one (.int .u64 x1.2.1), .one (.bool x1.2.2.1), .one (.int .u64 x1.2.2.2.1), .ints .u64 x1.2.2.2.2.1 4, .ints .u8 x1.2.2.2.2.2.1 20, .sl ch_0_0 (x1.2.2.2.2.2.2.1).length ch_0_1 (RdS (Ty.prod (Ty.arr .u8 20) (Ty.prod (Ty.slice (Ty.arr .u64 4)) (Ty.slice (Ty.int .u8)))) ch_0_0 x1.2.2.2.2.2.2.1), .sl ch_0_2 (x1.2.2.2.2.2.2.2).length ch_0_3 (RdS (Ty.int .u8) ch_0_2 x1.2.2.2.2.2.2.2)]] a w ∧ smithyref23_Receipt.l1 k x1 y1 q1 y33 y34 = some r) ?_ ?_ (k := k) ⟨_, 0, (some ⟨g5, 0, none⟩), 0, 0, ([] : List (List Int)), g3, g4, (S.sub ⟨rfl, rfl, rfl, rfl, rfl, rfl, trivial⟩ (.cons .here (.cons .here (.cons .here .nil)))), h0⟩
    · rintro a w ⟨m, y33, A2, nn3, cp33, y34, g99, g100, S, h0⟩
      exact (nomatch (show (none : Option ((List Int))) = some r from h0))
    · clear S h0
      rintro q1 a w ⟨m, y33, A2, nn3, cp33, y34, g99, g100, S, h0⟩
      replace h0 : smithyref23_Receipt.b1 k x1 y1 (smithyref23_Receipt.l1 k x1 y1 q1) y33 y34 = some r := h0
      delta smithyref23_Receipt.b1 at h0
      refine c_region ?_
      refine s_bin S rfl rfl rfl rfl ?_; clear S a; intro a S
      refine c_end ?_
      refine wp_seq ?_
      rcases ite_of h0 with ⟨c1, h1⟩ | ⟨c1, h1⟩ <;> clear h0
      · refine c_condT S rfl c1 ?_
        refine wp_skip ?_
        refine x_thenN ?_
        refine wp_seq_k ?_
        intro K3 hK3
        have j3 : ∀ (m : Mem) (A3 : Option Addr) (cp48 : Nat) (y40 : List (List Int)) (g119 : Nat) (g120 : Nat) (a : Act) (w : World), St 79 m b0 [(4, (.v (.slice A3 (nn3 + 1) cp48))), (15, (.v (.int .i64 y33))), (14, (.v (.int .i64 ((x1.2.2.2.2.2.2.1).length : Int)))), (3, (.v (.int .u64 y1))), (2, (.v (.pointer (some ⟨g119, 0, none⟩)))), (1, (.v (.pointer (some ⟨g120, 0, none⟩))))] [Res.row (Ty.slice (Ty.int .u8)) 37 A3 (nn3 + 1) cp48 y40, Res.cells g119 23 [.ints .u8 [0, 0, 0, 0, 0, 0, 0, 0, 0, 0, 0, 0, 0, 0, 0, 0, 0, 0, 0, 0, 0, 0, 0, 0, 0, 0, 0, 0, 0, 0, 0, 0] 32], Res.cells g120 39 [.ints .u8 x1.1 20, .one (.int .u64 x1.2.1), .one (.bool x1.2.2.1), .one (.int .u64 x1.2.2.2.1), .ints .u64 x1.2.2.2.2.1 4, .ints .u8 x1.2.2.2.2.2.1 20, .sl ch_0_0 (x1.2.2.2.2.2.2.1).length ch_0_1 (RdS (Ty.prod (Ty.arr .u8 20) (Ty.prod (Ty.slice (Ty.arr .u64 4)) (Ty.slice (Ty.int .u8)))) ch_0_0 x1.2.2.2.2.2.2.1), .sl ch_0_2 (x1.2.2.2.2.2.2.2).length ch_0_3 (RdS (Ty.int .u8) ch_0_2 x1.2.2.2.2.2.2.2)]] a w → smithyref23_Receipt.j3 y33 (smithyref23_Receipt.l1 k x1 y1 q1) y40 = some r → K3 a w := by
          intro m A3 cp48 y40 g119 g120 a w S h0
          delta smithyref23_Receipt.j3 at h0
          refine hK3 a w ?_
          refine c_region' ?_
          refine s_bin S rfl rfl rfl rfl ?_; clear S a; intro a S
          refine s_move S rfl rfl ?_; clear S a; intro a S
          refine c_end' ?_
          refine x_thenN ?_
          exact ⟨_, (wr .i64 (y33 + 1)), A3, (nn3 + 1), cp48, y40, g119, g120, (S.sub ⟨rfl, rfl, rfl, rfl, rfl, rfl, trivial⟩ (.cons .here (.cons .here (.cons .here .nil)))), h0⟩
        refine wp_block ?_
        refine c_region ?_
        refine s_move S rfl rfl ?_; clear S a; intro a S
        refine s_assign S rfl rfl ?_; clear S a; intro a S
        refine c_end ?_
        refine c_region ?_
        refine s_fieldAddr S rfl I39_6 T36 (by decide) rfl rfl ?_; clear S a; intro a S
        refine s_loadSl S rfl (.there (.there .here)) T36 (A := ch_0_0) (len := (x1.2.2.2.2.2.2.1).length) (cap := ch_0_1) rfl rfl ?_; clear S a; intro a S
        refine s_move S rfl rfl ?_; clear S a; intro a S
        obtain ⟨c2, h2⟩ := chk_of h1; clear h1
        refine s_iaddrS S rfl rfl rfl Tryd.underlying36 T68 c2.1 c2.2 rfl ?_; clear S a; intro p1 a S
        refine s_ldA S (fun (c : Unit × (Option Addr × Nat) × (Option Addr × Nat)) => [.ints .u8 ((gt x1.2.2.2.2.2.2.1 y33).1) 20, .sl c.2.1.1 ((gt x1.2.2.2.2.2.2.1 y33).2.1).length c.2.1.2 (RdS (Ty.arr .u64 4) c.2.1.1 ((gt x1.2.2.2.2.2.2.1 y33).2.1)), .sl c.2.2.1 ((gt x1.2.2.2.2.2.2.1 y33).2.2).length c.2.2.2 (RdS (Ty.int .u8) c.2.2.1 ((gt x1.2.2.2.2.2.2.1 y33).2.2))]) rfl T68 (fun _ => rfl) rfl ?_; clear S a; intro ch16 a S
        refine s_alloc S Z68 rfl ⟨rfl, rfl, rfl, trivial⟩ rfl ?_; clear S a w; intro g121 a w S
        refine s_store S rfl rfl rfl (s' := [.ints .u8 ((gt x1.2.2.2.2.2.2.1 y33).1) 20, .sl ch16.2.1.1 ((gt x1.2.2.2.2.2.2.1 y33).2.1).length ch16.2.1.2 (RdS (Ty.arr .u64 4) ch16.2.1.1 ((gt x1.2.2.2.2.2.2.1 y33).2.1)), .sl ch16.2.2.1 ((gt x1.2.2.2.2.2.2.1 y33).2.2).length ch16.2.2.2 (RdS (Ty.int .u8) ch16.2.2.1 ((gt x1.2.2.2.2.2.2.1 y33).2.2))]) .here T68 rfl rfl ?_; clear S w; intro w S
        refine c_end ?_
        refine c_region ?_
        refine s_bldSl S (ty' := (Ty.slice (Ty.int .u8))) (ds := []) (z := ([] : List Int)) (c0 := (none, 0)) (ys := ([] : List (List Int))) (cs := []) rfl Tryd.underlying63 J37 Z37 rfl ⟨⟨Nat.le_refl _, Nat.zero_le _, RdS.nil _ _ _, RdS.mono _ _ _⟩, trivial⟩ rfl rfl rfl rfl rfl rfl ?_; clear S a w; intro g122 a w S
        refine s_assign S rfl rfl ?_; clear S a; intro a S
        refine c_end ?_
        refine wp_seq_k ?_
        intro K4 hK4
        have j4 : ∀ (m : Mem) (A4 : Option Addr) (nn6 : Nat) (cp59 : Nat) (y45 : List (List Int)) (g134 : Nat) (g135 : Nat) (g136 : Nat) (A5 : Option Addr) (cp60 : Nat) (A6 : Option Addr) (cp61 : Nat) (a : Act) (w : World), St 79 m b0 [(7, (.v (.slice A4 nn6 cp59))), (6, (.v (.pointer (some ⟨g134, 0, none⟩)))), (15, (.v (.int .i64 y33))), (14, (.v (.int .i64 ((x1.2.2.2.2.2.2.1).length : Int)))), (4, (.v (.slice A2 nn3 cp33))), (3, (.v (.int .u64 y1))), (2, (.v (.pointer (some ⟨g135, 0, none⟩)))), (1, (.v (.pointer (some ⟨g136, 0, none⟩))))] [Res.row (Ty.slice (Ty.int .u8)) 37 A4 nn6 cp59 y45, Res.cells g134 68 [.ints .u8 ((gt x1.2.2.2.2.2.2.1 y33).1) 20, .sl A5 ((gt x1.2.2.2.2.2.2.1 y33).2.1).length cp60 (RdS (Ty.arr .u64 4) A5 ((gt x1.2.2.2.2.2.2.1 y33).2.1)), .sl A6 ((gt x1.2.2.2.2.2.2.1 y33).2.2).length cp61 (RdS (Ty.int .u8) A6 ((gt x1.2.2.2.2.2.2.1 y33).2.2))], Res.row (Ty.slice (Ty.int .u8)) 37 A2 nn3 cp33 y34, Res.cells g135 23 [.ints .u8 [0, 0, 0, 0, 0, 0, 0, 0, 0, 0, 0, 0, 0, 0, 0, 0, 0, 0, 0, 0, 0, 0, 0, 0, 0, 0, 0, 0, 0, 0, 0, 0] 32], Res.cells g136 39 [.ints .u8 x1.1 20, .one (.int .u64 x1.2.1), .one (.bool x1.2.2.1), .one (.int .u64 x1.2.2.2.1), .ints .u64 x1.2.2.2.2.1 4, .ints .u8 x1.2.2.2.2.2.1 20, .sl ch_0_0 (x1.2.2.2.2.2.2.1).length ch_0_1 (RdS (Ty.prod (Ty.arr .u8 20) (Ty.prod (Ty.slice (Ty.arr .u64 4)) (Ty.slice (Ty.int .u8)))) ch_0_0 x1.2.2.2.2.2.2.1), .sl ch_0_2 (x1.2.2.2.2.2.2.2).length ch_0_3 (RdS (Ty.int .u8) ch_0_2 x1.2.2.2.2.2.2.2)]] a w → smithyref23_Receipt.j4 k x1 y33 y34 (smithyref23_Receipt.l1 k x1 y1 q1) y45 = some r → K4 a w := by
          intro m A4 nn6 cp59 y45 g134 g135 g136 A5 cp60 A6 cp61 a w S h0
          delta smithyref23_Receipt.j4 at h0
          refine hK4 a w ?_
          replace S := S.freeze (.there .here)
          obtain ⟨m, le1, S⟩ := S
          refine c_heldS S (.take 1 (.take 2 (.take 4 (.take 6 (.take 7 (.alts (.run 0 true (.alts (.run 3 true (.alts (.run 5 true (.alts (.run 8 true (.alts (.run 9 true (.alts (.run 10 true (.alts (.run 11 true (.alts (.run 12 true (.take 13 .done) .nil)) .nil)) .nil)) .nil)) .nil)) .nil)) .nil)) (.run 3 true (.alts (.run 0 true (.alts (.run 5 true (.alts (.run 8 true (.alts (.run 9 true (.alts (.run 10 true (.alts (.run 11 true (.alts (.run 12 true (.take 13 .done) .nil)) .nil)) .nil)) .nil)) .nil)) .nil)) (.run 5 true (.alts (.run 0 true (.alts (.run 8 true (.alts (.run 9 true (.alts (.run 10 true (.alts (.run 11 true (.alts (.run 12 true (.take 13 .done) .nil)) .nil)) .nil)) .nil)) .nil)) (.run 8 true (.alts (.run 0 true (.alts (.run 9 true (.alts (.run 10 true (.alts (.run 11 true (.alts (.run 12 true (.take 13 .done) .nil)) .nil)) .nil)) .nil)) (.run 9 true (.alts (.run 0 true (.alts (.run 10 true (.alts (.run 11 true (.alts (.run 12 true (.take 13 .done) .nil)) .nil)) .nil)) (.run 10 true (.alts (.run 0 true (.alts (.run 11 true (.alts (.run 12 true (.take 13 .done) .nil)) .nil)) (.run 11 true (.alts (.run 0 true (.alts (.run 12 true (.take 13 .done) .nil)) .nil)) .nil))) .nil))) .nil))) .nil))) .nil))) .nil)))))))) 14 [Res.fro g134 68 [.ints .u8 ((gt x1.2.2.2.2.2.2.1 y33).1) 20, .sl A5 ((gt x1.2.2.2.2.2.2.1 y33).2.1).length cp60 (RdS (Ty.arr .u64 4) A5 ((gt x1.2.2.2.2.2.2.1 y33).2.1)), .sl A6 ((gt x1.2.2.2.2.2.2.1 y33).2.2).length cp61 (RdS (Ty.int .u8) A6 ((gt x1.2.2.2.2.2.2.1 y33).2.2))], Res.cells g135 23 [.ints .u8 [0, 0, 0, 0, 0, 0, 0, 0, 0, 0, 0, 0, 0, 0, 0, 0, 0, 0, 0, 0, 0, 0, 0, 0, 0, 0, 0, 0, 0, 0, 0, 0] 32], Res.cells g136 39 [.ints .u8 x1.1 20, .one (.int .u64 x1.2.1), .one (.bool x1.2.2.1), .one (.int .u64 x1.2.2.2.1), .ints .u64 x1.2.2.2.2.1 4, .ints .u8 x1.2.2.2.2.2.1 20, .sl ch_0_0 (x1.2.2.2.2.2.2.1).length ch_0_1 (RdS (Ty.prod (Ty.arr .u8 20) (Ty.prod (Ty.slice (Ty.arr .u64 4)) (Ty.slice (Ty.int .u8)))) ch_0_0 x1.2.2.2.2.2.2.1), .sl ch_0_2 (x1.2.2.2.2.2.2.2).length ch_0_3 (RdS (Ty.int .u8) ch_0_2 x1.2.2.2.2.2.2.2)]] (.cons (.there .here) (.cons (.there (.there .here)) (.cons (.there (.there .here)) .nil))) ⟨Res.stay_fro, Res.stay_cells, Res.stay_cells, trivial⟩ [(7, (.v (.slice A4 nn6 cp59))), (6, (.v (.pointer (some ⟨g134, 0, none⟩))))] ⟨rfl, rfl, trivial⟩ (by kernel_rfl) (by kernel_rfl) ?_; clear S; intro w S CL hw le
          refine h_fieldAddr S CL hw le ⟨rfl, rfl, trivial⟩ rfl I68_0 T28 (by decide) rfl rfl rfl trivial ?_; clear S CL a; intro a S CL
          refine h_sliceA S CL hw le ⟨rfl, rfl, rfl, trivial⟩ (i := 0) (j := 20) (o' := 0) (len := 20) (cap := 20) rfl Tryd.underlying28 T5 (.inl ⟨rfl, rfl⟩) (.inl ⟨rfl, rfl⟩) (by decide) rfl rfl rfl rfl rfl trivial ?_; clear S CL a; intro a S CL
          refine h_move S CL hw le ⟨rfl, rfl, rfl, rfl, trivial⟩ rfl rfl rfl trivial ?_; clear S CL a; intro a S CL
          refine h_fieldAddr S CL hw le ⟨rfl, rfl, rfl, rfl, rfl, trivial⟩ rfl I68_2 T37 (by decide) rfl rfl rfl trivial ?_; clear S CL a; intro a S CL
          refine h_loadSlF S CL hw le ⟨rfl, rfl, rfl, rfl, rfl, rfl, trivial⟩ rfl .here T37 (A := A6) (len := ((gt x1.2.2.2.2.2.2.1 y33).2.2).length) (cap := cp61) rfl rfl rfl trivial ?_; clear S CL a; intro a S CL
          obtain ⟨t15, et15, h1⟩ := bind_of h0; clear h0
          obtain ⟨t16, et16, h2⟩ := bind_of h1; clear h1
          obtain ⟨t17, et17, h3⟩ := bind_of h2; clear h2
          obtain ⟨t18, et18, h4⟩ := bind_of h3; clear h3
          obtain ⟨c3, h5⟩ := chk_of h4; clear h4
          refine h_alts ?_
          refine h_runO S rfl trivial ?_ ?_
          · refine s_move S rfl rfl ?_; clear S a; intro a S
            replace hw := CL.again hw S (.cons (.there .here) (.cons (.there (.there .here)) (.cons (.there (.there .here)) .nil))) le
            refine h_back ⟨fun _ => hw, ?_⟩
            refine h_run' S rfl trivial ?_
            replace S := (S.slup' (u := 42) (lo := 0) (c := 20) (ys := (((gt x1.2.2.2.2.2.2.1 y33).1).drop 0).take 20) rfl (Pull.mem (.there .here)).1 .here (.inl rfl) (by decide) (by decide) rfl).2
            replace CL := CL.drop (lq' := [(47, (.sl A6 ((gt x1.2.2.2.2.2.2.1 y33).2.2).length cp61 (RdS (Ty.int .u8) A6 ((gt x1.2.2.2.2.2.2.1 y33).2.2)))), (46, (.v (.pointer (some ⟨g134, 21, none⟩)))), (44, (.v (.slice A4 nn6 cp59))), (41, (.v (.pointer (some ⟨g134, 0, none⟩)))), (7, (.v (.slice A4 nn6 cp59))), (6, (.v (.pointer (some ⟨g134, 0, none⟩))))]) ⟨rfl, rfl, rfl, rfl, rfl, rfl, trivial⟩
            refine s_callP S (fun (ch : (Option Addr) × Nat) => ((.sl ch.1 (t15).length ch.2 (RdS (Ty.int .u8) ch.1 t15)) : D)) N29 rfl rfl (smithyref23_bytes.ok k ((((gt x1.2.2.2.2.2.2.1 y33).1).drop 0).take 20) (some ⟨g134, 0, none⟩) 20 t15 et15 _ _) ?_; clear S a; intro ch17 m le1 a w S
            replace le := le.trans le1
            replace hw := CL.again hw S (.cons (.there .here) (.cons (.there (.there .here)) (.cons (.there (.there .here)) .nil))) le
            refine h_back ⟨fun _ => hw, ?_⟩
            refine h_run' S rfl trivial ?_
            replace S := S.rowfro .here
            obtain ⟨m, le1, S, hro⟩ := S
            replace le := le.trans le1
            replace S := S.slotro (u := 44) rfl hro
            replace S := S.slotro (u := 7) rfl hro
            replace CL := CL.drop (lq' := [(47, (.sl A6 ((gt x1.2.2.2.2.2.2.1 y33).2.2).length cp61 (RdS (Ty.int .u8) A6 ((gt x1.2.2.2.2.2.2.1 y33).2.2)))), (46, (.v (.pointer (some ⟨g134, 21, none⟩)))), (41, (.v (.pointer (some ⟨g134, 0, none⟩)))), (6, (.v (.pointer (some ⟨g134, 0, none⟩))))]) ⟨rfl, rfl, rfl, rfl, trivial⟩
            refine s_callR S (fun (ch : (Option Addr) × Nat × Nat) => ((.v (.slice ch.1 ch.2.1 ch.2.2)) : D)) (fun (ch : (Option Addr) × Nat × Nat) => Res.row (Ty.int .u8) 5 ch.1 ch.2.1 ch.2.2 t16) N28 rfl rfl (smithyref23_list.ok k y45 A4 cp59 t16 et16 _ _) ?_; clear S a; intro ch18 m le1 a w S
            replace le := le.trans le1
            replace hw := CL.again hw S (.cons (.there .here) (.cons (.there (.there .here)) (.cons (.there (.there .here)) .nil))) le
            refine h_back ⟨fun _ => hw, ?_⟩
            refine h_run' S rfl trivial ?_
            refine s_callP S (fun (ch : (Option Addr) × Nat) => ((.sl ch.1 (t17).length ch.2 (RdS (Ty.int .u8) ch.1 t17)) : D)) N29 rfl rfl (smithyref23_bytes.ok k ((gt x1.2.2.2.2.2.2.1 y33).2.2) A6 cp61 t17 et17 _ _) ?_; clear S a; intro ch19 m le1 a w S
            replace le := le.trans le1
            replace hw := CL.again hw S (.cons (.there .here) (.cons (.there (.there .here)) (.cons (.there (.there .here)) .nil))) le
            refine h_back ⟨fun _ => hw, ?_⟩
            refine h_run' S rfl trivial ?_
            replace S := S.rowfro .here
            obtain ⟨m, le1, S, hro⟩ := S
            replace le := le.trans le1
            replace S := S.slotro (u := 45) rfl hro
            refine s_bldSl S (ty' := (Ty.slice (Ty.int .u8))) (ds := [(0, (.sl ch17.1 (t15).length ch17.2 (RdS (Ty.int .u8) ch17.1 t15))), (1, (.sl ch18.1 (t16).length ch18.2.2 (RdS (Ty.int .u8) ch18.1 t16))), (2, (.sl ch19.1 (t17).length ch19.2 (RdS (Ty.int .u8) ch19.1 t17)))]) (z := ([] : List Int)) (c0 := (none, 0)) (ys := [t15, t16, t17]) (cs := [(ch17.1, ch17.2), (ch18.1, ch18.2.2), (ch19.1, ch19.2)]) rfl Tryd.underlying63 J37 Z37 rfl ⟨⟨Nat.le_refl _, Nat.zero_le _, RdS.nil _ _ _, RdS.mono _ _ _⟩, trivial⟩ rfl rfl rfl rfl rfl rfl ?_; clear S a; intro g137 a w S
            replace hw := CL.again hw S (.cons (.there .here) (.cons (.there (.there .here)) (.cons (.there (.there .here)) .nil))) le
            refine h_back ⟨fun _ => hw, ?_⟩
            refine h_run' S rfl trivial ?_
            replace S := S.rowfro .here
            obtain ⟨m, le1, S, hro⟩ := S
            replace le := le.trans le1
            replace S := S.slotro (u := 49) rfl hro
            refine s_callR S (fun (ch : (Option Addr) × Nat × Nat) => ((.v (.slice ch.1 ch.2.1 ch.2.2)) : D)) (fun (ch : (Option Addr) × Nat × Nat) => Res.row (Ty.int .u8) 5 ch.1 ch.2.1 ch.2.2 t18) N28 rfl rfl (smithyref23_list.ok k [t15, t16, t17] (some ⟨g137, 0, none⟩) 3 t18 et18 _ _) ?_; clear S a; intro ch20 m le1 a w S
            replace le := le.trans le1
            replace hw := CL.again hw S (.cons (.there .here) (.cons (.there (.there .here)) (.cons (.there (.there .here)) .nil))) le
            refine h_back ⟨fun _ => hw, ?_⟩
            refine h_run' S rfl trivial ?_
            replace S := S.rowfro .here
            obtain ⟨m, le1, S, hro⟩ := S
            replace le := le.trans le1
            replace S := S.slotro (u := 50) rfl hro
            refine s_bldSl S (ty' := (Ty.slice (Ty.int .u8))) (ds := [(0, (.sl ch20.1 (t18).length ch20.2.2 (RdS (Ty.int .u8) ch20.1 t18)))]) (z := ([] : List Int)) (c0 := (none, 0)) (ys := [t18]) (cs := [(ch20.1, ch20.2.2)]) rfl Tryd.underlying63 J37 Z37 rfl ⟨⟨Nat.le_refl _, Nat.zero_le _, RdS.nil _ _ _, RdS.mono _ _ _⟩, trivial⟩ rfl rfl rfl rfl rfl rfl ?_; clear S a; intro g138 a w S
            replace hw := CL.again hw S (.cons (.there .here) (.cons (.there (.there .here)) (.cons (.there (.there .here)) .nil))) le
            refine h_back ⟨fun _ => hw, ?_⟩
            refine h_run' S rfl trivial ?_
            refine s_app S (k2 := 1) (ys := [t18]) rfl (fun _ _ => (.there (.there .here))) rfl rfl (S.holds _ (Pull.mem .here).1).1 (Res.row.src (S.holds _ (Pull.mem .here).1)) Tryd.underlying63 J37 c3 rfl ?_; clear S a; intro A7 cp62 a w S
            replace hw := CL.again hw S (.cons (.there .here) (.cons (.there (.there .here)) (.cons (.there (.there .here)) .nil))) le
            refine h_back ⟨fun _ => hw, ?_⟩
            replace CL := CL.add (t := 52) (d := (.v (.slice A7 (nn3 + 1) cp62))) S rfl rfl
            refine h_assign S CL hw le ⟨rfl, rfl, rfl, rfl, rfl, trivial⟩ rfl rfl rfl trivial ?_; clear S CL a; intro a S CL
            refine h_done ?_; clear CL hw le
            refine x_blockN ?_
            refine x_thenN ?_
            exact j3 _ A7 cp62 (y34 ++ [t18]) g135 g136 a w (S.sub ⟨rfl, rfl, rfl, rfl, rfl, rfl, trivial⟩ (.cons (.there (.there .here)) (.cons (.there (.there .here)) (.cons (.there (.there .here)) .nil)))) h5
          refine h_runO S rfl trivial ?_ ?_
          · replace S := (S.slup' (u := 42) (lo := 0) (c := 20) (ys := (((gt x1.2.2.2.2.2.2.1 y33).1).drop 0).take 20) rfl (Pull.mem (.there .here)).1 .here (.inl rfl) (by decide) (by decide) rfl).2
            replace CL := CL.drop (lq' := [(47, (.sl A6 ((gt x1.2.2.2.2.2.2.1 y33).2.2).length cp61 (RdS (Ty.int .u8) A6 ((gt x1.2.2.2.2.2.2.1 y33).2.2)))), (46, (.v (.pointer (some ⟨g134, 21, none⟩)))), (44, (.v (.slice A4 nn6 cp59))), (41, (.v (.pointer (some ⟨g134, 0, none⟩)))), (7, (.v (.slice A4 nn6 cp59))), (6, (.v (.pointer (some ⟨g134, 0, none⟩))))]) ⟨rfl, rfl, rfl, rfl, rfl, rfl, trivial⟩
            refine s_callP S (fun (ch : (Option Addr) × Nat) => ((.sl ch.1 (t15).length ch.2 (RdS (Ty.int .u8) ch.1 t15)) : D)) N29 rfl rfl (smithyref23_bytes.ok k ((((gt x1.2.2.2.2.2.2.1 y33).1).drop 0).take 20) (some ⟨g134, 0, none⟩) 20 t15 et15 _ _) ?_; clear S a; intro ch17 m le1 a w S
            replace le := le.trans le1
            replace hw := CL.again hw S (.cons (.there .here) (.cons (.there (.there .here)) (.cons (.there (.there .here)) .nil))) le
            refine h_back ⟨fun _ => hw, ?_⟩
            refine h_alts ?_
            refine h_runO S rfl trivial ?_ ?_
            · refine s_move S rfl rfl ?_; clear S a; intro a S
              replace hw := CL.again hw S (.cons (.there .here) (.cons (.there (.there .here)) (.cons (.there (.there .here)) .nil))) le
              refine h_back ⟨fun _ => hw, ?_⟩
              refine h_run' S rfl trivial ?_
              replace S := S.rowfro .here
              obtain ⟨m, le1, S, hro⟩ := S
              replace le := le.trans le1
              replace S := S.slotro (u := 44) rfl hro
              replace S := S.slotro (u := 7) rfl hro
              replace CL := CL.drop (lq' := [(47, (.sl A6 ((gt x1.2.2.2.2.2.2.1 y33).2.2).length cp61 (RdS (Ty.int .u8) A6 ((gt x1.2.2.2.2.2.2.1 y33).2.2)))), (46, (.v (.pointer (some ⟨g134, 21, none⟩)))), (41, (.v (.pointer (some ⟨g134, 0, none⟩)))), (6, (.v (.pointer (some ⟨g134, 0, none⟩))))]) ⟨rfl, rfl, rfl, rfl, trivial⟩
              refine s_callR S (fun (ch : (Option Addr) × Nat × Nat) => ((.v (.slice ch.1 ch.2.1 ch.2.2)) : D)) (fun (ch : (Option Addr) × Nat × Nat) => Res.row (Ty.int .u8) 5 ch.1 ch.2.1 ch.2.2 t16) N28 rfl rfl (smithyref23_list.ok k y45 A4 cp59 t16 et16 _ _) ?_; clear S a; intro ch18 m le1 a w S
              replace le := le.trans le1
              replace hw := CL.again hw S (.cons (.there .here) (.cons (.there (.there .here)) (.cons (.there (.there .here)) .nil))) le
              refine h_back ⟨fun _ => hw, ?_⟩
              refine h_run' S rfl trivial ?_
              refine s_callP S (fun (ch : (Option Addr) × Nat) => ((.sl ch.1 (t17).length ch.2 (RdS (Ty.int .u8) ch.1 t17)) : D)) N29 rfl rfl (smithyref23_bytes.ok k ((gt x1.2.2.2.2.2.2.1 y33).2.2) A6 cp61 t17 et17 _ _) ?_; clear S a; intro ch19 m le1 a w S
              replace le := le.trans le1
              replace hw := CL.again hw S (.cons (.there .here) (.cons (.there (.there .here)) (.cons (.there (.there .here)) .nil))) le
              refine h_back ⟨fun _ => hw, ?_⟩
              refine h_run' S rfl trivial ?_
              replace S := S.rowfro .here
              obtain ⟨m, le1, S, hro⟩ := S
              replace le := le.trans le1
              replace S := S.slotro (u := 45) rfl hro
              refine s_bldSl S (ty' := (Ty.slice (Ty.int .u8))) (ds := [(0, (.sl ch17.1 (t15).length ch17.2 (RdS (Ty.int .u8) ch17.1 t15))), (1, (.sl ch18.1 (t16).length ch18.2.2 (RdS (Ty.int .u8) ch18.1 t16))), (2, (.sl ch19.1 (t17).length ch19.2 (RdS (Ty.int .u8) ch19.1 t17)))]) (z := ([] : List Int)) (c0 := (none, 0)) (ys := [t15, t16, t17]) (cs := [(ch17.1, ch17.2), (ch18.1, ch18.2.2), (ch19.1, ch19.2)]) rfl Tryd.underlying63 J37 Z37 rfl ⟨⟨Nat.le_refl _, Nat.zero_le _, RdS.nil _ _ _, RdS.mono _ _ _⟩, trivial⟩ rfl rfl rfl rfl rfl rfl ?_; clear S a; intro g137 a w S
              replace hw := CL.again hw S (.cons (.there .here) (.cons (.there (.there .here)) (.cons (.there (.there .here)) .nil))) le
              refine h_back ⟨fun _ => hw, ?_⟩
              refine h_run' S rfl trivial ?_
              replace S := S.rowfro .here
              obtain ⟨m, le1, S, hro⟩ := S
              replace le := le.trans le1
              replace S := S.slotro (u := 49) rfl hro
              refine s_callR S (fun (ch : (Option Addr) × Nat × Nat) => ((.v (.slice ch.1 ch.2.1 ch.2.2)) : D)) (fun (ch : (Option Addr) × Nat × Nat) => Res.row (Ty.int .u8) 5 ch.1 ch.2.1 ch.2.2 t18) N28 rfl rfl (smithyref23_list.ok k [t15, t16, t17] (some ⟨g137, 0, none⟩) 3 t18 et18 _ _) ?_; clear S a; intro ch20 m le1 a w S
              replace le := le.trans le1
              replace hw := CL.again hw S (.cons (.there .here) (.cons (.there (.there .here)) (.cons (.there (.there .here)) .nil))) le
              refine h_back ⟨fun _ => hw, ?_⟩
              refine h_run' S rfl trivial ?_
              replace S := S.rowfro .here
              obtain ⟨m, le1, S, hro⟩ := S
              replace le := le.trans le1
              replace S := S.slotro (u := 50) rfl hro
              refine s_bldSl S (ty' := (Ty.slice (Ty.int .u8))) (ds := [(0, (.sl ch20.1 (t18).length ch20.2.2 (RdS (Ty.int .u8) ch20.1 t18)))]) (z := ([] : List Int)) (c0 := (none, 0)) (ys := [t18]) (cs := [(ch20.1, ch20.2.2)]) rfl Tryd.underlying63 J37 Z37 rfl ⟨⟨Nat.le_refl _, Nat.zero_le _, RdS.nil _ _ _, RdS.mono _ _ _⟩, trivial⟩ rfl rfl rfl rfl rfl rfl ?_; clear S a; intro g138 a w S
              replace hw := CL.again hw S (.cons (.there .here) (.cons (.there (.there .here)) (.cons (.there (.there .here)) .nil))) le
              refine h_back ⟨fun _ => hw, ?_⟩
              refine h_run' S rfl trivial ?_
              refine s_app S (k2 := 1) (ys := [t18]) rfl (fun _ _ => (.there (.there .here))) rfl rfl (S.holds _ (Pull.mem .here).1).1 (Res.row.src (S.holds _ (Pull.mem .here).1)) Tryd.underlying63 J37 c3 rfl ?_; clear S a; intro A7 cp62 a w S
              replace hw := CL.again hw S (.cons (.there .here) (.cons (.there (.there .here)) (.cons (.there (.there .here)) .nil))) le
              refine h_back ⟨fun _ => hw, ?_⟩
              replace CL := CL.add (t := 52) (d := (.v (.slice A7 (nn3 + 1) cp62))) S rfl rfl
              refine h_assign S CL hw le ⟨rfl, rfl, rfl, rfl, rfl, trivial⟩ rfl rfl rfl trivial ?_; clear S CL a; intro a S CL
              refine h_done ?_; clear CL hw le
              refine x_blockN ?_
              refine x_thenN ?_
              exact j3 _ A7 cp62 (y34 ++ [t18]) g135 g136 a w (S.sub ⟨rfl, rfl, rfl, rfl, rfl, rfl, trivial⟩ (.cons (.there (.there .here)) (.cons (.there (.there .here)) (.cons (.there (.there .here)) .nil)))) h5
            refine h_runO S rfl trivial ?_ ?_
            · replace S := S.rowfro .here
              obtain ⟨m, le1, S, hro⟩ := S
              replace le := le.trans le1
              replace S := S.slotro (u := 44) rfl hro
              replace S := S.slotro (u := 7) rfl hro
              replace CL := CL.drop (lq' := [(47, (.sl A6 ((gt x1.2.2.2.2.2.2.1 y33).2.2).length cp61 (RdS (Ty.int .u8) A6 ((gt x1.2.2.2.2.2.2.1 y33).2.2)))), (46, (.v (.pointer (some ⟨g134, 21, none⟩)))), (41, (.v (.pointer (some ⟨g134, 0, none⟩)))), (6, (.v (.pointer (some ⟨g134, 0, none⟩))))]) ⟨rfl, rfl, rfl, rfl, trivial⟩
              refine s_callR S (fun (ch : (Option Addr) × Nat × Nat) => ((.v (.slice ch.1 ch.2.1 ch.2.2)) : D)) (fun (ch : (Option Addr) × Nat × Nat) => Res.row (Ty.int .u8) 5 ch.1 ch.2.1 ch.2.2 t16) N28 rfl rfl (smithyref23_list.ok k y45 A4 cp59 t16 et16 _ _) ?_; clear S a; intro ch18 m le1 a w S
              replace le := le.trans le1
              replace hw := CL.again hw S (.cons (.there .here) (.cons (.there (.there .here)) (.cons (.there (.there .here)) .nil))) le
              refine h_back ⟨fun _ => hw, ?_⟩
              refine h_alts ?_
              refine h_runO S rfl trivial ?_ ?_
              · refine s_move S rfl rfl ?_; clear S a; intro a S
                replace hw := CL.again hw S (.cons (.there .here) (.cons (.there (.there .here)) (.cons (.there (.there .here)) .nil))) le
                refine h_back ⟨fun _ => hw, ?_⟩
                refine h_run' S rfl trivial ?_
                refine s_callP S (fun (ch : (Option Addr) × Nat) => ((.sl ch.1 (t17).length ch.2 (RdS (Ty.int .u8) ch.1 t17)) : D)) N29 rfl rfl (smithyref23_bytes.ok k ((gt x1.2.2.2.2.2.2.1 y33).2.2) A6 cp61 t17 et17 _ _) ?_; clear S a; intro ch19 m le1 a w S
                replace le := le.trans le1
                replace hw := CL.again hw S (.cons (.there .here) (.cons (.there (.there .here)) (.cons (.there (.there .here)) .nil))) le
                refine h_back ⟨fun _ => hw, ?_⟩
                refine h_run' S rfl trivial ?_
                replace S := S.rowfro .here
                obtain ⟨m, le1, S, hro⟩ := S
                replace le := le.trans le1
                replace S := S.slotro (u := 45) rfl hro
                refine s_bldSl S (ty' := (Ty.slice (Ty.int .u8))) (ds := [(0, (.sl ch17.1 (t15).length ch17.2 (RdS (Ty.int .u8) ch17.1 t15))), (1, (.sl ch18.1 (t16).length ch18.2.2 (RdS (Ty.int .u8) ch18.1 t16))), (2, (.sl ch19.1 (t17).length ch19.2 (RdS (Ty.int .u8) ch19.1 t17)))]) (z := ([] : List Int)) (c0 := (none, 0)) (ys := [t15, t16, t17]) (cs := [(ch17.1, ch17.2), (ch18.1, ch18.2.2), (ch19.1, ch19.2)]) rfl Tryd.underlying63 J37 Z37 rfl ⟨⟨Nat.le_refl _, Nat.zero_le _, RdS.nil _ _ _, RdS.mono _ _ _⟩, trivial⟩ rfl rfl rfl rfl rfl rfl ?_; clear S a; intro g137 a w S
                replace hw := CL.again hw S (.cons (.there .here) (.cons (.there (.there .here)) (.cons (.there (.there .here)) .nil))) le
                refine h_back ⟨fun _ => hw, ?_⟩
                refine h_run' S rfl trivial ?_
                replace S := S.rowfro .here
                obtain ⟨m, le1, S, hro⟩ := S
                replace le := le.trans le1
                replace S := S.slotro (u := 49) rfl hro
                refine s_callR S (fun (ch : (Option Addr) × Nat × Nat) => ((.v (.slice ch.1 ch.2.1 ch.2.2)) : D)) (fun (ch : (Option Addr) × Nat × Nat) => Res.row (Ty.int .u8) 5 ch.1 ch.2.1 ch.2.2 t18) N28 rfl rfl (smithyref23_list.ok k [t15, t16, t17] (some ⟨g137, 0, none⟩) 3 t18 et18 _ _) ?_; clear S a; intro ch20 m le1 a w S
                replace le := le.trans le1
                replace hw := CL.again hw S (.cons (.there .here) (.cons (.there (.there .here)) (.cons (.there (.there .here)) .nil))) le
                refine h_back ⟨fun _ => hw, ?_⟩
                refine h_run' S rfl trivial ?_
                replace S := S.rowfro .here
                obtain ⟨m, le1, S, hro⟩ := S
                replace le := le.trans le1
                replace S := S.slotro (u := 50) rfl hro
                refine s_bldSl S (ty' := (Ty.slice (Ty.int .u8))) (ds := [(0, (.sl ch20.1 (t18).length ch20.2.2 (RdS (Ty.int .u8) ch20.1 t18)))]) (z := ([] : List Int)) (c0 := (none, 0)) (ys := [t18]) (cs := [(ch20.1, ch20.2.2)]) rfl Tryd.underlying63 J37 Z37 rfl ⟨⟨Nat.le_refl _, Nat.zero_le _, RdS.nil _ _ _, RdS.mono _ _ _⟩, trivial⟩ rfl rfl rfl rfl rfl rfl ?_; clear S a; intro g138 a w S
                replace hw := CL.again hw S (.cons (.there .here) (.cons (.there (.there .here)) (.cons (.there (.there .here)) .nil))) le
                refine h_back ⟨fun _ => hw, ?_⟩
                refine h_run' S rfl trivial ?_
                refine s_app S (k2 := 1) (ys := [t18]) rfl (fun _ _ => (.there (.there .here))) rfl rfl (S.holds _ (Pull.mem .here).1).1 (Res.row.src (S.holds _ (Pull.mem .here).1)) Tryd.underlying63 J37 c3 rfl ?_; clear S a; intro A7 cp62 a w S
                replace hw := CL.again hw S (.cons (.there .here) (.cons (.there (.there .here)) (.cons (.there (.there .here)) .nil))) le
                refine h_back ⟨fun _ => hw, ?_⟩
                replace CL := CL.add (t := 52) (d := (.v (.slice A7 (nn3 + 1) cp62))) S rfl rfl
                refine h_assign S CL hw le ⟨rfl, rfl, rfl, rfl, rfl, trivial⟩ rfl rfl rfl trivial ?_; clear S CL a; intro a S CL
                refine h_done ?_; clear CL hw le
                refine x_blockN ?_
                refine x_thenN ?_
                exact j3 _ A7 cp62 (y34 ++ [t18]) g135 g136 a w (S.sub ⟨rfl, rfl, rfl, rfl, rfl, rfl, trivial⟩ (.cons (.there (.there .here)) (.cons (.there (.there .here)) (.cons (.there (.there .here)) .nil)))) h5
              refine h_runO S rfl trivial ?_ ?_
              · refine s_callP S (fun (ch : (Option Addr) × Nat) => ((.sl ch.1 (t17).length ch.2 (RdS (Ty.int .u8) ch.1 t17)) : D)) N29 rfl rfl (smithyref23_bytes.ok k ((gt x1.2.2.2.2.2.2.1 y33).2.2) A6 cp61 t17 et17 _ _) ?_; clear S a; intro ch19 m le1 a w S
                replace le := le.trans le1
                replace hw := CL.again hw S (.cons (.there .here) (.cons (.there (.there .here)) (.cons (.there (.there .here)) .nil))) le
                refine h_back ⟨fun _ => hw, ?_⟩
                refine h_alts ?_
                refine h_runO S rfl trivial ?_ ?_
                · refine s_move S rfl rfl ?_; clear S a; intro a S
                  replace hw := CL.again hw S (.cons (.there .here) (.cons (.there (.there .here)) (.cons (.there (.there .here)) .nil))) le
                  refine h_back ⟨fun _ => hw, ?_⟩
                  refine h_run' S rfl trivial ?_
                  replace S := S.rowfro .here
                  obtain ⟨m, le1, S, hro⟩ := S
                  replace le := le.trans le1
                  replace S := S.slotro (u := 45) rfl hro
                  refine s_bldSl S (ty' := (Ty.slice (Ty.int .u8))) (ds := [(0, (.sl ch17.1 (t15).length ch17.2 (RdS (Ty.int .u8) ch17.1 t15))), (1, (.sl ch18.1 (t16).length ch18.2.2 (RdS (Ty.int .u8) ch18.1 t16))), (2, (.sl ch19.1 (t17).length ch19.2 (RdS (Ty.int .u8) ch19.1 t17)))]) (z := ([] : List Int)) (c0 := (none, 0)) (ys := [t15, t16, t17]) (cs := [(ch17.1, ch17.2), (ch18.1, ch18.2.2), (ch19.1, ch19.2)]) rfl Tryd.underlying63 J37 Z37 rfl ⟨⟨Nat.le_refl _, Nat.zero_le _, RdS.nil _ _ _, RdS.mono _ _ _⟩, trivial⟩ rfl rfl rfl rfl rfl rfl ?_; clear S a; intro g137 a w S
                  replace hw := CL.again hw S (.cons (.there .here) (.cons (.there (.there .here)) (.cons (.there (.there .here)) .nil))) le
                  refine h_back ⟨fun _ => hw, ?_⟩
                  refine h_run' S rfl trivial ?_
                  replace S := S.rowfro .here
                  obtain ⟨m, le1, S, hro⟩ := S
                  replace le := le.trans le1
                  replace S := S.slotro (u := 49) rfl hro
                  refine s_callR S (fun (ch : (Option Addr) × Nat × Nat) => ((.v (.slice ch.1 ch.2.1 ch.2.2)) : D)) (fun (ch : (Option Addr) × Nat × Nat) => Res.row (Ty.int .u8) 5 ch.1 ch.2.1 ch.2.2 t18) N28 rfl rfl (smithyref23_list.ok k [t15, t16, t17] (some ⟨g137, 0, none⟩) 3 t18 et18 _ _) ?_; clear S a; intro ch20 m le1 a w S
                  replace le := le.trans le1
                  replace hw := CL.again hw S (.cons (.there .here) (.cons (.there (.there .here)) (.cons (.there (.there .here)) .nil))) le
                  refine h_back ⟨fun _ => hw, ?_⟩
                  refine h_run' S rfl trivial ?_
                  replace S := S.rowfro .here
                  obtain ⟨m, le1, S, hro⟩ := S
                  replace le := le.trans le1
                  replace S := S.slotro (u := 50) rfl hro
                  refine s_bldSl S (ty' := (Ty.slice (Ty.int .u8))) (ds := [(0, (.sl ch20.1 (t18).length ch20.2.2 (RdS (Ty.int .u8) ch20.1 t18)))]) (z := ([] : List Int)) (c0 := (none, 0)) (ys := [t18]) (cs := [(ch20.1, ch20.2.2)]) rfl Tryd.underlying63 J37 Z37 rfl ⟨⟨Nat.le_refl _, Nat.zero_le _, RdS.nil _ _ _, RdS.mono _ _ _⟩, trivial⟩ rfl rfl rfl rfl rfl rfl ?_; clear S a; intro g138 a w S
                  replace hw := CL.again hw S (.cons (.there .here) (.cons (.there (.there .here)) (.cons (.there (.there .here)) .nil))) le
                  refine h_back ⟨fun _ => hw, ?_⟩
                  refine h_run' S rfl trivial ?_
                  refine s_app S (k2 := 1) (ys := [t18]) rfl (fun _ _ => (.there (.there .here))) rfl rfl (S.holds _ (Pull.mem .here).1).1 (Res.row.src (S.holds _ (Pull.mem .here).1)) Tryd.underlying63 J37 c3 rfl ?_; clear S a; intro A7 cp62 a w S
                  replace hw := CL.again hw S (.cons (.there .here) (.cons (.there (.there .here)) (.cons (.there (.there .here)) .nil))) le
                  refine h_back ⟨fun _ => hw, ?_⟩
                  replace CL := CL.add (t := 52) (d := (.v (.slice A7 (nn3 + 1) cp62))) S rfl rfl
                  refine h_assign S CL hw le ⟨rfl, rfl, rfl, rfl, rfl, trivial⟩ rfl rfl rfl trivial ?_; clear S CL a; intro a S CL
                  refine h_done ?_; clear CL hw le
                  refine x_blockN ?_
                  refine x_thenN ?_
                  exact j3 _ A7 cp62 (y34 ++ [t18]) g135 g136 a w (S.sub ⟨rfl, rfl, rfl, rfl, rfl, rfl, trivial⟩ (.cons (.there (.there .here)) (.cons (.there (.there .here)) (.cons (.there (.there .here)) .nil)))) h5
                refine h_runO S rfl trivial ?_ ?_
                · replace S := S.rowfro .here
                  obtain ⟨m, le1, S, hro⟩ := S
                  replace le := le.trans le1
                  replace S := S.slotro (u := 45) rfl hro
                  refine s_bldSl S (ty' := (Ty.slice (Ty.int .u8))) (ds := [(0, (.sl ch17.1 (t15).length ch17.2 (RdS (Ty.int .u8) ch17.1 t15))), (1, (.sl ch18.1 (t16).length ch18.2.2 (RdS (Ty.int .u8) ch18.1 t16))), (2, (.sl ch19.1 (t17).length ch19.2 (RdS (Ty.int .u8) ch19.1 t17)))]) (z := ([] : List Int)) (c0 := (none, 0)) (ys := [t15, t16, t17]) (cs := [(ch17.1, ch17.2), (ch18.1, ch18.2.2), (ch19.1, ch19.2)]) rfl Tryd.underlying63 J37 Z37 rfl ⟨⟨Nat.le_refl _, Nat.zero_le _, RdS.nil _ _ _, RdS.mono _ _ _⟩, trivial⟩ rfl rfl rfl rfl rfl rfl ?_; clear S a; intro g137 a w S
                  replace hw := CL.again hw S (.cons (.there .here) (.cons (.there (.there .here)) (.cons (.there (.there .here)) .nil))) le
                  refine h_back ⟨fun _ => hw, ?_⟩
                  refine h_alts ?_
                  refine h_runO S rfl trivial ?_ ?_
                  · refine s_move S rfl rfl ?_; clear S a; intro a S
                    replace hw := CL.again hw S (.cons (.there .here) (.cons (.there (.there .here)) (.cons (.there (.there .here)) .nil))) le
                    refine h_back ⟨fun _ => hw, ?_⟩
                    refine h_run' S rfl trivial ?_
                    replace S := S.rowfro .here
                    obtain ⟨m, le1, S, hro⟩ := S
                    replace le := le.trans le1
                    replace S := S.slotro (u := 49) rfl hro
                    refine s_callR S (fun (ch : (Option Addr) × Nat × Nat) => ((.v (.slice ch.1 ch.2.1 ch.2.2)) : D)) (fun (ch : (Option Addr) × Nat × Nat) => Res.row (Ty.int .u8) 5 ch.1 ch.2.1 ch.2.2 t18) N28 rfl rfl (smithyref23_list.ok k [t15, t16, t17] (some ⟨g137, 0, none⟩) 3 t18 et18 _ _) ?_; clear S a; intro ch20 m le1 a w S
                    replace le := le.trans le1
                    replace hw := CL.again hw S (.cons (.there .here) (.cons (.there (.there .here)) (.cons (.there (.there .here)) .nil))) le
                    refine h_back ⟨fun _ => hw, ?_⟩
                    refine h_run' S rfl trivial ?_
                    replace S := S.rowfro .here
                    obtain ⟨m, le1, S, hro⟩ := S
                    replace le := le.trans le1
                    replace S := S.slotro (u := 50) rfl hro
                    refine s_bldSl S (ty' := (Ty.slice (Ty.int .u8))) (ds := [(0, (.sl ch20.1 (t18).length ch20.2.2 (RdS (Ty.int .u8) ch20.1 t18)))]) (z := ([] : List Int)) (c0 := (none, 0)) (ys := [t18]) (cs := [(ch20.1, ch20.2.2)]) rfl Tryd.underlying63 J37 Z37 rfl ⟨⟨Nat.le_refl _, Nat.zero_le _, RdS.nil _ _ _, RdS.mono _ _ _⟩, trivial⟩ rfl rfl rfl rfl rfl rfl ?_; clear S a; intro g138 a w S
                    replace hw := CL.again hw S (.cons (.there .here) (.cons (.there (.there .here)) (.cons (.there (.there .here)) .nil))) le
                    refine h_back ⟨fun _ => hw, ?_⟩
                    refine h_run' S rfl trivial ?_
                    refine s_app S (k2 := 1) (ys := [t18]) rfl (fun _ _ => (.there (.there .here))) rfl rfl (S.holds _ (Pull.mem .here).1).1 (Res.row.src (S.holds _ (Pull.mem .here).1)) Tryd.underlying63 J37 c3 rfl ?_; clear S a; intro A7 cp62 a w S
                    replace hw := CL.again hw S (.cons (.there .here) (.cons (.there (.there .here)) (.cons (.there (.there .here)) .nil))) le
                    refine h_back ⟨fun _ => hw, ?_⟩
                    replace CL := CL.add (t := 52) (d := (.v (.slice A7 (nn3 + 1) cp62))) S rfl rfl
                    refine h_assign S CL hw le ⟨rfl, rfl, rfl, rfl, rfl, trivial⟩ rfl rfl rfl trivial ?_; clear S CL a; intro a S CL
                    refine h_done ?_; clear CL hw le
                    refine x_blockN ?_
                    refine x_thenN ?_
                    exact j3 _ A7 cp62 (y34 ++ [t18]) g135 g136 a w (S.sub ⟨rfl, rfl, rfl, rfl, rfl, rfl, trivial⟩ (.cons (.there (.there .here)) (.cons (.there (.there .here)) (.cons (.there (.there .here)) .nil)))) h5
                  refine h_runO S rfl trivial ?_ ?_
                  · replace S := S.rowfro .here
                    obtain ⟨m, le1, S, hro⟩ := S
                    replace le := le.trans le1
                    replace S := S.slotro (u := 49) rfl hro
                    refine s_callR S (fun (ch : (Option Addr) × Nat × Nat) => ((.v (.slice ch.1 ch.2.1 ch.2.2)) : D)) (fun (ch : (Option Addr) × Nat × Nat) => Res.row (Ty.int .u8) 5 ch.1 ch.2.1 ch.2.2 t18) N28 rfl rfl (smithyref23_list.ok k [t15, t16, t17] (some ⟨g137, 0, none⟩) 3 t18 et18 _ _) ?_; clear S a; intro ch20 m le1 a w S
                    replace le := le.trans le1
                    replace hw := CL.again hw S (.cons (.there .here) (.cons (.there (.there .here)) (.cons (.there (.there .here)) .nil))) le
                    refine h_back ⟨fun _ => hw, ?_⟩
                    refine h_alts ?_
                    refine h_runO S rfl trivial ?_ ?_
                    · refine s_move S rfl rfl ?_; clear S a; intro a S
                      replace hw := CL.again hw S (.cons (.there .here) (.cons (.there (.there .here)) (.cons (.there (.there .here)) .nil))) le
                      refine h_back ⟨fun _ => hw, ?_⟩
                      refine h_run' S rfl trivial ?_
                      replace S := S.rowfro .here
                      obtain ⟨m, le1, S, hro⟩ := S
                      replace le := le.trans le1
                      replace S := S.slotro (u := 50) rfl hro
                      refine s_bldSl S (ty' := (Ty.slice (Ty.int .u8))) (ds := [(0, (.sl ch20.1 (t18).length ch20.2.2 (RdS (Ty.int .u8) ch20.1 t18)))]) (z := ([] : List Int)) (c0 := (none, 0)) (ys := [t18]) (cs := [(ch20.1, ch20.2.2)]) rfl Tryd.underlying63 J37 Z37 rfl ⟨⟨Nat.le_refl _, Nat.zero_le _, RdS.nil _ _ _, RdS.mono _ _ _⟩, trivial⟩ rfl rfl rfl rfl rfl rfl ?_; clear S a; intro g138 a w S
                      replace hw := CL.again hw S (.cons (.there .here) (.cons (.there (.there .here)) (.cons (.there (.there .here)) .nil))) le
                      refine h_back ⟨fun _ => hw, ?_⟩
                      refine h_run' S rfl trivial ?_
                      refine s_app S (k2 := 1) (ys := [t18]) rfl (fun _ _ => (.there (.there .here))) rfl rfl (S.holds _ (Pull.mem .here).1).1 (Res.row.src (S.holds _ (Pull.mem .here).1)) Tryd.underlying63 J37 c3 rfl ?_; clear S a; intro A7 cp62 a w S
                      replace hw := CL.again hw S (.cons (.there .here) (.cons (.there (.there .here)) (.cons (.there (.there .here)) .nil))) le
                      refine h_back ⟨fun _ => hw, ?_⟩
                      replace CL := CL.add (t := 52) (d := (.v (.slice A7 (nn3 + 1) cp62))) S rfl rfl
                      refine h_assign S CL hw le ⟨rfl, rfl, rfl, rfl, rfl, trivial⟩ rfl rfl rfl trivial ?_; clear S CL a; intro a S CL
                      refine h_done ?_; clear CL hw le
                      refine x_blockN ?_
                      refine x_thenN ?_
                      exact j3 _ A7 cp62 (y34 ++ [t18]) g135 g136 a w (S.sub ⟨rfl, rfl, rfl, rfl, rfl, rfl, trivial⟩ (.cons (.there (.there .here)) (.cons (.there (.there .here)) (.cons (.there (.there .here)) .nil)))) h5
                    refine h_runO S rfl trivial ?_ ?_
                    · replace S := S.rowfro .here
                      obtain ⟨m, le1, S, hro⟩ := S
                      replace le := le.trans le1
                      replace S := S.slotro (u := 50) rfl hro
                      refine s_bldSl S (ty' := (Ty.slice (Ty.int .u8))) (ds := [(0, (.sl ch20.1 (t18).length ch20.2.2 (RdS (Ty.int .u8) ch20.1 t18)))]) (z := ([] : List Int)) (c0 := (none, 0)) (ys := [t18]) (cs := [(ch20.1, ch20.2.2)]) rfl Tryd.underlying63 J37 Z37 rfl ⟨⟨Nat.le_refl _, Nat.zero_le _, RdS.nil _ _ _, RdS.mono _ _ _⟩, trivial⟩ rfl rfl rfl rfl rfl rfl ?_; clear S a; intro g138 a w S
                      replace hw := CL.again hw S (.cons (.there .here) (.cons (.there (.there .here)) (.cons (.there (.there .here)) .nil))) le
                      refine h_back ⟨fun _ => hw, ?_⟩
                      refine h_run' S rfl trivial ?_
                      refine s_move S rfl rfl ?_; clear S a; intro a S
                      replace hw := CL.again hw S (.cons (.there .here) (.cons (.there (.there .here)) (.cons (.there (.there .here)) .nil))) le
                      refine h_back ⟨fun _ => hw, ?_⟩
                      refine h_run' S rfl trivial ?_
                      refine s_app S (k2 := 1) (ys := [t18]) rfl (fun _ _ => (.there (.there .here))) rfl rfl (S.holds _ (Pull.mem .here).1).1 (Res.row.src (S.holds _ (Pull.mem .here).1)) Tryd.underlying63 J37 c3 rfl ?_; clear S a; intro A7 cp62 a w S
                      replace hw := CL.again hw S (.cons (.there .here) (.cons (.there (.there .here)) (.cons (.there (.there .here)) .nil))) le
                      refine h_back ⟨fun _ => hw, ?_⟩
                      replace CL := CL.add (t := 52) (d := (.v (.slice A7 (nn3 + 1) cp62))) S rfl rfl
                      refine h_assign S CL hw le ⟨rfl, rfl, rfl, rfl, rfl, trivial⟩ rfl rfl rfl trivial ?_; clear S CL a; intro a S CL
                      refine h_done ?_; clear CL hw le
                      refine x_blockN ?_
                      refine x_thenN ?_
                      exact j3 _ A7 cp62 (y34 ++ [t18]) g135 g136 a w (S.sub ⟨rfl, rfl, rfl, rfl, rfl, rfl, trivial⟩ (.cons (.there (.there .here)) (.cons (.there (.there .here)) (.cons (.there (.there .here)) .nil)))) h5
                    exact h_nil
                  exact h_nil
                exact h_nil
              exact h_nil
            exact h_nil
          exact h_nil
        refine c_region ?_
        refine s_fieldAddr S rfl I68_1 T66 (by decide) rfl rfl ?_; clear S a; intro a S
        refine s_loadSl S rfl (.there .here) T66 (A := ch16.2.1.1) (len := ((gt x1.2.2.2.2.2.2.1 y33).2.1).length) (cap := ch16.2.1.2) rfl rfl ?_; clear S a; intro a S
        refine s_lenS S rfl Tryd.underlying66 rfl ?_; clear S a; intro a S
        refine s_move S rfl rfl ?_; clear S a; intro a S
        refine c_end ?_
        refine wp_block ?_
        refine c_loop (fun q2 a w => ∃ (m : Mem) (y48 : Int) (A8 : Option Addr) (nn8 : Nat) (cp70 : Nat) (y49 : List (List Int)) (g147 : Nat) (g148 : Nat) (g149 : Nat) (A9 : Option Addr) (cp71 : Nat) (A10 : Option Addr) (cp72 : Nat), St 79 m b0 [(27, (.v (.int .i64 y48))), (26, (.v (.int .i64 (((gt x1.2.2.2.2.2.2.1 y33).2.1).length : Int)))), (7, (.v (.slice A8 nn8 cp70))), (6, (.v (.pointer (some ⟨g147, 0, none⟩)))), (15, (.v (.int .i64 y33))), (14, (.v (.int .i64 ((x1.2.2.2.2.2.2.1).length : Int)))), (4, (.v (.slice A2 nn3 cp33))), (3, (.v (.int .u64 y1))), (2, (.v (.pointer (some ⟨g148, 0, none⟩)))), (1, (.v (.pointer (some ⟨g149, 0, none⟩))))] [Res.row (Ty.slice (Ty.int .u8)) 37 A8 nn8 cp70 y49, Res.cells g147 68 [.ints .u8 ((gt x1.2.2.2.2.2.2.1 y33).1) 20, .sl A9 ((gt x1.2.2.2.2.2.2.1 y33).2.1).length cp71 (RdS (Ty.arr .u64 4) A9 ((gt x1.2.2.2.2.2.2.1 y33).2.1)), .sl A10 ((gt x1.2.2.2.2.2.2.1 y33).2.2).length cp72 (RdS (Ty.int .u8) A10 ((gt x1.2.2.2.2.2.2.1 y33).2.2))], Res.row (Ty.slice (Ty.int .u8)) 37 A2 nn3 cp33 y34, Res.cells g148 23 [.ints .u8 [0, 0, 0, 0, 0, 0, 0, 0, 0, 0, 0, 0, 0, 0, 0, 0, 0, 0, 0, 0, 0, 0, 0, 0, 0, 0, 0, 0, 0, 0, 0, 0] 32], Res.cells g149 39 [.ints .u8 x1.1 20, .one (.int .u64 x1.2.1), .one (.bool x1.2.2.1), .one (.int .u64 x1.2.2.2.1), .ints .u64 x1.2.2.2.2.1 4, .ints .u8 x1.2.2.2.2.2.1 20, .sl ch_0_0 (x1.2.2.2.2.2.2.1).length ch_0_1 (RdS (Ty.prod (Ty.arr .u8 20) (Ty.prod (Ty.slice (Ty.arr .u64 4)) (Ty.slice (Ty.int .u8)))) ch_0_0 x1.2.2.2.2.2.2.1), .sl ch_0_2 (x1.2.2.2.2.2.2.2).length ch_0_3 (RdS (Ty.int .u8) ch_0_2 x1.2.2.2.2.2.2.2)]] a w ∧ smithyref23_Receipt.l2 k x1 y33 y34 (smithyref23_Receipt.l1 k x1 y1 q1) q2 y48 y49 = some r) ?_ ?_ (k := k) ⟨_, 0, (some ⟨g122, 0, none⟩), 0, 0, ([] : List (List Int)), g121, g99, g100, ch16.2.1.1, ch16.2.1.2, ch16.2.2.1, ch16.2.2.2, (S.sub ⟨rfl, rfl, rfl, rfl, rfl, rfl, rfl, rfl, rfl, rfl, trivial⟩ (.cons .here (.cons .here (.cons .here (.cons .here (.cons .here .nil)))))), h2⟩
        · rintro a w ⟨m, y48, A8, nn8, cp70, y49, g147, g148, g149, A9, cp71, A10, cp72, S, h0⟩
          exact (nomatch (show (none : Option ((List Int))) = some r from h0))
        · clear S h2
          rintro q2 a w ⟨m, y48, A8, nn8, cp70, y49, g147, g148, g149, A9, cp71, A10, cp72, S, h0⟩
          replace h0 : smithyref23_Receipt.b2 k x1 y33 y34 (smithyref23_Receipt.l1 k x1 y1 q1) (smithyref23_Receipt.l2 k x1 y33 y34 (smithyref23_Receipt.l1 k x1 y1 q1) q2) y48 y49 = some r := h0
          delta smithyref23_Receipt.b2 at h0
          refine c_region ?_
          refine s_bin S rfl rfl rfl rfl ?_; clear S a; intro a S
          refine c_end ?_
          refine wp_seq ?_
          rcases ite_of h0 with ⟨c4, h1⟩ | ⟨c4, h1⟩ <;> clear h0
          · refine c_condT S rfl c4 ?_
            refine wp_skip ?_
            refine x_thenN ?_
            refine wp_seq ?_
            refine wp_block ?_
            refine c_region ?_
            refine s_move S rfl rfl ?_; clear S a; intro a S
            refine s_assign S rfl rfl ?_; clear S a; intro a S
            refine c_end ?_
            refine c_region' ?_
            refine s_move S rfl rfl ?_; clear S a; intro a S
            refine s_fieldAddr S rfl I68_1 T66 (by decide) rfl rfl ?_; clear S a; intro a S
            refine s_loadSl S rfl (.there .here) T66 (A := A9) (len := ((gt x1.2.2.2.2.2.2.1 y33).2.1).length) (cap := cp71) rfl rfl ?_; clear S a; intro a S
            refine s_move S rfl rfl ?_; clear S a; intro a S
            obtain ⟨c5, h2⟩ := chk_of h1; clear h1
            refine s_iaddrS S rfl rfl rfl Tryd.underlying66 T26 c5.1 c5.2 rfl ?_; clear S a; intro p4 a S
            refine s_ldA S (fun (c : Unit) => [.ints .u64 (gt ((gt x1.2.2.2.2.2.2.1 y33).2.1) y48) 4]) rfl T26 (fun _ => rfl) rfl ?_; clear S a; intro ch25 a S
            obtain ⟨t21, et21, h3⟩ := bind_of h2; clear h2
            refine s_callP S (fun (ch : (Option Addr) × Nat) => ((.sl ch.1 (t21).length ch.2 (RdS (Ty.int .u8) ch.1 t21)) : D)) N32 rfl rfl (smithyref23_full.ok k (gt ((gt x1.2.2.2.2.2.2.1 y33).2.1) y48) t21 et21 _ _) ?_; clear S a w; intro ch26 m le1 a w S
            refine s_bldSl S (ty' := (Ty.slice (Ty.int .u8))) (ds := [(0, (.sl ch26.1 (t21).length ch26.2 (RdS (Ty.int .u8) ch26.1 t21)))]) (z := ([] : List Int)) (c0 := (none, 0)) (ys := [t21]) (cs := [(ch26.1, ch26.2)]) rfl Tryd.underlying63 J37 Z37 rfl ⟨⟨Nat.le_refl _, Nat.zero_le _, RdS.nil _ _ _, RdS.mono _ _ _⟩, trivial⟩ rfl rfl rfl rfl rfl rfl ?_; clear S a w; intro g150 a w S
            obtain ⟨c6, h4⟩ := chk_of h3; clear h3
            refine s_app S (k2 := 1) (ys := [t21]) rfl (fun _ _ => (.there .here)) rfl rfl (S.holds _ (Pull.mem .here).1).1 (Res.row.src (S.holds _ (Pull.mem .here).1)) Tryd.underlying63 J37 c6 rfl ?_; clear S a w; intro A11 cp73 a w S
            refine s_assign S rfl rfl ?_; clear S a; intro a S
            refine c_end' ?_
            refine x_blockN ?_
            refine x_thenN ?_
            refine c_region' ?_
            refine s_bin S rfl rfl rfl rfl ?_; clear S a; intro a S
            refine s_move S rfl rfl ?_; clear S a; intro a S
            refine c_end' ?_
            refine x_thenN ?_
            exact ⟨_, (wr .i64 (y48 + 1)), A11, (nn8 + 1), cp73, (y49 ++ [t21]), g147, g148, g149, A9, cp71, A10, cp72, (S.sub ⟨rfl, rfl, rfl, rfl, rfl, rfl, rfl, rfl, rfl, rfl, trivial⟩ (.cons (.there .here) (.cons (.there .here) (.cons (.there .here) (.cons (.there .here) (.cons (.there .here) .nil)))))), h4⟩
          · refine c_condF S rfl c4 ?_
            refine wp_exit ?_
            refine x_thenX ?_
            refine x_thenX ?_
            refine x_blockX ?_
            refine x_thenN ?_
            exact j4 _ A8 nn8 cp70 y49 g147 g148 g149 A9 cp71 A10 cp72 a w (S.sub ⟨rfl, rfl, rfl, rfl, rfl, rfl, rfl, rfl, trivial⟩ (.cons .here (.cons .here (.cons .here (.cons .here (.cons .here .nil)))))) h1
      · refine c_condF S rfl c1 ?_
        refine wp_exit ?_
        refine x_thenX ?_
        refine x_thenX ?_
        refine x_blockX ?_
        refine x_thenN ?_
        exact j2 _ A2 nn3 cp33 y34 g99 g100 a w (S.sub ⟨rfl, rfl, rfl, rfl, trivial⟩ (.cons .here (.cons .here (.cons .here .nil)))) h1
  refine c_region ?_
  refine s_fieldAddr S rfl I39_2 T4 (by decide) rfl rfl ?_; clear S a; intro a S
  refine s_load1 S rfl (.there .here) T4 (v := (.bool x1.2.2.1)) rfl rfl ?_; clear S a; intro a S
  refine c_end ?_
  rcases ite_of h0 with ⟨c7, h1⟩ | ⟨c7, h1⟩ <;> clear h0
  · refine c_condT S rfl c7 ?_
    refine c_region' ?_
    refine s_assign S rfl rfl ?_; clear S a; intro a S
    refine c_end' ?_
    refine x_thenN ?_
    exact j1 _ 1 g2 g1 a w (S.sub ⟨rfl, rfl, rfl, trivial⟩ (.cons .here (.cons .here .nil))) h1
  · refine c_condF S rfl c7 ?_
    refine wp_skip ?_
    refine x_thenN ?_
    exact j1 _ 0 g2 g1 a w (S.sub ⟨rfl, rfl, rfl, trivial⟩ (.cons .here (.cons .here .nil))) h1
end GW
