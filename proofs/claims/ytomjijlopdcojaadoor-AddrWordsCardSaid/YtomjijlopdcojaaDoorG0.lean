/-
  Printed by a program of these sessions (wip/gw/gw.py): for each Go function a Lean function with the same answers, and the walk that shows it.
-/
import Derived.Test.YtomjijlopdcojaaDoorProg
import Derived.Test.YtomjijlopdcojaaDoorGB
set_option linter.unusedVariables false
set_option maxRecDepth 10000
namespace GW
open Go Go.RowKit Go.Proofs
/-! math/bits.Len64 -/
def bits_Len64.j3 (y5 : Int) (y6 : Int) : Option Int := if 0 ≤ (wr .u8 y6) ∧ (wr .u8 y6) < (txt0.size : Int) then (some (wr .i64 (y5 + (wr .i64 (bt txt0 (wr .u8 y6)))))) else none
def bits_Len64.j2 (y3 : Int) (y4 : Int) : Option Int := if (decide (256 ≤ y4)) = true then (bits_Len64.j3 (wr .i64 (y3 + 8)) (shr y4 8)) else (bits_Len64.j3 y3 y4)
def bits_Len64.j1 (y1 : Int) (y2 : Int) : Option Int := if (decide (65536 ≤ y2)) = true then (bits_Len64.j2 (wr .i64 (y1 + 16)) (shr y2 16)) else (bits_Len64.j2 y1 y2)
def bits_Len64.f (x1 : Int) : Option Int := if (decide (4294967296 ≤ x1)) = true then (bits_Len64.j1 32 (shr x1 32)) else (bits_Len64.j1 0 x1)
theorem bits_Len64.ok (x1 : Int) (r : Int) (h0 : bits_Len64.f x1 = some r) (mi : Mem) (w0 : World) : okL mi [(.v (.int .u64 x1))] → Frz mi w0 → Calls Tryd.prog 50 (([(.v (.int .u64 x1))] : List D).map D.val).toArray w0 (Ret mi (.v (.int .i64 r)) w0) := by
  intro ok hm
  delta bits_Len64.f at h0
  refine c_enter (n := 25) [(.v (.int .u64 x1))] (l := [(0, (.v (.int .u64 x1)))]) Tryd.func50 rfl rfl rfl rfl ok hm ?_
  clear ok hm
  intro a S
  refine c_region ?_
  refine s_assign S rfl rfl ?_; clear S a; intro a S
  refine c_end ?_
  refine wp_seq_k ?_
  intro K1 hK1
  have j1 : ∀ (m : Mem) (y1 : Int) (y2 : Int) (a : Act) (w : World), St 25 m (B0 mi w0) [(2, (.v (.int .i64 y1))), (0, (.v (.int .u64 y2)))] [] a w → bits_Len64.j1 y1 y2 = some r → K1 a w := by
    intro m y1 y2 a w S h0
    delta bits_Len64.j1 at h0
    refine hK1 a w ?_
    refine wp_seq_k ?_
    intro K2 hK2
    have j2 : ∀ (m : Mem) (y3 : Int) (y4 : Int) (a : Act) (w : World), St 25 m (B0 mi w0) [(2, (.v (.int .i64 y3))), (0, (.v (.int .u64 y4)))] [] a w → bits_Len64.j2 y3 y4 = some r → K2 a w := by
      intro m y3 y4 a w S h0
      delta bits_Len64.j2 at h0
      refine hK2 a w ?_
      refine wp_seq_k ?_
      intro K3 hK3
      have j3 : ∀ (m : Mem) (y5 : Int) (y6 : Int) (a : Act) (w : World), St 25 m (B0 mi w0) [(2, (.v (.int .i64 y5))), (0, (.v (.int .u64 y6)))] [] a w → bits_Len64.j3 y5 y6 = some r → K3 a w := by
        intro m y5 y6 a w S h0
        delta bits_Len64.j3 at h0
        refine hK3 a w ?_
        refine c_region ?_
        refine s_move S rfl rfl ?_; clear S a; intro a S
        refine s_move S rfl rfl ?_; clear S a; intro a S
        refine s_conv S rfl rfl Tryd.underlying5 rfl ?_; clear S a; intro a S
        obtain ⟨c1, h1⟩ := chk_of h0; clear h0
        refine s_indexT S rfl rfl Tryd.underlying9 c1.1 c1.2 rfl ?_; clear S a; intro a S
        refine s_conv S rfl rfl Tryd.underlying3 rfl ?_; clear S a; intro a S
        refine s_bin S rfl rfl rfl rfl ?_; clear S a; intro a S
        refine s_assign S rfl rfl ?_; clear S a; intro a S
        refine c_end ?_
        refine wp_ret ?_
        obtain rfl := Option.some.inj h1
        exact b_ret1 (d := (.v (.int .i64 (wr .i64 (y5 + (wr .i64 (bt txt0 (wr .u8 y6)))))))) S rfl rfl fun ok => ⟨rfl, ok, S.below0⟩
      refine c_region ?_
      refine s_move S rfl rfl ?_; clear S a; intro a S
      refine s_bin S rfl rfl rfl rfl ?_; clear S a; intro a S
      refine c_end ?_
      rcases ite_of h0 with ⟨c2, h1⟩ | ⟨c2, h1⟩ <;> clear h0
      · refine c_condT S rfl c2 ?_
        refine c_region ?_
        refine s_move S rfl rfl ?_; clear S a; intro a S
        refine s_shr S (e := 8) rfl rfl (by decide) rfl rfl ?_; clear S a; intro a S
        refine s_assign S rfl rfl ?_; clear S a; intro a S
        refine c_end ?_
        refine c_region' ?_
        refine s_move S rfl rfl ?_; clear S a; intro a S
        refine s_bin S rfl rfl rfl rfl ?_; clear S a; intro a S
        refine s_assign S rfl rfl ?_; clear S a; intro a S
        refine c_end' ?_
        refine x_thenN ?_
        exact j3 _ (wr .i64 (y3 + 8)) (shr y4 8) a w (S.sub ⟨rfl, rfl, trivial⟩ .nil) h1
      · refine c_condF S rfl c2 ?_
        refine wp_skip ?_
        refine x_thenN ?_
        exact j3 _ y3 y4 a w (S.sub ⟨rfl, rfl, trivial⟩ .nil) h1
    refine c_region ?_
    refine s_move S rfl rfl ?_; clear S a; intro a S
    refine s_bin S rfl rfl rfl rfl ?_; clear S a; intro a S
    refine c_end ?_
    rcases ite_of h0 with ⟨c3, h1⟩ | ⟨c3, h1⟩ <;> clear h0
    · refine c_condT S rfl c3 ?_
      refine c_region ?_
      refine s_move S rfl rfl ?_; clear S a; intro a S
      refine s_shr S (e := 16) rfl rfl (by decide) rfl rfl ?_; clear S a; intro a S
      refine s_assign S rfl rfl ?_; clear S a; intro a S
      refine c_end ?_
      refine c_region' ?_
      refine s_move S rfl rfl ?_; clear S a; intro a S
      refine s_bin S rfl rfl rfl rfl ?_; clear S a; intro a S
      refine s_assign S rfl rfl ?_; clear S a; intro a S
      refine c_end' ?_
      refine x_thenN ?_
      exact j2 _ (wr .i64 (y1 + 16)) (shr y2 16) a w (S.sub ⟨rfl, rfl, trivial⟩ .nil) h1
    · refine c_condF S rfl c3 ?_
      refine wp_skip ?_
      refine x_thenN ?_
      exact j2 _ y1 y2 a w (S.sub ⟨rfl, rfl, trivial⟩ .nil) h1
  refine c_region ?_
  refine s_move S rfl rfl ?_; clear S a; intro a S
  refine s_bin S rfl rfl rfl rfl ?_; clear S a; intro a S
  refine c_end ?_
  rcases ite_of h0 with ⟨c4, h1⟩ | ⟨c4, h1⟩ <;> clear h0
  · refine c_condT S rfl c4 ?_
    refine c_region ?_
    refine s_move S rfl rfl ?_; clear S a; intro a S
    refine s_shr S (e := 32) rfl rfl (by decide) rfl rfl ?_; clear S a; intro a S
    refine s_assign S rfl rfl ?_; clear S a; intro a S
    refine c_end ?_
    refine c_region' ?_
    refine s_assign S rfl rfl ?_; clear S a; intro a S
    refine c_end' ?_
    refine x_thenN ?_
    exact j1 _ 32 (shr x1 32) a w0 (S.sub ⟨rfl, rfl, trivial⟩ .nil) h1
  · refine c_condF S rfl c4 ?_
    refine wp_skip ?_
    refine x_thenN ?_
    exact j1 _ 0 x1 a w0 (S.sub ⟨rfl, rfl, trivial⟩ .nil) h1
/-! smithy/word.Len -/
def word_Len.j1 : Option Int := some 0
def word_Len.b1 (x1 : List Int) (rec1 : Int → Option Int) (y1 : Int) : Option Int := if (decide (0 ≤ y1)) = true then (if 0 ≤ y1 ∧ y1 < 4 then (if ((rd x1 y1) != 0) = true then ((bits_Len64.f (rd x1 y1)).bind fun t1 => (some (wr .i64 ((wr .i64 (64 * y1)) + t1)))) else (rec1 (wr .i64 (y1 - 1)))) else none) else word_Len.j1
def word_Len.l1 (x1 : List Int) : Nat → Int → Option Int
  | 0, _ => none
  | q + 1, y1 => word_Len.b1 x1 (word_Len.l1 x1 q) y1
def word_Len.f (k : Nat) (x1 : List Int) : Option Int := word_Len.l1 x1 k 3
theorem word_Len.ok (k : Nat) (x1 : List Int) (r : Int) (h0 : word_Len.f k x1 = some r) (mi : Mem) (w0 : World) : okL mi [(.agg [.ints .u64 x1 4])] → Frz mi w0 → Calls Tryd.prog 45 (([(.agg [.ints .u64 x1 4])] : List D).map D.val).toArray w0 (Ret mi (.v (.int .i64 r)) w0) := by
  intro ok hm
  delta word_Len.f at h0
  refine c_enter (n := 19) [(.agg [.ints .u64 x1 4])] (l := [(0, (.agg [.ints .u64 x1 4]))]) Tryd.func45 rfl rfl rfl rfl ok hm ?_
  clear ok hm
  intro a S
  refine c_region ?_
  refine s_box S rfl rfl rfl ?_; clear S a; intro g1 a w S
  refine s_assign S rfl rfl ?_; clear S a; intro a S
  refine c_end ?_
  refine wp_seq_k ?_
  intro K1 hK1
  have j1 : ∀ (m : Mem) (a : Act) (w : World), St 19 m (B0 mi w0) [] [] a w → word_Len.j1 = some r → K1 a w := by
    intro m a w S h0
    delta word_Len.j1 at h0
    refine hK1 a w ?_
    refine c_region ?_
    refine s_assign S rfl rfl ?_; clear S a; intro a S
    refine c_end ?_
    refine wp_ret ?_
    obtain rfl := Option.some.inj h0
    exact b_ret1 (d := (.v (.int .i64 0))) S rfl rfl fun ok => ⟨rfl, ok, S.below0⟩
  refine c_region ?_
  refine s_assign S rfl rfl ?_; clear S a; intro a S
  refine c_end ?_
  refine wp_block ?_
  refine c_loop (fun q1 a w => ∃ (m : Mem) (y1 : Int) (g4 : Nat), St 19 m (B0 mi w0) [(3, (.v (.int .i64 y1))), (1, (.v (.pointer (some ⟨g4, 0, none⟩))))] [Res.cells g4 26 [.ints .u64 x1 4]] a w ∧ word_Len.l1 x1 q1 y1 = some r) ?_ ?_ (k := k) ⟨_, 3, g1, (S.sub ⟨rfl, rfl, trivial⟩ (.cons .here .nil)), h0⟩
  · rintro a w ⟨m, y1, g4, S, h0⟩
    exact (nomatch (show (none : Option Int) = some r from h0))
  · clear S h0
    rintro q1 a w ⟨m, y1, g4, S, h0⟩
    replace h0 : word_Len.b1 x1 (word_Len.l1 x1 q1) y1 = some r := h0
    delta word_Len.b1 at h0
    refine wp_seq ?_
    refine c_region ?_
    refine s_move S rfl rfl ?_; clear S a; intro a S
    refine s_bin S rfl rfl rfl rfl ?_; clear S a; intro a S
    refine c_end ?_
    rcases ite_of h0 with ⟨c1, h1⟩ | ⟨c1, h1⟩ <;> clear h0
    · refine c_condT S rfl c1 ?_
      refine wp_skip ?_
      refine x_thenN ?_
      refine wp_seq ?_
      refine wp_block ?_
      refine c_region ?_
      refine s_move S rfl rfl ?_; clear S a; intro a S
      obtain ⟨c2, h2⟩ := chk_of h1; clear h1
      refine s_iaddr S rfl rfl Tryd.underlying26 T24 c2.1 c2.2 (mul1 _ _) rfl ?_; clear S a; intro a S
      refine s_loadi S (i := y1) rfl .here T24 .here rfl c2.1 c2.2 rfl ?_; clear S a; intro a S
      refine s_bin S rfl rfl rfl rfl ?_; clear S a; intro a S
      refine c_end ?_
      rcases ite_of h2 with ⟨c3, h3⟩ | ⟨c3, h3⟩ <;> clear h2
      · refine c_condT S rfl c3 ?_
        refine c_region ?_
        refine s_move S rfl rfl ?_; clear S a; intro a S
        refine s_bin S rfl rfl rfl rfl ?_; clear S a; intro a S
        refine s_move S rfl rfl ?_; clear S a; intro a S
        refine s_iaddr S rfl rfl Tryd.underlying26 T24 c2.1 c2.2 (mul1 _ _) rfl ?_; clear S a; intro a S
        refine s_loadi S (i := y1) rfl .here T24 .here rfl c2.1 c2.2 rfl ?_; clear S a; intro a S
        obtain ⟨t1, et1, h4⟩ := bind_of h3; clear h3
        refine s_call S (ds := [(.v (.int .u64 (rd x1 y1)))]) (d := (.v (.int .i64 t1))) N50 rfl rfl (bits_Len64.ok (rd x1 y1) t1 et1 _ _) ?_; clear S a w; intro a w S
        refine s_bin S rfl rfl rfl rfl ?_; clear S a; intro a S
        refine s_assign S rfl rfl ?_; clear S a; intro a S
        refine c_end ?_
        refine wp_ret ?_
        refine x_blockR ?_
        refine x_thenR ?_
        refine x_thenR ?_
        refine x_blockR ?_
        refine x_thenR ?_
        obtain rfl := Option.some.inj h4
        exact b_ret1 (d := (.v (.int .i64 (wr .i64 ((wr .i64 (64 * y1)) + t1))))) S rfl rfl fun ok => ⟨rfl, ok, S.below0⟩
      · refine c_condF S rfl c3 ?_
        refine wp_skip ?_
        refine x_blockN ?_
        refine x_thenN ?_
        refine c_region' ?_
        refine s_move S rfl rfl ?_; clear S a; intro a S
        refine s_bin S rfl rfl rfl rfl ?_; clear S a; intro a S
        refine s_assign S rfl rfl ?_; clear S a; intro a S
        refine c_end' ?_
        refine x_thenN ?_
        exact ⟨_, (wr .i64 (y1 - 1)), g4, (S.sub ⟨rfl, rfl, trivial⟩ (.cons .here .nil)), h3⟩
    · refine c_condF S rfl c1 ?_
      refine wp_exit ?_
      refine x_thenX ?_
      refine x_thenX ?_
      refine x_blockX ?_
      refine x_thenN ?_
      exact j1 _ a w (S.sub trivial .nil) h1
/-! smithy/word.Size -/
def word_Size.f (k : Nat) (x1 : List Int) : Option Int := (word_Len.f k x1).bind fun t1 => (some (wr .i64 (Int.tdiv (wr .i64 (t1 + 7)) 8)))
theorem word_Size.ok (k : Nat) (x1 : List Int) (r : Int) (h0 : word_Size.f k x1 = some r) (mi : Mem) (w0 : World) : okL mi [(.agg [.ints .u64 x1 4])] → Frz mi w0 → Calls Tryd.prog 39 (([(.agg [.ints .u64 x1 4])] : List D).map D.val).toArray w0 (Ret mi (.v (.int .i64 r)) w0) := by
  intro ok hm
  delta word_Size.f at h0
  refine c_enter (n := 7) [(.agg [.ints .u64 x1 4])] (l := [(0, (.agg [.ints .u64 x1 4]))]) Tryd.func39 rfl rfl rfl rfl ok hm ?_
  clear ok hm
  intro a S
  refine c_region ?_
  refine s_box S rfl rfl rfl ?_; clear S a; intro g1 a w S
  refine s_assign S rfl rfl ?_; clear S a; intro a S
  refine c_end ?_
  refine c_region ?_
  refine s_loada S rfl .here T26 (s' := [.ints .u64 x1 4]) rfl rfl ?_; clear S a; intro a S
  obtain ⟨t1, et1, h1⟩ := bind_of h0; clear h0
  refine s_call S (ds := [(.agg [.ints .u64 x1 4])]) (d := (.v (.int .i64 t1))) N45 rfl rfl (word_Len.ok k x1 t1 et1 _ _) ?_; clear S a w; intro a w S
  refine s_bin S rfl rfl rfl rfl ?_; clear S a; intro a S
  refine s_quo S rfl rfl (by decide) rfl ?_; clear S a; intro a S
  refine s_assign S rfl rfl ?_; clear S a; intro a S
  refine c_end ?_
  refine wp_ret ?_
  obtain rfl := Option.some.inj h1
  exact b_ret1 (d := (.v (.int .i64 (wr .i64 (Int.tdiv (wr .i64 (t1 + 7)) 8))))) S rfl rfl fun ok => ⟨rfl, ok, S.below0⟩
/-! smithy/rlp.Number -/
def rlp_Number.f (k : Nat) (x1 : List Int) : Option (List Int) := (word_Bytes.f k x1).bind fun t1 => ((word_Size.f k x1).bind fun t2 => (if (0 : Int) ≤ (wr .i64 (32 - t2)) ∧ ((wr .i64 (32 - t2)) : Int) ≤ 32 ∧ 32 ≤ ((32 : Nat) : Int) then (if ((([] : List Int)).length + (((t1).drop (Int.toNat (wr .i64 (32 - t2)))).take (Int.toNat 32 - Int.toNat (wr .i64 (32 - t2)))).length) * 1 ≤ 140737488355328 then (some (([] : List Int) ++ (((t1).drop (Int.toNat (wr .i64 (32 - t2)))).take (Int.toNat 32 - Int.toNat (wr .i64 (32 - t2)))))) else none) else none))
theorem rlp_Number.ok (k : Nat) (x1 : List Int) (r : List Int) (h0 : rlp_Number.f k x1 = some r) (mi : Mem) (w0 : World) : okL mi [(.agg [.ints .u64 x1 4])] → Frz mi w0 → Calls Tryd.prog 32 (([(.agg [.ints .u64 x1 4])] : List D).map D.val).toArray w0 (RetM mi (fun (ch : (Option Addr × Nat)) => ((.sl ch.1 (r).length ch.2 (RdS (Ty.int .u8) ch.1 r)) : D)) w0) := by
  intro ok hm
  delta rlp_Number.f at h0
  refine c_enter (n := 12) [(.agg [.ints .u64 x1 4])] (l := [(0, (.agg [.ints .u64 x1 4]))]) Tryd.func32 rfl rfl rfl rfl ok hm ?_
  clear ok hm
  intro a S
  refine c_region ?_
  refine s_box S rfl rfl rfl ?_; clear S a; intro g1 a w S
  refine s_assign S rfl rfl ?_; clear S a; intro a S
  refine c_end ?_
  refine c_region ?_
  refine s_loada S rfl .here T26 (s' := [.ints .u64 x1 4]) rfl rfl ?_; clear S a; intro a S
  obtain ⟨t1, et1, h1⟩ := bind_of h0; clear h0
  refine s_call S (ds := [(.agg [.ints .u64 x1 4])]) (d := (.agg [.ints .u8 t1 32])) N21 rfl rfl (word_Bytes.ok k x1 t1 et1 _ _) ?_; clear S a w; intro a w S
  refine s_alloc S Z39 rfl ⟨rfl, trivial⟩ rfl ?_; clear S a w; intro g2 a w S
  refine s_store S rfl rfl rfl (s' := [.ints .u8 t1 32]) .here T39 rfl rfl ?_; clear S w; intro w S
  refine c_end ?_
  refine c_region ?_
  refine s_bldSl S (ty' := (Ty.int .u8)) (ds := []) (z := 0) (c0 := ()) (ys := ([] : List Int)) (cs := []) rfl Tryd.underlying27 J5 Z5 rfl ⟨rfl, trivial⟩ rfl rfl rfl rfl rfl rfl ?_; clear S a w; intro g3 a w S
  refine s_loada S rfl (.there (.there .here)) T26 (s' := [.ints .u64 x1 4]) rfl rfl ?_; clear S a; intro a S
  obtain ⟨t2, et2, h2⟩ := bind_of h1; clear h1
  refine s_call S (ds := [(.agg [.ints .u64 x1 4])]) (d := (.v (.int .i64 t2))) N39 rfl rfl (word_Size.ok k x1 t2 et2 _ _) ?_; clear S a w; intro a w S
  refine s_bin S rfl rfl rfl rfl ?_; clear S a; intro a S
  obtain ⟨c1, h3⟩ := chk_of h2; clear h2
  refine s_sliceA S (i := (wr .i64 (32 - t2))) (j := 32) (o' := if 32 = Int.toNat (wr .i64 (32 - t2)) then 0 else 0 + Int.toNat (wr .i64 (32 - t2)) * 1) (len := Int.toNat 32 - Int.toNat (wr .i64 (32 - t2))) (cap := 32 - Int.toNat (wr .i64 (32 - t2))) rfl Tryd.underlying39 T5 (.inr ⟨_, _, rfl, rfl⟩) (.inl ⟨rfl, rfl⟩) c1 rfl rfl rfl rfl ?_; clear S a; intro a S
  replace S := S.freeze (.there .here)
  obtain ⟨m, le1, S⟩ := S
  replace S := (S.slup' (u := 10) (lo := Int.toNat (wr .i64 (32 - t2))) (c := 32) (ys := ((t1).drop (Int.toNat (wr .i64 (32 - t2)))).take (Int.toNat 32 - Int.toNat (wr .i64 (32 - t2)))) rfl (Pull.mem (.there .here)).1 .here (ho_if c1) (hl_if c1) (hcap_if c1 rfl) rfl).2
  obtain ⟨c2, h4⟩ := chk_of h3; clear h3
  refine s_app S (k2 := ((((t1).drop (Int.toNat (wr .i64 (32 - t2)))).take (Int.toNat 32 - Int.toNat (wr .i64 (32 - t2)))).length)) (ys := (((t1).drop (Int.toNat (wr .i64 (32 - t2)))).take (Int.toNat 32 - Int.toNat (wr .i64 (32 - t2))))) rfl (fun _ _ => .here) rfl rfl rfl (RdS.src (S.get 10 (.sl (some ⟨g2, if 32 = Int.toNat (wr .i64 (32 - t2)) then 0 else 0 + Int.toNat (wr .i64 (32 - t2)) * 1, none⟩) (((t1).drop (Int.toNat (wr .i64 (32 - t2)))).take (Int.toNat 32 - Int.toNat (wr .i64 (32 - t2)))).length (32 - Int.toNat (wr .i64 (32 - t2))) (RdS (Ty.int .u8) (some ⟨g2, if 32 = Int.toNat (wr .i64 (32 - t2)) then 0 else 0 + Int.toNat (wr .i64 (32 - t2)) * 1, none⟩) (((t1).drop (Int.toNat (wr .i64 (32 - t2)))).take (Int.toNat 32 - Int.toNat (wr .i64 (32 - t2)))))) rfl).2.2.2.1 (by decide) S.frz) Tryd.underlying27 J5 c2 rfl ?_; clear S a w; intro A1 cp1 a w S
  refine s_assign S rfl rfl ?_; clear S a; intro a S
  refine c_end ?_
  replace S := S.rowfro .here
  obtain ⟨m, le1, S, hro⟩ := S
  replace S := S.slotro (u := 2) rfl hro
  replace S := S.slotro (u := 11) rfl hro
  refine wp_ret ?_
  obtain rfl := Option.some.inj h4
  exact b_ret1 (d := (.sl A1 (([] : List Int) ++ (((t1).drop (Int.toNat (wr .i64 (32 - t2)))).take (Int.toNat 32 - Int.toNat (wr .i64 (32 - t2))))).length cp1 (RdS (Ty.int .u8) A1 (([] : List Int) ++ (((t1).drop (Int.toNat (wr .i64 (32 - t2)))).take (Int.toNat 32 - Int.toNat (wr .i64 (32 - t2)))))))) S rfl rfl fun ok => S.retM _ ((A1, cp1) : (Option Addr × Nat)) ok
/-! smithy/word.Of -/
def word_Of.f (x1 : Int) : Option (List Int) := some [x1, 0, 0, 0]
theorem word_Of.ok (x1 : Int) (r : List Int) (h0 : word_Of.f x1 = some r) (mi : Mem) (w0 : World) : okL mi [(.v (.int .u64 x1))] → Frz mi w0 → Calls Tryd.prog 33 (([(.v (.int .u64 x1))] : List D).map D.val).toArray w0 (Ret mi (.agg [.ints .u64 r 4]) w0) := by
  intro ok hm
  delta word_Of.f at h0
  refine c_enter (n := 5) [(.v (.int .u64 x1))] (l := [(0, (.v (.int .u64 x1)))]) Tryd.func33 rfl rfl rfl rfl ok hm ?_
  clear ok hm
  intro a S
  refine c_region ?_
  refine s_alloc S Z26 rfl ⟨rfl, trivial⟩ rfl ?_; clear S a; intro g1 a w S
  refine c_end ?_
  refine c_region ?_
  refine s_move S rfl rfl ?_; clear S a; intro a S
  refine s_build S (ds := [(0, (.v (.int .u64 x1)))]) (dv := (.agg [.ints .u64 [x1, 0, 0, 0] 4])) rfl (fun _ => by kernel_rfl) ⟨rfl, trivial⟩ rfl ?_; clear S a; intro a S
  refine s_store S rfl rfl rfl (s' := [.ints .u64 [x1, 0, 0, 0] 4]) .here T26 rfl rfl ?_; clear S w; intro w S
  refine c_end ?_
  refine wp_ret ?_
  obtain rfl := Option.some.inj h0
  exact b_ret1 (d := (.agg [.ints .u64 [x1, 0, 0, 0] 4])) S rfl (resD_cell rfl .here T26 rfl rfl) fun ok => ⟨rfl, ok, S.below0⟩
/-! smithy/rlp.head -/
def rlp_head.f (k : Nat) (x1 : Int) (x2 : Int) : Option (List Int) := if (decide (x1 ≤ 55)) = true then (some [wr .u8 ((wr .u8 (128 + x2)) + (wr .u8 x1))]) else ((word_Of.f (wr .u64 x1)).bind fun t1 => ((rlp_Number.f k t1).bind fun t2 => (if (([wr .u8 ((wr .u8 (183 + x2)) + (wr .u8 ((t2).length : Int)))]).length + (t2).length) * 1 ≤ 140737488355328 then (some ([wr .u8 ((wr .u8 (183 + x2)) + (wr .u8 ((t2).length : Int)))] ++ t2)) else none)))
theorem rlp_head.ok (k : Nat) (x1 : Int) (x2 : Int) (r : List Int) (h0 : rlp_head.f k x1 x2 = some r) (mi : Mem) (w0 : World) : okL mi [(.v (.int .i64 x1)), (.v (.int .u8 x2))] → Frz mi w0 → Calls Tryd.prog 47 (([(.v (.int .i64 x1)), (.v (.int .u8 x2))] : List D).map D.val).toArray w0 (RetM mi (fun (ch : (Option Addr × Nat)) => ((.sl ch.1 (r).length ch.2 (RdS (Ty.int .u8) ch.1 r)) : D)) w0) := by
  intro ok hm
  delta rlp_head.f at h0
  refine c_enter (n := 27) [(.v (.int .i64 x1)), (.v (.int .u8 x2))] (l := [(0, (.v (.int .i64 x1))), (1, (.v (.int .u8 x2)))]) Tryd.func47 rfl rfl rfl rfl ok hm ?_
  clear ok hm
  intro a S
  refine c_region ?_
  refine s_assign S rfl rfl ?_; clear S a; intro a S
  refine c_end ?_
  refine wp_seq ?_
  refine c_region ?_
  refine s_move S rfl rfl ?_; clear S a; intro a S
  refine s_bin S rfl rfl rfl rfl ?_; clear S a; intro a S
  refine c_end ?_
  rcases ite_of h0 with ⟨c1, h1⟩ | ⟨c1, h1⟩ <;> clear h0
  · refine c_condT S rfl c1 ?_
    refine c_region ?_
    refine s_move S rfl rfl ?_; clear S a; intro a S
    refine s_bin S rfl rfl rfl rfl ?_; clear S a; intro a S
    refine s_move S rfl rfl ?_; clear S a; intro a S
    refine s_conv S rfl rfl Tryd.underlying5 rfl ?_; clear S a; intro a S
    refine s_bin S rfl rfl rfl rfl ?_; clear S a; intro a S
    refine s_bldSl S (ty' := (Ty.int .u8)) (ds := [(0, (.v (.int .u8 (wr .u8 ((wr .u8 (128 + x2)) + (wr .u8 x1))))))]) (z := 0) (c0 := ()) (ys := [wr .u8 ((wr .u8 (128 + x2)) + (wr .u8 x1))]) (cs := [()]) rfl Tryd.underlying27 J5 Z5 rfl ⟨rfl, trivial⟩ rfl rfl rfl rfl rfl rfl ?_; clear S a; intro g1 a w S
    refine s_assign S rfl rfl ?_; clear S a; intro a S
    refine c_end ?_
    replace S := S.rowfro .here
    obtain ⟨m, le1, S, hro⟩ := S
    replace S := S.slotro (u := 4) rfl hro
    replace S := S.slotro (u := 13) rfl hro
    refine wp_ret ?_
    refine x_thenR ?_
    obtain rfl := Option.some.inj h1
    exact b_ret1 (d := (.sl (some ⟨g1, 0, none⟩) ([wr .u8 ((wr .u8 (128 + x2)) + (wr .u8 x1))]).length 1 (RdS (Ty.int .u8) (some ⟨g1, 0, none⟩) [wr .u8 ((wr .u8 (128 + x2)) + (wr .u8 x1))]))) S rfl rfl fun ok => S.retM _ (((some ⟨g1, 0, none⟩), 1) : (Option Addr × Nat)) ok
  · refine c_condF S rfl c1 ?_
    refine wp_skip ?_
    refine x_thenN ?_
    refine c_region ?_
    refine s_move S rfl rfl ?_; clear S a; intro a S
    refine s_conv S rfl rfl Tryd.underlying24 rfl ?_; clear S a; intro a S
    obtain ⟨t1, et1, h2⟩ := bind_of h1; clear h1
    refine s_call S (ds := [(.v (.int .u64 (wr .u64 x1)))]) (d := (.agg [.ints .u64 t1 4])) N33 rfl rfl (word_Of.ok (wr .u64 x1) t1 et1 _ _) ?_; clear S a; intro a w S
    obtain ⟨t2, et2, h3⟩ := bind_of h2; clear h2
    refine s_callM S (ds := [(.agg [.ints .u64 t1 4])]) (fun (ch : (Option Addr × Nat)) => ((.sl ch.1 (t2).length ch.2 (RdS (Ty.int .u8) ch.1 t2)) : D)) N32 rfl rfl (rlp_Number.ok k t1 t2 et2 _ _) ?_; clear S a w; intro ch1 m le1 a w S
    refine s_assign S rfl rfl ?_; clear S a; intro a S
    refine c_end ?_
    refine c_region ?_
    refine s_move S rfl rfl ?_; clear S a; intro a S
    refine s_bin S rfl rfl rfl rfl ?_; clear S a; intro a S
    refine s_move S rfl rfl ?_; clear S a; intro a S
    refine s_lenS S rfl Tryd.underlying27 rfl ?_; clear S a; intro a S
    refine s_conv S rfl rfl Tryd.underlying5 rfl ?_; clear S a; intro a S
    refine s_bin S rfl rfl rfl rfl ?_; clear S a; intro a S
    refine s_bldSl S (ty' := (Ty.int .u8)) (ds := [(0, (.v (.int .u8 (wr .u8 ((wr .u8 (183 + x2)) + (wr .u8 ((t2).length : Int)))))))]) (z := 0) (c0 := ()) (ys := [wr .u8 ((wr .u8 (183 + x2)) + (wr .u8 ((t2).length : Int)))]) (cs := [()]) rfl Tryd.underlying27 J5 Z5 rfl ⟨rfl, trivial⟩ rfl rfl rfl rfl rfl rfl ?_; clear S a w; intro g2 a w S
    refine s_move S rfl rfl ?_; clear S a; intro a S
    obtain ⟨c2, h4⟩ := chk_of h3; clear h3
    refine s_app S (k2 := ((t2).length)) (ys := t2) rfl (fun _ _ => .here) rfl rfl rfl (RdS.src (S.get 25 (.sl ch1.1 (t2).length ch1.2 (RdS (Ty.int .u8) ch1.1 t2)) rfl).2.2.2.1 (by decide) S.frz) Tryd.underlying27 J5 c2 rfl ?_; clear S a w; intro A1 cp1 a w S
    refine s_assign S rfl rfl ?_; clear S a; intro a S
    refine c_end ?_
    replace S := S.rowfro .here
    obtain ⟨m, le1, S, hro⟩ := S
    replace S := S.slotro (u := 4) rfl hro
    replace S := S.slotro (u := 26) rfl hro
    refine wp_ret ?_
    obtain rfl := Option.some.inj h4
    exact b_ret1 (d := (.sl A1 ([wr .u8 ((wr .u8 (183 + x2)) + (wr .u8 ((t2).length : Int)))] ++ t2).length cp1 (RdS (Ty.int .u8) A1 ([wr .u8 ((wr .u8 (183 + x2)) + (wr .u8 ((t2).length : Int)))] ++ t2)))) S rfl rfl fun ok => S.retM _ ((A1, cp1) : (Option Addr × Nat)) ok
end GW
