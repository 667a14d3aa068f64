/-
  Printed by a program of these sessions (wip/gw/gx.py): for each Go function a Lean function with the same answers, and the walk that shows it.
-/
import Derived.Test.YtoiopiiljblpjaaDoorProg
import Derived.Test.YtoiopiiljblpjaaDoorGA
set_option linter.unusedVariables false
set_option maxRecDepth 10000
namespace GW
open Go Go.RowKit Go.Proofs
/-! smithy/rlp.Encode -/
abbrev rlp_Encode.Ty : Type := (List (Bool × (List Int) × Int)) → Option ((List Int) × Int)
def rlp_Encode.Ctr (s : rlp_Encode.Ty) : Prop := ∀ (x1 : List (Bool × (List Int) × Int)) (ch_0_0 : Option Addr) (ch_0_1 : Nat) (r : (List Int) × Int) (h0 : s x1 = some r) (mi : Mem) (w0 : World), okL mi [(.sl ch_0_0 (x1).length ch_0_1 (RdS (Ty.prod Ty.bool (Ty.prod (Ty.slice (Ty.int .u8)) (Ty.int .i64))) ch_0_0 x1))] → Pre mi [] w0 → Calls Tryd.prog 41 (([(.sl ch_0_0 (x1).length ch_0_1 (RdS (Ty.prod Ty.bool (Ty.prod (Ty.slice (Ty.int .u8)) (Ty.int .i64))) ch_0_0 x1))] : List D).map D.val).toArray w0 (RetX mi [] (fun (ch : (Option Addr) × Nat) => ((.tup [(false, [.sl ch.1 (r.1).length ch.2 (RdS (Ty.int .u8) ch.1 r.1)]), (false, [.one (.int .i64 r.2)])]) : D)) (fun (ch : (Option Addr) × Nat) => []) w0)
def rlp_Encode.f (k : Nat) (x1 : List (Bool × (List Int) × Int)) : Option ((List Int) × Int) := (rlp_one.f k x1).bind fun t1 => (if (!t1) = true then (some (([] : List Int), 2)) else ((rlp_writer_item.f k (x1, 0) 0).bind fun t2 => (if (t2.2.2 != 0) = true then (some (([] : List Int), t2.2.2)) else (if (decide (1048576 < ((t2.1).length : Int))) = true then (some (([] : List Int), 4)) else (some (t2.1, 0))))))
theorem rlp_Encode.ok (k : Nat) : rlp_Encode.Ctr (rlp_Encode.f k) := by
  intro x1 ch_0_0 ch_0_1 r h0 mi w0 ok hm
  delta rlp_Encode.f at h0
  refine c_enterX (n := 29) [(.sl ch_0_0 (x1).length ch_0_1 (RdS (Ty.prod Ty.bool (Ty.prod (Ty.slice (Ty.int .u8)) (Ty.int .i64))) ch_0_0 x1))] (l := [(0, (.sl ch_0_0 (x1).length ch_0_1 (RdS (Ty.prod Ty.bool (Ty.prod (Ty.slice (Ty.int .u8)) (Ty.int .i64))) ch_0_0 x1)))]) Tryd.func41 rfl rfl rfl rfl ok hm ?_
  clear ok hm
  intro b0 hb a S
  refine c_region ?_
  refine s_assign S rfl rfl ?_; clear S a; intro a S
  refine s_assign S rfl rfl ?_; clear S a; intro a S
  refine c_end ?_
  refine wp_seq ?_
  refine c_region ?_
  refine s_move S rfl rfl ?_; clear S a; intro a S
  obtain ⟨t1, et1, h1⟩ := bind_of h0; clear h0
  refine s_callP S (fun (ch : Unit) => ((.v (.bool t1)) : D)) N67 rfl rfl (rlp_one.ok k x1 ch_0_0 ch_0_1 t1 et1 _ _) ?_; clear S a; intro ch1 m le1 a w S
  refine s_not S rfl rfl ?_; clear S a; intro a S
  refine c_end ?_
  rcases ite_of h1 with ⟨c1, h2⟩ | ⟨c1, h2⟩ <;> clear h1
  · refine c_condT S rfl c1 ?_
    refine c_region ?_
    refine s_assign S rfl rfl ?_; clear S a; intro a S
    refine s_assign S rfl rfl ?_; clear S a; intro a S
    refine c_end ?_
    refine wp_ret ?_
    refine x_thenR ?_
    replace S := S.slot (u := 2) (d' := (.sl none (([] : List Int)).length 0 (RdS (Ty.int .u8) none ([] : List Int)))) rfl rfl ok_nil
    obtain rfl := Option.some.inj h2
    exact b_ret2 (d1 := (.sl none (([] : List Int)).length 0 (RdS (Ty.int .u8) none ([] : List Int)))) (d2 := (.v (.int .i64 2))) S rfl rfl rfl fun ok1 ok2 => S.retX (Hx := []) hb _ _ ((none, 0) : (Option Addr) × Nat) .nil ⟨⟨ok1, trivial⟩, ⟨ok2, trivial⟩, trivial⟩
  · refine c_condF S rfl c1 ?_
    refine wp_skip ?_
    refine x_thenN ?_
    refine c_region ?_
    refine s_move S rfl rfl ?_; clear S a; intro a S
    refine s_bldS S (ds := [(0, (.sl ch_0_0 (x1).length ch_0_1 (RdS (Ty.prod Ty.bool (Ty.prod (Ty.slice (Ty.int .u8)) (Ty.int .i64))) ch_0_0 x1)))]) (zs := [.one (.slice none 0 0), .one (.int .i64 0)]) (s' := [.sl ch_0_0 (x1).length ch_0_1 (RdS (Ty.prod Ty.bool (Ty.prod (Ty.slice (Ty.int .u8)) (Ty.int .i64))) ch_0_0 x1), .one (.int .i64 0)]) rfl Tryd.underlying98 P98 Z98 ⟨rfl, rfl, trivial⟩ rfl rfl ?_; clear S a; intro a S
    refine s_box S rfl rfl rfl ?_; clear S a w; intro g1 a w S
    refine s_assign S rfl rfl ?_; clear S a; intro a S
    refine c_end ?_
    refine c_region ?_
    refine s_move S rfl rfl ?_; clear S a; intro a S
    obtain ⟨t2, et2, h3⟩ := bind_of h2; clear h2
    refine s_callX S (ds' := [(.v (.pointer (some ⟨g1, 0, none⟩))), (.v (.int .i64 0))]) (ds := [(.v (.pointer (some ⟨g1, 0, none⟩))), (.v (.int .i64 0))]) [Res.cells g1 98 [.sl ch_0_0 (x1).length ch_0_1 (RdS (Ty.prod Ty.bool (Ty.prod (Ty.slice (Ty.int .u8)) (Ty.int .i64))) ch_0_0 x1), .one (.int .i64 0)]] [] (fun (ch : (Option Addr) × Nat × (Option Addr) × Nat) => ((.sl ch.1 (t2.1).length ch.2.1 (RdS (Ty.int .u8) ch.1 t2.1)) : D)) (fun (ch : (Option Addr) × Nat × (Option Addr) × Nat) => [Res.cells g1 98 [.sl ch.2.2.1 (t2.2.1).length ch.2.2.2 (RdS (Ty.prod Ty.bool (Ty.prod (Ty.slice (Ty.int .u8)) (Ty.int .i64))) ch.2.2.1 t2.2.1), .one (.int .i64 t2.2.2)]]) (fun (ch : (Option Addr) × Nat × (Option Addr) × Nat) => [Res.cells g1 98 [.sl ch.2.2.1 (t2.2.1).length ch.2.2.2 (RdS (Ty.prod Ty.bool (Ty.prod (Ty.slice (Ty.int .u8)) (Ty.int .i64))) ch.2.2.1 t2.2.1), .one (.int .i64 t2.2.2)]]) (fun _ => rfl) N68 rfl rfl (fun ok => ok) (.cons .here .nil) rfl (rlp_writer_item.ok k (x1, 0) 0 g1 ch_0_0 ch_0_1 t2 et2 _ _) ?_; clear S a w; intro ch2 m le1 a w S
    refine s_assign S rfl rfl ?_; clear S a; intro a S
    refine c_end ?_
    refine wp_seq ?_
    refine wp_block ?_
    refine c_region ?_
    refine s_move S rfl rfl ?_; clear S a; intro a S
    refine s_nilchk S rfl rfl ?_; clear S a; intro a S
    refine s_fieldAddr S rfl I98_1 T73 (by decide) rfl rfl ?_; clear S a; intro a S
    refine s_load1 S rfl .here T73 (v := (.int .i64 t2.2.2)) rfl rfl ?_; clear S a; intro a S
    refine s_bin S rfl rfl rfl rfl ?_; clear S a; intro a S
    refine s_assign S rfl rfl ?_; clear S a; intro a S
    refine c_end ?_
    rcases ite_of h3 with ⟨c2, h4⟩ | ⟨c2, h4⟩ <;> clear h3
    · refine c_condT S rfl c2 ?_
      refine wp_seq (c_heldS S (.take 0 (.take 1 (.take 2 (.take 3 (.take 4 (.take 5 .done)))))) 6 [Res.cells g1 98 [.sl ch2.2.2.1 (t2.2.1).length ch2.2.2.2 (RdS (Ty.prod Ty.bool (Ty.prod (Ty.slice (Ty.int .u8)) (Ty.int .i64))) ch2.2.2.1 t2.2.1), .one (.int .i64 t2.2.2)]] (.cons .here .nil) ⟨Res.stay_cells, trivial⟩ [(4, (.v (.pointer (some ⟨g1, 0, none⟩))))] ⟨rfl, trivial⟩ (by kernel_rfl) (by kernel_rfl) ?_); clear S; intro w S CL hw le
      refine h_move S CL hw le ⟨rfl, trivial⟩ rfl rfl rfl trivial ?_; clear S CL a; intro a S CL
      refine h_nilchk S CL hw le ⟨rfl, rfl, trivial⟩ rfl rfl rfl rfl trivial ?_; clear S CL a; intro a S CL
      refine h_fieldAddr S CL hw le ⟨rfl, rfl, rfl, trivial⟩ rfl I98_1 T73 (by decide) rfl rfl rfl trivial ?_; clear S CL a; intro a S CL
      refine h_load1 S CL hw le ⟨rfl, rfl, rfl, rfl, trivial⟩ rfl .here T73 (v := (.int .i64 t2.2.2)) rfl rfl rfl trivial ?_; clear S CL a; intro a S CL
      refine h_assign S CL hw le ⟨rfl, rfl, rfl, rfl, rfl, trivial⟩ rfl rfl rfl trivial ?_; clear S CL a; intro a S CL
      refine h_assign S CL hw le ⟨rfl, rfl, rfl, rfl, rfl, rfl, trivial⟩ rfl rfl rfl trivial ?_; clear S CL a; intro a S CL
      refine h_done ?_; clear CL hw le
      refine x_thenN ?_
      refine wp_ret ?_
      refine x_blockR ?_
      refine x_thenR ?_
      replace S := S.slot (u := 2) (d' := (.sl none (([] : List Int)).length 0 (RdS (Ty.int .u8) none ([] : List Int)))) rfl rfl ok_nil
      obtain rfl := Option.some.inj h4
      exact b_ret2 (d1 := (.sl none (([] : List Int)).length 0 (RdS (Ty.int .u8) none ([] : List Int)))) (d2 := (.v (.int .i64 t2.2.2))) S rfl rfl rfl fun ok1 ok2 => S.retX (Hx := []) hb _ _ ((none, 0) : (Option Addr) × Nat) .nil ⟨⟨ok1, trivial⟩, ⟨ok2, trivial⟩, trivial⟩
    · refine c_condF S rfl c2 ?_
      refine c_region ?_
      refine s_move S rfl rfl ?_; clear S a; intro a S
      refine s_lenS S rfl Tryd.underlying37 rfl ?_; clear S a; intro a S
      refine s_bin S rfl rfl rfl rfl ?_; clear S a; intro a S
      refine s_assign S rfl rfl ?_; clear S a; intro a S
      refine c_end ?_
      rcases ite_of h4 with ⟨c3, h5⟩ | ⟨c3, h5⟩ <;> clear h4
      · refine c_condT S rfl c3 ?_
        refine c_region ?_
        refine s_assign S rfl rfl ?_; clear S a; intro a S
        refine s_assign S rfl rfl ?_; clear S a; intro a S
        refine c_end ?_
        refine wp_ret ?_
        refine x_blockR ?_
        refine x_thenR ?_
        replace S := S.slot (u := 2) (d' := (.sl none (([] : List Int)).length 0 (RdS (Ty.int .u8) none ([] : List Int)))) rfl rfl ok_nil
        obtain rfl := Option.some.inj h5
        exact b_ret2 (d1 := (.sl none (([] : List Int)).length 0 (RdS (Ty.int .u8) none ([] : List Int)))) (d2 := (.v (.int .i64 4))) S rfl rfl rfl fun ok1 ok2 => S.retX (Hx := []) hb _ _ ((none, 0) : (Option Addr) × Nat) .nil ⟨⟨ok1, trivial⟩, ⟨ok2, trivial⟩, trivial⟩
      · refine c_condF S rfl c3 ?_
        refine wp_skip ?_
        refine x_blockN ?_
        refine x_thenN ?_
        refine c_region ?_
        refine s_move S rfl rfl ?_; clear S a; intro a S
        refine s_assign S rfl rfl ?_; clear S a; intro a S
        refine s_assign S rfl rfl ?_; clear S a; intro a S
        refine c_end ?_
        refine wp_ret ?_
        obtain rfl := Option.some.inj h5
        exact b_ret2 (d1 := (.sl ch2.1 (t2.1).length ch2.2.1 (RdS (Ty.int .u8) ch2.1 t2.1))) (d2 := (.v (.int .i64 0))) S rfl rfl rfl fun ok1 ok2 => S.retX (Hx := []) hb _ _ ((ch2.1, ch2.2.1) : (Option Addr) × Nat) .nil ⟨⟨ok1, trivial⟩, ⟨ok2, trivial⟩, trivial⟩
/-! math/bits.RotateLeft64 -/
abbrev bits_RotateLeft64.Ty : Type := Int → Int → Option Int
def bits_RotateLeft64.Ctr (s : bits_RotateLeft64.Ty) : Prop := ∀ (x1 : Int) (x2 : Int) (r : Int) (h0 : s x1 x2 = some r) (mi : Mem) (w0 : World), okL mi [(.v (.int .u64 x1)), (.v (.int .i64 x2))] → Pre mi [] w0 → Calls Tryd.prog 96 (([(.v (.int .u64 x1)), (.v (.int .i64 x2))] : List D).map D.val).toArray w0 (RetX mi [] (fun (ch : Unit) => ((.v (.int .u64 r)) : D)) (fun (ch : Unit) => []) w0)
def bits_RotateLeft64.f (x1 : Int) (x2 : Int) : Option Int := if (0 : Int) ≤ (bits .and .u64 (wr .u64 x2) 63) then (if (0 : Int) ≤ (wr .u64 (64 - (bits .and .u64 (wr .u64 x2) 63))) then (some (bits .or .u64 (shl .u64 x1 (min (Int.toNat (bits .and .u64 (wr .u64 x2) 63)) 64)) (shr x1 (min (Int.toNat (wr .u64 (64 - (bits .and .u64 (wr .u64 x2) 63)))) 64)))) else none) else none
theorem bits_RotateLeft64.ok : bits_RotateLeft64.Ctr (bits_RotateLeft64.f) := by
  intro x1 x2 r h0 mi w0 ok hm
  delta bits_RotateLeft64.f at h0
  refine c_enterX (n := 17) [(.v (.int .u64 x1)), (.v (.int .i64 x2))] (l := [(0, (.v (.int .u64 x1))), (1, (.v (.int .i64 x2)))]) Tryd.func96 rfl rfl rfl rfl ok hm ?_
  clear ok hm
  intro b0 hb a S
  refine c_region ?_
  refine s_assign S rfl rfl ?_; clear S a; intro a S
  refine c_end ?_
  refine c_region ?_
  refine s_move S rfl rfl ?_; clear S a; intro a S
  refine s_conv S rfl rfl Tryd.underlying125 rfl ?_; clear S a; intro a S
  refine s_bin S rfl rfl rfl rfl ?_; clear S a; intro a S
  refine s_assign S rfl rfl ?_; clear S a; intro a S
  refine c_end ?_
  refine c_region ?_
  refine s_move S rfl rfl ?_; clear S a; intro a S
  refine s_move S rfl rfl ?_; clear S a; intro a S
  obtain ⟨c1, h1⟩ := chk_of h0; clear h0
  refine s_shl S (e := (min (Int.toNat (bits .and .u64 (wr .u64 x2) 63)) 64)) rfl rfl c1 rfl rfl ?_; clear S a; intro a S
  refine s_move S rfl rfl ?_; clear S a; intro a S
  refine s_move S rfl rfl ?_; clear S a; intro a S
  refine s_bin S rfl rfl rfl rfl ?_; clear S a; intro a S
  obtain ⟨c2, h2⟩ := chk_of h1; clear h1
  refine s_shr S (e := (min (Int.toNat (wr .u64 (64 - (bits .and .u64 (wr .u64 x2) 63)))) 64)) rfl rfl c2 rfl rfl ?_; clear S a; intro a S
  refine s_bin S rfl rfl rfl rfl ?_; clear S a; intro a S
  refine s_assign S rfl rfl ?_; clear S a; intro a S
  refine c_end ?_
  refine wp_ret ?_
  obtain rfl := Option.some.inj h2
  exact b_ret1 (d := (.v (.int .u64 (bits .or .u64 (shl .u64 x1 (min (Int.toNat (bits .and .u64 (wr .u64 x2) 63)) 64)) (shr x1 (min (Int.toNat (wr .u64 (64 - (bits .and .u64 (wr .u64 x2) 63)))) 64)))))) S rfl rfl fun ok => S.retX (Hx := []) hb _ _ (() : Unit) .nil ok
/-! smithy/keccak.round -/
abbrev keccak_round.Ty : Type := (List Int) → Option ((List Int))
def keccak_round.Ctr (s : keccak_round.Ty) : Prop := ∀ (x1 : List Int) (r : (List Int)) (h0 : s x1 = some r) (mi : Mem) (w0 : World) (G : Glob mi), okL mi [(.agg [.ints .u64 x1 25])] → Pre mi [] w0 → Calls Tryd.prog 92 (([(.agg [.ints .u64 x1 25])] : List D).map D.val).toArray w0 (RetX mi [] (fun (ch : Unit) => ((.agg [.ints .u64 r 25]) : D)) (fun (ch : Unit) => []) w0)
def keccak_round.j4 (y38 : List Int) : Option ((List Int)) := some y38
def keccak_round.j5 (y51 : Int) (rec1 : Int → (List Int) → Option ((List Int))) (y57 : List Int) : Option ((List Int)) := rec1 (wr .i64 (y51 + 5)) y57
def keccak_round.b2 (y51 : Int) (y52 : List Int) (rec1 : Int → (List Int) → Option ((List Int))) (rec2 : Int → (List Int) → Option ((List Int))) (y60 : Int) (y61 : List Int) : Option ((List Int)) := if (decide (y60 < 5)) = true then (if (0 : Int) ≤ y60 ∧ y60 < 5 then (if (0 : Int) ≤ (Int.tmod (wr .i64 (y60 + 1)) 5) ∧ (Int.tmod (wr .i64 (y60 + 1)) 5) < 5 then (if (0 : Int) ≤ (Int.tmod (wr .i64 (y60 + 2)) 5) ∧ (Int.tmod (wr .i64 (y60 + 2)) 5) < 5 then (if (0 : Int) ≤ (wr .i64 (y60 + y51)) ∧ (wr .i64 (y60 + y51)) < 25 then (rec2 (wr .i64 (y60 + 1)) (y61.set (Int.toNat (wr .i64 (y60 + y51))) (bits .xor .u64 (rd (((y52).drop (Int.toNat y51)).take 5) y60) (bits .and .u64 (bnot .u64 (rd (((y52).drop (Int.toNat y51)).take 5) (Int.tmod (wr .i64 (y60 + 1)) 5))) (rd (((y52).drop (Int.toNat y51)).take 5) (Int.tmod (wr .i64 (y60 + 2)) 5)))))) else none) else none) else none) else none) else (keccak_round.j5 y51 rec1 y61)
def keccak_round.l2 (y51 : Int) (y52 : List Int) (rec1 : Int → (List Int) → Option ((List Int))) : Nat → Int → (List Int) → Option ((List Int))
  | 0, _, _ => none
  | q + 1, y60, y61 => keccak_round.b2 y51 y52 rec1 (keccak_round.l2 y51 y52 rec1 q) y60 y61
def keccak_round.b1 (k : Nat) (rec1 : Int → (List Int) → Option ((List Int))) (y51 : Int) (y52 : List Int) : Option ((List Int)) := if (decide (y51 < 25)) = true then (if (0 : Int) ≤ y51 ∧ (y51 : Int) ≤ (wr .i64 (y51 + 5)) ∧ (wr .i64 (y51 + 5)) ≤ ((25 : Nat) : Int) then (if 5 ≤ (Int.toNat (wr .i64 (y51 + 5)) - Int.toNat y51) then (keccak_round.l2 y51 y52 rec1 k 0 y52) else none) else none) else (keccak_round.j4 y52)
def keccak_round.l1 (k : Nat) : Nat → Int → (List Int) → Option ((List Int))
  | 0, _, _ => none
  | q + 1, y51, y52 => keccak_round.b1 k (keccak_round.l1 k q) y51 y52
def keccak_round.j3 (k : Nat) (y23 : List Int) : Option ((List Int)) := keccak_round.l1 k k 0 y23
def keccak_round.b3 (k : Nat) (rec3 : Int → Int → (List Int) → Option ((List Int))) (y65 : Int) (y66 : Int) (y67 : List Int) : Option ((List Int)) := if (decide (y65 < 24)) = true then (if (0 : Int) ≤ y65 ∧ y65 < 24 then (if (0 : Int) ≤ (rd tbl_keccak_places y65) ∧ (rd tbl_keccak_places y65) < 25 then ((bits_RotateLeft64.f y66 (rd tbl_keccak_turns y65)).bind fun t1 => (rec3 (wr .i64 (y65 + 1)) (rd y67 (rd tbl_keccak_places y65)) (y67.set (Int.toNat (rd tbl_keccak_places y65)) t1))) else none) else none) else (keccak_round.j3 k y67)
def keccak_round.l3 (k : Nat) : Nat → Int → Int → (List Int) → Option ((List Int))
  | 0, _, _, _ => none
  | q + 1, y65, y66, y67 => keccak_round.b3 k (keccak_round.l3 k q) y65 y66 y67
def keccak_round.j2 (k : Nat) (y16 : List Int) : Option ((List Int)) := keccak_round.l3 k k 0 (rd y16 1) y16
def keccak_round.j6 (y80 : Int) (rec4 : Int → (List Int) → Option ((List Int))) (y86 : List Int) : Option ((List Int)) := rec4 (wr .i64 (y80 + 1)) y86
def keccak_round.b5 (y1 : List Int) (y80 : Int) (rec4 : Int → (List Int) → Option ((List Int))) (t3 : Int) (rec5 : Int → (List Int) → Option ((List Int))) (y89 : Int) (y90 : List Int) : Option ((List Int)) := if (decide (y89 < 25)) = true then (if (0 : Int) ≤ (wr .i64 (y80 + y89)) ∧ (wr .i64 (y80 + y89)) < 25 then (rec5 (wr .i64 (y89 + 5)) (y90.set (Int.toNat (wr .i64 (y80 + y89))) (bits .xor .u64 (rd y90 (wr .i64 (y80 + y89))) (bits .xor .u64 (rd y1 (Int.tmod (wr .i64 (y80 + 4)) 5)) t3)))) else none) else (keccak_round.j6 y80 rec4 y90)
def keccak_round.l5 (y1 : List Int) (y80 : Int) (rec4 : Int → (List Int) → Option ((List Int))) (t3 : Int) : Nat → Int → (List Int) → Option ((List Int))
  | 0, _, _ => none
  | q + 1, y89, y90 => keccak_round.b5 y1 y80 rec4 t3 (keccak_round.l5 y1 y80 rec4 t3 q) y89 y90
def keccak_round.b4 (k : Nat) (y1 : List Int) (rec4 : Int → (List Int) → Option ((List Int))) (y80 : Int) (y81 : List Int) : Option ((List Int)) := if (decide (y80 < 5)) = true then (if (0 : Int) ≤ (Int.tmod (wr .i64 (y80 + 4)) 5) ∧ (Int.tmod (wr .i64 (y80 + 4)) 5) < 5 then (if (0 : Int) ≤ (Int.tmod (wr .i64 (y80 + 1)) 5) ∧ (Int.tmod (wr .i64 (y80 + 1)) 5) < 5 then ((bits_RotateLeft64.f (rd y1 (Int.tmod (wr .i64 (y80 + 1)) 5)) 1).bind fun t3 => (keccak_round.l5 y1 y80 rec4 t3 k 0 y81)) else none) else none) else (keccak_round.j2 k y81)
def keccak_round.l4 (k : Nat) (y1 : List Int) : Nat → Int → (List Int) → Option ((List Int))
  | 0, _, _ => none
  | q + 1, y80, y81 => keccak_round.b4 k y1 (keccak_round.l4 k y1 q) y80 y81
def keccak_round.j1 (k : Nat) (x1 : List Int) (y1 : List Int) : Option ((List Int)) := keccak_round.l4 k y1 k 0 x1
def keccak_round.b6 (k : Nat) (x1 : List Int) (rec6 : Int → (List Int) → Option ((List Int))) (y93 : Int) (y94 : List Int) : Option ((List Int)) := if (decide (y93 < 5)) = true then (if (0 : Int) ≤ y93 ∧ y93 < 25 then (if (0 : Int) ≤ (wr .i64 (y93 + 5)) ∧ (wr .i64 (y93 + 5)) < 25 then (if (0 : Int) ≤ (wr .i64 (y93 + 10)) ∧ (wr .i64 (y93 + 10)) < 25 then (if (0 : Int) ≤ (wr .i64 (y93 + 15)) ∧ (wr .i64 (y93 + 15)) < 25 then (if (0 : Int) ≤ (wr .i64 (y93 + 20)) ∧ (wr .i64 (y93 + 20)) < 25 then (if (0 : Int) ≤ y93 ∧ y93 < 5 then (rec6 (wr .i64 (y93 + 1)) (y94.set (Int.toNat y93) (bits .xor .u64 (bits .xor .u64 (bits .xor .u64 (bits .xor .u64 (rd x1 y93) (rd x1 (wr .i64 (y93 + 5)))) (rd x1 (wr .i64 (y93 + 10)))) (rd x1 (wr .i64 (y93 + 15)))) (rd x1 (wr .i64 (y93 + 20)))))) else none) else none) else none) else none) else none) else none) else (keccak_round.j1 k x1 y94)
def keccak_round.l6 (k : Nat) (x1 : List Int) : Nat → Int → (List Int) → Option ((List Int))
  | 0, _, _ => none
  | q + 1, y93, y94 => keccak_round.b6 k x1 (keccak_round.l6 k x1 q) y93 y94
def keccak_round.f (k : Nat) (x1 : List Int) : Option ((List Int)) := keccak_round.l6 k x1 k 0 [0, 0, 0, 0, 0]
theorem keccak_round.ok (k : Nat) : keccak_round.Ctr (keccak_round.f k) := by
  intro x1 r h0 mi w0 G ok hm
  delta keccak_round.f at h0
  refine c_enterX (n := 126) [(.agg [.ints .u64 x1 25])] (l := [(0, (.agg [.ints .u64 x1 25]))]) Tryd.func92 rfl rfl rfl rfl ok hm ?_
  clear ok hm
  intro b0 hb a S
  replace S := S.addfro (g := 2) 131 G.2.2
  replace S := S.addfro (g := 1) 131 G.2.1
  replace S := S.addfro (g := 0) 118 G.1
  refine c_region ?_
  refine s_box S rfl rfl rfl ?_; clear S a; intro g1 a w S
  refine s_alloc S Z100 rfl ⟨rfl, trivial⟩ rfl ?_; clear S a w; intro g2 a w S
  refine c_end ?_
  refine c_region ?_
  refine s_alloc S Z128 rfl ⟨rfl, trivial⟩ rfl ?_; clear S a w; intro g3 a w S
  refine c_end ?_
  refine wp_seq_k ?_
  intro K1 hK1
  have j1 : ∀ (m : Mem) (g13 : Nat) (g14 : Nat) (g15 : Nat) (y1 : List Int) (a : Act) (w : World), St 126 m b0 [(3, (.v (.pointer (some ⟨g13, 0, none⟩)))), (2, (.v (.pointer (some ⟨g14, 0, none⟩)))), (1, (.v (.pointer (some ⟨g15, 0, none⟩))))] [Res.cells g13 128 [.ints .u64 y1 5], Res.cells g14 100 [.ints .u64 [0, 0, 0, 0, 0, 0, 0, 0, 0, 0, 0, 0, 0, 0, 0, 0, 0, 0, 0, 0, 0, 0, 0, 0, 0] 25], Res.cells g15 100 [.ints .u64 x1 25], Res.fro 0 118 [.ints .u64 tbl_keccak_constants 24], Res.fro 1 131 [.ints .i64 tbl_keccak_places 24], Res.fro 2 131 [.ints .i64 tbl_keccak_turns 24]] a w → keccak_round.j1 k x1 y1 = some r → K1 a w := by
    intro m g13 g14 g15 y1 a w S h0
    delta keccak_round.j1 at h0
    refine hK1 a w ?_
    refine wp_seq_k ?_
    intro K2 hK2
    have j2 : ∀ (m : Mem) (g49 : Nat) (g50 : Nat) (y16 : List Int) (a : Act) (w : World), St 126 m b0 [(2, (.v (.pointer (some ⟨g49, 0, none⟩)))), (1, (.v (.pointer (some ⟨g50, 0, none⟩))))] [Res.cells g49 100 [.ints .u64 [0, 0, 0, 0, 0, 0, 0, 0, 0, 0, 0, 0, 0, 0, 0, 0, 0, 0, 0, 0, 0, 0, 0, 0, 0] 25], Res.cells g50 100 [.ints .u64 y16 25], Res.fro 0 118 [.ints .u64 tbl_keccak_constants 24], Res.fro 1 131 [.ints .i64 tbl_keccak_places 24], Res.fro 2 131 [.ints .i64 tbl_keccak_turns 24]] a w → keccak_round.j2 k y16 = some r → K2 a w := by
      intro m g49 g50 y16 a w S h0
      delta keccak_round.j2 at h0
      refine hK2 a w ?_
      refine c_region ?_
      refine s_iaddr S (o' := 1) rfl rfl Tryd.underlying100 T24 (by decide) (by decide) rfl rfl ?_; clear S a; intro a S
      refine s_loadi S (i := 1) rfl (.there .here) T24 .here rfl (by decide) (by decide) rfl ?_; clear S a; intro a S
      refine s_assign S rfl rfl ?_; clear S a; intro a S
      refine c_end ?_
      refine wp_seq_k ?_
      intro K3 hK3
      have j3 : ∀ (m : Mem) (g57 : Nat) (g58 : Nat) (y23 : List Int) (a : Act) (w : World), St 126 m b0 [(2, (.v (.pointer (some ⟨g57, 0, none⟩)))), (1, (.v (.pointer (some ⟨g58, 0, none⟩))))] [Res.cells g57 100 [.ints .u64 [0, 0, 0, 0, 0, 0, 0, 0, 0, 0, 0, 0, 0, 0, 0, 0, 0, 0, 0, 0, 0, 0, 0, 0, 0] 25], Res.cells g58 100 [.ints .u64 y23 25], Res.fro 0 118 [.ints .u64 tbl_keccak_constants 24], Res.fro 1 131 [.ints .i64 tbl_keccak_places 24], Res.fro 2 131 [.ints .i64 tbl_keccak_turns 24]] a w → keccak_round.j3 k y23 = some r → K3 a w := by
        intro m g57 g58 y23 a w S h0
        delta keccak_round.j3 at h0
        refine hK3 a w ?_
        refine wp_seq_k ?_
        intro K4 hK4
        have j4 : ∀ (m : Mem) (g89 : Nat) (g90 : Nat) (y38 : List Int) (a : Act) (w : World), St 126 m b0 [(2, (.v (.pointer (some ⟨g89, 0, none⟩)))), (1, (.v (.pointer (some ⟨g90, 0, none⟩))))] [Res.cells g89 100 [.ints .u64 [0, 0, 0, 0, 0, 0, 0, 0, 0, 0, 0, 0, 0, 0, 0, 0, 0, 0, 0, 0, 0, 0, 0, 0, 0] 25], Res.cells g90 100 [.ints .u64 y38 25], Res.fro 0 118 [.ints .u64 tbl_keccak_constants 24], Res.fro 1 131 [.ints .i64 tbl_keccak_places 24], Res.fro 2 131 [.ints .i64 tbl_keccak_turns 24]] a w → keccak_round.j4 y38 = some r → K4 a w := by
          intro m g89 g90 y38 a w S h0
          delta keccak_round.j4 at h0
          refine hK4 a w ?_
          refine c_region ?_
          refine s_loada S rfl (.there .here) T100 (s' := [.ints .u64 y38 25]) rfl rfl ?_; clear S a; intro a S
          refine s_store S rfl rfl rfl (s' := [.ints .u64 y38 25]) .here T100 rfl rfl ?_; clear S w; intro w S
          refine c_end ?_
          refine wp_ret ?_
          obtain rfl := Option.some.inj h0
          exact b_ret1 (d := (.agg [.ints .u64 y38 25])) S rfl (resD_cell rfl .here T100 rfl rfl) fun ok => S.retX (Hx := []) hb _ _ (() : Unit) .nil ok
        refine c_region ?_
        refine s_assign S rfl rfl ?_; clear S a; intro a S
        refine c_end ?_
        refine wp_block ?_
        refine c_loop (fun q1 a w => ∃ (m : Mem) (y51 : Int) (g119 : Nat) (g120 : Nat) (y52 : List Int), St 126 m b0 [(12, (.v (.int .i64 y51))), (2, (.v (.pointer (some ⟨g119, 0, none⟩)))), (1, (.v (.pointer (some ⟨g120, 0, none⟩))))] [Res.cells g119 100 [.ints .u64 [0, 0, 0, 0, 0, 0, 0, 0, 0, 0, 0, 0, 0, 0, 0, 0, 0, 0, 0, 0, 0, 0, 0, 0, 0] 25], Res.cells g120 100 [.ints .u64 y52 25], Res.fro 0 118 [.ints .u64 tbl_keccak_constants 24], Res.fro 1 131 [.ints .i64 tbl_keccak_places 24], Res.fro 2 131 [.ints .i64 tbl_keccak_turns 24]] a w ∧ keccak_round.l1 k q1 y51 y52 = some r) ?_ ?_ (k := k) ⟨_, 0, g57, g58, y23, (S.sub ⟨rfl, rfl, rfl, trivial⟩ (.cons .here (.cons .here (.cons .here (.cons .here (.cons .here .nil)))))), h0⟩
        · rintro a w ⟨m, y51, g119, g120, y52, S, h0⟩
          exact (nomatch (show (none : Option ((List Int))) = some r from h0))
        · clear S h0
          rintro q1 a w ⟨m, y51, g119, g120, y52, S, h0⟩
          replace h0 : keccak_round.b1 k (keccak_round.l1 k q1) y51 y52 = some r := h0
          delta keccak_round.b1 at h0
          refine wp_seq ?_
          refine c_region ?_
          refine s_move S rfl rfl ?_; clear S a; intro a S
          refine s_bin S rfl rfl rfl rfl ?_; clear S a; intro a S
          refine c_end ?_
          rcases ite_of h0 with ⟨c1, h1⟩ | ⟨c1, h1⟩ <;> clear h0
          · refine c_condT S rfl c1 ?_
            refine wp_skip ?_
            refine x_thenN ?_
            refine wp_seq_k ?_
            intro K5 hK5
            have j5 : ∀ (m : Mem) (g131 : Nat) (g132 : Nat) (y57 : List Int) (a : Act) (w : World), St 126 m b0 [(12, (.v (.int .i64 y51))), (2, (.v (.pointer (some ⟨g131, 0, none⟩)))), (1, (.v (.pointer (some ⟨g132, 0, none⟩))))] [Res.cells g131 100 [.ints .u64 [0, 0, 0, 0, 0, 0, 0, 0, 0, 0, 0, 0, 0, 0, 0, 0, 0, 0, 0, 0, 0, 0, 0, 0, 0] 25], Res.cells g132 100 [.ints .u64 y57 25], Res.fro 0 118 [.ints .u64 tbl_keccak_constants 24], Res.fro 1 131 [.ints .i64 tbl_keccak_places 24], Res.fro 2 131 [.ints .i64 tbl_keccak_turns 24]] a w → keccak_round.j5 y51 (keccak_round.l1 k q1) y57 = some r → K5 a w := by
              intro m g131 g132 y57 a w S h0
              delta keccak_round.j5 at h0
              refine hK5 a w ?_
              refine c_region' ?_
              refine s_move S rfl rfl ?_; clear S a; intro a S
              refine s_bin S rfl rfl rfl rfl ?_; clear S a; intro a S
              refine s_assign S rfl rfl ?_; clear S a; intro a S
              refine c_end' ?_
              refine x_thenN ?_
              exact ⟨_, (wr .i64 (y51 + 5)), g131, g132, y57, (S.sub ⟨rfl, rfl, rfl, trivial⟩ (.cons .here (.cons .here (.cons .here (.cons .here (.cons .here .nil)))))), h0⟩
            refine wp_block ?_
            refine c_region ?_
            refine s_move S rfl rfl ?_; clear S a; intro a S
            refine s_move S rfl rfl ?_; clear S a; intro a S
            refine s_bin S rfl rfl rfl rfl ?_; clear S a; intro a S
            obtain ⟨c2, h2⟩ := chk_of h1; clear h1
            refine s_sliceA S (i := y51) (j := (wr .i64 (y51 + 5))) (o' := if 25 = Int.toNat y51 then 0 else 0 + Int.toNat y51 * 1) (len := Int.toNat (wr .i64 (y51 + 5)) - Int.toNat y51) (cap := 25 - Int.toNat y51) rfl Tryd.underlying100 T24 (.inr ⟨_, _, rfl, rfl⟩) (.inr ⟨_, _, rfl, rfl⟩) c2 rfl rfl rfl rfl ?_; clear S a; intro a S
            obtain ⟨c3, h3⟩ := chk_of h2; clear h2
            refine s_arrp S rfl Tryd.underlying128 c3 rfl ?_; clear S a; intro a S
            refine s_ldInts S (lo := (Int.toNat y51)) (ys := ((y52).drop (Int.toNat y51)).take 5) rfl (.there .here) T128 .here (ho_rng c2 c3) (by have h := c2; have h' := c3; omega) rfl rfl ?_; clear S a; intro a S
            refine s_alloc S Z128 rfl ⟨rfl, trivial⟩ rfl ?_; clear S a w; intro g133 a w S
            refine s_store S rfl rfl rfl (s' := [.ints .u64 (((y52).drop (Int.toNat y51)).take 5) 5]) .here T128 rfl rfl ?_; clear S w; intro w S
            refine c_end ?_
            refine c_region ?_
            refine s_move S rfl rfl ?_; clear S a; intro a S
            refine c_end ?_
            refine wp_block ?_
            refine c_loop (fun q2 a w => ∃ (m : Mem) (y60 : Int) (g140 : Nat) (g141 : Nat) (g142 : Nat) (y61 : List Int), St 126 m b0 [(101, (.v (.int .i64 y60))), (13, (.v (.pointer (some ⟨g140, 0, none⟩)))), (12, (.v (.int .i64 y51))), (2, (.v (.pointer (some ⟨g141, 0, none⟩)))), (1, (.v (.pointer (some ⟨g142, 0, none⟩))))] [Res.cells g140 128 [.ints .u64 (((y52).drop (Int.toNat y51)).take 5) 5], Res.cells g141 100 [.ints .u64 [0, 0, 0, 0, 0, 0, 0, 0, 0, 0, 0, 0, 0, 0, 0, 0, 0, 0, 0, 0, 0, 0, 0, 0, 0] 25], Res.cells g142 100 [.ints .u64 y61 25], Res.fro 0 118 [.ints .u64 tbl_keccak_constants 24], Res.fro 1 131 [.ints .i64 tbl_keccak_places 24], Res.fro 2 131 [.ints .i64 tbl_keccak_turns 24]] a w ∧ keccak_round.l2 y51 y52 (keccak_round.l1 k q1) q2 y60 y61 = some r) ?_ ?_ (k := k) ⟨_, 0, g133, g119, g120, y52, (S.sub ⟨rfl, rfl, rfl, rfl, rfl, trivial⟩ (.cons .here (.cons .here (.cons .here (.cons .here (.cons .here (.cons .here .nil))))))), h3⟩
            · rintro a w ⟨m, y60, g140, g141, g142, y61, S, h0⟩
              exact (nomatch (show (none : Option ((List Int))) = some r from h0))
            · clear S h3
              rintro q2 a w ⟨m, y60, g140, g141, g142, y61, S, h0⟩
              replace h0 : keccak_round.b2 y51 y52 (keccak_round.l1 k q1) (keccak_round.l2 y51 y52 (keccak_round.l1 k q1) q2) y60 y61 = some r := h0
              delta keccak_round.b2 at h0
              refine c_region ?_
              refine s_bin S rfl rfl rfl rfl ?_; clear S a; intro a S
              refine c_end ?_
              refine wp_seq ?_
              rcases ite_of h0 with ⟨c4, h1⟩ | ⟨c4, h1⟩ <;> clear h0
              · refine c_condT S rfl c4 ?_
                refine wp_skip ?_
                refine x_thenN ?_
                refine wp_seq ?_
                refine wp_block ?_
                refine c_region ?_
                refine s_move S rfl rfl ?_; clear S a; intro a S
                refine s_assign S rfl rfl ?_; clear S a; intro a S
                refine c_end ?_
                refine c_heldS S (.take 0 (.take 1 (.take 2 (.take 3 (.take 4 (.take 5 (.take 6 (.take 7 (.take 8 (.take 9 (.take 10 (.take 11 (.take 12 (.take 13 (.take 14 (.take 15 (.take 16 (.take 17 (.take 18 (.take 19 (.alts (.run 20 false .done .nil)))))))))))))))))))))) 20 [Res.cells g140 128 [.ints .u64 (((y52).drop (Int.toNat y51)).take 5) 5], Res.cells g141 100 [.ints .u64 [0, 0, 0, 0, 0, 0, 0, 0, 0, 0, 0, 0, 0, 0, 0, 0, 0, 0, 0, 0, 0, 0, 0, 0, 0] 25], Res.cells g142 100 [.ints .u64 y61 25], Res.fro 0 118 [.ints .u64 tbl_keccak_constants 24], Res.fro 1 131 [.ints .i64 tbl_keccak_places 24], Res.fro 2 131 [.ints .i64 tbl_keccak_turns 24]] (.cons .here (.cons .here (.cons .here (.cons .here (.cons .here (.cons .here .nil)))))) ⟨Res.stay_cells, Res.stay_cells, Res.stay_cells, Res.stay_fro, Res.stay_fro, Res.stay_fro, trivial⟩ [(14, (.v (.int .i64 y60))), (13, (.v (.pointer (some ⟨g140, 0, none⟩)))), (12, (.v (.int .i64 y51))), (1, (.v (.pointer (some ⟨g142, 0, none⟩))))] ⟨rfl, rfl, rfl, rfl, trivial⟩ (by kernel_rfl) (by kernel_rfl) ?_; clear S; intro w S CL hw le
                refine h_move S CL hw le ⟨rfl, rfl, rfl, rfl, trivial⟩ rfl rfl rfl trivial ?_; clear S CL a; intro a S CL
                refine h_move S CL hw le ⟨rfl, rfl, rfl, rfl, rfl, trivial⟩ rfl rfl rfl trivial ?_; clear S CL a; intro a S CL
                refine h_bin S CL hw le ⟨rfl, rfl, rfl, rfl, rfl, rfl, trivial⟩ rfl rfl rfl rfl rfl trivial ?_; clear S CL a; intro a S CL
                refine h_move S CL hw le ⟨rfl, rfl, rfl, rfl, rfl, rfl, rfl, trivial⟩ rfl rfl rfl trivial ?_; clear S CL a; intro a S CL
                obtain ⟨c5, h2⟩ := chk_of h1; clear h1
                refine h_iaddr S CL hw le ⟨rfl, rfl, rfl, rfl, rfl, rfl, rfl, rfl, trivial⟩ rfl rfl Tryd.underlying128 T24 c5.1 c5.2 (mul1 _ _) rfl rfl trivial ?_; clear S CL a; intro a S CL
                refine h_loadi S CL hw le ⟨rfl, rfl, rfl, rfl, rfl, rfl, rfl, rfl, rfl, trivial⟩ (i := y60) rfl .here T24 .here rfl c5.1 c5.2 rfl rfl trivial ?_; clear S CL a; intro a S CL
                refine h_move S CL hw le ⟨rfl, rfl, rfl, rfl, rfl, rfl, rfl, rfl, rfl, rfl, trivial⟩ rfl rfl rfl trivial ?_; clear S CL a; intro a S CL
                refine h_bin S CL hw le ⟨rfl, rfl, rfl, rfl, rfl, rfl, rfl, rfl, rfl, rfl, rfl, trivial⟩ rfl rfl rfl rfl rfl trivial ?_; clear S CL a; intro a S CL
                refine h_rem S CL hw le ⟨rfl, rfl, rfl, rfl, rfl, rfl, rfl, rfl, rfl, rfl, rfl, rfl, trivial⟩ rfl rfl (by decide) rfl rfl trivial ?_; clear S CL a; intro a S CL
                obtain ⟨c6, h3⟩ := chk_of h2; clear h2
                refine h_iaddr S CL hw le ⟨rfl, rfl, rfl, rfl, rfl, rfl, rfl, rfl, rfl, rfl, rfl, rfl, rfl, trivial⟩ rfl rfl Tryd.underlying128 T24 c6.1 c6.2 (mul1 _ _) rfl rfl trivial ?_; clear S CL a; intro a S CL
                refine h_loadi S CL hw le ⟨rfl, rfl, rfl, rfl, rfl, rfl, rfl, rfl, rfl, rfl, rfl, rfl, rfl, rfl, trivial⟩ (i := (Int.tmod (wr .i64 (y60 + 1)) 5)) rfl .here T24 .here rfl c6.1 c6.2 rfl rfl trivial ?_; clear S CL a; intro a S CL
                refine h_un S CL hw le ⟨rfl, rfl, rfl, rfl, rfl, rfl, rfl, rfl, rfl, rfl, rfl, rfl, rfl, rfl, rfl, trivial⟩ rfl rfl rfl rfl trivial ?_; clear S CL a; intro a S CL
                refine h_move S CL hw le ⟨rfl, rfl, rfl, rfl, rfl, rfl, rfl, rfl, rfl, rfl, rfl, rfl, rfl, rfl, rfl, rfl, trivial⟩ rfl rfl rfl trivial ?_; clear S CL a; intro a S CL
                refine h_bin S CL hw le ⟨rfl, rfl, rfl, rfl, rfl, rfl, rfl, rfl, rfl, rfl, rfl, rfl, rfl, rfl, rfl, rfl, rfl, trivial⟩ rfl rfl rfl rfl rfl trivial ?_; clear S CL a; intro a S CL
                refine h_rem S CL hw le ⟨rfl, rfl, rfl, rfl, rfl, rfl, rfl, rfl, rfl, rfl, rfl, rfl, rfl, rfl, rfl, rfl, rfl, rfl, trivial⟩ rfl rfl (by decide) rfl rfl trivial ?_; clear S CL a; intro a S CL
                obtain ⟨c7, h4⟩ := chk_of h3; clear h3
                refine h_iaddr S CL hw le ⟨rfl, rfl, rfl, rfl, rfl, rfl, rfl, rfl, rfl, rfl, rfl, rfl, rfl, rfl, rfl, rfl, rfl, rfl, rfl, trivial⟩ rfl rfl Tryd.underlying128 T24 c7.1 c7.2 (mul1 _ _) rfl rfl trivial ?_; clear S CL a; intro a S CL
                refine h_loadi S CL hw le ⟨rfl, rfl, rfl, rfl, rfl, rfl, rfl, rfl, rfl, rfl, rfl, rfl, rfl, rfl, rfl, rfl, rfl, rfl, rfl, rfl, trivial⟩ (i := (Int.tmod (wr .i64 (y60 + 2)) 5)) rfl .here T24 .here rfl c7.1 c7.2 rfl rfl trivial ?_; clear S CL a; intro a S CL
                refine h_bin S CL hw le ⟨rfl, rfl, rfl, rfl, rfl, rfl, rfl, rfl, rfl, rfl, rfl, rfl, rfl, rfl, rfl, rfl, rfl, rfl, rfl, rfl, rfl, trivial⟩ rfl rfl rfl rfl rfl trivial ?_; clear S CL a; intro a S CL
                refine h_bin S CL hw le ⟨rfl, rfl, rfl, rfl, rfl, rfl, rfl, rfl, rfl, rfl, rfl, rfl, rfl, rfl, rfl, rfl, rfl, rfl, rfl, rfl, rfl, rfl, trivial⟩ rfl rfl rfl rfl rfl trivial ?_; clear S CL a; intro a S CL
                obtain ⟨c8, h5⟩ := chk_of h4; clear h4
                refine h_iaddr S CL hw le ⟨rfl, rfl, rfl, rfl, rfl, rfl, rfl, rfl, rfl, rfl, rfl, rfl, rfl, rfl, rfl, rfl, rfl, rfl, rfl, rfl, rfl, rfl, rfl, trivial⟩ rfl rfl Tryd.underlying100 T24 c8.1 c8.2 (mul1 _ _) rfl rfl trivial ?_; clear S CL a; intro a S CL
                refine h_run' S rfl trivial ?_
                refine s_storei S (i := (wr .i64 (y60 + y51))) rfl rfl (.there (.there .here)) T24 .here rfl c8.1 c8.2 ?_; clear S; intro w S
                refine h_back ⟨fun h => (nomatch h), ?_⟩
                refine h_done ?_; clear CL hw le
                refine x_blockN ?_
                refine x_thenN ?_
                refine c_region' ?_
                refine s_bin S rfl rfl rfl rfl ?_; clear S a; intro a S
                refine s_move S rfl rfl ?_; clear S a; intro a S
                refine c_end' ?_
                refine x_thenN ?_
                exact ⟨_, (wr .i64 (y60 + 1)), g140, g141, g142, (y61.set (Int.toNat (wr .i64 (y60 + y51))) (bits .xor .u64 (rd (((y52).drop (Int.toNat y51)).take 5) y60) (bits .and .u64 (bnot .u64 (rd (((y52).drop (Int.toNat y51)).take 5) (Int.tmod (wr .i64 (y60 + 1)) 5))) (rd (((y52).drop (Int.toNat y51)).take 5) (Int.tmod (wr .i64 (y60 + 2)) 5))))), (S.sub ⟨rfl, rfl, rfl, rfl, rfl, trivial⟩ (.cons .here (.cons .here (.cons .here (.cons .here (.cons .here (.cons .here .nil))))))), h5⟩
              · refine c_condF S rfl c4 ?_
                refine wp_exit ?_
                refine x_thenX ?_
                refine x_thenX ?_
                refine x_blockX ?_
                refine x_blockN ?_
                refine x_thenN ?_
                exact j5 _ g141 g142 y61 a w (S.sub ⟨rfl, rfl, rfl, trivial⟩ (.cons (.there .here) (.cons (.there .here) (.cons (.there .here) (.cons (.there .here) (.cons (.there .here) .nil)))))) h1
          · refine c_condF S rfl c1 ?_
            refine wp_exit ?_
            refine x_thenX ?_
            refine x_thenX ?_
            refine x_blockX ?_
            refine x_thenN ?_
            exact j4 _ g119 g120 y52 a w (S.sub ⟨rfl, rfl, trivial⟩ (.cons .here (.cons .here (.cons .here (.cons .here (.cons .here .nil)))))) h1
      refine c_region ?_
      refine s_loadaF S rfl (.there (.there (.there .here))) T131 (s' := [.ints .i64 tbl_keccak_places 24]) rfl rfl ?_; clear S a; intro a S
      refine s_move S rfl rfl ?_; clear S a; intro a S
      refine c_end ?_
      refine wp_block ?_
      refine c_loop (fun q3 a w => ∃ (m : Mem) (y65 : Int) (y66 : Int) (g147 : Nat) (g148 : Nat) (y67 : List Int), St 126 m b0 [(75, (.v (.int .i64 y65))), (74, (.agg [.ints .i64 tbl_keccak_places 24])), (8, (.v (.int .u64 y66))), (2, (.v (.pointer (some ⟨g147, 0, none⟩)))), (1, (.v (.pointer (some ⟨g148, 0, none⟩))))] [Res.cells g147 100 [.ints .u64 [0, 0, 0, 0, 0, 0, 0, 0, 0, 0, 0, 0, 0, 0, 0, 0, 0, 0, 0, 0, 0, 0, 0, 0, 0] 25], Res.cells g148 100 [.ints .u64 y67 25], Res.fro 0 118 [.ints .u64 tbl_keccak_constants 24], Res.fro 1 131 [.ints .i64 tbl_keccak_places 24], Res.fro 2 131 [.ints .i64 tbl_keccak_turns 24]] a w ∧ keccak_round.l3 k q3 y65 y66 y67 = some r) ?_ ?_ (k := k) ⟨_, 0, (rd y16 1), g49, g50, y16, (S.sub ⟨rfl, rfl, rfl, rfl, rfl, trivial⟩ (.cons .here (.cons .here (.cons .here (.cons .here (.cons .here .nil)))))), h0⟩
      · rintro a w ⟨m, y65, y66, g147, g148, y67, S, h0⟩
        exact (nomatch (show (none : Option ((List Int))) = some r from h0))
      · clear S h0
        rintro q3 a w ⟨m, y65, y66, g147, g148, y67, S, h0⟩
        replace h0 : keccak_round.b3 k (keccak_round.l3 k q3) y65 y66 y67 = some r := h0
        delta keccak_round.b3 at h0
        refine c_region ?_
        refine s_bin S rfl rfl rfl rfl ?_; clear S a; intro a S
        refine c_end ?_
        refine wp_seq ?_
        rcases ite_of h0 with ⟨c9, h1⟩ | ⟨c9, h1⟩ <;> clear h0
        · refine c_condT S rfl c9 ?_
          refine wp_skip ?_
          refine x_thenN ?_
          refine wp_seq ?_
          refine wp_block ?_
          refine c_region ?_
          refine s_move S rfl rfl ?_; clear S a; intro a S
          obtain ⟨c10, h2⟩ := chk_of h1; clear h1
          refine s_index S rfl rfl Tryd.underlying131 T3 c10.1 c10.2 rfl ?_; clear S a; intro a S
          refine s_assign S rfl rfl ?_; clear S a; intro a S
          refine s_assign S rfl rfl ?_; clear S a; intro a S
          refine c_end ?_
          refine c_region ?_
          refine s_move S rfl rfl ?_; clear S a; intro a S
          obtain ⟨c11, h3⟩ := chk_of h2; clear h2
          refine s_iaddr S rfl rfl Tryd.underlying100 T24 c11.1 c11.2 (mul1 _ _) rfl ?_; clear S a; intro a S
          refine s_loadi S (i := (rd tbl_keccak_places y65)) rfl (.there .here) T24 .here rfl c11.1 c11.2 rfl ?_; clear S a; intro a S
          refine s_assign S rfl rfl ?_; clear S a; intro a S
          refine c_end ?_
          refine c_region ?_
          refine s_move S rfl rfl ?_; clear S a; intro a S
          refine s_move S rfl rfl ?_; clear S a; intro a S
          refine s_move S rfl rfl ?_; clear S a; intro a S
          refine s_iaddr S rfl rfl Tryd.underlying131 T3 c10.1 c10.2 (mul1 _ _) rfl ?_; clear S a; intro a S
          refine s_loadiF S (i := y65) rfl (.there (.there (.there (.there .here)))) T3 .here rfl c10.1 c10.2 rfl ?_; clear S a; intro a S
          obtain ⟨t1, et1, h4⟩ := bind_of h3; clear h3
          refine s_callP S (fun (ch : Unit) => ((.v (.int .u64 t1)) : D)) N96 rfl rfl (bits_RotateLeft64.ok y66 (rd tbl_keccak_turns y65) t1 et1 _ _) ?_; clear S a w; intro ch1 m le1 a w S
          refine s_iaddr S rfl rfl Tryd.underlying100 T24 c11.1 c11.2 (mul1 _ _) rfl ?_; clear S a; intro a S
          refine s_storei S (i := (rd tbl_keccak_places y65)) rfl rfl (.there .here) T24 .here rfl c11.1 c11.2 ?_; clear S w; intro w S
          refine c_end ?_
          refine c_region' ?_
          refine s_move S rfl rfl ?_; clear S a; intro a S
          refine s_assign S rfl rfl ?_; clear S a; intro a S
          refine c_end' ?_
          refine x_blockN ?_
          refine x_thenN ?_
          refine c_region' ?_
          refine s_bin S rfl rfl rfl rfl ?_; clear S a; intro a S
          refine s_move S rfl rfl ?_; clear S a; intro a S
          refine c_end' ?_
          refine x_thenN ?_
          exact ⟨_, (wr .i64 (y65 + 1)), (rd y67 (rd tbl_keccak_places y65)), g147, g148, (y67.set (Int.toNat (rd tbl_keccak_places y65)) t1), (S.sub ⟨rfl, rfl, rfl, rfl, rfl, trivial⟩ (.cons .here (.cons .here (.cons .here (.cons .here (.cons .here .nil)))))), h4⟩
        · refine c_condF S rfl c9 ?_
          refine wp_exit ?_
          refine x_thenX ?_
          refine x_thenX ?_
          refine x_blockX ?_
          refine x_thenN ?_
          exact j3 _ g147 g148 y67 a w (S.sub ⟨rfl, rfl, trivial⟩ (.cons .here (.cons .here (.cons .here (.cons .here (.cons .here .nil)))))) h1
    refine c_region ?_
    refine s_move S rfl rfl ?_; clear S a; intro a S
    refine c_end ?_
    refine wp_block ?_
    refine c_loop (fun q4 a w => ∃ (m : Mem) (y80 : Int) (g179 : Nat) (g180 : Nat) (g181 : Nat) (y81 : List Int), St 126 m b0 [(44, (.v (.int .i64 y80))), (3, (.v (.pointer (some ⟨g179, 0, none⟩)))), (2, (.v (.pointer (some ⟨g180, 0, none⟩)))), (1, (.v (.pointer (some ⟨g181, 0, none⟩))))] [Res.cells g179 128 [.ints .u64 y1 5], Res.cells g180 100 [.ints .u64 [0, 0, 0, 0, 0, 0, 0, 0, 0, 0, 0, 0, 0, 0, 0, 0, 0, 0, 0, 0, 0, 0, 0, 0, 0] 25], Res.cells g181 100 [.ints .u64 y81 25], Res.fro 0 118 [.ints .u64 tbl_keccak_constants 24], Res.fro 1 131 [.ints .i64 tbl_keccak_places 24], Res.fro 2 131 [.ints .i64 tbl_keccak_turns 24]] a w ∧ keccak_round.l4 k y1 q4 y80 y81 = some r) ?_ ?_ (k := k) ⟨_, 0, g13, g14, g15, x1, (S.sub ⟨rfl, rfl, rfl, rfl, trivial⟩ (.cons .here (.cons .here (.cons .here (.cons .here (.cons .here (.cons .here .nil))))))), h0⟩
    · rintro a w ⟨m, y80, g179, g180, g181, y81, S, h0⟩
      exact (nomatch (show (none : Option ((List Int))) = some r from h0))
    · clear S h0
      rintro q4 a w ⟨m, y80, g179, g180, g181, y81, S, h0⟩
      replace h0 : keccak_round.b4 k y1 (keccak_round.l4 k y1 q4) y80 y81 = some r := h0
      delta keccak_round.b4 at h0
      refine c_region ?_
      refine s_bin S rfl rfl rfl rfl ?_; clear S a; intro a S
      refine c_end ?_
      refine wp_seq ?_
      rcases ite_of h0 with ⟨c12, h1⟩ | ⟨c12, h1⟩ <;> clear h0
      · refine c_condT S rfl c12 ?_
        refine wp_skip ?_
        refine x_thenN ?_
        refine wp_seq_k ?_
        intro K6 hK6
        have j6 : ∀ (m : Mem) (g191 : Nat) (g192 : Nat) (g193 : Nat) (y86 : List Int) (a : Act) (w : World), St 126 m b0 [(44, (.v (.int .i64 y80))), (3, (.v (.pointer (some ⟨g191, 0, none⟩)))), (2, (.v (.pointer (some ⟨g192, 0, none⟩)))), (1, (.v (.pointer (some ⟨g193, 0, none⟩))))] [Res.cells g191 128 [.ints .u64 y1 5], Res.cells g192 100 [.ints .u64 [0, 0, 0, 0, 0, 0, 0, 0, 0, 0, 0, 0, 0, 0, 0, 0, 0, 0, 0, 0, 0, 0, 0, 0, 0] 25], Res.cells g193 100 [.ints .u64 y86 25], Res.fro 0 118 [.ints .u64 tbl_keccak_constants 24], Res.fro 1 131 [.ints .i64 tbl_keccak_places 24], Res.fro 2 131 [.ints .i64 tbl_keccak_turns 24]] a w → keccak_round.j6 y80 (keccak_round.l4 k y1 q4) y86 = some r → K6 a w := by
          intro m g191 g192 g193 y86 a w S h0
          delta keccak_round.j6 at h0
          refine hK6 a w ?_
          refine c_region' ?_
          refine s_bin S rfl rfl rfl rfl ?_; clear S a; intro a S
          refine s_move S rfl rfl ?_; clear S a; intro a S
          refine c_end' ?_
          refine x_thenN ?_
          exact ⟨_, (wr .i64 (y80 + 1)), g191, g192, g193, y86, (S.sub ⟨rfl, rfl, rfl, rfl, trivial⟩ (.cons .here (.cons .here (.cons .here (.cons .here (.cons .here (.cons .here .nil))))))), h0⟩
        refine wp_block ?_
        refine c_region ?_
        refine s_move S rfl rfl ?_; clear S a; intro a S
        refine s_assign S rfl rfl ?_; clear S a; intro a S
        refine c_end ?_
        refine wp_seq (c_heldS S (.take 0 (.take 1 (.take 2 (.take 3 (.take 4 (.take 5 (.take 6 (.take 7 (.take 8 (.take 9 (.alts (.run 10 true (.take 11 (.take 12 .done)) .nil)))))))))))) 13 [Res.cells g179 128 [.ints .u64 y1 5], Res.cells g180 100 [.ints .u64 [0, 0, 0, 0, 0, 0, 0, 0, 0, 0, 0, 0, 0, 0, 0, 0, 0, 0, 0, 0, 0, 0, 0, 0, 0] 25], Res.cells g181 100 [.ints .u64 y81 25], Res.fro 0 118 [.ints .u64 tbl_keccak_constants 24], Res.fro 1 131 [.ints .i64 tbl_keccak_places 24], Res.fro 2 131 [.ints .i64 tbl_keccak_turns 24]] (.cons .here (.cons .here (.cons .here (.cons .here (.cons .here (.cons .here .nil)))))) ⟨Res.stay_cells, Res.stay_cells, Res.stay_cells, Res.stay_fro, Res.stay_fro, Res.stay_fro, trivial⟩ [(5, (.v (.int .i64 y80))), (3, (.v (.pointer (some ⟨g179, 0, none⟩))))] ⟨rfl, rfl, trivial⟩ (by kernel_rfl) (by kernel_rfl) ?_); clear S; intro w S CL hw le
        refine h_move S CL hw le ⟨rfl, rfl, trivial⟩ rfl rfl rfl trivial ?_; clear S CL a; intro a S CL
        refine h_bin S CL hw le ⟨rfl, rfl, rfl, trivial⟩ rfl rfl rfl rfl rfl trivial ?_; clear S CL a; intro a S CL
        refine h_rem S CL hw le ⟨rfl, rfl, rfl, rfl, trivial⟩ rfl rfl (by decide) rfl rfl trivial ?_; clear S CL a; intro a S CL
        obtain ⟨c13, h2⟩ := chk_of h1; clear h1
        refine h_iaddr S CL hw le ⟨rfl, rfl, rfl, rfl, rfl, trivial⟩ rfl rfl Tryd.underlying128 T24 c13.1 c13.2 (mul1 _ _) rfl rfl trivial ?_; clear S CL a; intro a S CL
        refine h_loadi S CL hw le ⟨rfl, rfl, rfl, rfl, rfl, rfl, trivial⟩ (i := (Int.tmod (wr .i64 (y80 + 4)) 5)) rfl .here T24 .here rfl c13.1 c13.2 rfl rfl trivial ?_; clear S CL a; intro a S CL
        refine h_move S CL hw le ⟨rfl, rfl, rfl, rfl, rfl, rfl, rfl, trivial⟩ rfl rfl rfl trivial ?_; clear S CL a; intro a S CL
        refine h_bin S CL hw le ⟨rfl, rfl, rfl, rfl, rfl, rfl, rfl, rfl, trivial⟩ rfl rfl rfl rfl rfl trivial ?_; clear S CL a; intro a S CL
        refine h_rem S CL hw le ⟨rfl, rfl, rfl, rfl, rfl, rfl, rfl, rfl, rfl, trivial⟩ rfl rfl (by decide) rfl rfl trivial ?_; clear S CL a; intro a S CL
        obtain ⟨c14, h3⟩ := chk_of h2; clear h2
        refine h_iaddr S CL hw le ⟨rfl, rfl, rfl, rfl, rfl, rfl, rfl, rfl, rfl, rfl, trivial⟩ rfl rfl Tryd.underlying128 T24 c14.1 c14.2 (mul1 _ _) rfl rfl trivial ?_; clear S CL a; intro a S CL
        refine h_loadi S CL hw le ⟨rfl, rfl, rfl, rfl, rfl, rfl, rfl, rfl, rfl, rfl, rfl, trivial⟩ (i := (Int.tmod (wr .i64 (y80 + 1)) 5)) rfl .here T24 .here rfl c14.1 c14.2 rfl rfl trivial ?_; clear S CL a; intro a S CL
        refine h_run' S rfl trivial ?_
        obtain ⟨t3, et3, h4⟩ := bind_of h3; clear h3
        refine s_callP S (fun (ch : Unit) => ((.v (.int .u64 t3)) : D)) N96 rfl rfl (bits_RotateLeft64.ok (rd y1 (Int.tmod (wr .i64 (y80 + 1)) 5)) 1 t3 et3 _ _) ?_; clear S a; intro ch2 m le1 a w S
        replace le := le.trans le1
        replace hw := CL.again hw S (.cons .here (.cons .here (.cons .here (.cons .here (.cons .here (.cons .here .nil)))))) le
        refine h_back ⟨fun _ => hw, ?_⟩
        replace CL := CL.add (t := 57) (d := (.v (.int .u64 t3))) S rfl rfl
        refine h_bin S CL hw le ⟨rfl, rfl, rfl, rfl, rfl, rfl, rfl, rfl, rfl, rfl, rfl, rfl, rfl, trivial⟩ rfl rfl rfl rfl rfl trivial ?_; clear S CL a; intro a S CL
        refine h_assign S CL hw le ⟨rfl, rfl, rfl, rfl, rfl, rfl, rfl, rfl, rfl, rfl, rfl, rfl, rfl, rfl, trivial⟩ rfl rfl rfl trivial ?_; clear S CL a; intro a S CL
        refine h_done ?_; clear CL hw le
        refine x_thenN ?_
        refine c_region ?_
        refine s_assign S rfl rfl ?_; clear S a; intro a S
        refine c_end ?_
        refine wp_block ?_
        refine c_loop (fun q5 a w => ∃ (m : Mem) (y89 : Int) (g200 : Nat) (g201 : Nat) (g202 : Nat) (y90 : List Int), St 126 m b0 [(7, (.v (.int .i64 y89))), (6, (.v (.int .u64 (bits .xor .u64 (rd y1 (Int.tmod (wr .i64 (y80 + 4)) 5)) t3)))), (5, (.v (.int .i64 y80))), (44, (.v (.int .i64 y80))), (3, (.v (.pointer (some ⟨g200, 0, none⟩)))), (2, (.v (.pointer (some ⟨g201, 0, none⟩)))), (1, (.v (.pointer (some ⟨g202, 0, none⟩))))] [Res.cells g200 128 [.ints .u64 y1 5], Res.cells g201 100 [.ints .u64 [0, 0, 0, 0, 0, 0, 0, 0, 0, 0, 0, 0, 0, 0, 0, 0, 0, 0, 0, 0, 0, 0, 0, 0, 0] 25], Res.cells g202 100 [.ints .u64 y90 25], Res.fro 0 118 [.ints .u64 tbl_keccak_constants 24], Res.fro 1 131 [.ints .i64 tbl_keccak_places 24], Res.fro 2 131 [.ints .i64 tbl_keccak_turns 24]] a w ∧ keccak_round.l5 y1 y80 (keccak_round.l4 k y1 q4) t3 q5 y89 y90 = some r) ?_ ?_ (k := k) ⟨_, 0, g179, g180, g181, y81, (S.sub ⟨rfl, rfl, rfl, rfl, rfl, rfl, rfl, trivial⟩ (.cons .here (.cons .here (.cons .here (.cons .here (.cons .here (.cons .here .nil))))))), h4⟩
        · rintro a w ⟨m, y89, g200, g201, g202, y90, S, h0⟩
          exact (nomatch (show (none : Option ((List Int))) = some r from h0))
        · clear S h4
          rintro q5 a w ⟨m, y89, g200, g201, g202, y90, S, h0⟩
          replace h0 : keccak_round.b5 y1 y80 (keccak_round.l4 k y1 q4) t3 (keccak_round.l5 y1 y80 (keccak_round.l4 k y1 q4) t3 q5) y89 y90 = some r := h0
          delta keccak_round.b5 at h0
          refine wp_seq ?_
          refine c_region ?_
          refine s_move S rfl rfl ?_; clear S a; intro a S
          refine s_bin S rfl rfl rfl rfl ?_; clear S a; intro a S
          refine c_end ?_
          rcases ite_of h0 with ⟨c15, h1⟩ | ⟨c15, h1⟩ <;> clear h0
          · refine c_condT S rfl c15 ?_
            refine wp_skip ?_
            refine x_thenN ?_
            refine wp_seq ?_
            refine wp_block ?_
            refine c_region' ?_
            refine s_move S rfl rfl ?_; clear S a; intro a S
            refine s_move S rfl rfl ?_; clear S a; intro a S
            refine s_bin S rfl rfl rfl rfl ?_; clear S a; intro a S
            obtain ⟨c16, h2⟩ := chk_of h1; clear h1
            refine s_iaddr S rfl rfl Tryd.underlying100 T24 c16.1 c16.2 (mul1 _ _) rfl ?_; clear S a; intro a S
            refine s_loadi S (i := (wr .i64 (y80 + y89))) rfl (.there (.there .here)) T24 .here rfl c16.1 c16.2 rfl ?_; clear S a; intro a S
            refine s_move S rfl rfl ?_; clear S a; intro a S
            refine s_bin S rfl rfl rfl rfl ?_; clear S a; intro a S
            refine s_iaddr S rfl rfl Tryd.underlying100 T24 c16.1 c16.2 (mul1 _ _) rfl ?_; clear S a; intro a S
            refine s_storei S (i := (wr .i64 (y80 + y89))) rfl rfl (.there (.there .here)) T24 .here rfl c16.1 c16.2 ?_; clear S w; intro w S
            refine c_end' ?_
            refine x_blockN ?_
            refine x_thenN ?_
            refine c_region' ?_
            refine s_move S rfl rfl ?_; clear S a; intro a S
            refine s_bin S rfl rfl rfl rfl ?_; clear S a; intro a S
            refine s_assign S rfl rfl ?_; clear S a; intro a S
            refine c_end' ?_
            refine x_thenN ?_
            exact ⟨_, (wr .i64 (y89 + 5)), g200, g201, g202, (y90.set (Int.toNat (wr .i64 (y80 + y89))) (bits .xor .u64 (rd y90 (wr .i64 (y80 + y89))) (bits .xor .u64 (rd y1 (Int.tmod (wr .i64 (y80 + 4)) 5)) t3))), (S.sub ⟨rfl, rfl, rfl, rfl, rfl, rfl, rfl, trivial⟩ (.cons .here (.cons .here (.cons .here (.cons .here (.cons .here (.cons .here .nil))))))), h2⟩
          · refine c_condF S rfl c15 ?_
            refine wp_exit ?_
            refine x_thenX ?_
            refine x_thenX ?_
            refine x_blockX ?_
            refine x_blockN ?_
            refine x_thenN ?_
            exact j6 _ g200 g201 g202 y90 a w (S.sub ⟨rfl, rfl, rfl, rfl, trivial⟩ (.cons .here (.cons .here (.cons .here (.cons .here (.cons .here (.cons .here .nil))))))) h1
      · refine c_condF S rfl c12 ?_
        refine wp_exit ?_
        refine x_thenX ?_
        refine x_thenX ?_
        refine x_blockX ?_
        refine x_thenN ?_
        exact j2 _ g180 g181 y81 a w (S.sub ⟨rfl, rfl, trivial⟩ (.cons (.there .here) (.cons (.there .here) (.cons (.there .here) (.cons (.there .here) (.cons (.there .here) .nil)))))) h1
  refine c_region ?_
  refine s_move S rfl rfl ?_; clear S a; intro a S
  refine c_end ?_
  refine wp_block ?_
  refine c_loop (fun q6 a w => ∃ (m : Mem) (y93 : Int) (g209 : Nat) (g210 : Nat) (g211 : Nat) (y94 : List Int), St 126 m b0 [(15, (.v (.int .i64 y93))), (3, (.v (.pointer (some ⟨g209, 0, none⟩)))), (2, (.v (.pointer (some ⟨g210, 0, none⟩)))), (1, (.v (.pointer (some ⟨g211, 0, none⟩))))] [Res.cells g209 128 [.ints .u64 y94 5], Res.cells g210 100 [.ints .u64 [0, 0, 0, 0, 0, 0, 0, 0, 0, 0, 0, 0, 0, 0, 0, 0, 0, 0, 0, 0, 0, 0, 0, 0, 0] 25], Res.cells g211 100 [.ints .u64 x1 25], Res.fro 0 118 [.ints .u64 tbl_keccak_constants 24], Res.fro 1 131 [.ints .i64 tbl_keccak_places 24], Res.fro 2 131 [.ints .i64 tbl_keccak_turns 24]] a w ∧ keccak_round.l6 k x1 q6 y93 y94 = some r) ?_ ?_ (k := k) ⟨_, 0, g3, g2, g1, [0, 0, 0, 0, 0], (S.sub ⟨rfl, rfl, rfl, rfl, trivial⟩ (.cons .here (.cons .here (.cons .here (.cons .here (.cons .here (.cons .here .nil))))))), h0⟩
  · rintro a w ⟨m, y93, g209, g210, g211, y94, S, h0⟩
    exact (nomatch (show (none : Option ((List Int))) = some r from h0))
  · clear S h0
    rintro q6 a w ⟨m, y93, g209, g210, g211, y94, S, h0⟩
    replace h0 : keccak_round.b6 k x1 (keccak_round.l6 k x1 q6) y93 y94 = some r := h0
    delta keccak_round.b6 at h0
    refine c_region ?_
    refine s_bin S rfl rfl rfl rfl ?_; clear S a; intro a S
    refine c_end ?_
    refine wp_seq ?_
    rcases ite_of h0 with ⟨c17, h1⟩ | ⟨c17, h1⟩ <;> clear h0
    · refine c_condT S rfl c17 ?_
      refine wp_skip ?_
      refine x_thenN ?_
      refine wp_seq ?_
      refine wp_block ?_
      refine c_region ?_
      refine s_move S rfl rfl ?_; clear S a; intro a S
      refine s_assign S rfl rfl ?_; clear S a; intro a S
      refine c_end ?_
      refine c_heldS S (.take 0 (.take 1 (.take 2 (.take 3 (.take 4 (.take 5 (.take 6 (.take 7 (.take 8 (.take 9 (.take 10 (.take 11 (.take 12 (.take 13 (.take 14 (.take 15 (.take 16 (.take 17 (.take 18 (.take 19 (.take 20 (.take 21 (.take 22 (.take 23 (.take 24 (.alts (.run 25 false .done .nil))))))))))))))))))))))))))) 25 [Res.cells g209 128 [.ints .u64 y94 5], Res.cells g210 100 [.ints .u64 [0, 0, 0, 0, 0, 0, 0, 0, 0, 0, 0, 0, 0, 0, 0, 0, 0, 0, 0, 0, 0, 0, 0, 0, 0] 25], Res.cells g211 100 [.ints .u64 x1 25], Res.fro 0 118 [.ints .u64 tbl_keccak_constants 24], Res.fro 1 131 [.ints .i64 tbl_keccak_places 24], Res.fro 2 131 [.ints .i64 tbl_keccak_turns 24]] (.cons .here (.cons .here (.cons .here (.cons .here (.cons .here (.cons .here .nil)))))) ⟨Res.stay_cells, Res.stay_cells, Res.stay_cells, Res.stay_fro, Res.stay_fro, Res.stay_fro, trivial⟩ [(4, (.v (.int .i64 y93))), (3, (.v (.pointer (some ⟨g209, 0, none⟩)))), (1, (.v (.pointer (some ⟨g211, 0, none⟩))))] ⟨rfl, rfl, rfl, trivial⟩ (by kernel_rfl) (by kernel_rfl) ?_; clear S; intro w S CL hw le
      refine h_move S CL hw le ⟨rfl, rfl, rfl, trivial⟩ rfl rfl rfl trivial ?_; clear S CL a; intro a S CL
      refine h_move S CL hw le ⟨rfl, rfl, rfl, rfl, trivial⟩ rfl rfl rfl trivial ?_; clear S CL a; intro a S CL
      obtain ⟨c18, h2⟩ := chk_of h1; clear h1
      refine h_iaddr S CL hw le ⟨rfl, rfl, rfl, rfl, rfl, trivial⟩ rfl rfl Tryd.underlying100 T24 c18.1 c18.2 (mul1 _ _) rfl rfl trivial ?_; clear S CL a; intro a S CL
      refine h_loadi S CL hw le ⟨rfl, rfl, rfl, rfl, rfl, rfl, trivial⟩ (i := y93) rfl (.there (.there .here)) T24 .here rfl c18.1 c18.2 rfl rfl trivial ?_; clear S CL a; intro a S CL
      refine h_move S CL hw le ⟨rfl, rfl, rfl, rfl, rfl, rfl, rfl, trivial⟩ rfl rfl rfl trivial ?_; clear S CL a; intro a S CL
      refine h_bin S CL hw le ⟨rfl, rfl, rfl, rfl, rfl, rfl, rfl, rfl, trivial⟩ rfl rfl rfl rfl rfl trivial ?_; clear S CL a; intro a S CL
      obtain ⟨c19, h3⟩ := chk_of h2; clear h2
      refine h_iaddr S CL hw le ⟨rfl, rfl, rfl, rfl, rfl, rfl, rfl, rfl, rfl, trivial⟩ rfl rfl Tryd.underlying100 T24 c19.1 c19.2 (mul1 _ _) rfl rfl trivial ?_; clear S CL a; intro a S CL
      refine h_loadi S CL hw le ⟨rfl, rfl, rfl, rfl, rfl, rfl, rfl, rfl, rfl, rfl, trivial⟩ (i := (wr .i64 (y93 + 5))) rfl (.there (.there .here)) T24 .here rfl c19.1 c19.2 rfl rfl trivial ?_; clear S CL a; intro a S CL
      refine h_bin S CL hw le ⟨rfl, rfl, rfl, rfl, rfl, rfl, rfl, rfl, rfl, rfl, rfl, trivial⟩ rfl rfl rfl rfl rfl trivial ?_; clear S CL a; intro a S CL
      refine h_move S CL hw le ⟨rfl, rfl, rfl, rfl, rfl, rfl, rfl, rfl, rfl, rfl, rfl, rfl, trivial⟩ rfl rfl rfl trivial ?_; clear S CL a; intro a S CL
      refine h_bin S CL hw le ⟨rfl, rfl, rfl, rfl, rfl, rfl, rfl, rfl, rfl, rfl, rfl, rfl, rfl, trivial⟩ rfl rfl rfl rfl rfl trivial ?_; clear S CL a; intro a S CL
      obtain ⟨c20, h4⟩ := chk_of h3; clear h3
      refine h_iaddr S CL hw le ⟨rfl, rfl, rfl, rfl, rfl, rfl, rfl, rfl, rfl, rfl, rfl, rfl, rfl, rfl, trivial⟩ rfl rfl Tryd.underlying100 T24 c20.1 c20.2 (mul1 _ _) rfl rfl trivial ?_; clear S CL a; intro a S CL
      refine h_loadi S CL hw le ⟨rfl, rfl, rfl, rfl, rfl, rfl, rfl, rfl, rfl, rfl, rfl, rfl, rfl, rfl, rfl, trivial⟩ (i := (wr .i64 (y93 + 10))) rfl (.there (.there .here)) T24 .here rfl c20.1 c20.2 rfl rfl trivial ?_; clear S CL a; intro a S CL
      refine h_bin S CL hw le ⟨rfl, rfl, rfl, rfl, rfl, rfl, rfl, rfl, rfl, rfl, rfl, rfl, rfl, rfl, rfl, rfl, trivial⟩ rfl rfl rfl rfl rfl trivial ?_; clear S CL a; intro a S CL
      refine h_move S CL hw le ⟨rfl, rfl, rfl, rfl, rfl, rfl, rfl, rfl, rfl, rfl, rfl, rfl, rfl, rfl, rfl, rfl, rfl, trivial⟩ rfl rfl rfl trivial ?_; clear S CL a; intro a S CL
      refine h_bin S CL hw le ⟨rfl, rfl, rfl, rfl, rfl, rfl, rfl, rfl, rfl, rfl, rfl, rfl, rfl, rfl, rfl, rfl, rfl, rfl, trivial⟩ rfl rfl rfl rfl rfl trivial ?_; clear S CL a; intro a S CL
      obtain ⟨c21, h5⟩ := chk_of h4; clear h4
      refine h_iaddr S CL hw le ⟨rfl, rfl, rfl, rfl, rfl, rfl, rfl, rfl, rfl, rfl, rfl, rfl, rfl, rfl, rfl, rfl, rfl, rfl, rfl, trivial⟩ rfl rfl Tryd.underlying100 T24 c21.1 c21.2 (mul1 _ _) rfl rfl trivial ?_; clear S CL a; intro a S CL
      refine h_loadi S CL hw le ⟨rfl, rfl, rfl, rfl, rfl, rfl, rfl, rfl, rfl, rfl, rfl, rfl, rfl, rfl, rfl, rfl, rfl, rfl, rfl, rfl, trivial⟩ (i := (wr .i64 (y93 + 15))) rfl (.there (.there .here)) T24 .here rfl c21.1 c21.2 rfl rfl trivial ?_; clear S CL a; intro a S CL
      refine h_bin S CL hw le ⟨rfl, rfl, rfl, rfl, rfl, rfl, rfl, rfl, rfl, rfl, rfl, rfl, rfl, rfl, rfl, rfl, rfl, rfl, rfl, rfl, rfl, trivial⟩ rfl rfl rfl rfl rfl trivial ?_; clear S CL a; intro a S CL
      refine h_move S CL hw le ⟨rfl, rfl, rfl, rfl, rfl, rfl, rfl, rfl, rfl, rfl, rfl, rfl, rfl, rfl, rfl, rfl, rfl, rfl, rfl, rfl, rfl, rfl, trivial⟩ rfl rfl rfl trivial ?_; clear S CL a; intro a S CL
      refine h_bin S CL hw le ⟨rfl, rfl, rfl, rfl, rfl, rfl, rfl, rfl, rfl, rfl, rfl, rfl, rfl, rfl, rfl, rfl, rfl, rfl, rfl, rfl, rfl, rfl, rfl, trivial⟩ rfl rfl rfl rfl rfl trivial ?_; clear S CL a; intro a S CL
      obtain ⟨c22, h6⟩ := chk_of h5; clear h5
      refine h_iaddr S CL hw le ⟨rfl, rfl, rfl, rfl, rfl, rfl, rfl, rfl, rfl, rfl, rfl, rfl, rfl, rfl, rfl, rfl, rfl, rfl, rfl, rfl, rfl, rfl, rfl, rfl, trivial⟩ rfl rfl Tryd.underlying100 T24 c22.1 c22.2 (mul1 _ _) rfl rfl trivial ?_; clear S CL a; intro a S CL
      refine h_loadi S CL hw le ⟨rfl, rfl, rfl, rfl, rfl, rfl, rfl, rfl, rfl, rfl, rfl, rfl, rfl, rfl, rfl, rfl, rfl, rfl, rfl, rfl, rfl, rfl, rfl, rfl, rfl, trivial⟩ (i := (wr .i64 (y93 + 20))) rfl (.there (.there .here)) T24 .here rfl c22.1 c22.2 rfl rfl trivial ?_; clear S CL a; intro a S CL
      refine h_bin S CL hw le ⟨rfl, rfl, rfl, rfl, rfl, rfl, rfl, rfl, rfl, rfl, rfl, rfl, rfl, rfl, rfl, rfl, rfl, rfl, rfl, rfl, rfl, rfl, rfl, rfl, rfl, rfl, trivial⟩ rfl rfl rfl rfl rfl trivial ?_; clear S CL a; intro a S CL
      obtain ⟨c23, h7⟩ := chk_of h6; clear h6
      refine h_iaddr S CL hw le ⟨rfl, rfl, rfl, rfl, rfl, rfl, rfl, rfl, rfl, rfl, rfl, rfl, rfl, rfl, rfl, rfl, rfl, rfl, rfl, rfl, rfl, rfl, rfl, rfl, rfl, rfl, rfl, trivial⟩ rfl rfl Tryd.underlying128 T24 c23.1 c23.2 (mul1 _ _) rfl rfl trivial ?_; clear S CL a; intro a S CL
      refine h_run' S rfl trivial ?_
      refine s_storei S (i := y93) rfl rfl .here T24 .here rfl c23.1 c23.2 ?_; clear S; intro w S
      refine h_back ⟨fun h => (nomatch h), ?_⟩
      refine h_done ?_; clear CL hw le
      refine x_blockN ?_
      refine x_thenN ?_
      refine c_region' ?_
      refine s_bin S rfl rfl rfl rfl ?_; clear S a; intro a S
      refine s_move S rfl rfl ?_; clear S a; intro a S
      refine c_end' ?_
      refine x_thenN ?_
      exact ⟨_, (wr .i64 (y93 + 1)), g209, g210, g211, (y94.set (Int.toNat y93) (bits .xor .u64 (bits .xor .u64 (bits .xor .u64 (bits .xor .u64 (rd x1 y93) (rd x1 (wr .i64 (y93 + 5)))) (rd x1 (wr .i64 (y93 + 10)))) (rd x1 (wr .i64 (y93 + 15)))) (rd x1 (wr .i64 (y93 + 20))))), (S.sub ⟨rfl, rfl, rfl, rfl, trivial⟩ (.cons .here (.cons .here (.cons .here (.cons .here (.cons .here (.cons .here .nil))))))), h7⟩
    · refine c_condF S rfl c17 ?_
      refine wp_exit ?_
      refine x_thenX ?_
      refine x_thenX ?_
      refine x_blockX ?_
      refine x_thenN ?_
      exact j1 _ g209 g210 g211 y94 a w (S.sub ⟨rfl, rfl, rfl, trivial⟩ (.cons .here (.cons .here (.cons .here (.cons .here (.cons .here (.cons .here .nil))))))) h1
/-! smithy/keccak.Turn -/
abbrev keccak_Turn.Ty : Type := (List Int) → Option ((List Int))
def keccak_Turn.Ctr (s : keccak_Turn.Ty) : Prop := ∀ (x1 : List Int) (r : (List Int)) (h0 : s x1 = some r) (mi : Mem) (w0 : World) (G : Glob mi), okL mi [(.agg [.ints .u64 x1 25])] → Pre mi [] w0 → Calls Tryd.prog 85 (([(.agg [.ints .u64 x1 25])] : List D).map D.val).toArray w0 (RetX mi [] (fun (ch : Unit) => ((.agg [.ints .u64 r 25]) : D)) (fun (ch : Unit) => []) w0)
def keccak_Turn.j1 (y1 : List Int) : Option ((List Int)) := some y1
def keccak_Turn.b1 (k : Nat) (rec1 : Int → (List Int) → Option ((List Int))) (y4 : Int) (y5 : List Int) : Option ((List Int)) := if (decide (y4 < 24)) = true then (if (0 : Int) ≤ y4 ∧ y4 < 24 then ((keccak_round.f k y5).bind fun t1 => (rec1 (wr .i64 (y4 + 1)) (t1.set (Int.toNat 0) (bits .xor .u64 (rd t1 0) (rd tbl_keccak_constants y4))))) else none) else (keccak_Turn.j1 y5)
def keccak_Turn.l1 (k : Nat) : Nat → Int → (List Int) → Option ((List Int))
  | 0, _, _ => none
  | q + 1, y4, y5 => keccak_Turn.b1 k (keccak_Turn.l1 k q) y4 y5
def keccak_Turn.f (k : Nat) (x1 : List Int) : Option ((List Int)) := keccak_Turn.l1 k k 0 x1
theorem keccak_Turn.ok (k : Nat) : keccak_Turn.Ctr (keccak_Turn.f k) := by
  intro x1 r h0 mi w0 G ok hm
  delta keccak_Turn.f at h0
  refine c_enterX (n := 18) [(.agg [.ints .u64 x1 25])] (l := [(0, (.agg [.ints .u64 x1 25]))]) Tryd.func85 rfl rfl rfl rfl ok hm ?_
  clear ok hm
  intro b0 hb a S
  replace S := S.addfro (g := 2) 131 G.2.2
  replace S := S.addfro (g := 1) 131 G.2.1
  replace S := S.addfro (g := 0) 118 G.1
  refine c_region ?_
  refine s_box S rfl rfl rfl ?_; clear S a; intro g1 a w S
  refine s_alloc S Z100 rfl ⟨rfl, trivial⟩ rfl ?_; clear S a w; intro g2 a w S
  refine c_end ?_
  refine wp_seq_k ?_
  intro K1 hK1
  have j1 : ∀ (m : Mem) (g9 : Nat) (g10 : Nat) (y1 : List Int) (a : Act) (w : World), St 18 m b0 [(2, (.v (.pointer (some ⟨g9, 0, none⟩)))), (1, (.v (.pointer (some ⟨g10, 0, none⟩))))] [Res.cells g9 100 [.ints .u64 [0, 0, 0, 0, 0, 0, 0, 0, 0, 0, 0, 0, 0, 0, 0, 0, 0, 0, 0, 0, 0, 0, 0, 0, 0] 25], Res.cells g10 100 [.ints .u64 y1 25], Res.fro 0 118 [.ints .u64 tbl_keccak_constants 24], Res.fro 1 131 [.ints .i64 tbl_keccak_places 24], Res.fro 2 131 [.ints .i64 tbl_keccak_turns 24]] a w → keccak_Turn.j1 y1 = some r → K1 a w := by
    intro m g9 g10 y1 a w S h0
    delta keccak_Turn.j1 at h0
    refine hK1 a w ?_
    refine c_region ?_
    refine s_loada S rfl (.there .here) T100 (s' := [.ints .u64 y1 25]) rfl rfl ?_; clear S a; intro a S
    refine s_store S rfl rfl rfl (s' := [.ints .u64 y1 25]) .here T100 rfl rfl ?_; clear S w; intro w S
    refine c_end ?_
    refine wp_ret ?_
    obtain rfl := Option.some.inj h0
    exact b_ret1 (d := (.agg [.ints .u64 y1 25])) S rfl (resD_cell rfl .here T100 rfl rfl) fun ok => S.retX (Hx := []) hb _ _ (() : Unit) .nil ok
  refine c_region ?_
  refine s_loadaF S rfl (.there (.there .here)) T118 (s' := [.ints .u64 tbl_keccak_constants 24]) rfl rfl ?_; clear S a; intro a S
  refine s_move S rfl rfl ?_; clear S a; intro a S
  refine c_end ?_
  refine wp_block ?_
  refine c_loop (fun q1 a w => ∃ (m : Mem) (y4 : Int) (g15 : Nat) (g16 : Nat) (y5 : List Int), St 18 m b0 [(6, (.v (.int .i64 y4))), (5, (.agg [.ints .u64 tbl_keccak_constants 24])), (2, (.v (.pointer (some ⟨g15, 0, none⟩)))), (1, (.v (.pointer (some ⟨g16, 0, none⟩))))] [Res.cells g15 100 [.ints .u64 [0, 0, 0, 0, 0, 0, 0, 0, 0, 0, 0, 0, 0, 0, 0, 0, 0, 0, 0, 0, 0, 0, 0, 0, 0] 25], Res.cells g16 100 [.ints .u64 y5 25], Res.fro 0 118 [.ints .u64 tbl_keccak_constants 24], Res.fro 1 131 [.ints .i64 tbl_keccak_places 24], Res.fro 2 131 [.ints .i64 tbl_keccak_turns 24]] a w ∧ keccak_Turn.l1 k q1 y4 y5 = some r) ?_ ?_ (k := k) ⟨_, 0, g2, g1, x1, (S.sub ⟨rfl, rfl, rfl, rfl, trivial⟩ (.cons .here (.cons .here (.cons .here (.cons .here (.cons .here .nil)))))), h0⟩
  · rintro a w ⟨m, y4, g15, g16, y5, S, h0⟩
    exact (nomatch (show (none : Option ((List Int))) = some r from h0))
  · clear S h0
    rintro q1 a w ⟨m, y4, g15, g16, y5, S, h0⟩
    replace h0 : keccak_Turn.b1 k (keccak_Turn.l1 k q1) y4 y5 = some r := h0
    delta keccak_Turn.b1 at h0
    refine c_region ?_
    refine s_bin S rfl rfl rfl rfl ?_; clear S a; intro a S
    refine c_end ?_
    refine wp_seq ?_
    rcases ite_of h0 with ⟨c1, h1⟩ | ⟨c1, h1⟩ <;> clear h0
    · refine c_condT S rfl c1 ?_
      refine wp_skip ?_
      refine x_thenN ?_
      refine wp_seq ?_
      refine wp_block ?_
      refine c_region ?_
      obtain ⟨c2, h2⟩ := chk_of h1; clear h1
      refine s_index S rfl rfl Tryd.underlying118 T24 c2.1 c2.2 rfl ?_; clear S a; intro a S
      refine s_assign S rfl rfl ?_; clear S a; intro a S
      refine c_end ?_
      refine c_region ?_
      refine s_loada S rfl (.there .here) T100 (s' := [.ints .u64 y5 25]) rfl rfl ?_; clear S a; intro a S
      obtain ⟨t1, et1, h3⟩ := bind_of h2; clear h2
      refine s_callP S (fun (ch : Unit) => ((.agg [.ints .u64 t1 25]) : D)) N92 rfl rfl (keccak_round.ok k y5 t1 et1 _ _ (G.mono (S.leB hb))) ?_; clear S a w; intro ch1 m le1 a w S
      refine s_store S rfl rfl rfl (s' := [.ints .u64 t1 25]) (.there .here) T100 rfl rfl ?_; clear S w; intro w S
      refine c_end ?_
      refine c_region' ?_
      refine s_iaddr S (o' := 0) rfl rfl Tryd.underlying100 T24 (by decide) (by decide) rfl rfl ?_; clear S a; intro a S
      refine s_loadi S (i := 0) rfl (.there .here) T24 .here rfl (by decide) (by decide) rfl ?_; clear S a; intro a S
      refine s_move S rfl rfl ?_; clear S a; intro a S
      refine s_bin S rfl rfl rfl rfl ?_; clear S a; intro a S
      refine s_iaddr S (o' := 0) rfl rfl Tryd.underlying100 T24 (by decide) (by decide) rfl rfl ?_; clear S a; intro a S
      refine s_storei S (i := 0) rfl rfl (.there .here) T24 .here rfl (by decide) (by decide) ?_; clear S w; intro w S
      refine c_end' ?_
      refine x_blockN ?_
      refine x_thenN ?_
      refine c_region' ?_
      refine s_bin S rfl rfl rfl rfl ?_; clear S a; intro a S
      refine s_move S rfl rfl ?_; clear S a; intro a S
      refine c_end' ?_
      refine x_thenN ?_
      exact ⟨_, (wr .i64 (y4 + 1)), g15, g16, (t1.set (Int.toNat 0) (bits .xor .u64 (rd t1 0) (rd tbl_keccak_constants y4))), (S.sub ⟨rfl, rfl, rfl, rfl, trivial⟩ (.cons .here (.cons .here (.cons .here (.cons .here (.cons .here .nil)))))), h3⟩
    · refine c_condF S rfl c1 ?_
      refine wp_exit ?_
      refine x_thenX ?_
      refine x_thenX ?_
      refine x_blockX ?_
      refine x_thenN ?_
      exact j1 _ g15 g16 y5 a w (S.sub ⟨rfl, rfl, trivial⟩ (.cons .here (.cons .here (.cons .here (.cons .here (.cons .here .nil)))))) h1
/-! smithy/keccak.absorb -/
abbrev keccak_absorb.Ty : Type := (List Int) → (List Int) → Option ((List Int))
def keccak_absorb.Ctr (s : keccak_absorb.Ty) : Prop := ∀ (x1 : List Int) (x2 : List Int) (ch_1_0 : Option Addr) (ch_1_1 : Nat) (r : (List Int)) (h0 : s x1 x2 = some r) (mi : Mem) (w0 : World) (G : Glob mi), okL mi [(.agg [.ints .u64 x1 25]), (.sl ch_1_0 (x2).length ch_1_1 (RdS (Ty.int .u8) ch_1_0 x2))] → Pre mi [] w0 → Calls Tryd.prog 69 (([(.agg [.ints .u64 x1 25]), (.sl ch_1_0 (x2).length ch_1_1 (RdS (Ty.int .u8) ch_1_0 x2))] : List D).map D.val).toArray w0 (RetX mi [] (fun (ch : Unit) => ((.agg [.ints .u64 r 25]) : D)) (fun (ch : Unit) => []) w0)
def keccak_absorb.j1 (k : Nat) (y1 : List Int) : Option ((List Int)) := (keccak_Turn.f k y1).bind fun t1 => (some t1)
def keccak_absorb.b1 (k : Nat) (x2 : List Int) (rec1 : Int → (List Int) → Option ((List Int))) (y4 : Int) (y5 : List Int) : Option ((List Int)) := if (decide (y4 < ((x2).length : Int))) = true then (if (0 : Int) ≤ y4 ∧ y4 < ((x2).length : Int) then (if (0 : Int) ≤ (wr .i64 (Int.tdiv y4 8)) ∧ (wr .i64 (Int.tdiv y4 8)) < 25 then (if (0 : Int) ≤ (wr .i64 ((Int.tmod y4 8) * 8)) then (rec1 (wr .i64 (y4 + 1)) (y5.set (Int.toNat (wr .i64 (Int.tdiv y4 8))) (bits .xor .u64 (rd y5 (wr .i64 (Int.tdiv y4 8))) (shl .u64 (wr .u64 (rd x2 y4)) (min (Int.toNat (wr .i64 ((Int.tmod y4 8) * 8))) 64))))) else none) else none) else none) else (keccak_absorb.j1 k y5)
def keccak_absorb.l1 (k : Nat) (x2 : List Int) : Nat → Int → (List Int) → Option ((List Int))
  | 0, _, _ => none
  | q + 1, y4, y5 => keccak_absorb.b1 k x2 (keccak_absorb.l1 k x2 q) y4 y5
def keccak_absorb.f (k : Nat) (x1 : List Int) (x2 : List Int) : Option ((List Int)) := keccak_absorb.l1 k x2 k 0 x1
theorem keccak_absorb.ok (k : Nat) : keccak_absorb.Ctr (keccak_absorb.f k) := by
  intro x1 x2 ch_1_0 ch_1_1 r h0 mi w0 G ok hm
  delta keccak_absorb.f at h0
  refine c_enterX (n := 29) [(.agg [.ints .u64 x1 25]), (.sl ch_1_0 (x2).length ch_1_1 (RdS (Ty.int .u8) ch_1_0 x2))] (l := [(0, (.agg [.ints .u64 x1 25])), (1, (.sl ch_1_0 (x2).length ch_1_1 (RdS (Ty.int .u8) ch_1_0 x2)))]) Tryd.func69 rfl rfl rfl rfl ok hm ?_
  clear ok hm
  intro b0 hb a S
  refine c_region ?_
  refine s_box S rfl rfl rfl ?_; clear S a; intro g1 a w S
  refine s_alloc S Z100 rfl ⟨rfl, trivial⟩ rfl ?_; clear S a w; intro g2 a w S
  refine c_end ?_
  refine wp_seq_k ?_
  intro K1 hK1
  have j1 : ∀ (m : Mem) (g9 : Nat) (g10 : Nat) (y1 : List Int) (a : Act) (w : World), St 29 m b0 [(4, (.v (.pointer (some ⟨g9, 0, none⟩)))), (2, (.v (.pointer (some ⟨g10, 0, none⟩))))] [Res.cells g9 100 [.ints .u64 [0, 0, 0, 0, 0, 0, 0, 0, 0, 0, 0, 0, 0, 0, 0, 0, 0, 0, 0, 0, 0, 0, 0, 0, 0] 25], Res.cells g10 100 [.ints .u64 y1 25]] a w → keccak_absorb.j1 k y1 = some r → K1 a w := by
    intro m g9 g10 y1 a w S h0
    delta keccak_absorb.j1 at h0
    refine hK1 a w ?_
    refine c_region ?_
    refine s_loada S rfl (.there .here) T100 (s' := [.ints .u64 y1 25]) rfl rfl ?_; clear S a; intro a S
    obtain ⟨t1, et1, h1⟩ := bind_of h0; clear h0
    refine s_callP S (fun (ch : Unit) => ((.agg [.ints .u64 t1 25]) : D)) N85 rfl rfl (keccak_Turn.ok k y1 t1 et1 _ _ (G.mono (S.leB hb))) ?_; clear S a w; intro ch1 m le1 a w S
    refine s_store S rfl rfl rfl (s' := [.ints .u64 t1 25]) .here T100 rfl rfl ?_; clear S w; intro w S
    refine c_end ?_
    refine wp_ret ?_
    obtain rfl := Option.some.inj h1
    exact b_ret1 (d := (.agg [.ints .u64 t1 25])) S rfl (resD_cell rfl .here T100 rfl rfl) fun ok => S.retX (Hx := []) hb _ _ (() : Unit) .nil ok
  refine c_region ?_
  refine s_move S rfl rfl ?_; clear S a; intro a S
  refine s_lenS S rfl Tryd.underlying37 rfl ?_; clear S a; intro a S
  refine s_move S rfl rfl ?_; clear S a; intro a S
  refine c_end ?_
  refine wp_block ?_
  refine c_loop (fun q1 a w => ∃ (m : Mem) (y4 : Int) (g15 : Nat) (g16 : Nat) (y5 : List Int), St 29 m b0 [(9, (.v (.int .i64 y4))), (8, (.v (.int .i64 ((x2).length : Int)))), (7, (.sl ch_1_0 (x2).length ch_1_1 (RdS (Ty.int .u8) ch_1_0 x2))), (4, (.v (.pointer (some ⟨g15, 0, none⟩)))), (2, (.v (.pointer (some ⟨g16, 0, none⟩))))] [Res.cells g15 100 [.ints .u64 [0, 0, 0, 0, 0, 0, 0, 0, 0, 0, 0, 0, 0, 0, 0, 0, 0, 0, 0, 0, 0, 0, 0, 0, 0] 25], Res.cells g16 100 [.ints .u64 y5 25]] a w ∧ keccak_absorb.l1 k x2 q1 y4 y5 = some r) ?_ ?_ (k := k) ⟨_, 0, g2, g1, x1, (S.sub ⟨rfl, rfl, rfl, rfl, rfl, trivial⟩ (.cons .here (.cons .here .nil))), h0⟩
  · rintro a w ⟨m, y4, g15, g16, y5, S, h0⟩
    exact (nomatch (show (none : Option ((List Int))) = some r from h0))
  · clear S h0
    rintro q1 a w ⟨m, y4, g15, g16, y5, S, h0⟩
    replace h0 : keccak_absorb.b1 k x2 (keccak_absorb.l1 k x2 q1) y4 y5 = some r := h0
    delta keccak_absorb.b1 at h0
    refine c_region ?_
    refine s_bin S rfl rfl rfl rfl ?_; clear S a; intro a S
    refine c_end ?_
    refine wp_seq ?_
    rcases ite_of h0 with ⟨c1, h1⟩ | ⟨c1, h1⟩ <;> clear h0
    · refine c_condT S rfl c1 ?_
      refine wp_skip ?_
      refine x_thenN ?_
      refine wp_seq ?_
      refine wp_block ?_
      refine c_region ?_
      refine s_move S rfl rfl ?_; clear S a; intro a S
      obtain ⟨c2, h2⟩ := chk_of h1; clear h1
      refine s_iaddrS S rfl rfl rfl Tryd.underlying37 T5 c2.1 c2.2 rfl ?_; clear S a; intro p1 a S
      refine s_ld1 S (v := (.int .u8 (rd x2 y4))) rfl T5 (fun _ => rfl) rfl ?_; clear S a; intro a S
      refine s_assign S rfl rfl ?_; clear S a; intro a S
      refine s_assign S rfl rfl ?_; clear S a; intro a S
      refine c_end ?_
      refine c_heldS S (.take 0 (.take 1 (.take 2 (.take 3 (.take 4 (.take 5 (.take 6 (.take 7 (.take 8 (.take 9 (.take 10 (.take 11 (.alts (.run 12 false .done .nil)))))))))))))) 12 [Res.cells g15 100 [.ints .u64 [0, 0, 0, 0, 0, 0, 0, 0, 0, 0, 0, 0, 0, 0, 0, 0, 0, 0, 0, 0, 0, 0, 0, 0, 0] 25], Res.cells g16 100 [.ints .u64 y5 25]] (.cons .here (.cons .here .nil)) ⟨Res.stay_cells, Res.stay_cells, trivial⟩ [(6, (.v (.int .u8 (rd x2 y4)))), (5, (.v (.int .i64 y4))), (2, (.v (.pointer (some ⟨g16, 0, none⟩))))] ⟨rfl, rfl, rfl, trivial⟩ (by kernel_rfl) (by kernel_rfl) ?_; clear S; intro w S CL hw le
      refine h_move S CL hw le ⟨rfl, rfl, rfl, trivial⟩ rfl rfl rfl trivial ?_; clear S CL a; intro a S CL
      refine h_quo S CL hw le ⟨rfl, rfl, rfl, rfl, trivial⟩ rfl rfl (by decide) rfl rfl trivial ?_; clear S CL a; intro a S CL
      obtain ⟨c3, h3⟩ := chk_of h2; clear h2
      refine h_iaddr S CL hw le ⟨rfl, rfl, rfl, rfl, rfl, trivial⟩ rfl rfl Tryd.underlying100 T24 c3.1 c3.2 (mul1 _ _) rfl rfl trivial ?_; clear S CL a; intro a S CL
      refine h_loadi S CL hw le ⟨rfl, rfl, rfl, rfl, rfl, rfl, trivial⟩ (i := (wr .i64 (Int.tdiv y4 8))) rfl (.there .here) T24 .here rfl c3.1 c3.2 rfl rfl trivial ?_; clear S CL a; intro a S CL
      refine h_move S CL hw le ⟨rfl, rfl, rfl, rfl, rfl, rfl, rfl, trivial⟩ rfl rfl rfl trivial ?_; clear S CL a; intro a S CL
      refine h_conv S CL hw le ⟨rfl, rfl, rfl, rfl, rfl, rfl, rfl, rfl, trivial⟩ rfl rfl Tryd.underlying24 rfl rfl trivial ?_; clear S CL a; intro a S CL
      refine h_move S CL hw le ⟨rfl, rfl, rfl, rfl, rfl, rfl, rfl, rfl, rfl, trivial⟩ rfl rfl rfl trivial ?_; clear S CL a; intro a S CL
      refine h_rem S CL hw le ⟨rfl, rfl, rfl, rfl, rfl, rfl, rfl, rfl, rfl, rfl, trivial⟩ rfl rfl (by decide) rfl rfl trivial ?_; clear S CL a; intro a S CL
      refine h_bin S CL hw le ⟨rfl, rfl, rfl, rfl, rfl, rfl, rfl, rfl, rfl, rfl, rfl, trivial⟩ rfl rfl rfl rfl rfl trivial ?_; clear S CL a; intro a S CL
      obtain ⟨c4, h4⟩ := chk_of h3; clear h3
      refine h_shl S CL hw le ⟨rfl, rfl, rfl, rfl, rfl, rfl, rfl, rfl, rfl, rfl, rfl, rfl, trivial⟩ (e := (min (Int.toNat (wr .i64 ((Int.tmod y4 8) * 8))) 64)) rfl rfl c4 rfl rfl rfl trivial ?_; clear S CL a; intro a S CL
      refine h_bin S CL hw le ⟨rfl, rfl, rfl, rfl, rfl, rfl, rfl, rfl, rfl, rfl, rfl, rfl, rfl, trivial⟩ rfl rfl rfl rfl rfl trivial ?_; clear S CL a; intro a S CL
      refine h_iaddr S CL hw le ⟨rfl, rfl, rfl, rfl, rfl, rfl, rfl, rfl, rfl, rfl, rfl, rfl, rfl, rfl, trivial⟩ rfl rfl Tryd.underlying100 T24 c3.1 c3.2 (mul1 _ _) rfl rfl trivial ?_; clear S CL a; intro a S CL
      refine h_run' S rfl trivial ?_
      refine s_storei S (i := (wr .i64 (Int.tdiv y4 8))) rfl rfl (.there .here) T24 .here rfl c3.1 c3.2 ?_; clear S; intro w S
      refine h_back ⟨fun h => (nomatch h), ?_⟩
      refine h_done ?_; clear CL hw le
      refine x_blockN ?_
      refine x_thenN ?_
      refine c_region' ?_
      refine s_bin S rfl rfl rfl rfl ?_; clear S a; intro a S
      refine s_move S rfl rfl ?_; clear S a; intro a S
      refine c_end' ?_
      refine x_thenN ?_
      exact ⟨_, (wr .i64 (y4 + 1)), g15, g16, (y5.set (Int.toNat (wr .i64 (Int.tdiv y4 8))) (bits .xor .u64 (rd y5 (wr .i64 (Int.tdiv y4 8))) (shl .u64 (wr .u64 (rd x2 y4)) (min (Int.toNat (wr .i64 ((Int.tmod y4 8) * 8))) 64)))), (S.sub ⟨rfl, rfl, rfl, rfl, rfl, trivial⟩ (.cons .here (.cons .here .nil))), h4⟩
    · refine c_condF S rfl c1 ?_
      refine wp_exit ?_
      refine x_thenX ?_
      refine x_thenX ?_
      refine x_blockX ?_
      refine x_thenN ?_
      exact j1 _ g15 g16 y5 a w (S.sub ⟨rfl, rfl, trivial⟩ (.cons .here (.cons .here .nil))) h1
/-! smithy/keccak.Sum -/
abbrev keccak_Sum.Ty : Type := (List Int) → Option ((List Int))
def keccak_Sum.Ctr (s : keccak_Sum.Ty) : Prop := ∀ (x1 : List Int) (ch_0_0 : Option Addr) (ch_0_1 : Nat) (r : (List Int)) (h0 : s x1 = some r) (mi : Mem) (w0 : World) (G : Glob mi), okL mi [(.sl ch_0_0 (x1).length ch_0_1 (RdS (Ty.int .u8) ch_0_0 x1))] → Pre mi [] w0 → Calls Tryd.prog 42 (([(.sl ch_0_0 (x1).length ch_0_1 (RdS (Ty.int .u8) ch_0_0 x1))] : List D).map D.val).toArray w0 (RetX mi [] (fun (ch : Unit) => ((.agg [.ints .u8 r 32]) : D)) (fun (ch : Unit) => []) w0)
def keccak_Sum.j2 (y7 : List Int) : Option ((List Int)) := some y7
def keccak_Sum.b1 (t1 : (List Int)) (rec1 : Int → (List Int) → Option ((List Int))) (y10 : Int) (y11 : List Int) : Option ((List Int)) := if (decide (y10 < 32)) = true then (if (0 : Int) ≤ (wr .i64 (Int.tdiv y10 8)) ∧ (wr .i64 (Int.tdiv y10 8)) < 25 then (if (0 : Int) ≤ (wr .i64 ((Int.tmod y10 8) * 8)) then (if (0 : Int) ≤ y10 ∧ y10 < 32 then (rec1 (wr .i64 (y10 + 1)) (y11.set (Int.toNat y10) (wr .u8 (shr (rd t1 (wr .i64 (Int.tdiv y10 8))) (min (Int.toNat (wr .i64 ((Int.tmod y10 8) * 8))) 64))))) else none) else none) else none) else (keccak_Sum.j2 y11)
def keccak_Sum.l1 (t1 : (List Int)) : Nat → Int → (List Int) → Option ((List Int))
  | 0, _, _ => none
  | q + 1, y10, y11 => keccak_Sum.b1 t1 (keccak_Sum.l1 t1 q) y10 y11
def keccak_Sum.j1 (k : Nat) (y1 : List Int) (y2 : List Int) : Option ((List Int)) := if (0 : Int) ≤ ((min (y1).length 136 : Nat) : Int) ∧ ((min (y1).length 136 : Nat) : Int) < 136 then ((keccak_absorb.f k y2 (((((cpy (List.replicate 136 0) 0 y1 (min (y1).length 136)).set (Int.toNat ((min (y1).length 136 : Nat) : Int)) 1).set (Int.toNat 135) (bits .or .u8 (rd ((cpy (List.replicate 136 0) 0 y1 (min (y1).length 136)).set (Int.toNat ((min (y1).length 136 : Nat) : Int)) 1) 135) 128)).drop 0).take 136)).bind fun t1 => (keccak_Sum.l1 t1 k 0 [0, 0, 0, 0, 0, 0, 0, 0, 0, 0, 0, 0, 0, 0, 0, 0, 0, 0, 0, 0, 0, 0, 0, 0, 0, 0, 0, 0, 0, 0, 0, 0])) else none
def keccak_Sum.b2 (k : Nat) (rec2 : (List Int) → (List Int) → Option ((List Int))) (y14 : List Int) (y15 : List Int) : Option ((List Int)) := if (decide (136 ≤ ((y14).length : Int))) = true then (if (0 : Int) ≤ 0 ∧ (0 : Int) ≤ 136 ∧ 136 ≤ ((y14).length : Int) then ((keccak_absorb.f k y15 (y14.take (Int.toNat 136))).bind fun t4 => (if (0 : Int) ≤ 136 ∧ (136 : Int) ≤ ((y14).length : Int) ∧ ((y14).length : Int) ≤ ((y14).length : Int) then (rec2 (y14.drop (Int.toNat 136)) t4) else none)) else none) else (keccak_Sum.j1 k y14 y15)
def keccak_Sum.l2 (k : Nat) : Nat → (List Int) → (List Int) → Option ((List Int))
  | 0, _, _ => none
  | q + 1, y14, y15 => keccak_Sum.b2 k (keccak_Sum.l2 k q) y14 y15
def keccak_Sum.f (k : Nat) (x1 : List Int) : Option ((List Int)) := keccak_Sum.l2 k k x1 [0, 0, 0, 0, 0, 0, 0, 0, 0, 0, 0, 0, 0, 0, 0, 0, 0, 0, 0, 0, 0, 0, 0, 0, 0]
theorem keccak_Sum.ok (k : Nat) : keccak_Sum.Ctr (keccak_Sum.f k) := by
  intro x1 ch_0_0 ch_0_1 r h0 mi w0 G ok hm
  delta keccak_Sum.f at h0
  refine c_enterX (n := 45) [(.sl ch_0_0 (x1).length ch_0_1 (RdS (Ty.int .u8) ch_0_0 x1))] (l := [(0, (.sl ch_0_0 (x1).length ch_0_1 (RdS (Ty.int .u8) ch_0_0 x1)))]) Tryd.func42 rfl rfl rfl rfl ok hm ?_
  clear ok hm
  intro b0 hb a S
  refine c_region ?_
  refine s_alloc S Z23 rfl ⟨rfl, trivial⟩ rfl ?_; clear S a; intro g1 a w S
  refine c_end ?_
  refine c_region ?_
  refine s_alloc S Z100 rfl ⟨rfl, trivial⟩ rfl ?_; clear S a w; intro g2 a w S
  refine c_end ?_
  refine wp_seq_k ?_
  intro K1 hK1
  have j1 : ∀ (m : Mem) (g9 : Nat) (g10 : Nat) (A1 : Option Addr) (cp1 : Nat) (y1 : List Int) (y2 : List Int) (a : Act) (w : World), St 45 m b0 [(3, (.v (.pointer (some ⟨g9, 0, none⟩)))), (2, (.v (.pointer (some ⟨g10, 0, none⟩)))), (0, (.sl A1 (y1).length cp1 (RdS (Ty.int .u8) A1 y1)))] [Res.cells g9 100 [.ints .u64 y2 25], Res.cells g10 23 [.ints .u8 [0, 0, 0, 0, 0, 0, 0, 0, 0, 0, 0, 0, 0, 0, 0, 0, 0, 0, 0, 0, 0, 0, 0, 0, 0, 0, 0, 0, 0, 0, 0, 0] 32]] a w → keccak_Sum.j1 k y1 y2 = some r → K1 a w := by
    intro m g9 g10 A1 cp1 y1 y2 a w S h0
    delta keccak_Sum.j1 at h0
    refine hK1 a w ?_
    refine c_region ?_
    refine s_alloc S Z102 rfl ⟨rfl, trivial⟩ rfl ?_; clear S a w; intro g11 a w S
    refine c_end ?_
    refine c_region ?_
    refine s_sliceA S (i := 0) (j := 136) (o' := 0) (len := 136) (cap := 136) rfl Tryd.underlying102 T5 (.inl ⟨rfl, rfl⟩) (.inl ⟨rfl, rfl⟩) (by decide) rfl rfl rfl rfl ?_; clear S a; intro a S
    refine s_move S rfl rfl ?_; clear S a; intro a S
    refine s_copyA S (N := min (y1).length 136) (lo := 0) rfl .here rfl rfl (RdS.srcI (S.get 18 (.sl A1 (y1).length cp1 (RdS (Ty.int .u8) A1 y1)) rfl).2.2.2.1 S.frz) rfl .here (.inl rfl) (by decide) Tryd.underlying37 T5 rfl ?_; clear S a w; intro a w S
    refine s_assign S rfl rfl ?_; clear S a; intro a S
    refine c_end ?_
    refine c_region ?_
    refine s_move S rfl rfl ?_; clear S a; intro a S
    obtain ⟨c1, h1⟩ := chk_of h0; clear h0
    refine s_iaddr S rfl rfl Tryd.underlying102 T5 c1.1 c1.2 (mul1 _ _) rfl ?_; clear S a; intro a S
    refine s_storei S (i := ((min (y1).length 136 : Nat) : Int)) rfl rfl .here T5 .here rfl c1.1 c1.2 ?_; clear S w; intro w S
    refine c_end ?_
    refine c_region ?_
    refine s_iaddr S (o' := 135) rfl rfl Tryd.underlying102 T5 (by decide) (by decide) rfl rfl ?_; clear S a; intro a S
    refine s_loadi S (i := 135) rfl .here T5 .here rfl (by decide) (by decide) rfl ?_; clear S a; intro a S
    refine s_bin S rfl rfl rfl rfl ?_; clear S a; intro a S
    refine s_iaddr S (o' := 135) rfl rfl Tryd.underlying102 T5 (by decide) (by decide) rfl rfl ?_; clear S a; intro a S
    refine s_storei S (i := 135) rfl rfl .here T5 .here rfl (by decide) (by decide) ?_; clear S w; intro w S
    refine c_end ?_
    replace S := S.freeze .here
    obtain ⟨m, le1, S⟩ := S
    refine wp_seq (c_heldS S (.take 0 (.take 1 (.alts (.run 2 true (.alts (.run 3 false .done .nil)) .nil)))) 3 [Res.fro g11 102 [.ints .u8 (((cpy (List.replicate 136 0) 0 y1 (min (y1).length 136)).set (Int.toNat ((min (y1).length 136 : Nat) : Int)) 1).set (Int.toNat 135) (bits .or .u8 (rd ((cpy (List.replicate 136 0) 0 y1 (min (y1).length 136)).set (Int.toNat ((min (y1).length 136 : Nat) : Int)) 1) 135) 128)) 136], Res.cells g9 100 [.ints .u64 y2 25], Res.cells g10 23 [.ints .u8 [0, 0, 0, 0, 0, 0, 0, 0, 0, 0, 0, 0, 0, 0, 0, 0, 0, 0, 0, 0, 0, 0, 0, 0, 0, 0, 0, 0, 0, 0, 0, 0] 32]] (.cons .here (.cons .here (.cons .here .nil))) ⟨Res.stay_fro, Res.stay_cells, Res.stay_cells, trivial⟩ [(4, (.v (.pointer (some ⟨g11, 0, none⟩)))), (3, (.v (.pointer (some ⟨g9, 0, none⟩))))] ⟨rfl, rfl, trivial⟩ (by kernel_rfl) (by kernel_rfl) ?_); clear S; intro w S CL hw le
    refine h_loada S CL hw le ⟨rfl, rfl, trivial⟩ rfl (.there .here) T100 (s' := [.ints .u64 y2 25]) rfl rfl rfl trivial ?_; clear S CL a; intro a S CL
    refine h_sliceA S CL hw le ⟨rfl, rfl, rfl, trivial⟩ (i := 0) (j := 136) (o' := 0) (len := 136) (cap := 136) rfl Tryd.underlying102 T5 (.inl ⟨rfl, rfl⟩) (.inl ⟨rfl, rfl⟩) (by decide) rfl rfl rfl rfl rfl trivial ?_; clear S CL a; intro a S CL
    refine h_run' S rfl trivial ?_
    replace S := (S.slup' (u := 27) (lo := 0) (c := 136) (ys := ((((cpy (List.replicate 136 0) 0 y1 (min (y1).length 136)).set (Int.toNat ((min (y1).length 136 : Nat) : Int)) 1).set (Int.toNat 135) (bits .or .u8 (rd ((cpy (List.replicate 136 0) 0 y1 (min (y1).length 136)).set (Int.toNat ((min (y1).length 136 : Nat) : Int)) 1) 135) 128)).drop 0).take 136) rfl (Pull.mem .here).1 .here (.inl rfl) (by decide) (by decide) rfl).2
    replace CL := CL.drop (lq' := [(26, (.agg [.ints .u64 y2 25])), (4, (.v (.pointer (some ⟨g11, 0, none⟩)))), (3, (.v (.pointer (some ⟨g9, 0, none⟩))))]) ⟨rfl, rfl, rfl, trivial⟩
    obtain ⟨t1, et1, h2⟩ := bind_of h1; clear h1
    refine s_callP S (fun (ch : Unit) => ((.agg [.ints .u64 t1 25]) : D)) N69 rfl rfl (keccak_absorb.ok k y2 (((((cpy (List.replicate 136 0) 0 y1 (min (y1).length 136)).set (Int.toNat ((min (y1).length 136 : Nat) : Int)) 1).set (Int.toNat 135) (bits .or .u8 (rd ((cpy (List.replicate 136 0) 0 y1 (min (y1).length 136)).set (Int.toNat ((min (y1).length 136 : Nat) : Int)) 1) 135) 128)).drop 0).take 136) (some ⟨g11, 0, none⟩) 136 t1 et1 _ _ (G.mono (S.leB hb))) ?_; clear S a; intro ch1 m le1 a w S
    replace le := le.trans le1
    replace hw := CL.again hw S (.cons .here (.cons .here (.cons .here .nil))) le
    refine h_back ⟨fun _ => hw, ?_⟩
    refine h_run' S rfl trivial ?_
    refine s_store S rfl rfl rfl (s' := [.ints .u64 t1 25]) (.there .here) T100 rfl rfl ?_; clear S; intro w S
    refine h_back ⟨fun h => (nomatch h), ?_⟩
    refine h_done ?_; clear CL hw le
    refine x_thenN ?_
    refine c_region ?_
    refine s_alloc S Z23 rfl ⟨rfl, trivial⟩ rfl ?_; clear S a w; intro g12 a w S
    refine c_end ?_
    refine wp_seq_k ?_
    intro K2 hK2
    have j2 : ∀ (m : Mem) (g22 : Nat) (g23 : Nat) (y7 : List Int) (a : Act) (w : World), St 45 m b0 [(6, (.v (.pointer (some ⟨g22, 0, none⟩)))), (2, (.v (.pointer (some ⟨g23, 0, none⟩))))] [Res.cells g22 23 [.ints .u8 y7 32], Res.cells g23 23 [.ints .u8 [0, 0, 0, 0, 0, 0, 0, 0, 0, 0, 0, 0, 0, 0, 0, 0, 0, 0, 0, 0, 0, 0, 0, 0, 0, 0, 0, 0, 0, 0, 0, 0] 32]] a w → keccak_Sum.j2 y7 = some r → K2 a w := by
      intro m g22 g23 y7 a w S h0
      delta keccak_Sum.j2 at h0
      refine hK2 a w ?_
      refine c_region ?_
      refine s_loada S rfl .here T23 (s' := [.ints .u8 y7 32]) rfl rfl ?_; clear S a; intro a S
      refine s_store S rfl rfl rfl (s' := [.ints .u8 y7 32]) (.there .here) T23 rfl rfl ?_; clear S w; intro w S
      refine c_end ?_
      refine wp_ret ?_
      obtain rfl := Option.some.inj h0
      exact b_ret1 (d := (.agg [.ints .u8 y7 32])) S rfl (resD_cell rfl (.there .here) T23 rfl rfl) fun ok => S.retX (Hx := []) hb _ _ (() : Unit) .nil ok
    refine c_region ?_
    refine s_move S rfl rfl ?_; clear S a; intro a S
    refine c_end ?_
    refine wp_block ?_
    refine c_loop (fun q1 a w => ∃ (m : Mem) (y10 : Int) (g30 : Nat) (g31 : Nat) (g32 : Nat) (y11 : List Int), St 45 m b0 [(29, (.v (.int .i64 y10))), (6, (.v (.pointer (some ⟨g30, 0, none⟩)))), (3, (.v (.pointer (some ⟨g31, 0, none⟩)))), (2, (.v (.pointer (some ⟨g32, 0, none⟩))))] [Res.cells g30 23 [.ints .u8 y11 32], Res.cells g31 100 [.ints .u64 t1 25], Res.cells g32 23 [.ints .u8 [0, 0, 0, 0, 0, 0, 0, 0, 0, 0, 0, 0, 0, 0, 0, 0, 0, 0, 0, 0, 0, 0, 0, 0, 0, 0, 0, 0, 0, 0, 0, 0] 32]] a w ∧ keccak_Sum.l1 t1 q1 y10 y11 = some r) ?_ ?_ (k := k) ⟨_, 0, g12, g9, g10, [0, 0, 0, 0, 0, 0, 0, 0, 0, 0, 0, 0, 0, 0, 0, 0, 0, 0, 0, 0, 0, 0, 0, 0, 0, 0, 0, 0, 0, 0, 0, 0], (S.sub ⟨rfl, rfl, rfl, rfl, trivial⟩ (.cons .here (.cons (.there .here) (.cons (.there .here) .nil)))), h2⟩
    · rintro a w ⟨m, y10, g30, g31, g32, y11, S, h0⟩
      exact (nomatch (show (none : Option ((List Int))) = some r from h0))
    · clear S h2
      rintro q1 a w ⟨m, y10, g30, g31, g32, y11, S, h0⟩
      replace h0 : keccak_Sum.b1 t1 (keccak_Sum.l1 t1 q1) y10 y11 = some r := h0
      delta keccak_Sum.b1 at h0
      refine c_region ?_
      refine s_bin S rfl rfl rfl rfl ?_; clear S a; intro a S
      refine c_end ?_
      refine wp_seq ?_
      rcases ite_of h0 with ⟨c2, h1⟩ | ⟨c2, h1⟩ <;> clear h0
      · refine c_condT S rfl c2 ?_
        refine wp_skip ?_
        refine x_thenN ?_
        refine wp_seq ?_
        refine wp_block ?_
        refine c_region ?_
        refine s_move S rfl rfl ?_; clear S a; intro a S
        refine s_assign S rfl rfl ?_; clear S a; intro a S
        refine c_end ?_
        refine c_region' ?_
        refine s_move S rfl rfl ?_; clear S a; intro a S
        refine s_move S rfl rfl ?_; clear S a; intro a S
        refine s_quo S rfl rfl (by decide) rfl ?_; clear S a; intro a S
        obtain ⟨c3, h2⟩ := chk_of h1; clear h1
        refine s_iaddr S rfl rfl Tryd.underlying100 T24 c3.1 c3.2 (mul1 _ _) rfl ?_; clear S a; intro a S
        refine s_loadi S (i := (wr .i64 (Int.tdiv y10 8))) rfl (.there .here) T24 .here rfl c3.1 c3.2 rfl ?_; clear S a; intro a S
        refine s_move S rfl rfl ?_; clear S a; intro a S
        refine s_rem S rfl rfl (by decide) rfl ?_; clear S a; intro a S
        refine s_bin S rfl rfl rfl rfl ?_; clear S a; intro a S
        obtain ⟨c4, h3⟩ := chk_of h2; clear h2
        refine s_shr S (e := (min (Int.toNat (wr .i64 ((Int.tmod y10 8) * 8))) 64)) rfl rfl c4 rfl rfl ?_; clear S a; intro a S
        refine s_conv S rfl rfl Tryd.underlying5 rfl ?_; clear S a; intro a S
        obtain ⟨c5, h4⟩ := chk_of h3; clear h3
        refine s_iaddr S rfl rfl Tryd.underlying23 T5 c5.1 c5.2 (mul1 _ _) rfl ?_; clear S a; intro a S
        refine s_storei S (i := y10) rfl rfl .here T5 .here rfl c5.1 c5.2 ?_; clear S w; intro w S
        refine c_end' ?_
        refine x_blockN ?_
        refine x_thenN ?_
        refine c_region' ?_
        refine s_bin S rfl rfl rfl rfl ?_; clear S a; intro a S
        refine s_move S rfl rfl ?_; clear S a; intro a S
        refine c_end' ?_
        refine x_thenN ?_
        exact ⟨_, (wr .i64 (y10 + 1)), g30, g31, g32, (y11.set (Int.toNat y10) (wr .u8 (shr (rd t1 (wr .i64 (Int.tdiv y10 8))) (min (Int.toNat (wr .i64 ((Int.tmod y10 8) * 8))) 64)))), (S.sub ⟨rfl, rfl, rfl, rfl, trivial⟩ (.cons .here (.cons .here (.cons .here .nil)))), h4⟩
      · refine c_condF S rfl c2 ?_
        refine wp_exit ?_
        refine x_thenX ?_
        refine x_thenX ?_
        refine x_blockX ?_
        refine x_thenN ?_
        exact j2 _ g30 g32 y11 a w (S.sub ⟨rfl, rfl, trivial⟩ (.cons .here (.cons (.there .here) .nil))) h1
  refine wp_block ?_
  refine c_loop (fun q2 a w => ∃ (m : Mem) (g37 : Nat) (g38 : Nat) (A2 : Option Addr) (cp7 : Nat) (y14 : List Int) (y15 : List Int), St 45 m b0 [(3, (.v (.pointer (some ⟨g37, 0, none⟩)))), (2, (.v (.pointer (some ⟨g38, 0, none⟩)))), (0, (.sl A2 (y14).length cp7 (RdS (Ty.int .u8) A2 y14)))] [Res.cells g37 100 [.ints .u64 y15 25], Res.cells g38 23 [.ints .u8 [0, 0, 0, 0, 0, 0, 0, 0, 0, 0, 0, 0, 0, 0, 0, 0, 0, 0, 0, 0, 0, 0, 0, 0, 0, 0, 0, 0, 0, 0, 0, 0] 32]] a w ∧ keccak_Sum.l2 k q2 y14 y15 = some r) ?_ ?_ (k := k) ⟨_, g2, g1, ch_0_0, ch_0_1, x1, [0, 0, 0, 0, 0, 0, 0, 0, 0, 0, 0, 0, 0, 0, 0, 0, 0, 0, 0, 0, 0, 0, 0, 0, 0], (S.sub ⟨rfl, rfl, rfl, trivial⟩ (.cons .here (.cons .here .nil))), h0⟩
  · rintro a w ⟨m, g37, g38, A2, cp7, y14, y15, S, h0⟩
    exact (nomatch (show (none : Option ((List Int))) = some r from h0))
  · clear S h0
    rintro q2 a w ⟨m, g37, g38, A2, cp7, y14, y15, S, h0⟩
    replace h0 : keccak_Sum.b2 k (keccak_Sum.l2 k q2) y14 y15 = some r := h0
    delta keccak_Sum.b2 at h0
    refine wp_seq ?_
    refine c_region ?_
    refine s_move S rfl rfl ?_; clear S a; intro a S
    refine s_lenS S rfl Tryd.underlying37 rfl ?_; clear S a; intro a S
    refine s_bin S rfl rfl rfl rfl ?_; clear S a; intro a S
    refine c_end ?_
    rcases ite_of h0 with ⟨c6, h1⟩ | ⟨c6, h1⟩ <;> clear h0
    · refine c_condT S rfl c6 ?_
      refine wp_skip ?_
      refine x_thenN ?_
      refine wp_block ?_
      refine wp_seq (c_heldS S (.take 0 (.take 1 (.take 2 (.alts (.run 3 true (.alts (.run 4 false .done .nil)) .nil))))) 4 [Res.cells g37 100 [.ints .u64 y15 25], Res.cells g38 23 [.ints .u8 [0, 0, 0, 0, 0, 0, 0, 0, 0, 0, 0, 0, 0, 0, 0, 0, 0, 0, 0, 0, 0, 0, 0, 0, 0, 0, 0, 0, 0, 0, 0, 0] 32]] (.cons .here (.cons .here .nil)) ⟨Res.stay_cells, Res.stay_cells, trivial⟩ [(3, (.v (.pointer (some ⟨g37, 0, none⟩)))), (0, (.sl A2 (y14).length cp7 (RdS (Ty.int .u8) A2 y14)))] ⟨rfl, rfl, trivial⟩ (by kernel_rfl) (by kernel_rfl) ?_); clear S; intro w S CL hw le
      refine h_loada S CL hw le ⟨rfl, rfl, trivial⟩ rfl .here T100 (s' := [.ints .u64 y15 25]) rfl rfl rfl trivial ?_; clear S CL a; intro a S CL
      refine h_move S CL hw le ⟨rfl, rfl, rfl, trivial⟩ rfl rfl rfl trivial ?_; clear S CL a; intro a S CL
      obtain ⟨c7, h2⟩ := chk_of h1; clear h1
      refine h_cutS S CL hw le ⟨rfl, rfl, rfl, rfl, trivial⟩ (i := 0) (j := 136) (ys := y14.take (Int.toNat 136)) rfl rfl Tryd.underlying37 T5 (.inl ⟨rfl, rfl⟩) (.inr ⟨_, _, rfl, rfl⟩) c7 rfl (cut_pre rfl) rfl trivial ?_; clear S CL a; intro A3 cp8 a S CL
      refine h_run' S rfl trivial ?_
      obtain ⟨t4, et4, h3⟩ := bind_of h2; clear h2
      refine s_callP S (fun (ch : Unit) => ((.agg [.ints .u64 t4 25]) : D)) N69 rfl rfl (keccak_absorb.ok k y15 (y14.take (Int.toNat 136)) A3 cp8 t4 et4 _ _ (G.mono (S.leB hb))) ?_; clear S a; intro ch2 m le1 a w S
      replace le := le.trans le1
      replace hw := CL.again hw S (.cons .here (.cons .here .nil)) le
      refine h_back ⟨fun _ => hw, ?_⟩
      refine h_run' S rfl trivial ?_
      refine s_store S rfl rfl rfl (s' := [.ints .u64 t4 25]) .here T100 rfl rfl ?_; clear S; intro w S
      refine h_back ⟨fun h => (nomatch h), ?_⟩
      refine h_done ?_; clear CL hw le
      refine x_thenN ?_
      refine c_region' ?_
      refine s_move S rfl rfl ?_; clear S a; intro a S
      obtain ⟨c8, h4⟩ := chk_of h3; clear h3
      refine s_cutS S (i := 136) (j := ((y14).length : Int)) (ys := y14.drop (Int.toNat 136)) rfl rfl Tryd.underlying37 T5 (.inr ⟨_, _, rfl, rfl⟩) (.inl ⟨rfl, rfl⟩) c8 rfl (cut_end rfl) ?_; clear S a; intro A4 cp9 a S
      refine s_assign S rfl rfl ?_; clear S a; intro a S
      refine c_end' ?_
      refine x_blockN ?_
      refine x_thenN ?_
      exact ⟨_, g37, g38, A4, cp9, (y14.drop (Int.toNat 136)), t4, (S.sub ⟨rfl, rfl, rfl, trivial⟩ (.cons .here (.cons .here .nil))), h4⟩
    · refine c_condF S rfl c6 ?_
      refine wp_exit ?_
      refine x_thenX ?_
      refine x_thenX ?_
      refine x_blockX ?_
      refine x_thenN ?_
      exact j1 _ g37 g38 A2 cp7 y14 y15 a w (S.sub ⟨rfl, rfl, rfl, trivial⟩ (.cons .here (.cons .here .nil))) h1
/-! smithy/block.hash -/
abbrev block_hash.Ty : Type := (List (Bool × (List Int) × Int)) → Option ((List Int))
def block_hash.Ctr (s : block_hash.Ty) : Prop := ∀ (x1 : List (Bool × (List Int) × Int)) (ch_0_0 : Option Addr) (ch_0_1 : Nat) (r : (List Int)) (h0 : s x1 = some r) (mi : Mem) (w0 : World) (G : Glob mi), okL mi [(.sl ch_0_0 (x1).length ch_0_1 (RdS (Ty.prod Ty.bool (Ty.prod (Ty.slice (Ty.int .u8)) (Ty.int .i64))) ch_0_0 x1))] → Pre mi [] w0 → Calls Tryd.prog 21 (([(.sl ch_0_0 (x1).length ch_0_1 (RdS (Ty.prod Ty.bool (Ty.prod (Ty.slice (Ty.int .u8)) (Ty.int .i64))) ch_0_0 x1))] : List D).map D.val).toArray w0 (RetX mi [] (fun (ch : Unit) => ((.agg [.ints .u8 r 32]) : D)) (fun (ch : Unit) => []) w0)
def block_hash.f (k : Nat) (x1 : List (Bool × (List Int) × Int)) : Option ((List Int)) := (rlp_Encode.f k x1).bind fun t1 => (if (t1.2 != 0) = true then (some [0, 0, 0, 0, 0, 0, 0, 0, 0, 0, 0, 0, 0, 0, 0, 0, 0, 0, 0, 0, 0, 0, 0, 0, 0, 0, 0, 0, 0, 0, 0, 0]) else ((keccak_Sum.f k t1.1).bind fun t2 => (some t2)))
theorem block_hash.ok (k : Nat) : block_hash.Ctr (block_hash.f k) := by
  intro x1 ch_0_0 ch_0_1 r h0 mi w0 G ok hm
  delta block_hash.f at h0
  refine c_enterX (n := 15) [(.sl ch_0_0 (x1).length ch_0_1 (RdS (Ty.prod Ty.bool (Ty.prod (Ty.slice (Ty.int .u8)) (Ty.int .i64))) ch_0_0 x1))] (l := [(0, (.sl ch_0_0 (x1).length ch_0_1 (RdS (Ty.prod Ty.bool (Ty.prod (Ty.slice (Ty.int .u8)) (Ty.int .i64))) ch_0_0 x1)))]) Tryd.func21 rfl rfl rfl rfl ok hm ?_
  clear ok hm
  intro b0 hb a S
  refine c_region ?_
  refine s_alloc S Z23 rfl ⟨rfl, trivial⟩ rfl ?_; clear S a; intro g1 a w S
  refine c_end ?_
  refine c_region ?_
  refine s_move S rfl rfl ?_; clear S a; intro a S
  obtain ⟨t1, et1, h1⟩ := bind_of h0; clear h0
  refine s_callP S (fun (ch : (Option Addr) × Nat) => ((.tup [(false, [.sl ch.1 (t1.1).length ch.2 (RdS (Ty.int .u8) ch.1 t1.1)]), (false, [.one (.int .i64 t1.2)])]) : D)) N41 rfl rfl (rlp_Encode.ok k x1 ch_0_0 ch_0_1 t1 et1 _ _) ?_; clear S a w; intro ch1 m le1 a w S
  refine s_move S rfl rfl ?_; clear S a; intro a S
  refine s_extract S rfl rfl rfl rfl ?_; clear S a; intro a S
  refine s_extract S rfl rfl rfl rfl ?_; clear S a; intro a S
  refine s_assign S rfl rfl ?_; clear S a; intro a S
  refine s_assign S rfl rfl ?_; clear S a; intro a S
  refine c_end ?_
  refine wp_seq ?_
  refine c_region ?_
  refine s_move S rfl rfl ?_; clear S a; intro a S
  refine s_bin S rfl rfl rfl rfl ?_; clear S a; intro a S
  refine c_end ?_
  rcases ite_of h1 with ⟨c1, h2⟩ | ⟨c1, h2⟩ <;> clear h1
  · refine c_condT S rfl c1 ?_
    refine c_region ?_
    refine s_build S (ds := []) (dv := (.agg [.ints .u8 [0, 0, 0, 0, 0, 0, 0, 0, 0, 0, 0, 0, 0, 0, 0, 0, 0, 0, 0, 0, 0, 0, 0, 0, 0, 0, 0, 0, 0, 0, 0, 0] 32])) rfl (fun _ => by kernel_rfl) ⟨rfl, trivial⟩ rfl ?_; clear S a; intro a S
    refine s_store S rfl rfl rfl (s' := [.ints .u8 [0, 0, 0, 0, 0, 0, 0, 0, 0, 0, 0, 0, 0, 0, 0, 0, 0, 0, 0, 0, 0, 0, 0, 0, 0, 0, 0, 0, 0, 0, 0, 0] 32]) .here T23 rfl rfl ?_; clear S w; intro w S
    refine c_end ?_
    refine wp_ret ?_
    refine x_thenR ?_
    obtain rfl := Option.some.inj h2
    exact b_ret1 (d := (.agg [.ints .u8 [0, 0, 0, 0, 0, 0, 0, 0, 0, 0, 0, 0, 0, 0, 0, 0, 0, 0, 0, 0, 0, 0, 0, 0, 0, 0, 0, 0, 0, 0, 0, 0] 32])) S rfl (resD_cell rfl .here T23 rfl rfl) fun ok => S.retX (Hx := []) hb _ _ (() : Unit) .nil ok
  · refine c_condF S rfl c1 ?_
    refine wp_skip ?_
    refine x_thenN ?_
    refine c_region ?_
    refine s_move S rfl rfl ?_; clear S a; intro a S
    obtain ⟨t2, et2, h3⟩ := bind_of h2; clear h2
    refine s_callP S (fun (ch : Unit) => ((.agg [.ints .u8 t2 32]) : D)) N42 rfl rfl (keccak_Sum.ok k t1.1 ch1.1 ch1.2 t2 et2 _ _ (G.mono (S.leB hb))) ?_; clear S a w; intro ch2 m le1 a w S
    refine s_store S rfl rfl rfl (s' := [.ints .u8 t2 32]) .here T23 rfl rfl ?_; clear S w; intro w S
    refine c_end ?_
    refine wp_ret ?_
    obtain rfl := Option.some.inj h3
    exact b_ret1 (d := (.agg [.ints .u8 t2 32])) S rfl (resD_cell rfl .here T23 rfl rfl) fun ok => S.retX (Hx := []) hb _ _ (() : Unit) .nil ok
/-! smithy/block.Hash -/
abbrev block_Hash.Ty : Type := ((List Int) × Int × Int × Int × Int × (List Int) × (List Int) × (List Int) × (List Int) × (List Int)) → Option ((List Int))
def block_Hash.Ctr (s : block_Hash.Ty) : Prop := ∀ (x1 : (List Int) × Int × Int × Int × Int × (List Int) × (List Int) × (List Int) × (List Int) × (List Int)) (r : (List Int)) (h0 : s x1 = some r) (mi : Mem) (w0 : World) (G : Glob mi), okL mi [(.agg [.ints .u8 x1.1 32, .one (.int .u64 x1.2.1), .one (.int .u64 x1.2.2.1), .one (.int .u64 x1.2.2.2.1), .one (.int .u64 x1.2.2.2.2.1), .ints .u64 x1.2.2.2.2.2.1 4, .ints .u8 x1.2.2.2.2.2.2.1 20, .ints .u64 x1.2.2.2.2.2.2.2.1 4, .ints .u8 x1.2.2.2.2.2.2.2.2.1 32, .ints .u8 x1.2.2.2.2.2.2.2.2.2 32])] → Pre mi [] w0 → Calls Tryd.prog 7 (([(.agg [.ints .u8 x1.1 32, .one (.int .u64 x1.2.1), .one (.int .u64 x1.2.2.1), .one (.int .u64 x1.2.2.2.1), .one (.int .u64 x1.2.2.2.2.1), .ints .u64 x1.2.2.2.2.2.1 4, .ints .u8 x1.2.2.2.2.2.2.1 20, .ints .u64 x1.2.2.2.2.2.2.2.1 4, .ints .u8 x1.2.2.2.2.2.2.2.2.1 32, .ints .u8 x1.2.2.2.2.2.2.2.2.2 32])] : List D).map D.val).toArray w0 (RetX mi [] (fun (ch : Unit) => ((.agg [.ints .u8 r 32]) : D)) (fun (ch : Unit) => []) w0)
def block_Hash.f (k : Nat) (x1 : (List Int) × Int × Int × Int × Int × (List Int) × (List Int) × (List Int) × (List Int) × (List Int)) : Option ((List Int)) := (block_item.f (((x1.1).drop 0).take 32)).bind fun t1 => ((block_count.f k x1.2.1).bind fun t2 => ((block_count.f k x1.2.2.1).bind fun t3 => ((block_count.f k x1.2.2.2.1).bind fun t4 => ((block_count.f k x1.2.2.2.2.1).bind fun t5 => ((block_number.f k x1.2.2.2.2.2.1).bind fun t6 => ((block_item.f (((x1.2.2.2.2.2.2.1).drop 0).take 20)).bind fun t7 => ((block_full.f k x1.2.2.2.2.2.2.2.1).bind fun t8 => ((block_item.f (((x1.2.2.2.2.2.2.2.2.1).drop 0).take 32)).bind fun t9 => ((block_item.f (((x1.2.2.2.2.2.2.2.2.2).drop 0).take 32)).bind fun t10 => ((block_list.f k [[(t1.1, t1.2.1, t1.2.2), (t2.1, t2.2.1, t2.2.2), (t3.1, t3.2.1, t3.2.2), (t4.1, t4.2.1, t4.2.2), (t5.1, t5.2.1, t5.2.2), (t6.1, t6.2.1, t6.2.2), (t7.1, t7.2.1, t7.2.2), (t8.1, t8.2.1, t8.2.2), (t9.1, t9.2.1, t9.2.2), (t10.1, t10.2.1, t10.2.2)]]).bind fun t11 => ((block_hash.f k t11).bind fun t12 => (some t12))))))))))))
theorem block_Hash.ok (k : Nat) : block_Hash.Ctr (block_Hash.f k) := by
  intro x1 r h0 mi w0 G ok hm
  delta block_Hash.f at h0
  refine c_enterX (n := 37) [(.agg [.ints .u8 x1.1 32, .one (.int .u64 x1.2.1), .one (.int .u64 x1.2.2.1), .one (.int .u64 x1.2.2.2.1), .one (.int .u64 x1.2.2.2.2.1), .ints .u64 x1.2.2.2.2.2.1 4, .ints .u8 x1.2.2.2.2.2.2.1 20, .ints .u64 x1.2.2.2.2.2.2.2.1 4, .ints .u8 x1.2.2.2.2.2.2.2.2.1 32, .ints .u8 x1.2.2.2.2.2.2.2.2.2 32])] (l := [(0, (.agg [.ints .u8 x1.1 32, .one (.int .u64 x1.2.1), .one (.int .u64 x1.2.2.1), .one (.int .u64 x1.2.2.2.1), .one (.int .u64 x1.2.2.2.2.1), .ints .u64 x1.2.2.2.2.2.1 4, .ints .u8 x1.2.2.2.2.2.2.1 20, .ints .u64 x1.2.2.2.2.2.2.2.1 4, .ints .u8 x1.2.2.2.2.2.2.2.2.1 32, .ints .u8 x1.2.2.2.2.2.2.2.2.2 32]))]) Tryd.func7 rfl rfl rfl rfl ok hm ?_
  clear ok hm
  intro b0 hb a S
  refine c_region ?_
  refine s_box S rfl rfl rfl ?_; clear S a; intro g1 a w S
  refine s_alloc S Z23 rfl ⟨rfl, trivial⟩ rfl ?_; clear S a w; intro g2 a w S
  refine c_end ?_
  replace S := S.freeze (.there .here)
  obtain ⟨m, le1, S⟩ := S
  refine wp_seq (c_heldS S (.take 0 (.take 1 (.take 3 (.take 4 (.take 6 (.take 7 (.take 9 (.take 10 (.take 12 (.take 13 (.take 15 (.take 16 (.take 18 (.take 19 (.take 21 (.take 22 (.take 24 (.take 25 (.take 27 (.take 28 (.alts (.run 2 true (.alts (.run 5 true (.alts (.run 8 true (.alts (.run 11 true (.alts (.run 14 true (.alts (.run 17 true (.alts (.run 20 true (.alts (.run 23 true (.alts (.run 26 true (.alts (.run 29 true (.alts (.run 30 true (.alts (.run 31 true (.alts (.run 32 true (.alts (.run 33 true (.alts (.run 34 false .done .nil)) .nil)) .nil)) .nil)) .nil)) .nil)) .nil)) .nil)) .nil)) .nil)) .nil)) .nil)) .nil)) .nil)) .nil)))))))))))))))))))))) 34 [Res.cells g2 23 [.ints .u8 [0, 0, 0, 0, 0, 0, 0, 0, 0, 0, 0, 0, 0, 0, 0, 0, 0, 0, 0, 0, 0, 0, 0, 0, 0, 0, 0, 0, 0, 0, 0, 0] 32], Res.fro g1 30 [.ints .u8 x1.1 32, .one (.int .u64 x1.2.1), .one (.int .u64 x1.2.2.1), .one (.int .u64 x1.2.2.2.1), .one (.int .u64 x1.2.2.2.2.1), .ints .u64 x1.2.2.2.2.2.1 4, .ints .u8 x1.2.2.2.2.2.2.1 20, .ints .u64 x1.2.2.2.2.2.2.2.1 4, .ints .u8 x1.2.2.2.2.2.2.2.2.1 32, .ints .u8 x1.2.2.2.2.2.2.2.2.2 32]] (.cons .here (.cons .here .nil)) ⟨Res.stay_cells, Res.stay_fro, trivial⟩ [(1, (.v (.pointer (some ⟨g1, 0, none⟩))))] ⟨rfl, trivial⟩ (by kernel_rfl) (by kernel_rfl) ?_); clear S; intro w S CL hw le
  refine h_fieldAddr S CL hw le ⟨rfl, trivial⟩ rfl I30_0 T23 (by decide) rfl rfl rfl trivial ?_; clear S CL a; intro a S CL
  refine h_sliceA S CL hw le ⟨rfl, rfl, trivial⟩ (i := 0) (j := 32) (o' := 0) (len := 32) (cap := 32) rfl Tryd.underlying23 T5 (.inl ⟨rfl, rfl⟩) (.inl ⟨rfl, rfl⟩) (by decide) rfl rfl rfl rfl rfl trivial ?_; clear S CL a; intro a S CL
  refine h_fieldAddr S CL hw le ⟨rfl, rfl, rfl, trivial⟩ rfl I30_1 T24 (by decide) rfl rfl rfl trivial ?_; clear S CL a; intro a S CL
  refine h_load1F S CL hw le ⟨rfl, rfl, rfl, rfl, trivial⟩ rfl (.there .here) T24 (v := (.int .u64 x1.2.1)) rfl rfl rfl trivial ?_; clear S CL a; intro a S CL
  refine h_fieldAddr S CL hw le ⟨rfl, rfl, rfl, rfl, rfl, trivial⟩ rfl I30_2 T24 (by decide) rfl rfl rfl trivial ?_; clear S CL a; intro a S CL
  refine h_load1F S CL hw le ⟨rfl, rfl, rfl, rfl, rfl, rfl, trivial⟩ rfl (.there .here) T24 (v := (.int .u64 x1.2.2.1)) rfl rfl rfl trivial ?_; clear S CL a; intro a S CL
  refine h_fieldAddr S CL hw le ⟨rfl, rfl, rfl, rfl, rfl, rfl, rfl, trivial⟩ rfl I30_3 T24 (by decide) rfl rfl rfl trivial ?_; clear S CL a; intro a S CL
  refine h_load1F S CL hw le ⟨rfl, rfl, rfl, rfl, rfl, rfl, rfl, rfl, trivial⟩ rfl (.there .here) T24 (v := (.int .u64 x1.2.2.2.1)) rfl rfl rfl trivial ?_; clear S CL a; intro a S CL
  refine h_fieldAddr S CL hw le ⟨rfl, rfl, rfl, rfl, rfl, rfl, rfl, rfl, rfl, trivial⟩ rfl I30_4 T24 (by decide) rfl rfl rfl trivial ?_; clear S CL a; intro a S CL
  refine h_load1F S CL hw le ⟨rfl, rfl, rfl, rfl, rfl, rfl, rfl, rfl, rfl, rfl, trivial⟩ rfl (.there .here) T24 (v := (.int .u64 x1.2.2.2.2.1)) rfl rfl rfl trivial ?_; clear S CL a; intro a S CL
  refine h_fieldAddr S CL hw le ⟨rfl, rfl, rfl, rfl, rfl, rfl, rfl, rfl, rfl, rfl, rfl, trivial⟩ rfl I30_5 T26 (by decide) rfl rfl rfl trivial ?_; clear S CL a; intro a S CL
  refine h_loadaF S CL hw le ⟨rfl, rfl, rfl, rfl, rfl, rfl, rfl, rfl, rfl, rfl, rfl, rfl, trivial⟩ rfl (.there .here) T26 (s' := [.ints .u64 x1.2.2.2.2.2.1 4]) rfl rfl rfl trivial ?_; clear S CL a; intro a S CL
  refine h_fieldAddr S CL hw le ⟨rfl, rfl, rfl, rfl, rfl, rfl, rfl, rfl, rfl, rfl, rfl, rfl, rfl, trivial⟩ rfl I30_6 T28 (by decide) rfl rfl rfl trivial ?_; clear S CL a; intro a S CL
  refine h_sliceA S CL hw le ⟨rfl, rfl, rfl, rfl, rfl, rfl, rfl, rfl, rfl, rfl, rfl, rfl, rfl, rfl, trivial⟩ (i := 0) (j := 20) (o' := 40) (len := 20) (cap := 20) rfl Tryd.underlying28 T5 (.inl ⟨rfl, rfl⟩) (.inl ⟨rfl, rfl⟩) (by decide) rfl rfl rfl rfl rfl trivial ?_; clear S CL a; intro a S CL
  refine h_fieldAddr S CL hw le ⟨rfl, rfl, rfl, rfl, rfl, rfl, rfl, rfl, rfl, rfl, rfl, rfl, rfl, rfl, rfl, trivial⟩ rfl I30_7 T26 (by decide) rfl rfl rfl trivial ?_; clear S CL a; intro a S CL
  refine h_loadaF S CL hw le ⟨rfl, rfl, rfl, rfl, rfl, rfl, rfl, rfl, rfl, rfl, rfl, rfl, rfl, rfl, rfl, rfl, trivial⟩ rfl (.there .here) T26 (s' := [.ints .u64 x1.2.2.2.2.2.2.2.1 4]) rfl rfl rfl trivial ?_; clear S CL a; intro a S CL
  refine h_fieldAddr S CL hw le ⟨rfl, rfl, rfl, rfl, rfl, rfl, rfl, rfl, rfl, rfl, rfl, rfl, rfl, rfl, rfl, rfl, rfl, trivial⟩ rfl I30_8 T23 (by decide) rfl rfl rfl trivial ?_; clear S CL a; intro a S CL
  refine h_sliceA S CL hw le ⟨rfl, rfl, rfl, rfl, rfl, rfl, rfl, rfl, rfl, rfl, rfl, rfl, rfl, rfl, rfl, rfl, rfl, rfl, trivial⟩ (i := 0) (j := 32) (o' := 64) (len := 32) (cap := 32) rfl Tryd.underlying23 T5 (.inl ⟨rfl, rfl⟩) (.inl ⟨rfl, rfl⟩) (by decide) rfl rfl rfl rfl rfl trivial ?_; clear S CL a; intro a S CL
  refine h_fieldAddr S CL hw le ⟨rfl, rfl, rfl, rfl, rfl, rfl, rfl, rfl, rfl, rfl, rfl, rfl, rfl, rfl, rfl, rfl, rfl, rfl, rfl, trivial⟩ rfl I30_9 T23 (by decide) rfl rfl rfl trivial ?_; clear S CL a; intro a S CL
  refine h_sliceA S CL hw le ⟨rfl, rfl, rfl, rfl, rfl, rfl, rfl, rfl, rfl, rfl, rfl, rfl, rfl, rfl, rfl, rfl, rfl, rfl, rfl, rfl, trivial⟩ (i := 0) (j := 32) (o' := 96) (len := 32) (cap := 32) rfl Tryd.underlying23 T5 (.inl ⟨rfl, rfl⟩) (.inl ⟨rfl, rfl⟩) (by decide) rfl rfl rfl rfl rfl trivial ?_; clear S CL a; intro a S CL
  refine h_run' S rfl trivial ?_
  replace S := (S.slup' (u := 4) (lo := 0) (c := 32) (ys := ((x1.1).drop 0).take 32) rfl (Pull.mem (.there .here)).1 .here (.inl rfl) (by decide) (by decide) rfl).2
  replace CL := CL.drop (lq' := [(31, (.v (.slice (some ⟨g1, 96, none⟩) 32 32))), (30, (.v (.pointer (some ⟨g1, 96, none⟩)))), (28, (.v (.slice (some ⟨g1, 64, none⟩) 32 32))), (27, (.v (.pointer (some ⟨g1, 64, none⟩)))), (25, (.agg [.ints .u64 x1.2.2.2.2.2.2.2.1 4])), (24, (.v (.pointer (some ⟨g1, 60, none⟩)))), (22, (.v (.slice (some ⟨g1, 40, none⟩) 20 20))), (21, (.v (.pointer (some ⟨g1, 40, none⟩)))), (19, (.agg [.ints .u64 x1.2.2.2.2.2.1 4])), (18, (.v (.pointer (some ⟨g1, 36, none⟩)))), (16, (.v (.int .u64 x1.2.2.2.2.1))), (15, (.v (.pointer (some ⟨g1, 35, none⟩)))), (13, (.v (.int .u64 x1.2.2.2.1))), (12, (.v (.pointer (some ⟨g1, 34, none⟩)))), (10, (.v (.int .u64 x1.2.2.1))), (9, (.v (.pointer (some ⟨g1, 33, none⟩)))), (7, (.v (.int .u64 x1.2.1))), (6, (.v (.pointer (some ⟨g1, 32, none⟩)))), (3, (.v (.pointer (some ⟨g1, 0, none⟩)))), (1, (.v (.pointer (some ⟨g1, 0, none⟩))))]) ⟨rfl, rfl, rfl, rfl, rfl, rfl, rfl, rfl, rfl, rfl, rfl, rfl, rfl, rfl, rfl, rfl, rfl, rfl, rfl, rfl, trivial⟩
  obtain ⟨t1, et1, h1⟩ := bind_of h0; clear h0
  refine s_callP S (fun (ch : (Option Addr) × Nat) => ((.agg [.one (.bool t1.1), .sl ch.1 (t1.2.1).length ch.2 (RdS (Ty.int .u8) ch.1 t1.2.1), .one (.int .i64 t1.2.2)]) : D)) N23 rfl rfl (block_item.ok (((x1.1).drop 0).take 32) (some ⟨g1, 0, none⟩) 32 t1 et1 _ _) ?_; clear S a; intro ch1 m le1 a w S
  replace le := le.trans le1
  replace hw := CL.again hw S (.cons .here (.cons .here .nil)) le
  refine h_back ⟨fun _ => hw, ?_⟩
  refine h_run' S rfl trivial ?_
  obtain ⟨t2, et2, h2⟩ := bind_of h1; clear h1
  refine s_callP S (fun (ch : (Option Addr) × Nat) => ((.agg [.one (.bool t2.1), .sl ch.1 (t2.2.1).length ch.2 (RdS (Ty.int .u8) ch.1 t2.2.1), .one (.int .i64 t2.2.2)]) : D)) N24 rfl rfl (block_count.ok k x1.2.1 t2 et2 _ _) ?_; clear S a; intro ch2 m le1 a w S
  replace le := le.trans le1
  replace hw := CL.again hw S (.cons .here (.cons .here .nil)) le
  refine h_back ⟨fun _ => hw, ?_⟩
  refine h_run' S rfl trivial ?_
  obtain ⟨t3, et3, h3⟩ := bind_of h2; clear h2
  refine s_callP S (fun (ch : (Option Addr) × Nat) => ((.agg [.one (.bool t3.1), .sl ch.1 (t3.2.1).length ch.2 (RdS (Ty.int .u8) ch.1 t3.2.1), .one (.int .i64 t3.2.2)]) : D)) N24 rfl rfl (block_count.ok k x1.2.2.1 t3 et3 _ _) ?_; clear S a; intro ch3 m le1 a w S
  replace le := le.trans le1
  replace hw := CL.again hw S (.cons .here (.cons .here .nil)) le
  refine h_back ⟨fun _ => hw, ?_⟩
  refine h_run' S rfl trivial ?_
  obtain ⟨t4, et4, h4⟩ := bind_of h3; clear h3
  refine s_callP S (fun (ch : (Option Addr) × Nat) => ((.agg [.one (.bool t4.1), .sl ch.1 (t4.2.1).length ch.2 (RdS (Ty.int .u8) ch.1 t4.2.1), .one (.int .i64 t4.2.2)]) : D)) N24 rfl rfl (block_count.ok k x1.2.2.2.1 t4 et4 _ _) ?_; clear S a; intro ch4 m le1 a w S
  replace le := le.trans le1
  replace hw := CL.again hw S (.cons .here (.cons .here .nil)) le
  refine h_back ⟨fun _ => hw, ?_⟩
  refine h_run' S rfl trivial ?_
  obtain ⟨t5, et5, h5⟩ := bind_of h4; clear h4
  refine s_callP S (fun (ch : (Option Addr) × Nat) => ((.agg [.one (.bool t5.1), .sl ch.1 (t5.2.1).length ch.2 (RdS (Ty.int .u8) ch.1 t5.2.1), .one (.int .i64 t5.2.2)]) : D)) N24 rfl rfl (block_count.ok k x1.2.2.2.2.1 t5 et5 _ _) ?_; clear S a; intro ch5 m le1 a w S
  replace le := le.trans le1
  replace hw := CL.again hw S (.cons .here (.cons .here .nil)) le
  refine h_back ⟨fun _ => hw, ?_⟩
  refine h_run' S rfl trivial ?_
  obtain ⟨t6, et6, h6⟩ := bind_of h5; clear h5
  refine s_callP S (fun (ch : (Option Addr) × Nat) => ((.agg [.one (.bool t6.1), .sl ch.1 (t6.2.1).length ch.2 (RdS (Ty.int .u8) ch.1 t6.2.1), .one (.int .i64 t6.2.2)]) : D)) N25 rfl rfl (block_number.ok k x1.2.2.2.2.2.1 t6 et6 _ _) ?_; clear S a; intro ch6 m le1 a w S
  replace le := le.trans le1
  replace hw := CL.again hw S (.cons .here (.cons .here .nil)) le
  refine h_back ⟨fun _ => hw, ?_⟩
  refine h_run' S rfl trivial ?_
  replace S := (S.slup' (u := 22) (lo := 0) (c := 20) (ys := ((x1.2.2.2.2.2.2.1).drop 0).take 20) rfl (Pull.mem (.there .here)).1 (.there (.there (.there (.there (.there (.there .here rfl) rfl) rfl) rfl) rfl) rfl) (.inl rfl) (by decide) (by decide) rfl).2
  replace CL := CL.drop (lq' := [(31, (.v (.slice (some ⟨g1, 96, none⟩) 32 32))), (30, (.v (.pointer (some ⟨g1, 96, none⟩)))), (28, (.v (.slice (some ⟨g1, 64, none⟩) 32 32))), (27, (.v (.pointer (some ⟨g1, 64, none⟩)))), (25, (.agg [.ints .u64 x1.2.2.2.2.2.2.2.1 4])), (24, (.v (.pointer (some ⟨g1, 60, none⟩)))), (21, (.v (.pointer (some ⟨g1, 40, none⟩)))), (19, (.agg [.ints .u64 x1.2.2.2.2.2.1 4])), (18, (.v (.pointer (some ⟨g1, 36, none⟩)))), (16, (.v (.int .u64 x1.2.2.2.2.1))), (15, (.v (.pointer (some ⟨g1, 35, none⟩)))), (13, (.v (.int .u64 x1.2.2.2.1))), (12, (.v (.pointer (some ⟨g1, 34, none⟩)))), (10, (.v (.int .u64 x1.2.2.1))), (9, (.v (.pointer (some ⟨g1, 33, none⟩)))), (7, (.v (.int .u64 x1.2.1))), (6, (.v (.pointer (some ⟨g1, 32, none⟩)))), (3, (.v (.pointer (some ⟨g1, 0, none⟩)))), (1, (.v (.pointer (some ⟨g1, 0, none⟩))))]) ⟨rfl, rfl, rfl, rfl, rfl, rfl, rfl, rfl, rfl, rfl, rfl, rfl, rfl, rfl, rfl, rfl, rfl, rfl, rfl, trivial⟩
  obtain ⟨t7, et7, h7⟩ := bind_of h6; clear h6
  refine s_callP S (fun (ch : (Option Addr) × Nat) => ((.agg [.one (.bool t7.1), .sl ch.1 (t7.2.1).length ch.2 (RdS (Ty.int .u8) ch.1 t7.2.1), .one (.int .i64 t7.2.2)]) : D)) N23 rfl rfl (block_item.ok (((x1.2.2.2.2.2.2.1).drop 0).take 20) (some ⟨g1, 40, none⟩) 20 t7 et7 _ _) ?_; clear S a; intro ch7 m le1 a w S
  replace le := le.trans le1
  replace hw := CL.again hw S (.cons .here (.cons .here .nil)) le
  refine h_back ⟨fun _ => hw, ?_⟩
  refine h_run' S rfl trivial ?_
  obtain ⟨t8, et8, h8⟩ := bind_of h7; clear h7
  refine s_callP S (fun (ch : (Option Addr) × Nat) => ((.agg [.one (.bool t8.1), .sl ch.1 (t8.2.1).length ch.2 (RdS (Ty.int .u8) ch.1 t8.2.1), .one (.int .i64 t8.2.2)]) : D)) N26 rfl rfl (block_full.ok k x1.2.2.2.2.2.2.2.1 t8 et8 _ _) ?_; clear S a; intro ch8 m le1 a w S
  replace le := le.trans le1
  replace hw := CL.again hw S (.cons .here (.cons .here .nil)) le
  refine h_back ⟨fun _ => hw, ?_⟩
  refine h_run' S rfl trivial ?_
  replace S := (S.slup' (u := 28) (lo := 0) (c := 32) (ys := ((x1.2.2.2.2.2.2.2.2.1).drop 0).take 32) rfl (Pull.mem (.there .here)).1 (.there (.there (.there (.there (.there (.there (.there (.there .here rfl) rfl) rfl) rfl) rfl) rfl) rfl) rfl) (.inl rfl) (by decide) (by decide) rfl).2
  replace CL := CL.drop (lq' := [(31, (.v (.slice (some ⟨g1, 96, none⟩) 32 32))), (30, (.v (.pointer (some ⟨g1, 96, none⟩)))), (27, (.v (.pointer (some ⟨g1, 64, none⟩)))), (25, (.agg [.ints .u64 x1.2.2.2.2.2.2.2.1 4])), (24, (.v (.pointer (some ⟨g1, 60, none⟩)))), (21, (.v (.pointer (some ⟨g1, 40, none⟩)))), (19, (.agg [.ints .u64 x1.2.2.2.2.2.1 4])), (18, (.v (.pointer (some ⟨g1, 36, none⟩)))), (16, (.v (.int .u64 x1.2.2.2.2.1))), (15, (.v (.pointer (some ⟨g1, 35, none⟩)))), (13, (.v (.int .u64 x1.2.2.2.1))), (12, (.v (.pointer (some ⟨g1, 34, none⟩)))), (10, (.v (.int .u64 x1.2.2.1))), (9, (.v (.pointer (some ⟨g1, 33, none⟩)))), (7, (.v (.int .u64 x1.2.1))), (6, (.v (.pointer (some ⟨g1, 32, none⟩)))), (3, (.v (.pointer (some ⟨g1, 0, none⟩)))), (1, (.v (.pointer (some ⟨g1, 0, none⟩))))]) ⟨rfl, rfl, rfl, rfl, rfl, rfl, rfl, rfl, rfl, rfl, rfl, rfl, rfl, rfl, rfl, rfl, rfl, rfl, trivial⟩
  obtain ⟨t9, et9, h9⟩ := bind_of h8; clear h8
  refine s_callP S (fun (ch : (Option Addr) × Nat) => ((.agg [.one (.bool t9.1), .sl ch.1 (t9.2.1).length ch.2 (RdS (Ty.int .u8) ch.1 t9.2.1), .one (.int .i64 t9.2.2)]) : D)) N23 rfl rfl (block_item.ok (((x1.2.2.2.2.2.2.2.2.1).drop 0).take 32) (some ⟨g1, 64, none⟩) 32 t9 et9 _ _) ?_; clear S a; intro ch9 m le1 a w S
  replace le := le.trans le1
  replace hw := CL.again hw S (.cons .here (.cons .here .nil)) le
  refine h_back ⟨fun _ => hw, ?_⟩
  refine h_run' S rfl trivial ?_
  replace S := (S.slup' (u := 31) (lo := 0) (c := 32) (ys := ((x1.2.2.2.2.2.2.2.2.2).drop 0).take 32) rfl (Pull.mem (.there .here)).1 (.there (.there (.there (.there (.there (.there (.there (.there (.there .here rfl) rfl) rfl) rfl) rfl) rfl) rfl) rfl) rfl) (.inl rfl) (by decide) (by decide) rfl).2
  replace CL := CL.drop (lq' := [(30, (.v (.pointer (some ⟨g1, 96, none⟩)))), (27, (.v (.pointer (some ⟨g1, 64, none⟩)))), (25, (.agg [.ints .u64 x1.2.2.2.2.2.2.2.1 4])), (24, (.v (.pointer (some ⟨g1, 60, none⟩)))), (21, (.v (.pointer (some ⟨g1, 40, none⟩)))), (19, (.agg [.ints .u64 x1.2.2.2.2.2.1 4])), (18, (.v (.pointer (some ⟨g1, 36, none⟩)))), (16, (.v (.int .u64 x1.2.2.2.2.1))), (15, (.v (.pointer (some ⟨g1, 35, none⟩)))), (13, (.v (.int .u64 x1.2.2.2.1))), (12, (.v (.pointer (some ⟨g1, 34, none⟩)))), (10, (.v (.int .u64 x1.2.2.1))), (9, (.v (.pointer (some ⟨g1, 33, none⟩)))), (7, (.v (.int .u64 x1.2.1))), (6, (.v (.pointer (some ⟨g1, 32, none⟩)))), (3, (.v (.pointer (some ⟨g1, 0, none⟩)))), (1, (.v (.pointer (some ⟨g1, 0, none⟩))))]) ⟨rfl, rfl, rfl, rfl, rfl, rfl, rfl, rfl, rfl, rfl, rfl, rfl, rfl, rfl, rfl, rfl, rfl, trivial⟩
  obtain ⟨t10, et10, h10⟩ := bind_of h9; clear h9
  refine s_callP S (fun (ch : (Option Addr) × Nat) => ((.agg [.one (.bool t10.1), .sl ch.1 (t10.2.1).length ch.2 (RdS (Ty.int .u8) ch.1 t10.2.1), .one (.int .i64 t10.2.2)]) : D)) N23 rfl rfl (block_item.ok (((x1.2.2.2.2.2.2.2.2.2).drop 0).take 32) (some ⟨g1, 96, none⟩) 32 t10 et10 _ _) ?_; clear S a; intro ch10 m le1 a w S
  replace le := le.trans le1
  replace hw := CL.again hw S (.cons .here (.cons .here .nil)) le
  refine h_back ⟨fun _ => hw, ?_⟩
  refine h_run' S rfl trivial ?_
  refine s_bldSl S (ty' := (Ty.prod Ty.bool (Ty.prod (Ty.slice (Ty.int .u8)) (Ty.int .i64)))) (ds := [(0, (.agg [.one (.bool t1.1), .sl ch1.1 (t1.2.1).length ch1.2 (RdS (Ty.int .u8) ch1.1 t1.2.1), .one (.int .i64 t1.2.2)])), (1, (.agg [.one (.bool t2.1), .sl ch2.1 (t2.2.1).length ch2.2 (RdS (Ty.int .u8) ch2.1 t2.2.1), .one (.int .i64 t2.2.2)])), (2, (.agg [.one (.bool t3.1), .sl ch3.1 (t3.2.1).length ch3.2 (RdS (Ty.int .u8) ch3.1 t3.2.1), .one (.int .i64 t3.2.2)])), (3, (.agg [.one (.bool t4.1), .sl ch4.1 (t4.2.1).length ch4.2 (RdS (Ty.int .u8) ch4.1 t4.2.1), .one (.int .i64 t4.2.2)])), (4, (.agg [.one (.bool t5.1), .sl ch5.1 (t5.2.1).length ch5.2 (RdS (Ty.int .u8) ch5.1 t5.2.1), .one (.int .i64 t5.2.2)])), (5, (.agg [.one (.bool t6.1), .sl ch6.1 (t6.2.1).length ch6.2 (RdS (Ty.int .u8) ch6.1 t6.2.1), .one (.int .i64 t6.2.2)])), (6, (.agg [.one (.bool t7.1), .sl ch7.1 (t7.2.1).length ch7.2 (RdS (Ty.int .u8) ch7.1 t7.2.1), .one (.int .i64 t7.2.2)])), (7, (.agg [.one (.bool t8.1), .sl ch8.1 (t8.2.1).length ch8.2 (RdS (Ty.int .u8) ch8.1 t8.2.1), .one (.int .i64 t8.2.2)])), (8, (.agg [.one (.bool t9.1), .sl ch9.1 (t9.2.1).length ch9.2 (RdS (Ty.int .u8) ch9.1 t9.2.1), .one (.int .i64 t9.2.2)])), (9, (.agg [.one (.bool t10.1), .sl ch10.1 (t10.2.1).length ch10.2 (RdS (Ty.int .u8) ch10.1 t10.2.1), .one (.int .i64 t10.2.2)]))]) (z := (false, ([] : List Int), 0)) (c0 := ((), (none, 0), ())) (ys := [(t1.1, t1.2.1, t1.2.2), (t2.1, t2.2.1, t2.2.2), (t3.1, t3.2.1, t3.2.2), (t4.1, t4.2.1, t4.2.2), (t5.1, t5.2.1, t5.2.2), (t6.1, t6.2.1, t6.2.2), (t7.1, t7.2.1, t7.2.2), (t8.1, t8.2.1, t8.2.2), (t9.1, t9.2.1, t9.2.2), (t10.1, t10.2.1, t10.2.2)]) (cs := [((), (ch1.1, ch1.2), ()), ((), (ch2.1, ch2.2), ()), ((), (ch3.1, ch3.2), ()), ((), (ch4.1, ch4.2), ()), ((), (ch5.1, ch5.2), ()), ((), (ch6.1, ch6.2), ()), ((), (ch7.1, ch7.2), ()), ((), (ch8.1, ch8.2), ()), ((), (ch9.1, ch9.2), ()), ((), (ch10.1, ch10.2), ())]) rfl Tryd.underlying51 J54 Z54 rfl ⟨rfl, ⟨Nat.le_refl _, Nat.zero_le _, RdS.nil _ _ _, RdS.mono _ _ _⟩, rfl, trivial⟩ rfl rfl rfl rfl rfl rfl ?_; clear S a; intro g3 a w S
  replace hw := CL.again hw S (.cons (.there .here) (.cons (.there .here) .nil)) le
  refine h_back ⟨fun _ => hw, ?_⟩
  refine h_run' S rfl trivial ?_
  replace S := S.rowfro .here
  obtain ⟨m, le1, S, hro⟩ := S
  replace le := le.trans le1
  replace S := S.slotro (u := 33) rfl hro
  refine s_bldSl S (ty' := (Ty.slice (Ty.prod Ty.bool (Ty.prod (Ty.slice (Ty.int .u8)) (Ty.int .i64))))) (ds := [(0, (.sl (some ⟨g3, 0, none⟩) ([(t1.1, t1.2.1, t1.2.2), (t2.1, t2.2.1, t2.2.2), (t3.1, t3.2.1, t3.2.2), (t4.1, t4.2.1, t4.2.2), (t5.1, t5.2.1, t5.2.2), (t6.1, t6.2.1, t6.2.2), (t7.1, t7.2.1, t7.2.2), (t8.1, t8.2.1, t8.2.2), (t9.1, t9.2.1, t9.2.2), (t10.1, t10.2.1, t10.2.2)]).length 10 (RdS (Ty.prod Ty.bool (Ty.prod (Ty.slice (Ty.int .u8)) (Ty.int .i64))) (some ⟨g3, 0, none⟩) [(t1.1, t1.2.1, t1.2.2), (t2.1, t2.2.1, t2.2.2), (t3.1, t3.2.1, t3.2.2), (t4.1, t4.2.1, t4.2.2), (t5.1, t5.2.1, t5.2.2), (t6.1, t6.2.1, t6.2.2), (t7.1, t7.2.1, t7.2.2), (t8.1, t8.2.1, t8.2.2), (t9.1, t9.2.1, t9.2.2), (t10.1, t10.2.1, t10.2.2)])))]) (z := ([] : List (Bool × (List Int) × Int))) (c0 := (none, 0)) (ys := [[(t1.1, t1.2.1, t1.2.2), (t2.1, t2.2.1, t2.2.2), (t3.1, t3.2.1, t3.2.2), (t4.1, t4.2.1, t4.2.2), (t5.1, t5.2.1, t5.2.2), (t6.1, t6.2.1, t6.2.2), (t7.1, t7.2.1, t7.2.2), (t8.1, t8.2.1, t8.2.2), (t9.1, t9.2.1, t9.2.2), (t10.1, t10.2.1, t10.2.2)]]) (cs := [((some ⟨g3, 0, none⟩), 10)]) rfl Tryd.underlying76 J51 Z51 rfl ⟨⟨Nat.le_refl _, Nat.zero_le _, RdS.nil _ _ _, RdS.mono _ _ _⟩, trivial⟩ rfl rfl rfl rfl rfl rfl ?_; clear S a; intro g4 a w S
  replace hw := CL.again hw S (.cons (.there .here) (.cons (.there .here) .nil)) le
  refine h_back ⟨fun _ => hw, ?_⟩
  refine h_run' S rfl trivial ?_
  replace S := S.rowfro .here
  obtain ⟨m, le1, S, hro⟩ := S
  replace le := le.trans le1
  replace S := S.slotro (u := 34) rfl hro
  obtain ⟨t11, et11, h11⟩ := bind_of h10; clear h10
  refine s_callR S (fun (ch : (Option Addr) × Nat × Nat) => ((.v (.slice ch.1 ch.2.1 ch.2.2)) : D)) (fun (ch : (Option Addr) × Nat × Nat) => Res.row (Ty.prod Ty.bool (Ty.prod (Ty.slice (Ty.int .u8)) (Ty.int .i64))) 54 ch.1 ch.2.1 ch.2.2 t11) N22 rfl rfl (block_list.ok k [[(t1.1, t1.2.1, t1.2.2), (t2.1, t2.2.1, t2.2.2), (t3.1, t3.2.1, t3.2.2), (t4.1, t4.2.1, t4.2.2), (t5.1, t5.2.1, t5.2.2), (t6.1, t6.2.1, t6.2.2), (t7.1, t7.2.1, t7.2.2), (t8.1, t8.2.1, t8.2.2), (t9.1, t9.2.1, t9.2.2), (t10.1, t10.2.1, t10.2.2)]] (some ⟨g4, 0, none⟩) 1 t11 et11 _ _) ?_; clear S a; intro ch11 m le1 a w S
  replace le := le.trans le1
  replace hw := CL.again hw S (.cons (.there .here) (.cons (.there .here) .nil)) le
  refine h_back ⟨fun _ => hw, ?_⟩
  refine h_run' S rfl trivial ?_
  replace S := S.rowfro .here
  obtain ⟨m, le1, S, hro⟩ := S
  replace le := le.trans le1
  replace S := S.slotro (u := 35) rfl hro
  obtain ⟨t12, et12, h12⟩ := bind_of h11; clear h11
  refine s_callP S (fun (ch : Unit) => ((.agg [.ints .u8 t12 32]) : D)) N21 rfl rfl (block_hash.ok k t11 ch11.1 ch11.2.2 t12 et12 _ _ (G.mono (S.leB hb))) ?_; clear S a; intro ch12 m le1 a w S
  replace le := le.trans le1
  replace hw := CL.again hw S (.cons .here (.cons .here .nil)) le
  refine h_back ⟨fun _ => hw, ?_⟩
  refine h_run' S rfl trivial ?_
  refine s_store S rfl rfl rfl (s' := [.ints .u8 t12 32]) .here T23 rfl rfl ?_; clear S; intro w S
  refine h_back ⟨fun h => (nomatch h), ?_⟩
  refine h_done ?_; clear CL hw le
  refine x_thenN ?_
  refine wp_ret ?_
  obtain rfl := Option.some.inj h12
  exact b_ret1 (d := (.agg [.ints .u8 t12 32])) S rfl (resD_cell rfl .here T23 rfl rfl) fun ok => S.retX (Hx := []) hb _ _ (() : Unit) .nil ok
/-! math/bits.Mul64 -/
abbrev bits_Mul64.Ty : Type := Int → Int → Option (Int × Int)
def bits_Mul64.Ctr (s : bits_Mul64.Ty) : Prop := ∀ (x1 : Int) (x2 : Int) (r : Int × Int) (h0 : s x1 x2 = some r) (mi : Mem) (w0 : World), okL mi [(.v (.int .u64 x1)), (.v (.int .u64 x2))] → Pre mi [] w0 → Calls Tryd.prog 89 (([(.v (.int .u64 x1)), (.v (.int .u64 x2))] : List D).map D.val).toArray w0 (RetX mi [] (fun (ch : Unit) => ((.tup [(false, [.one (.int .u64 r.1)]), (false, [.one (.int .u64 r.2)])]) : D)) (fun (ch : Unit) => []) w0)
def bits_Mul64.f (x1 : Int) (x2 : Int) : Option (Int × Int) := some (wr .u64 ((wr .u64 ((wr .u64 ((shr x1 32) * (shr x2 32))) + (shr (wr .u64 ((wr .u64 ((shr x1 32) * (bits .and .u64 x2 4294967295))) + (shr (wr .u64 ((bits .and .u64 x1 4294967295) * (bits .and .u64 x2 4294967295))) 32))) 32))) + (shr (wr .u64 ((bits .and .u64 (wr .u64 ((wr .u64 ((shr x1 32) * (bits .and .u64 x2 4294967295))) + (shr (wr .u64 ((bits .and .u64 x1 4294967295) * (bits .and .u64 x2 4294967295))) 32))) 4294967295) + (wr .u64 ((bits .and .u64 x1 4294967295) * (shr x2 32))))) 32)), wr .u64 (x1 * x2))
theorem bits_Mul64.ok : bits_Mul64.Ctr (bits_Mul64.f) := by
  intro x1 x2 r h0 mi w0 ok hm
  delta bits_Mul64.f at h0
  refine c_enterX (n := 51) [(.v (.int .u64 x1)), (.v (.int .u64 x2))] (l := [(0, (.v (.int .u64 x1))), (1, (.v (.int .u64 x2)))]) Tryd.func89 rfl rfl rfl rfl ok hm ?_
  clear ok hm
  intro b0 hb a S
  refine c_region ?_
  refine s_assign S rfl rfl ?_; clear S a; intro a S
  refine s_assign S rfl rfl ?_; clear S a; intro a S
  refine c_end ?_
  refine c_region ?_
  refine s_move S rfl rfl ?_; clear S a; intro a S
  refine s_bin S rfl rfl rfl rfl ?_; clear S a; intro a S
  refine s_assign S rfl rfl ?_; clear S a; intro a S
  refine c_end ?_
  refine c_region ?_
  refine s_move S rfl rfl ?_; clear S a; intro a S
  refine s_shr S (e := 32) rfl rfl (by decide) rfl rfl ?_; clear S a; intro a S
  refine s_assign S rfl rfl ?_; clear S a; intro a S
  refine c_end ?_
  refine c_region ?_
  refine s_move S rfl rfl ?_; clear S a; intro a S
  refine s_bin S rfl rfl rfl rfl ?_; clear S a; intro a S
  refine s_assign S rfl rfl ?_; clear S a; intro a S
  refine c_end ?_
  refine c_region ?_
  refine s_move S rfl rfl ?_; clear S a; intro a S
  refine s_shr S (e := 32) rfl rfl (by decide) rfl rfl ?_; clear S a; intro a S
  refine s_assign S rfl rfl ?_; clear S a; intro a S
  refine c_end ?_
  refine c_region ?_
  refine s_move S rfl rfl ?_; clear S a; intro a S
  refine s_move S rfl rfl ?_; clear S a; intro a S
  refine s_bin S rfl rfl rfl rfl ?_; clear S a; intro a S
  refine s_assign S rfl rfl ?_; clear S a; intro a S
  refine c_end ?_
  refine c_region ?_
  refine s_move S rfl rfl ?_; clear S a; intro a S
  refine s_move S rfl rfl ?_; clear S a; intro a S
  refine s_bin S rfl rfl rfl rfl ?_; clear S a; intro a S
  refine s_move S rfl rfl ?_; clear S a; intro a S
  refine s_shr S (e := 32) rfl rfl (by decide) rfl rfl ?_; clear S a; intro a S
  refine s_bin S rfl rfl rfl rfl ?_; clear S a; intro a S
  refine s_assign S rfl rfl ?_; clear S a; intro a S
  refine c_end ?_
  refine c_region ?_
  refine s_move S rfl rfl ?_; clear S a; intro a S
  refine s_bin S rfl rfl rfl rfl ?_; clear S a; intro a S
  refine s_assign S rfl rfl ?_; clear S a; intro a S
  refine c_end ?_
  refine c_region ?_
  refine s_move S rfl rfl ?_; clear S a; intro a S
  refine s_shr S (e := 32) rfl rfl (by decide) rfl rfl ?_; clear S a; intro a S
  refine s_assign S rfl rfl ?_; clear S a; intro a S
  refine c_end ?_
  refine c_region ?_
  refine s_move S rfl rfl ?_; clear S a; intro a S
  refine s_move S rfl rfl ?_; clear S a; intro a S
  refine s_move S rfl rfl ?_; clear S a; intro a S
  refine s_bin S rfl rfl rfl rfl ?_; clear S a; intro a S
  refine s_bin S rfl rfl rfl rfl ?_; clear S a; intro a S
  refine s_assign S rfl rfl ?_; clear S a; intro a S
  refine c_end ?_
  refine c_region ?_
  refine s_move S rfl rfl ?_; clear S a; intro a S
  refine s_move S rfl rfl ?_; clear S a; intro a S
  refine s_bin S rfl rfl rfl rfl ?_; clear S a; intro a S
  refine s_move S rfl rfl ?_; clear S a; intro a S
  refine s_bin S rfl rfl rfl rfl ?_; clear S a; intro a S
  refine s_move S rfl rfl ?_; clear S a; intro a S
  refine s_shr S (e := 32) rfl rfl (by decide) rfl rfl ?_; clear S a; intro a S
  refine s_bin S rfl rfl rfl rfl ?_; clear S a; intro a S
  refine s_assign S rfl rfl ?_; clear S a; intro a S
  refine c_end ?_
  refine c_region ?_
  refine s_move S rfl rfl ?_; clear S a; intro a S
  refine s_move S rfl rfl ?_; clear S a; intro a S
  refine s_bin S rfl rfl rfl rfl ?_; clear S a; intro a S
  refine s_assign S rfl rfl ?_; clear S a; intro a S
  refine c_end ?_
  refine wp_ret ?_
  obtain rfl := Option.some.inj h0
  exact b_ret2 (d1 := (.v (.int .u64 (wr .u64 ((wr .u64 ((wr .u64 ((shr x1 32) * (shr x2 32))) + (shr (wr .u64 ((wr .u64 ((shr x1 32) * (bits .and .u64 x2 4294967295))) + (shr (wr .u64 ((bits .and .u64 x1 4294967295) * (bits .and .u64 x2 4294967295))) 32))) 32))) + (shr (wr .u64 ((bits .and .u64 (wr .u64 ((wr .u64 ((shr x1 32) * (bits .and .u64 x2 4294967295))) + (shr (wr .u64 ((bits .and .u64 x1 4294967295) * (bits .and .u64 x2 4294967295))) 32))) 4294967295) + (wr .u64 ((bits .and .u64 x1 4294967295) * (shr x2 32))))) 32)))))) (d2 := (.v (.int .u64 (wr .u64 (x1 * x2))))) S rfl rfl rfl fun ok1 ok2 => S.retX (Hx := []) hb _ _ (() : Unit) .nil ⟨⟨ok1, trivial⟩, ⟨ok2, trivial⟩, trivial⟩
/-! smithy/wide.Product -/
abbrev wide_Product.Ty : Type := (List Int) → (List Int) → Option ((List Int) × (List Int))
def wide_Product.Ctr (s : wide_Product.Ty) : Prop := ∀ (x1 : List Int) (x2 : List Int) (r : (List Int) × (List Int)) (h0 : s x1 x2 = some r) (mi : Mem) (w0 : World), okL mi [(.agg [.ints .u64 x1 4]), (.agg [.ints .u64 x2 4])] → Pre mi [] w0 → Calls Tryd.prog 72 (([(.agg [.ints .u64 x1 4]), (.agg [.ints .u64 x2 4])] : List D).map D.val).toArray w0 (RetX mi [] (fun (ch : Unit) => ((.tup [(true, [.ints .u64 r.1 4]), (true, [.ints .u64 r.2 4])]) : D)) (fun (ch : Unit) => []) w0)
def wide_Product.j1 (y1 : List Int) : Option ((List Int) × (List Int)) := some (((y1).drop 0).take 4, ((y1).drop 4).take 4)
def wide_Product.j2 (y22 : Int) (rec1 : Int → (List Int) → Option ((List Int) × (List Int))) (y32 : List Int) : Option ((List Int) × (List Int)) := rec1 (wr .i64 (y22 + 1)) y32
def wide_Product.j3 (y22 : Int) (rec1 : Int → (List Int) → Option ((List Int) × (List Int))) (y39 : Int) (y40 : List Int) : Option ((List Int) × (List Int)) := if (0 : Int) ≤ (wr .i64 (y22 + 4)) ∧ (wr .i64 (y22 + 4)) < 8 then (wide_Product.j2 y22 rec1 (y40.set (Int.toNat (wr .i64 (y22 + 4))) y39)) else none
def wide_Product.b2 (x1 : List Int) (x2 : List Int) (y22 : Int) (rec1 : Int → (List Int) → Option ((List Int) × (List Int))) (rec2 : Int → Int → (List Int) → Option ((List Int) × (List Int))) (y44 : Int) (y45 : Int) (y46 : List Int) : Option ((List Int) × (List Int)) := if (decide (y44 < 4)) = true then (if (0 : Int) ≤ y22 ∧ y22 < 4 then (if (0 : Int) ≤ y44 ∧ y44 < 4 then ((bits_Mul64.f (rd x1 y22) (rd x2 y44)).bind fun t1 => (if (0 : Int) ≤ (wr .i64 (y22 + y44)) ∧ (wr .i64 (y22 + y44)) < 8 then (if (0 : Int) ≤ t1.2 ∧ (0 : Int) ≤ (rd y46 (wr .i64 (y22 + y44))) ∧ (0 : Int) ≤ 0 ∧ (0 : Int) ≤ 1 then (if (0 : Int) ≤ ((t1.2 + (rd y46 (wr .i64 (y22 + y44))) + 0) % 18446744073709551616) ∧ (0 : Int) ≤ y45 ∧ (0 : Int) ≤ 0 ∧ (0 : Int) ≤ 1 then (rec2 (wr .i64 (y44 + 1)) (wr .u64 ((wr .u64 (t1.1 + ((t1.2 + (rd y46 (wr .i64 (y22 + y44))) + 0) / 18446744073709551616))) + ((((t1.2 + (rd y46 (wr .i64 (y22 + y44))) + 0) % 18446744073709551616) + y45 + 0) / 18446744073709551616))) (y46.set (Int.toNat (wr .i64 (y22 + y44))) ((((t1.2 + (rd y46 (wr .i64 (y22 + y44))) + 0) % 18446744073709551616) + y45 + 0) % 18446744073709551616))) else none) else none) else none)) else none) else none) else (wide_Product.j3 y22 rec1 y45 y46)
def wide_Product.l2 (x1 : List Int) (x2 : List Int) (y22 : Int) (rec1 : Int → (List Int) → Option ((List Int) × (List Int))) : Nat → Int → Int → (List Int) → Option ((List Int) × (List Int))
  | 0, _, _, _ => none
  | q + 1, y44, y45, y46 => wide_Product.b2 x1 x2 y22 rec1 (wide_Product.l2 x1 x2 y22 rec1 q) y44 y45 y46
def wide_Product.b1 (k : Nat) (x1 : List Int) (x2 : List Int) (rec1 : Int → (List Int) → Option ((List Int) × (List Int))) (y22 : Int) (y23 : List Int) : Option ((List Int) × (List Int)) := if (decide (y22 < 4)) = true then (wide_Product.l2 x1 x2 y22 rec1 k 0 0 y23) else (wide_Product.j1 y23)
def wide_Product.l1 (k : Nat) (x1 : List Int) (x2 : List Int) : Nat → Int → (List Int) → Option ((List Int) × (List Int))
  | 0, _, _ => none
  | q + 1, y22, y23 => wide_Product.b1 k x1 x2 (wide_Product.l1 k x1 x2 q) y22 y23
def wide_Product.f (k : Nat) (x1 : List Int) (x2 : List Int) : Option ((List Int) × (List Int)) := wide_Product.l1 k x1 x2 k 0 [0, 0, 0, 0, 0, 0, 0, 0]
theorem wide_Product.ok (k : Nat) : wide_Product.Ctr (wide_Product.f k) := by
  intro x1 x2 r h0 mi w0 ok hm
  delta wide_Product.f at h0
  refine c_enterX (n := 68) [(.agg [.ints .u64 x1 4]), (.agg [.ints .u64 x2 4])] (l := [(0, (.agg [.ints .u64 x1 4])), (1, (.agg [.ints .u64 x2 4]))]) Tryd.func72 rfl rfl rfl rfl ok hm ?_
  clear ok hm
  intro b0 hb a S
  refine c_region ?_
  refine s_box S rfl rfl rfl ?_; clear S a; intro g1 a w S
  refine s_box S rfl rfl rfl ?_; clear S a w; intro g2 a w S
  refine s_alloc S Z26 rfl ⟨rfl, trivial⟩ rfl ?_; clear S a w; intro g3 a w S
  refine s_alloc S Z26 rfl ⟨rfl, trivial⟩ rfl ?_; clear S a w; intro g4 a w S
  refine c_end ?_
  refine c_region ?_
  refine s_alloc S Z121 rfl ⟨rfl, trivial⟩ rfl ?_; clear S a w; intro g5 a w S
  refine c_end ?_
  refine wp_seq_k ?_
  intro K1 hK1
  have j1 : ∀ (m : Mem) (g71 : Nat) (g72 : Nat) (g73 : Nat) (y1 : List Int) (a : Act) (w : World), St 68 m b0 [(6, (.v (.pointer (some ⟨g71, 0, none⟩)))), (5, (.v (.pointer (some ⟨g72, 0, none⟩)))), (4, (.v (.pointer (some ⟨g73, 0, none⟩))))] [Res.cells g71 121 [.ints .u64 y1 8], Res.cells g72 26 [.ints .u64 [0, 0, 0, 0] 4], Res.cells g73 26 [.ints .u64 [0, 0, 0, 0] 4]] a w → wide_Product.j1 y1 = some r → K1 a w := by
    intro m g71 g72 g73 y1 a w S h0
    delta wide_Product.j1 at h0
    refine hK1 a w ?_
    refine wp_seq (c_heldS S (.take 0 (.take 1 (.take 2 (.take 3 (.take 4 (.take 5 (.alts (.run 6 true (.alts (.run 7 false .done .nil)) .nil)))))))) 7 [Res.cells g71 121 [.ints .u64 y1 8], Res.cells g72 26 [.ints .u64 [0, 0, 0, 0] 4]] (.cons .here (.cons .here .nil)) ⟨Res.stay_cells, Res.stay_cells, trivial⟩ [(6, (.v (.pointer (some ⟨g71, 0, none⟩))))] ⟨rfl, trivial⟩ (by kernel_rfl) (by kernel_rfl) ?_); clear S; intro w S CL hw le
    refine h_sliceA S CL hw le ⟨rfl, trivial⟩ (i := 0) (j := 4) (o' := 0) (len := 4) (cap := 8) rfl Tryd.underlying121 T24 (.inl ⟨rfl, rfl⟩) (.inr ⟨_, _, rfl, rfl⟩) (by decide) rfl rfl rfl rfl rfl trivial ?_; clear S CL a; intro a S CL
    refine h_arrp S CL hw le ⟨rfl, rfl, trivial⟩ rfl Tryd.underlying26 (by decide) rfl rfl trivial ?_; clear S CL a; intro a S CL
    refine h_ldInts S CL hw le ⟨rfl, rfl, rfl, trivial⟩ (lo := 0) (ys := ((y1).drop 0).take 4) rfl .here T26 .here rfl (by decide) rfl rfl rfl trivial ?_; clear S CL a; intro a S CL
    refine h_sliceA S CL hw le ⟨rfl, rfl, rfl, rfl, trivial⟩ (i := 4) (j := 8) (o' := 4) (len := 4) (cap := 4) rfl Tryd.underlying121 T24 (.inr ⟨_, _, rfl, rfl⟩) (.inl ⟨rfl, rfl⟩) (by decide) rfl rfl rfl rfl rfl trivial ?_; clear S CL a; intro a S CL
    refine h_arrp S CL hw le ⟨rfl, rfl, rfl, rfl, rfl, trivial⟩ rfl Tryd.underlying26 (by decide) rfl rfl trivial ?_; clear S CL a; intro a S CL
    refine h_ldInts S CL hw le ⟨rfl, rfl, rfl, rfl, rfl, rfl, trivial⟩ (lo := 4) (ys := ((y1).drop 4).take 4) rfl .here T26 .here rfl (by decide) rfl rfl rfl trivial ?_; clear S CL a; intro a S CL
    refine h_run' S rfl trivial ?_
    refine s_store S rfl rfl rfl (s' := [.ints .u64 (((y1).drop 0).take 4) 4]) (.there (.there .here)) T26 rfl rfl ?_; clear S; intro w S
    replace hw := CL.again hw S (.cons .here (.cons .here .nil)) le
    refine h_back ⟨fun _ => hw, ?_⟩
    refine h_run' S rfl trivial ?_
    refine s_store S rfl rfl rfl (s' := [.ints .u64 (((y1).drop 4).take 4) 4]) (.there .here) T26 rfl rfl ?_; clear S; intro w S
    refine h_back ⟨fun h => (nomatch h), ?_⟩
    refine h_done ?_; clear CL hw le
    refine x_thenN ?_
    refine wp_ret ?_
    obtain rfl := Option.some.inj h0
    exact b_ret2 (d1 := (.agg [.ints .u64 (((y1).drop 0).take 4) 4])) (d2 := (.agg [.ints .u64 (((y1).drop 4).take 4) 4])) S rfl (resD_cell rfl (.there (.there .here)) T26 rfl rfl) (resD_cell rfl (.there .here) T26 rfl rfl) fun ok1 ok2 => S.retX (Hx := []) hb _ _ (() : Unit) .nil ⟨ok1, ok2, trivial⟩
  refine c_region ?_
  refine s_move S rfl rfl ?_; clear S a; intro a S
  refine c_end ?_
  refine wp_block ?_
  refine c_loop (fun q1 a w => ∃ (m : Mem) (y22 : Int) (g134 : Nat) (g135 : Nat) (g136 : Nat) (g137 : Nat) (g138 : Nat) (y23 : List Int), St 68 m b0 [(13, (.v (.int .i64 y22))), (6, (.v (.pointer (some ⟨g134, 0, none⟩)))), (5, (.v (.pointer (some ⟨g135, 0, none⟩)))), (4, (.v (.pointer (some ⟨g136, 0, none⟩)))), (3, (.v (.pointer (some ⟨g137, 0, none⟩)))), (2, (.v (.pointer (some ⟨g138, 0, none⟩))))] [Res.cells g134 121 [.ints .u64 y23 8], Res.cells g135 26 [.ints .u64 [0, 0, 0, 0] 4], Res.cells g136 26 [.ints .u64 [0, 0, 0, 0] 4], Res.cells g137 26 [.ints .u64 x2 4], Res.cells g138 26 [.ints .u64 x1 4]] a w ∧ wide_Product.l1 k x1 x2 q1 y22 y23 = some r) ?_ ?_ (k := k) ⟨_, 0, g5, g4, g3, g2, g1, [0, 0, 0, 0, 0, 0, 0, 0], (S.sub ⟨rfl, rfl, rfl, rfl, rfl, rfl, trivial⟩ (.cons .here (.cons .here (.cons .here (.cons .here (.cons .here .nil)))))), h0⟩
  · rintro a w ⟨m, y22, g134, g135, g136, g137, g138, y23, S, h0⟩
    exact (nomatch (show (none : Option ((List Int) × (List Int))) = some r from h0))
  · clear S h0
    rintro q1 a w ⟨m, y22, g134, g135, g136, g137, g138, y23, S, h0⟩
    replace h0 : wide_Product.b1 k x1 x2 (wide_Product.l1 k x1 x2 q1) y22 y23 = some r := h0
    delta wide_Product.b1 at h0
    refine c_region ?_
    refine s_bin S rfl rfl rfl rfl ?_; clear S a; intro a S
    refine c_end ?_
    refine wp_seq ?_
    rcases ite_of h0 with ⟨c1, h1⟩ | ⟨c1, h1⟩ <;> clear h0
    · refine c_condT S rfl c1 ?_
      refine wp_skip ?_
      refine x_thenN ?_
      refine wp_seq_k ?_
      intro K2 hK2
      have j2 : ∀ (m : Mem) (g159 : Nat) (g160 : Nat) (g161 : Nat) (g162 : Nat) (g163 : Nat) (y32 : List Int) (a : Act) (w : World), St 68 m b0 [(13, (.v (.int .i64 y22))), (6, (.v (.pointer (some ⟨g159, 0, none⟩)))), (5, (.v (.pointer (some ⟨g160, 0, none⟩)))), (4, (.v (.pointer (some ⟨g161, 0, none⟩)))), (3, (.v (.pointer (some ⟨g162, 0, none⟩)))), (2, (.v (.pointer (some ⟨g163, 0, none⟩))))] [Res.cells g159 121 [.ints .u64 y32 8], Res.cells g160 26 [.ints .u64 [0, 0, 0, 0] 4], Res.cells g161 26 [.ints .u64 [0, 0, 0, 0] 4], Res.cells g162 26 [.ints .u64 x2 4], Res.cells g163 26 [.ints .u64 x1 4]] a w → wide_Product.j2 y22 (wide_Product.l1 k x1 x2 q1) y32 = some r → K2 a w := by
        intro m g159 g160 g161 g162 g163 y32 a w S h0
        delta wide_Product.j2 at h0
        refine hK2 a w ?_
        refine c_region' ?_
        refine s_bin S rfl rfl rfl rfl ?_; clear S a; intro a S
        refine s_move S rfl rfl ?_; clear S a; intro a S
        refine c_end' ?_
        refine x_thenN ?_
        exact ⟨_, (wr .i64 (y22 + 1)), g159, g160, g161, g162, g163, y32, (S.sub ⟨rfl, rfl, rfl, rfl, rfl, rfl, trivial⟩ (.cons .here (.cons .here (.cons .here (.cons .here (.cons .here .nil)))))), h0⟩
      refine wp_block ?_
      refine c_region ?_
      refine s_move S rfl rfl ?_; clear S a; intro a S
      refine s_assign S rfl rfl ?_; clear S a; intro a S
      refine c_end ?_
      refine c_region ?_
      refine s_assign S rfl rfl ?_; clear S a; intro a S
      refine c_end ?_
      refine wp_seq_k ?_
      intro K3 hK3
      have j3 : ∀ (m : Mem) (y39 : Int) (g179 : Nat) (g180 : Nat) (g181 : Nat) (g182 : Nat) (g183 : Nat) (y40 : List Int) (a : Act) (w : World), St 68 m b0 [(8, (.v (.int .u64 y39))), (7, (.v (.int .i64 y22))), (13, (.v (.int .i64 y22))), (6, (.v (.pointer (some ⟨g179, 0, none⟩)))), (5, (.v (.pointer (some ⟨g180, 0, none⟩)))), (4, (.v (.pointer (some ⟨g181, 0, none⟩)))), (3, (.v (.pointer (some ⟨g182, 0, none⟩)))), (2, (.v (.pointer (some ⟨g183, 0, none⟩))))] [Res.cells g179 121 [.ints .u64 y40 8], Res.cells g180 26 [.ints .u64 [0, 0, 0, 0] 4], Res.cells g181 26 [.ints .u64 [0, 0, 0, 0] 4], Res.cells g182 26 [.ints .u64 x2 4], Res.cells g183 26 [.ints .u64 x1 4]] a w → wide_Product.j3 y22 (wide_Product.l1 k x1 x2 q1) y39 y40 = some r → K3 a w := by
        intro m y39 g179 g180 g181 g182 g183 y40 a w S h0
        delta wide_Product.j3 at h0
        refine hK3 a w ?_
        refine c_region' ?_
        refine s_move S rfl rfl ?_; clear S a; intro a S
        refine s_bin S rfl rfl rfl rfl ?_; clear S a; intro a S
        refine s_move S rfl rfl ?_; clear S a; intro a S
        obtain ⟨c2, h1⟩ := chk_of h0; clear h0
        refine s_iaddr S rfl rfl Tryd.underlying121 T24 c2.1 c2.2 (mul1 _ _) rfl ?_; clear S a; intro a S
        refine s_storei S (i := (wr .i64 (y22 + 4))) rfl rfl .here T24 .here rfl c2.1 c2.2 ?_; clear S w; intro w S
        refine c_end' ?_
        refine x_blockN ?_
        refine x_thenN ?_
        exact j2 _ g179 g180 g181 g182 g183 (y40.set (Int.toNat (wr .i64 (y22 + 4))) y39) a w (S.sub ⟨rfl, rfl, rfl, rfl, rfl, rfl, trivial⟩ (.cons .here (.cons .here (.cons .here (.cons .here (.cons .here .nil)))))) h1
      refine c_region ?_
      refine s_move S rfl rfl ?_; clear S a; intro a S
      refine c_end ?_
      refine wp_block ?_
      refine c_loop (fun q2 a w => ∃ (m : Mem) (y44 : Int) (y45 : Int) (g194 : Nat) (g195 : Nat) (g196 : Nat) (g197 : Nat) (g198 : Nat) (y46 : List Int), St 68 m b0 [(16, (.v (.int .i64 y44))), (8, (.v (.int .u64 y45))), (7, (.v (.int .i64 y22))), (13, (.v (.int .i64 y22))), (6, (.v (.pointer (some ⟨g194, 0, none⟩)))), (5, (.v (.pointer (some ⟨g195, 0, none⟩)))), (4, (.v (.pointer (some ⟨g196, 0, none⟩)))), (3, (.v (.pointer (some ⟨g197, 0, none⟩)))), (2, (.v (.pointer (some ⟨g198, 0, none⟩))))] [Res.cells g194 121 [.ints .u64 y46 8], Res.cells g195 26 [.ints .u64 [0, 0, 0, 0] 4], Res.cells g196 26 [.ints .u64 [0, 0, 0, 0] 4], Res.cells g197 26 [.ints .u64 x2 4], Res.cells g198 26 [.ints .u64 x1 4]] a w ∧ wide_Product.l2 x1 x2 y22 (wide_Product.l1 k x1 x2 q1) q2 y44 y45 y46 = some r) ?_ ?_ (k := k) ⟨_, 0, 0, g134, g135, g136, g137, g138, y23, (S.sub ⟨rfl, rfl, rfl, rfl, rfl, rfl, rfl, rfl, rfl, trivial⟩ (.cons .here (.cons .here (.cons .here (.cons .here (.cons .here .nil)))))), h1⟩
      · rintro a w ⟨m, y44, y45, g194, g195, g196, g197, g198, y46, S, h0⟩
        exact (nomatch (show (none : Option ((List Int) × (List Int))) = some r from h0))
      · clear S h1
        rintro q2 a w ⟨m, y44, y45, g194, g195, g196, g197, g198, y46, S, h0⟩
        replace h0 : wide_Product.b2 x1 x2 y22 (wide_Product.l1 k x1 x2 q1) (wide_Product.l2 x1 x2 y22 (wide_Product.l1 k x1 x2 q1) q2) y44 y45 y46 = some r := h0
        delta wide_Product.b2 at h0
        refine c_region ?_
        refine s_bin S rfl rfl rfl rfl ?_; clear S a; intro a S
        refine c_end ?_
        refine wp_seq ?_
        rcases ite_of h0 with ⟨c3, h1⟩ | ⟨c3, h1⟩ <;> clear h0
        · refine c_condT S rfl c3 ?_
          refine wp_skip ?_
          refine x_thenN ?_
          refine wp_seq ?_
          refine wp_block ?_
          refine c_region ?_
          refine s_move S rfl rfl ?_; clear S a; intro a S
          refine s_assign S rfl rfl ?_; clear S a; intro a S
          refine c_end ?_
          refine wp_seq (c_heldS S (.take 0 (.take 1 (.take 2 (.take 3 (.take 4 (.take 5 (.alts (.run 6 true (.take 7 (.take 8 (.take 9 (.take 10 (.take 11 .done))))) .nil)))))))) 12 [Res.cells g194 121 [.ints .u64 y46 8], Res.cells g195 26 [.ints .u64 [0, 0, 0, 0] 4], Res.cells g196 26 [.ints .u64 [0, 0, 0, 0] 4], Res.cells g197 26 [.ints .u64 x2 4], Res.cells g198 26 [.ints .u64 x1 4]] (.cons .here (.cons .here (.cons .here (.cons .here (.cons .here .nil))))) ⟨Res.stay_cells, Res.stay_cells, Res.stay_cells, Res.stay_cells, Res.stay_cells, trivial⟩ [(9, (.v (.int .i64 y44))), (7, (.v (.int .i64 y22))), (3, (.v (.pointer (some ⟨g197, 0, none⟩)))), (2, (.v (.pointer (some ⟨g198, 0, none⟩))))] ⟨rfl, rfl, rfl, rfl, trivial⟩ (by kernel_rfl) (by kernel_rfl) ?_); clear S; intro w S CL hw le
          refine h_move S CL hw le ⟨rfl, rfl, rfl, rfl, trivial⟩ rfl rfl rfl trivial ?_; clear S CL a; intro a S CL
          obtain ⟨c4, h2⟩ := chk_of h1; clear h1
          refine h_iaddr S CL hw le ⟨rfl, rfl, rfl, rfl, rfl, trivial⟩ rfl rfl Tryd.underlying26 T24 c4.1 c4.2 (mul1 _ _) rfl rfl trivial ?_; clear S CL a; intro a S CL
          refine h_loadi S CL hw le ⟨rfl, rfl, rfl, rfl, rfl, rfl, trivial⟩ (i := y22) rfl (.there (.there (.there (.there .here)))) T24 .here rfl c4.1 c4.2 rfl rfl trivial ?_; clear S CL a; intro a S CL
          refine h_move S CL hw le ⟨rfl, rfl, rfl, rfl, rfl, rfl, rfl, trivial⟩ rfl rfl rfl trivial ?_; clear S CL a; intro a S CL
          obtain ⟨c5, h3⟩ := chk_of h2; clear h2
          refine h_iaddr S CL hw le ⟨rfl, rfl, rfl, rfl, rfl, rfl, rfl, rfl, trivial⟩ rfl rfl Tryd.underlying26 T24 c5.1 c5.2 (mul1 _ _) rfl rfl trivial ?_; clear S CL a; intro a S CL
          refine h_loadi S CL hw le ⟨rfl, rfl, rfl, rfl, rfl, rfl, rfl, rfl, rfl, trivial⟩ (i := y44) rfl (.there (.there (.there .here))) T24 .here rfl c5.1 c5.2 rfl rfl trivial ?_; clear S CL a; intro a S CL
          refine h_run' S rfl trivial ?_
          obtain ⟨t1, et1, h4⟩ := bind_of h3; clear h3
          refine s_callP S (fun (ch : Unit) => ((.tup [(false, [.one (.int .u64 t1.1)]), (false, [.one (.int .u64 t1.2)])]) : D)) N89 rfl rfl (bits_Mul64.ok (rd x1 y22) (rd x2 y44) t1 et1 _ _) ?_; clear S a; intro ch1 m le1 a w S
          replace le := le.trans le1
          replace hw := CL.again hw S (.cons .here (.cons .here (.cons .here (.cons .here (.cons .here .nil))))) le
          refine h_back ⟨fun _ => hw, ?_⟩
          replace CL := CL.add (t := 26) (d := (.tup [(false, [.one (.int .u64 t1.1)]), (false, [.one (.int .u64 t1.2)])])) S rfl rfl
          refine h_move S CL hw le ⟨rfl, rfl, rfl, rfl, rfl, rfl, rfl, rfl, rfl, rfl, rfl, trivial⟩ rfl rfl rfl trivial ?_; clear S CL a; intro a S CL
          refine h_extract S CL hw le ⟨rfl, rfl, rfl, rfl, rfl, rfl, rfl, rfl, rfl, rfl, rfl, rfl, trivial⟩ rfl rfl rfl rfl rfl trivial ?_; clear S CL a; intro a S CL
          refine h_extract S CL hw le ⟨rfl, rfl, rfl, rfl, rfl, rfl, rfl, rfl, rfl, rfl, rfl, rfl, rfl, trivial⟩ rfl rfl rfl rfl rfl trivial ?_; clear S CL a; intro a S CL
          refine h_assign S CL hw le ⟨rfl, rfl, rfl, rfl, rfl, rfl, rfl, rfl, rfl, rfl, rfl, rfl, rfl, rfl, trivial⟩ rfl rfl rfl trivial ?_; clear S CL a; intro a S CL
          refine h_assign S CL hw le ⟨rfl, rfl, rfl, rfl, rfl, rfl, rfl, rfl, rfl, rfl, rfl, rfl, rfl, rfl, rfl, trivial⟩ rfl rfl rfl trivial ?_; clear S CL a; intro a S CL
          refine h_done ?_; clear CL hw le
          refine x_thenN ?_
          refine c_region ?_
          refine s_move S rfl rfl ?_; clear S a; intro a S
          refine s_move S rfl rfl ?_; clear S a; intro a S
          refine s_move S rfl rfl ?_; clear S a; intro a S
          refine s_bin S rfl rfl rfl rfl ?_; clear S a; intro a S
          obtain ⟨c6, h5⟩ := chk_of h4; clear h4
          refine s_iaddr S rfl rfl Tryd.underlying121 T24 c6.1 c6.2 (mul1 _ _) rfl ?_; clear S a; intro a S
          refine s_loadi S (i := (wr .i64 (y22 + y44))) rfl .here T24 .here rfl c6.1 c6.2 rfl ?_; clear S a; intro a S
          obtain ⟨c7, h6⟩ := chk_of h5; clear h5
          refine s_extAdd S X75 rfl rfl rfl c7 rfl ?_; clear S a; intro a S
          refine s_move S rfl rfl ?_; clear S a; intro a S
          refine s_extract S rfl rfl rfl rfl ?_; clear S a; intro a S
          refine s_extract S rfl rfl rfl rfl ?_; clear S a; intro a S
          refine s_assign S rfl rfl ?_; clear S a; intro a S
          refine s_assign S rfl rfl ?_; clear S a; intro a S
          refine c_end ?_
          refine c_region ?_
          refine s_move S rfl rfl ?_; clear S a; intro a S
          refine s_move S rfl rfl ?_; clear S a; intro a S
          refine s_bin S rfl rfl rfl rfl ?_; clear S a; intro a S
          refine s_assign S rfl rfl ?_; clear S a; intro a S
          refine c_end ?_
          refine c_region ?_
          refine s_move S rfl rfl ?_; clear S a; intro a S
          refine s_move S rfl rfl ?_; clear S a; intro a S
          obtain ⟨c8, h7⟩ := chk_of h6; clear h6
          refine s_extAdd S X75 rfl rfl rfl c8 rfl ?_; clear S a; intro a S
          refine s_move S rfl rfl ?_; clear S a; intro a S
          refine s_extract S rfl rfl rfl rfl ?_; clear S a; intro a S
          refine s_extract S rfl rfl rfl rfl ?_; clear S a; intro a S
          refine s_assign S rfl rfl ?_; clear S a; intro a S
          refine s_assign S rfl rfl ?_; clear S a; intro a S
          refine c_end ?_
          refine c_region ?_
          refine s_move S rfl rfl ?_; clear S a; intro a S
          refine s_move S rfl rfl ?_; clear S a; intro a S
          refine s_bin S rfl rfl rfl rfl ?_; clear S a; intro a S
          refine s_move S rfl rfl ?_; clear S a; intro a S
          refine s_iaddr S rfl rfl Tryd.underlying121 T24 c6.1 c6.2 (mul1 _ _) rfl ?_; clear S a; intro a S
          refine s_storei S (i := (wr .i64 (y22 + y44))) rfl rfl .here T24 .here rfl c6.1 c6.2 ?_; clear S w; intro w S
          refine c_end ?_
          refine c_region' ?_
          refine s_move S rfl rfl ?_; clear S a; intro a S
          refine s_move S rfl rfl ?_; clear S a; intro a S
          refine s_bin S rfl rfl rfl rfl ?_; clear S a; intro a S
          refine s_assign S rfl rfl ?_; clear S a; intro a S
          refine c_end' ?_
          refine x_blockN ?_
          refine x_thenN ?_
          refine c_region' ?_
          refine s_bin S rfl rfl rfl rfl ?_; clear S a; intro a S
          refine s_move S rfl rfl ?_; clear S a; intro a S
          refine c_end' ?_
          refine x_thenN ?_
          exact ⟨_, (wr .i64 (y44 + 1)), (wr .u64 ((wr .u64 (t1.1 + ((t1.2 + (rd y46 (wr .i64 (y22 + y44))) + 0) / 18446744073709551616))) + ((((t1.2 + (rd y46 (wr .i64 (y22 + y44))) + 0) % 18446744073709551616) + y45 + 0) / 18446744073709551616))), g194, g195, g196, g197, g198, (y46.set (Int.toNat (wr .i64 (y22 + y44))) ((((t1.2 + (rd y46 (wr .i64 (y22 + y44))) + 0) % 18446744073709551616) + y45 + 0) % 18446744073709551616)), (S.sub ⟨rfl, rfl, rfl, rfl, rfl, rfl, rfl, rfl, rfl, trivial⟩ (.cons .here (.cons .here (.cons .here (.cons .here (.cons .here .nil)))))), h7⟩
        · refine c_condF S rfl c3 ?_
          refine wp_exit ?_
          refine x_thenX ?_
          refine x_thenX ?_
          refine x_blockX ?_
          refine x_thenN ?_
          exact j3 _ y45 g194 g195 g196 g197 g198 y46 a w (S.sub ⟨rfl, rfl, rfl, rfl, rfl, rfl, rfl, rfl, trivial⟩ (.cons .here (.cons .here (.cons .here (.cons .here (.cons .here .nil)))))) h1
    · refine c_condF S rfl c1 ?_
      refine wp_exit ?_
      refine x_thenX ?_
      refine x_thenX ?_
      refine x_blockX ?_
      refine x_thenN ?_
      exact j1 _ g134 g135 g136 y23 a w (S.sub ⟨rfl, rfl, rfl, trivial⟩ (.cons .here (.cons .here (.cons .here .nil)))) h1
/-! smithy/word.Compare -/
abbrev word_Compare.Ty : Type := (List Int) → (List Int) → Option Int
def word_Compare.Ctr (s : word_Compare.Ty) : Prop := ∀ (x1 : List Int) (x2 : List Int) (r : Int) (h0 : s x1 x2 = some r) (mi : Mem) (w0 : World), okL mi [(.agg [.ints .u64 x1 4]), (.agg [.ints .u64 x2 4])] → Pre mi [] w0 → Calls Tryd.prog 53 (([(.agg [.ints .u64 x1 4]), (.agg [.ints .u64 x2 4])] : List D).map D.val).toArray w0 (RetX mi [] (fun (ch : Unit) => ((.v (.int .i64 r)) : D)) (fun (ch : Unit) => []) w0)
def word_Compare.j1 (x1 : List Int) (x2 : List Int) (y1 : Int) : Option Int := if (0 : Int) ≤ y1 ∧ y1 < 4 then (if (decide ((rd x1 y1) < (rd x2 y1))) = true then (some (-1)) else (some 1)) else none
def word_Compare.b1 (x1 : List Int) (x2 : List Int) (rec1 : Int → Option Int) (y3 : Int) : Option Int := if (0 : Int) ≤ y3 ∧ y3 < 4 then (if ((rd x1 y3) == (rd x2 y3)) = true then (rec1 (wr .i64 (y3 - 1))) else (word_Compare.j1 x1 x2 y3)) else none
def word_Compare.l1 (x1 : List Int) (x2 : List Int) : Nat → Int → Option Int
  | 0, _ => none
  | q + 1, y3 => word_Compare.b1 x1 x2 (word_Compare.l1 x1 x2 q) y3
def word_Compare.f (k : Nat) (x1 : List Int) (x2 : List Int) : Option Int := if (decide (x1 = x2)) = true then (some 0) else (word_Compare.l1 x1 x2 k 3)
theorem word_Compare.ok (k : Nat) : word_Compare.Ctr (word_Compare.f k) := by
  intro x1 x2 r h0 mi w0 ok hm
  delta word_Compare.f at h0
  refine c_enterX (n := 25) [(.agg [.ints .u64 x1 4]), (.agg [.ints .u64 x2 4])] (l := [(0, (.agg [.ints .u64 x1 4])), (1, (.agg [.ints .u64 x2 4]))]) Tryd.func53 rfl rfl rfl rfl ok hm ?_
  clear ok hm
  intro b0 hb a S
  refine c_region ?_
  refine s_box S rfl rfl rfl ?_; clear S a; intro g1 a w S
  refine s_box S rfl rfl rfl ?_; clear S a w; intro g2 a w S
  refine s_assign S rfl rfl ?_; clear S a; intro a S
  refine c_end ?_
  refine wp_seq ?_
  refine c_region ?_
  refine s_loada S rfl (.there .here) T26 (s' := [.ints .u64 x1 4]) rfl rfl ?_; clear S a; intro a S
  refine s_loada S rfl .here T26 (s' := [.ints .u64 x2 4]) rfl rfl ?_; clear S a; intro a S
  refine s_eqa S rfl rfl Tryd.underlying26 Tryd.underlying24 T24 Q26 rfl ?_; clear S a; intro a S
  refine c_end ?_
  rcases ite_of h0 with ⟨c1, h1⟩ | ⟨c1, h1⟩ <;> clear h0
  · refine c_condT S rfl c1 ?_
    refine c_region ?_
    refine s_assign S rfl rfl ?_; clear S a; intro a S
    refine c_end ?_
    refine wp_ret ?_
    refine x_thenR ?_
    obtain rfl := Option.some.inj h1
    exact b_ret1 (d := (.v (.int .i64 0))) S rfl rfl fun ok => S.retX (Hx := []) hb _ _ (() : Unit) .nil ok
  · refine c_condF S rfl c1 ?_
    refine wp_skip ?_
    refine x_thenN ?_
    refine c_region ?_
    refine s_assign S rfl rfl ?_; clear S a; intro a S
    refine c_end ?_
    refine wp_seq_k ?_
    intro K1 hK1
    have j1 : ∀ (m : Mem) (y1 : Int) (g9 : Nat) (g10 : Nat) (a : Act) (w : World), St 25 m b0 [(5, (.v (.int .i64 y1))), (3, (.v (.pointer (some ⟨g9, 0, none⟩)))), (2, (.v (.pointer (some ⟨g10, 0, none⟩))))] [Res.cells g9 26 [.ints .u64 x2 4], Res.cells g10 26 [.ints .u64 x1 4]] a w → word_Compare.j1 x1 x2 y1 = some r → K1 a w := by
      intro m y1 g9 g10 a w S h0
      delta word_Compare.j1 at h0
      refine hK1 a w ?_
      refine wp_seq ?_
      refine wp_seq (c_heldS S (.take 0 (.take 1 (.take 2 (.take 3 (.take 4 (.take 5 (.take 6 .done))))))) 7 [Res.cells g9 26 [.ints .u64 x2 4], Res.cells g10 26 [.ints .u64 x1 4]] (.cons .here (.cons .here .nil)) ⟨Res.stay_cells, Res.stay_cells, trivial⟩ [(5, (.v (.int .i64 y1))), (3, (.v (.pointer (some ⟨g9, 0, none⟩)))), (2, (.v (.pointer (some ⟨g10, 0, none⟩))))] ⟨rfl, rfl, rfl, trivial⟩ (by kernel_rfl) (by kernel_rfl) ?_); clear S; intro w S CL hw le
      refine h_move S CL hw le ⟨rfl, rfl, rfl, trivial⟩ rfl rfl rfl trivial ?_; clear S CL a; intro a S CL
      obtain ⟨c2, h1⟩ := chk_of h0; clear h0
      refine h_iaddr S CL hw le ⟨rfl, rfl, rfl, rfl, trivial⟩ rfl rfl Tryd.underlying26 T24 c2.1 c2.2 (mul1 _ _) rfl rfl trivial ?_; clear S CL a; intro a S CL
      refine h_loadi S CL hw le ⟨rfl, rfl, rfl, rfl, rfl, trivial⟩ (i := y1) rfl (.there .here) T24 .here rfl c2.1 c2.2 rfl rfl trivial ?_; clear S CL a; intro a S CL
      refine h_move S CL hw le ⟨rfl, rfl, rfl, rfl, rfl, rfl, trivial⟩ rfl rfl rfl trivial ?_; clear S CL a; intro a S CL
      refine h_iaddr S CL hw le ⟨rfl, rfl, rfl, rfl, rfl, rfl, rfl, trivial⟩ rfl rfl Tryd.underlying26 T24 c2.1 c2.2 (mul1 _ _) rfl rfl trivial ?_; clear S CL a; intro a S CL
      refine h_loadi S CL hw le ⟨rfl, rfl, rfl, rfl, rfl, rfl, rfl, rfl, trivial⟩ (i := y1) rfl .here T24 .here rfl c2.1 c2.2 rfl rfl trivial ?_; clear S CL a; intro a S CL
      refine h_bin S CL hw le ⟨rfl, rfl, rfl, rfl, rfl, rfl, rfl, rfl, rfl, trivial⟩ rfl rfl rfl rfl rfl trivial ?_; clear S CL a; intro a S CL
      refine h_done ?_; clear CL hw le
      refine x_thenN ?_
      rcases ite_of h1 with ⟨c3, h2⟩ | ⟨c3, h2⟩ <;> clear h1
      · refine c_condT S rfl c3 ?_
        refine c_region ?_
        refine s_assign S rfl rfl ?_; clear S a; intro a S
        refine c_end ?_
        refine wp_ret ?_
        refine x_thenR ?_
        obtain rfl := Option.some.inj h2
        exact b_ret1 (d := (.v (.int .i64 (-1)))) S rfl rfl fun ok => S.retX (Hx := []) hb _ _ (() : Unit) .nil ok
      · refine c_condF S rfl c3 ?_
        refine wp_skip ?_
        refine x_thenN ?_
        refine c_region ?_
        refine s_assign S rfl rfl ?_; clear S a; intro a S
        refine c_end ?_
        refine wp_ret ?_
        obtain rfl := Option.some.inj h2
        exact b_ret1 (d := (.v (.int .i64 1))) S rfl rfl fun ok => S.retX (Hx := []) hb _ _ (() : Unit) .nil ok
    refine wp_block ?_
    refine c_loop (fun q1 a w => ∃ (m : Mem) (y3 : Int) (g15 : Nat) (g16 : Nat), St 25 m b0 [(5, (.v (.int .i64 y3))), (3, (.v (.pointer (some ⟨g15, 0, none⟩)))), (2, (.v (.pointer (some ⟨g16, 0, none⟩))))] [Res.cells g15 26 [.ints .u64 x2 4], Res.cells g16 26 [.ints .u64 x1 4]] a w ∧ word_Compare.l1 x1 x2 q1 y3 = some r) ?_ ?_ (k := k) ⟨_, 3, g2, g1, (S.sub ⟨rfl, rfl, rfl, trivial⟩ (.cons .here (.cons .here .nil))), h1⟩
    · rintro a w ⟨m, y3, g15, g16, S, h0⟩
      exact (nomatch (show (none : Option Int) = some r from h0))
    · clear S h1
      rintro q1 a w ⟨m, y3, g15, g16, S, h0⟩
      replace h0 : word_Compare.b1 x1 x2 (word_Compare.l1 x1 x2 q1) y3 = some r := h0
      delta word_Compare.b1 at h0
      refine wp_seq ?_
      refine wp_seq (c_heldS S (.take 0 (.take 1 (.take 2 (.take 3 (.take 4 (.take 5 (.take 6 .done))))))) 7 [Res.cells g15 26 [.ints .u64 x2 4], Res.cells g16 26 [.ints .u64 x1 4]] (.cons .here (.cons .here .nil)) ⟨Res.stay_cells, Res.stay_cells, trivial⟩ [(5, (.v (.int .i64 y3))), (3, (.v (.pointer (some ⟨g15, 0, none⟩)))), (2, (.v (.pointer (some ⟨g16, 0, none⟩))))] ⟨rfl, rfl, rfl, trivial⟩ (by kernel_rfl) (by kernel_rfl) ?_); clear S; intro w S CL hw le
      refine h_move S CL hw le ⟨rfl, rfl, rfl, trivial⟩ rfl rfl rfl trivial ?_; clear S CL a; intro a S CL
      obtain ⟨c4, h1⟩ := chk_of h0; clear h0
      refine h_iaddr S CL hw le ⟨rfl, rfl, rfl, rfl, trivial⟩ rfl rfl Tryd.underlying26 T24 c4.1 c4.2 (mul1 _ _) rfl rfl trivial ?_; clear S CL a; intro a S CL
      refine h_loadi S CL hw le ⟨rfl, rfl, rfl, rfl, rfl, trivial⟩ (i := y3) rfl (.there .here) T24 .here rfl c4.1 c4.2 rfl rfl trivial ?_; clear S CL a; intro a S CL
      refine h_move S CL hw le ⟨rfl, rfl, rfl, rfl, rfl, rfl, trivial⟩ rfl rfl rfl trivial ?_; clear S CL a; intro a S CL
      refine h_iaddr S CL hw le ⟨rfl, rfl, rfl, rfl, rfl, rfl, rfl, trivial⟩ rfl rfl Tryd.underlying26 T24 c4.1 c4.2 (mul1 _ _) rfl rfl trivial ?_; clear S CL a; intro a S CL
      refine h_loadi S CL hw le ⟨rfl, rfl, rfl, rfl, rfl, rfl, rfl, rfl, trivial⟩ (i := y3) rfl .here T24 .here rfl c4.1 c4.2 rfl rfl trivial ?_; clear S CL a; intro a S CL
      refine h_bin S CL hw le ⟨rfl, rfl, rfl, rfl, rfl, rfl, rfl, rfl, rfl, trivial⟩ rfl rfl rfl rfl rfl trivial ?_; clear S CL a; intro a S CL
      refine h_done ?_; clear CL hw le
      refine x_thenN ?_
      rcases ite_of h1 with ⟨c5, h2⟩ | ⟨c5, h2⟩ <;> clear h1
      · refine c_condT S rfl c5 ?_
        refine wp_skip ?_
        refine x_thenN ?_
        refine wp_block ?_
        refine c_region' ?_
        refine s_move S rfl rfl ?_; clear S a; intro a S
        refine s_bin S rfl rfl rfl rfl ?_; clear S a; intro a S
        refine s_assign S rfl rfl ?_; clear S a; intro a S
        refine c_end' ?_
        refine x_blockN ?_
        refine x_thenN ?_
        exact ⟨_, (wr .i64 (y3 - 1)), g15, g16, (S.sub ⟨rfl, rfl, rfl, trivial⟩ (.cons .here (.cons .here .nil))), h2⟩
      · refine c_condF S rfl c5 ?_
        refine wp_exit ?_
        refine x_thenX ?_
        refine x_thenX ?_
        refine x_blockX ?_
        refine x_thenN ?_
        exact j1 _ y3 g15 g16 a w (S.sub ⟨rfl, rfl, rfl, trivial⟩ (.cons .here (.cons .here .nil))) h2
/-! smithy/word.Not -/
abbrev word_Not.Ty : Type := (List Int) → Option ((List Int))
def word_Not.Ctr (s : word_Not.Ty) : Prop := ∀ (x1 : List Int) (r : (List Int)) (h0 : s x1 = some r) (mi : Mem) (w0 : World), okL mi [(.agg [.ints .u64 x1 4])] → Pre mi [] w0 → Calls Tryd.prog 76 (([(.agg [.ints .u64 x1 4])] : List D).map D.val).toArray w0 (RetX mi [] (fun (ch : Unit) => ((.agg [.ints .u64 r 4]) : D)) (fun (ch : Unit) => []) w0)
def word_Not.f (x1 : List Int) : Option ((List Int)) := some [bnot .u64 (rd x1 0), bnot .u64 (rd x1 1), bnot .u64 (rd x1 2), bnot .u64 (rd x1 3)]
theorem word_Not.ok : word_Not.Ctr (word_Not.f) := by
  intro x1 r h0 mi w0 ok hm
  delta word_Not.f at h0
  refine c_enterX (n := 16) [(.agg [.ints .u64 x1 4])] (l := [(0, (.agg [.ints .u64 x1 4]))]) Tryd.func76 rfl rfl rfl rfl ok hm ?_
  clear ok hm
  intro b0 hb a S
  refine c_region ?_
  refine s_box S rfl rfl rfl ?_; clear S a; intro g1 a w S
  refine s_alloc S Z26 rfl ⟨rfl, trivial⟩ rfl ?_; clear S a w; intro g2 a w S
  refine c_end ?_
  refine c_region ?_
  refine s_iaddr S (o' := 0) rfl rfl Tryd.underlying26 T24 (by decide) (by decide) rfl rfl ?_; clear S a; intro a S
  refine s_loadi S (i := 0) rfl (.there .here) T24 .here rfl (by decide) (by decide) rfl ?_; clear S a; intro a S
  refine s_un S rfl rfl rfl ?_; clear S a; intro a S
  refine s_iaddr S (o' := 1) rfl rfl Tryd.underlying26 T24 (by decide) (by decide) rfl rfl ?_; clear S a; intro a S
  refine s_loadi S (i := 1) rfl (.there .here) T24 .here rfl (by decide) (by decide) rfl ?_; clear S a; intro a S
  refine s_un S rfl rfl rfl ?_; clear S a; intro a S
  refine s_iaddr S (o' := 2) rfl rfl Tryd.underlying26 T24 (by decide) (by decide) rfl rfl ?_; clear S a; intro a S
  refine s_loadi S (i := 2) rfl (.there .here) T24 .here rfl (by decide) (by decide) rfl ?_; clear S a; intro a S
  refine s_un S rfl rfl rfl ?_; clear S a; intro a S
  refine s_iaddr S (o' := 3) rfl rfl Tryd.underlying26 T24 (by decide) (by decide) rfl rfl ?_; clear S a; intro a S
  refine s_loadi S (i := 3) rfl (.there .here) T24 .here rfl (by decide) (by decide) rfl ?_; clear S a; intro a S
  refine s_un S rfl rfl rfl ?_; clear S a; intro a S
  refine s_build S (ds := [(0, (.v (.int .u64 (bnot .u64 (rd x1 0))))), (1, (.v (.int .u64 (bnot .u64 (rd x1 1))))), (2, (.v (.int .u64 (bnot .u64 (rd x1 2))))), (3, (.v (.int .u64 (bnot .u64 (rd x1 3)))))]) (dv := (.agg [.ints .u64 [bnot .u64 (rd x1 0), bnot .u64 (rd x1 1), bnot .u64 (rd x1 2), bnot .u64 (rd x1 3)] 4])) rfl (fun _ => by kernel_rfl) ⟨rfl, trivial⟩ rfl ?_; clear S a; intro a S
  refine s_store S rfl rfl rfl (s' := [.ints .u64 [bnot .u64 (rd x1 0), bnot .u64 (rd x1 1), bnot .u64 (rd x1 2), bnot .u64 (rd x1 3)] 4]) .here T26 rfl rfl ?_; clear S w; intro w S
  refine c_end ?_
  refine wp_ret ?_
  obtain rfl := Option.some.inj h0
  exact b_ret1 (d := (.agg [.ints .u64 [bnot .u64 (rd x1 0), bnot .u64 (rd x1 1), bnot .u64 (rd x1 2), bnot .u64 (rd x1 3)] 4])) S rfl (resD_cell rfl .here T26 rfl rfl) fun ok => S.retX (Hx := []) hb _ _ (() : Unit) .nil ok
/-! smithy/fee.ones -/
abbrev fee_ones.Ty : Type := Option ((List Int))
def fee_ones.Ctr (s : fee_ones.Ty) : Prop := ∀ (r : (List Int)) (h0 : s = some r) (mi : Mem) (w0 : World), okL mi [] → Pre mi [] w0 → Calls Tryd.prog 56 (([] : List D).map D.val).toArray w0 (RetX mi [] (fun (ch : Unit) => ((.agg [.ints .u64 r 4]) : D)) (fun (ch : Unit) => []) w0)
def fee_ones.f : Option ((List Int)) := (word_Not.f [0, 0, 0, 0]).bind fun t1 => (some t1)
theorem fee_ones.ok : fee_ones.Ctr (fee_ones.f) := by
  intro r h0 mi w0 ok hm
  delta fee_ones.f at h0
  refine c_enterX (n := 3) [] (l := []) Tryd.func56 rfl rfl rfl rfl ok hm ?_
  clear ok hm
  intro b0 hb a S
  refine c_region ?_
  refine s_alloc S Z26 rfl ⟨rfl, trivial⟩ rfl ?_; clear S a; intro g1 a w S
  refine c_end ?_
  refine c_region ?_
  refine s_build S (ds := []) (dv := (.agg [.ints .u64 [0, 0, 0, 0] 4])) rfl (fun _ => by kernel_rfl) ⟨rfl, trivial⟩ rfl ?_; clear S a; intro a S
  obtain ⟨t1, et1, h1⟩ := bind_of h0; clear h0
  refine s_callP S (fun (ch : Unit) => ((.agg [.ints .u64 t1 4]) : D)) N76 rfl rfl (word_Not.ok [0, 0, 0, 0] t1 et1 _ _) ?_; clear S a w; intro ch1 m le1 a w S
  refine s_store S rfl rfl rfl (s' := [.ints .u64 t1 4]) .here T26 rfl rfl ?_; clear S w; intro w S
  refine c_end ?_
  refine wp_ret ?_
  obtain rfl := Option.some.inj h1
  exact b_ret1 (d := (.agg [.ints .u64 t1 4])) S rfl (resD_cell rfl .here T26 rfl rfl) fun ok => S.retX (Hx := []) hb _ _ (() : Unit) .nil ok
/-! smithy/word.part -/
abbrev word_part.Ty : Type := (List Int) → Int → Option Int
def word_part.Ctr (s : word_part.Ty) : Prop := ∀ (x1 : List Int) (x2 : Int) (r : Int) (h0 : s x1 x2 = some r) (mi : Mem) (w0 : World), okL mi [(.agg [.ints .u64 x1 4]), (.v (.int .i64 x2))] → Pre mi [] w0 → Calls Tryd.prog 95 (([(.agg [.ints .u64 x1 4]), (.v (.int .i64 x2))] : List D).map D.val).toArray w0 (RetX mi [] (fun (ch : Unit) => ((.v (.int .u64 r)) : D)) (fun (ch : Unit) => []) w0)
def word_part.j1 (x1 : List Int) (x2 : Int) (y1 : Bool) : Option Int := if y1 = true then (some 0) else (if (0 : Int) ≤ x2 ∧ x2 < 4 then (some (rd x1 x2)) else none)
def word_part.f (x1 : List Int) (x2 : Int) : Option Int := if (decide (x2 < 0)) = true then (word_part.j1 x1 x2 true) else (word_part.j1 x1 x2 (decide (3 < x2)))
theorem word_part.ok : word_part.Ctr (word_part.f) := by
  intro x1 x2 r h0 mi w0 ok hm
  delta word_part.f at h0
  refine c_enterX (n := 14) [(.agg [.ints .u64 x1 4]), (.v (.int .i64 x2))] (l := [(0, (.agg [.ints .u64 x1 4])), (1, (.v (.int .i64 x2)))]) Tryd.func95 rfl rfl rfl rfl ok hm ?_
  clear ok hm
  intro b0 hb a S
  refine c_region ?_
  refine s_box S rfl rfl rfl ?_; clear S a; intro g1 a w S
  refine s_assign S rfl rfl ?_; clear S a; intro a S
  refine c_end ?_
  refine wp_seq ?_
  refine wp_seq_k ?_
  intro K1 hK1
  have j1 : ∀ (m : Mem) (y1 : Bool) (g2 : Nat) (a : Act) (w : World), St 14 m b0 [(10, (.v (.bool y1))), (2, (.v (.pointer (some ⟨g2, 0, none⟩)))), (1, (.v (.int .i64 x2)))] [Res.cells g2 26 [.ints .u64 x1 4]] a w → word_part.j1 x1 x2 y1 = some r → K1 a w := by
    intro m y1 g2 a w S h0
    delta word_part.j1 at h0
    refine hK1 a w ?_
    rcases ite_of h0 with ⟨c1, h1⟩ | ⟨c1, h1⟩ <;> clear h0
    · refine c_condT S rfl c1 ?_
      refine c_region ?_
      refine s_assign S rfl rfl ?_; clear S a; intro a S
      refine c_end ?_
      refine wp_ret ?_
      refine x_thenR ?_
      obtain rfl := Option.some.inj h1
      exact b_ret1 (d := (.v (.int .u64 0))) S rfl rfl fun ok => S.retX (Hx := []) hb _ _ (() : Unit) .nil ok
    · refine c_condF S rfl c1 ?_
      refine wp_skip ?_
      refine x_thenN ?_
      refine c_region ?_
      refine s_move S rfl rfl ?_; clear S a; intro a S
      obtain ⟨c2, h2⟩ := chk_of h1; clear h1
      refine s_iaddr S rfl rfl Tryd.underlying26 T24 c2.1 c2.2 (mul1 _ _) rfl ?_; clear S a; intro a S
      refine s_loadi S (i := x2) rfl .here T24 .here rfl c2.1 c2.2 rfl ?_; clear S a; intro a S
      refine s_assign S rfl rfl ?_; clear S a; intro a S
      refine c_end ?_
      refine wp_ret ?_
      obtain rfl := Option.some.inj h2
      exact b_ret1 (d := (.v (.int .u64 (rd x1 x2)))) S rfl rfl fun ok => S.retX (Hx := []) hb _ _ (() : Unit) .nil ok
  refine c_region' ?_
  refine s_move S rfl rfl ?_; clear S a; intro a S
  refine s_bin S rfl rfl rfl rfl ?_; clear S a; intro a S
  refine s_move S rfl rfl ?_; clear S a; intro a S
  rcases ite_of h0 with ⟨c3, h1⟩ | ⟨c3, h1⟩ <;> clear h0
  · refine s_gF S (b := (decide (x2 < 0))) rfl rfl c3 rfl ?_; clear S a; intro a S
    refine s_gF S (b := (decide (x2 < 0))) rfl rfl c3 rfl ?_; clear S a; intro a S
    refine s_pick S (b := true) (hc_of rfl c3) rfl rfl ?_; clear S a; intro a S
    refine c_end' ?_
    refine x_thenN ?_
    exact j1 _ true g1 a w (S.sub ⟨rfl, rfl, rfl, trivial⟩ (.cons .here .nil)) h1
  · refine s_gT S (b := (decide (x2 < 0))) rfl rfl c3 ?_
    refine s_move S rfl rfl ?_; clear S a; intro a S
    refine s_gT S (b := (decide (x2 < 0))) rfl rfl c3 ?_
    refine s_bin S rfl rfl rfl rfl ?_; clear S a; intro a S
    refine s_pick S (b := false) (hc_of rfl c3) rfl rfl ?_; clear S a; intro a S
    refine c_end' ?_
    refine x_thenN ?_
    exact j1 _ (decide (3 < x2)) g1 a w (S.sub ⟨rfl, rfl, rfl, trivial⟩ (.cons .here .nil)) h1
/-! smithy/word.Shl -/
abbrev word_Shl.Ty : Type := (List Int) → Int → Option ((List Int))
def word_Shl.Ctr (s : word_Shl.Ty) : Prop := ∀ (x1 : List Int) (x2 : Int) (r : (List Int)) (h0 : s x1 x2 = some r) (mi : Mem) (w0 : World), okL mi [(.agg [.ints .u64 x1 4]), (.v (.int .u64 x2))] → Pre mi [] w0 → Calls Tryd.prog 90 (([(.agg [.ints .u64 x1 4]), (.v (.int .u64 x2))] : List D).map D.val).toArray w0 (RetX mi [] (fun (ch : Unit) => ((.agg [.ints .u64 r 4]) : D)) (fun (ch : Unit) => []) w0)
def word_Shl.j1 (y1 : List Int) : Option ((List Int)) := some y1
def word_Shl.b1 (x1 : List Int) (x2 : Int) (rec1 : Int → (List Int) → Option ((List Int))) (y4 : Int) (y5 : List Int) : Option ((List Int)) := if (decide (y4 < 4)) = true then ((word_part.f x1 (wr .i64 (y4 - (wr .i64 (wr .u64 (Int.tdiv x2 64)))))).bind fun t1 => (if (0 : Int) ≤ (Int.tmod x2 64) then ((word_part.f x1 (wr .i64 ((wr .i64 (y4 - (wr .i64 (wr .u64 (Int.tdiv x2 64))))) - 1))).bind fun t2 => (if (0 : Int) ≤ (wr .u64 (64 - (Int.tmod x2 64))) then (if (0 : Int) ≤ y4 ∧ y4 < 4 then (rec1 (wr .i64 (y4 + 1)) (y5.set (Int.toNat y4) (bits .or .u64 (shl .u64 t1 (min (Int.toNat (Int.tmod x2 64)) 64)) (shr t2 (min (Int.toNat (wr .u64 (64 - (Int.tmod x2 64)))) 64))))) else none) else none)) else none)) else (word_Shl.j1 y5)
def word_Shl.l1 (x1 : List Int) (x2 : Int) : Nat → Int → (List Int) → Option ((List Int))
  | 0, _, _ => none
  | q + 1, y4, y5 => word_Shl.b1 x1 x2 (word_Shl.l1 x1 x2 q) y4 y5
def word_Shl.f (k : Nat) (x1 : List Int) (x2 : Int) : Option ((List Int)) := if (decide (256 ≤ x2)) = true then (some [0, 0, 0, 0]) else (word_Shl.l1 x1 x2 k 0 [0, 0, 0, 0])
theorem word_Shl.ok (k : Nat) : word_Shl.Ctr (word_Shl.f k) := by
  intro x1 x2 r h0 mi w0 ok hm
  delta word_Shl.f at h0
  refine c_enterX (n := 41) [(.agg [.ints .u64 x1 4]), (.v (.int .u64 x2))] (l := [(0, (.agg [.ints .u64 x1 4])), (1, (.v (.int .u64 x2)))]) Tryd.func90 rfl rfl rfl rfl ok hm ?_
  clear ok hm
  intro b0 hb a S
  refine c_region ?_
  refine s_box S rfl rfl rfl ?_; clear S a; intro g1 a w S
  refine s_alloc S Z26 rfl ⟨rfl, trivial⟩ rfl ?_; clear S a w; intro g2 a w S
  refine c_end ?_
  refine wp_seq ?_
  refine c_region ?_
  refine s_move S rfl rfl ?_; clear S a; intro a S
  refine s_bin S rfl rfl rfl rfl ?_; clear S a; intro a S
  refine c_end ?_
  rcases ite_of h0 with ⟨c1, h1⟩ | ⟨c1, h1⟩ <;> clear h0
  · refine c_condT S rfl c1 ?_
    refine c_region ?_
    refine s_build S (ds := []) (dv := (.agg [.ints .u64 [0, 0, 0, 0] 4])) rfl (fun _ => by kernel_rfl) ⟨rfl, trivial⟩ rfl ?_; clear S a; intro a S
    refine s_store S rfl rfl rfl (s' := [.ints .u64 [0, 0, 0, 0] 4]) .here T26 rfl rfl ?_; clear S w; intro w S
    refine c_end ?_
    refine wp_ret ?_
    refine x_thenR ?_
    obtain rfl := Option.some.inj h1
    exact b_ret1 (d := (.agg [.ints .u64 [0, 0, 0, 0] 4])) S rfl (resD_cell rfl .here T26 rfl rfl) fun ok => S.retX (Hx := []) hb _ _ (() : Unit) .nil ok
  · refine c_condF S rfl c1 ?_
    refine wp_skip ?_
    refine x_thenN ?_
    refine c_region ?_
    refine s_move S rfl rfl ?_; clear S a; intro a S
    refine s_quo S rfl rfl (by decide) rfl ?_; clear S a; intro a S
    refine s_conv S rfl rfl Tryd.underlying3 rfl ?_; clear S a; intro a S
    refine s_move S rfl rfl ?_; clear S a; intro a S
    refine s_rem S rfl rfl (by decide) rfl ?_; clear S a; intro a S
    refine s_assign S rfl rfl ?_; clear S a; intro a S
    refine s_assign S rfl rfl ?_; clear S a; intro a S
    refine c_end ?_
    refine c_region ?_
    refine s_alloc S Z26 rfl ⟨rfl, trivial⟩ rfl ?_; clear S a w; intro g3 a w S
    refine c_end ?_
    refine wp_seq_k ?_
    intro K1 hK1
    have j1 : ∀ (m : Mem) (g13 : Nat) (g14 : Nat) (y1 : List Int) (a : Act) (w : World), St 41 m b0 [(7, (.v (.pointer (some ⟨g13, 0, none⟩)))), (4, (.v (.pointer (some ⟨g14, 0, none⟩))))] [Res.cells g13 26 [.ints .u64 y1 4], Res.cells g14 26 [.ints .u64 [0, 0, 0, 0] 4]] a w → word_Shl.j1 y1 = some r → K1 a w := by
      intro m g13 g14 y1 a w S h0
      delta word_Shl.j1 at h0
      refine hK1 a w ?_
      refine c_region ?_
      refine s_loada S rfl .here T26 (s' := [.ints .u64 y1 4]) rfl rfl ?_; clear S a; intro a S
      refine s_store S rfl rfl rfl (s' := [.ints .u64 y1 4]) (.there .here) T26 rfl rfl ?_; clear S w; intro w S
      refine c_end ?_
      refine wp_ret ?_
      obtain rfl := Option.some.inj h0
      exact b_ret1 (d := (.agg [.ints .u64 y1 4])) S rfl (resD_cell rfl (.there .here) T26 rfl rfl) fun ok => S.retX (Hx := []) hb _ _ (() : Unit) .nil ok
    refine c_region ?_
    refine s_move S rfl rfl ?_; clear S a; intro a S
    refine c_end ?_
    refine wp_block ?_
    refine c_loop (fun q1 a w => ∃ (m : Mem) (y4 : Int) (g21 : Nat) (g22 : Nat) (g23 : Nat) (y5 : List Int), St 41 m b0 [(17, (.v (.int .i64 y4))), (7, (.v (.pointer (some ⟨g21, 0, none⟩)))), (6, (.v (.int .u64 (Int.tmod x2 64)))), (5, (.v (.int .i64 (wr .i64 (wr .u64 (Int.tdiv x2 64)))))), (4, (.v (.pointer (some ⟨g22, 0, none⟩)))), (2, (.v (.pointer (some ⟨g23, 0, none⟩))))] [Res.cells g21 26 [.ints .u64 y5 4], Res.cells g22 26 [.ints .u64 [0, 0, 0, 0] 4], Res.cells g23 26 [.ints .u64 x1 4]] a w ∧ word_Shl.l1 x1 x2 q1 y4 y5 = some r) ?_ ?_ (k := k) ⟨_, 0, g3, g2, g1, [0, 0, 0, 0], (S.sub ⟨rfl, rfl, rfl, rfl, rfl, rfl, trivial⟩ (.cons .here (.cons .here (.cons .here .nil)))), h1⟩
    · rintro a w ⟨m, y4, g21, g22, g23, y5, S, h0⟩
      exact (nomatch (show (none : Option ((List Int))) = some r from h0))
    · clear S h1
      rintro q1 a w ⟨m, y4, g21, g22, g23, y5, S, h0⟩
      replace h0 : word_Shl.b1 x1 x2 (word_Shl.l1 x1 x2 q1) y4 y5 = some r := h0
      delta word_Shl.b1 at h0
      refine c_region ?_
      refine s_bin S rfl rfl rfl rfl ?_; clear S a; intro a S
      refine c_end ?_
      refine wp_seq ?_
      rcases ite_of h0 with ⟨c2, h1⟩ | ⟨c2, h1⟩ <;> clear h0
      · refine c_condT S rfl c2 ?_
        refine wp_skip ?_
        refine x_thenN ?_
        refine wp_seq ?_
        refine wp_block ?_
        refine c_region ?_
        refine s_move S rfl rfl ?_; clear S a; intro a S
        refine s_assign S rfl rfl ?_; clear S a; intro a S
        refine c_end ?_
        refine c_heldS S (.take 0 (.take 1 (.take 2 (.take 3 (.take 4 (.take 6 (.take 8 (.take 9 (.take 10 (.take 11 (.take 12 (.take 14 (.take 15 (.alts (.run 5 true (.take 7 (.alts (.run 13 true (.take 16 (.take 17 (.take 18 (.alts (.run 19 false .done .nil))))) .nil))) .nil))))))))))))))) 19 [Res.cells g21 26 [.ints .u64 y5 4], Res.cells g22 26 [.ints .u64 [0, 0, 0, 0] 4], Res.cells g23 26 [.ints .u64 x1 4]] (.cons .here (.cons .here (.cons .here .nil))) ⟨Res.stay_cells, Res.stay_cells, Res.stay_cells, trivial⟩ [(8, (.v (.int .i64 y4))), (7, (.v (.pointer (some ⟨g21, 0, none⟩)))), (6, (.v (.int .u64 (Int.tmod x2 64)))), (5, (.v (.int .i64 (wr .i64 (wr .u64 (Int.tdiv x2 64)))))), (2, (.v (.pointer (some ⟨g23, 0, none⟩))))] ⟨rfl, rfl, rfl, rfl, rfl, trivial⟩ (by kernel_rfl) (by kernel_rfl) ?_; clear S; intro w S CL hw le
        refine h_move S CL hw le ⟨rfl, rfl, rfl, rfl, rfl, trivial⟩ rfl rfl rfl trivial ?_; clear S CL a; intro a S CL
        refine h_loada S CL hw le ⟨rfl, rfl, rfl, rfl, rfl, rfl, trivial⟩ rfl (.there (.there .here)) T26 (s' := [.ints .u64 x1 4]) rfl rfl rfl trivial ?_; clear S CL a; intro a S CL
        refine h_move S CL hw le ⟨rfl, rfl, rfl, rfl, rfl, rfl, rfl, trivial⟩ rfl rfl rfl trivial ?_; clear S CL a; intro a S CL
        refine h_move S CL hw le ⟨rfl, rfl, rfl, rfl, rfl, rfl, rfl, rfl, trivial⟩ rfl rfl rfl trivial ?_; clear S CL a; intro a S CL
        refine h_bin S CL hw le ⟨rfl, rfl, rfl, rfl, rfl, rfl, rfl, rfl, rfl, trivial⟩ rfl rfl rfl rfl rfl trivial ?_; clear S CL a; intro a S CL
        refine h_move S CL hw le ⟨rfl, rfl, rfl, rfl, rfl, rfl, rfl, rfl, rfl, rfl, trivial⟩ rfl rfl rfl trivial ?_; clear S CL a; intro a S CL
        refine h_loada S CL hw le ⟨rfl, rfl, rfl, rfl, rfl, rfl, rfl, rfl, rfl, rfl, rfl, trivial⟩ rfl (.there (.there .here)) T26 (s' := [.ints .u64 x1 4]) rfl rfl rfl trivial ?_; clear S CL a; intro a S CL
        refine h_move S CL hw le ⟨rfl, rfl, rfl, rfl, rfl, rfl, rfl, rfl, rfl, rfl, rfl, rfl, trivial⟩ rfl rfl rfl trivial ?_; clear S CL a; intro a S CL
        refine h_move S CL hw le ⟨rfl, rfl, rfl, rfl, rfl, rfl, rfl, rfl, rfl, rfl, rfl, rfl, rfl, trivial⟩ rfl rfl rfl trivial ?_; clear S CL a; intro a S CL
        refine h_bin S CL hw le ⟨rfl, rfl, rfl, rfl, rfl, rfl, rfl, rfl, rfl, rfl, rfl, rfl, rfl, rfl, trivial⟩ rfl rfl rfl rfl rfl trivial ?_; clear S CL a; intro a S CL
        refine h_bin S CL hw le ⟨rfl, rfl, rfl, rfl, rfl, rfl, rfl, rfl, rfl, rfl, rfl, rfl, rfl, rfl, rfl, trivial⟩ rfl rfl rfl rfl rfl trivial ?_; clear S CL a; intro a S CL
        refine h_move S CL hw le ⟨rfl, rfl, rfl, rfl, rfl, rfl, rfl, rfl, rfl, rfl, rfl, rfl, rfl, rfl, rfl, rfl, trivial⟩ rfl rfl rfl trivial ?_; clear S CL a; intro a S CL
        refine h_bin S CL hw le ⟨rfl, rfl, rfl, rfl, rfl, rfl, rfl, rfl, rfl, rfl, rfl, rfl, rfl, rfl, rfl, rfl, rfl, trivial⟩ rfl rfl rfl rfl rfl trivial ?_; clear S CL a; intro a S CL
        refine h_run' S rfl trivial ?_
        obtain ⟨t1, et1, h2⟩ := bind_of h1; clear h1
        refine s_callP S (fun (ch : Unit) => ((.v (.int .u64 t1)) : D)) N95 rfl rfl (word_part.ok x1 (wr .i64 (y4 - (wr .i64 (wr .u64 (Int.tdiv x2 64))))) t1 et1 _ _) ?_; clear S a; intro ch1 m le1 a w S
        replace le := le.trans le1
        replace hw := CL.again hw S (.cons .here (.cons .here (.cons .here .nil))) le
        refine h_back ⟨fun _ => hw, ?_⟩
        replace CL := CL.add (t := 25) (d := (.v (.int .u64 t1))) S rfl rfl
        obtain ⟨c3, h3⟩ := chk_of h2; clear h2
        refine h_shl S CL hw le ⟨rfl, rfl, rfl, rfl, rfl, rfl, rfl, rfl, rfl, rfl, rfl, rfl, rfl, rfl, rfl, rfl, rfl, rfl, rfl, trivial⟩ (e := (min (Int.toNat (Int.tmod x2 64)) 64)) rfl rfl c3 rfl rfl rfl trivial ?_; clear S CL a; intro a S CL
        refine h_run' S rfl trivial ?_
        obtain ⟨t2, et2, h4⟩ := bind_of h3; clear h3
        refine s_callP S (fun (ch : Unit) => ((.v (.int .u64 t2)) : D)) N95 rfl rfl (word_part.ok x1 (wr .i64 ((wr .i64 (y4 - (wr .i64 (wr .u64 (Int.tdiv x2 64))))) - 1)) t2 et2 _ _) ?_; clear S a; intro ch2 m le1 a w S
        replace le := le.trans le1
        replace hw := CL.again hw S (.cons .here (.cons .here (.cons .here .nil))) le
        refine h_back ⟨fun _ => hw, ?_⟩
        replace CL := CL.add (t := 33) (d := (.v (.int .u64 t2))) S rfl rfl
        obtain ⟨c4, h5⟩ := chk_of h4; clear h4
        refine h_shr S CL hw le ⟨rfl, rfl, rfl, rfl, rfl, rfl, rfl, rfl, rfl, rfl, rfl, rfl, rfl, rfl, rfl, rfl, rfl, rfl, rfl, rfl, rfl, trivial⟩ (e := (min (Int.toNat (wr .u64 (64 - (Int.tmod x2 64)))) 64)) rfl rfl c4 rfl rfl rfl trivial ?_; clear S CL a; intro a S CL
        refine h_bin S CL hw le ⟨rfl, rfl, rfl, rfl, rfl, rfl, rfl, rfl, rfl, rfl, rfl, rfl, rfl, rfl, rfl, rfl, rfl, rfl, rfl, rfl, rfl, rfl, trivial⟩ rfl rfl rfl rfl rfl trivial ?_; clear S CL a; intro a S CL
        obtain ⟨c5, h6⟩ := chk_of h5; clear h5
        refine h_iaddr S CL hw le ⟨rfl, rfl, rfl, rfl, rfl, rfl, rfl, rfl, rfl, rfl, rfl, rfl, rfl, rfl, rfl, rfl, rfl, rfl, rfl, rfl, rfl, rfl, rfl, trivial⟩ rfl rfl Tryd.underlying26 T24 c5.1 c5.2 (mul1 _ _) rfl rfl trivial ?_; clear S CL a; intro a S CL
        refine h_run' S rfl trivial ?_
        refine s_storei S (i := y4) rfl rfl .here T24 .here rfl c5.1 c5.2 ?_; clear S; intro w S
        refine h_back ⟨fun h => (nomatch h), ?_⟩
        refine h_done ?_; clear CL hw le
        refine x_blockN ?_
        refine x_thenN ?_
        refine c_region' ?_
        refine s_bin S rfl rfl rfl rfl ?_; clear S a; intro a S
        refine s_move S rfl rfl ?_; clear S a; intro a S
        refine c_end' ?_
        refine x_thenN ?_
        exact ⟨_, (wr .i64 (y4 + 1)), g21, g22, g23, (y5.set (Int.toNat y4) (bits .or .u64 (shl .u64 t1 (min (Int.toNat (Int.tmod x2 64)) 64)) (shr t2 (min (Int.toNat (wr .u64 (64 - (Int.tmod x2 64)))) 64)))), (S.sub ⟨rfl, rfl, rfl, rfl, rfl, rfl, trivial⟩ (.cons .here (.cons .here (.cons .here .nil)))), h6⟩
      · refine c_condF S rfl c2 ?_
        refine wp_exit ?_
        refine x_thenX ?_
        refine x_thenX ?_
        refine x_blockX ?_
        refine x_thenN ?_
        exact j1 _ g21 g22 y5 a w (S.sub ⟨rfl, rfl, trivial⟩ (.cons .here (.cons .here .nil))) h1
/-! smithy/word.Bit -/
abbrev word_Bit.Ty : Type := (List Int) → Int → Option Bool
def word_Bit.Ctr (s : word_Bit.Ty) : Prop := ∀ (x1 : List Int) (x2 : Int) (r : Bool) (h0 : s x1 x2 = some r) (mi : Mem) (w0 : World), okL mi [(.agg [.ints .u64 x1 4]), (.v (.int .u64 x2))] → Pre mi [] w0 → Calls Tryd.prog 91 (([(.agg [.ints .u64 x1 4]), (.v (.int .u64 x2))] : List D).map D.val).toArray w0 (RetX mi [] (fun (ch : Unit) => ((.v (.bool r)) : D)) (fun (ch : Unit) => []) w0)
def word_Bit.f (x1 : List Int) (x2 : Int) : Option Bool := if (decide (x2 < 256)) = true then (if (0 : Int) ≤ (wr .u64 (Int.tdiv x2 64)) ∧ (wr .u64 (Int.tdiv x2 64)) < 4 then (if (0 : Int) ≤ (Int.tmod x2 64) then (some ((bits .and .u64 (shr (rd x1 (wr .u64 (Int.tdiv x2 64))) (min (Int.toNat (Int.tmod x2 64)) 64)) 1) == 1)) else none) else none) else (some false)
theorem word_Bit.ok : word_Bit.Ctr (word_Bit.f) := by
  intro x1 x2 r h0 mi w0 ok hm
  delta word_Bit.f at h0
  refine c_enterX (n := 18) [(.agg [.ints .u64 x1 4]), (.v (.int .u64 x2))] (l := [(0, (.agg [.ints .u64 x1 4])), (1, (.v (.int .u64 x2)))]) Tryd.func91 rfl rfl rfl rfl ok hm ?_
  clear ok hm
  intro b0 hb a S
  refine c_region ?_
  refine s_box S rfl rfl rfl ?_; clear S a; intro g1 a w S
  refine s_assign S rfl rfl ?_; clear S a; intro a S
  refine c_end ?_
  refine c_region ?_
  refine s_move S rfl rfl ?_; clear S a; intro a S
  refine s_bin S rfl rfl rfl rfl ?_; clear S a; intro a S
  refine s_move S rfl rfl ?_; clear S a; intro a S
  rcases ite_of h0 with ⟨c1, h1⟩ | ⟨c1, h1⟩ <;> clear h0
  · refine s_gT S (b := (decide (x2 < 256))) rfl rfl c1 ?_
    refine s_move S rfl rfl ?_; clear S a; intro a S
    refine s_gT S (b := (decide (x2 < 256))) rfl rfl c1 ?_
    refine s_quo S rfl rfl (by decide) rfl ?_; clear S a; intro a S
    refine s_gT S (b := (decide (x2 < 256))) rfl rfl c1 ?_
    obtain ⟨c2, h2⟩ := chk_of h1; clear h1
    refine s_iaddr S rfl rfl Tryd.underlying26 T24 c2.1 c2.2 (mul1 _ _) rfl ?_; clear S a; intro a S
    refine s_gT S (b := (decide (x2 < 256))) rfl rfl c1 ?_
    refine s_loadi S (i := (wr .u64 (Int.tdiv x2 64))) rfl .here T24 .here rfl c2.1 c2.2 rfl ?_; clear S a; intro a S
    refine s_gT S (b := (decide (x2 < 256))) rfl rfl c1 ?_
    refine s_move S rfl rfl ?_; clear S a; intro a S
    refine s_gT S (b := (decide (x2 < 256))) rfl rfl c1 ?_
    refine s_rem S rfl rfl (by decide) rfl ?_; clear S a; intro a S
    refine s_gT S (b := (decide (x2 < 256))) rfl rfl c1 ?_
    obtain ⟨c3, h3⟩ := chk_of h2; clear h2
    refine s_shr S (e := (min (Int.toNat (Int.tmod x2 64)) 64)) rfl rfl c3 rfl rfl ?_; clear S a; intro a S
    refine s_gT S (b := (decide (x2 < 256))) rfl rfl c1 ?_
    refine s_bin S rfl rfl rfl rfl ?_; clear S a; intro a S
    refine s_gT S (b := (decide (x2 < 256))) rfl rfl c1 ?_
    refine s_bin S rfl rfl rfl rfl ?_; clear S a; intro a S
    refine s_pick S (b := true) (hc_of rfl c1) rfl rfl ?_; clear S a; intro a S
    refine s_assign S rfl rfl ?_; clear S a; intro a S
    refine c_end ?_
    refine wp_ret ?_
    obtain rfl := Option.some.inj h3
    exact b_ret1 (d := (.v (.bool ((bits .and .u64 (shr (rd x1 (wr .u64 (Int.tdiv x2 64))) (min (Int.toNat (Int.tmod x2 64)) 64)) 1) == 1)))) S rfl rfl fun ok => S.retX (Hx := []) hb _ _ (() : Unit) .nil ok
  · refine s_gF S (b := (decide (x2 < 256))) rfl rfl c1 rfl ?_; clear S a; intro a S
    refine s_gF S (b := (decide (x2 < 256))) rfl rfl c1 rfl ?_; clear S a; intro a S
    refine s_gF S (b := (decide (x2 < 256))) rfl rfl c1 rfl ?_; clear S a; intro a S
    refine s_gF S (b := (decide (x2 < 256))) rfl rfl c1 rfl ?_; clear S a; intro a S
    refine s_gF S (b := (decide (x2 < 256))) rfl rfl c1 rfl ?_; clear S a; intro a S
    refine s_gF S (b := (decide (x2 < 256))) rfl rfl c1 rfl ?_; clear S a; intro a S
    refine s_gF S (b := (decide (x2 < 256))) rfl rfl c1 rfl ?_; clear S a; intro a S
    refine s_gF S (b := (decide (x2 < 256))) rfl rfl c1 rfl ?_; clear S a; intro a S
    refine s_gF S (b := (decide (x2 < 256))) rfl rfl c1 rfl ?_; clear S a; intro a S
    refine s_pick S (b := false) (hc_of rfl c1) rfl rfl ?_; clear S a; intro a S
    refine s_assign S rfl rfl ?_; clear S a; intro a S
    refine c_end ?_
    refine wp_ret ?_
    obtain rfl := Option.some.inj h1
    exact b_ret1 (d := (.v (.bool false))) S rfl rfl fun ok => S.retX (Hx := []) hb _ _ (() : Unit) .nil ok
/-! smithy/word.Sub -/
abbrev word_Sub.Ty : Type := (List Int) → (List Int) → Option ((List Int))
def word_Sub.Ctr (s : word_Sub.Ty) : Prop := ∀ (x1 : List Int) (x2 : List Int) (r : (List Int)) (h0 : s x1 x2 = some r) (mi : Mem) (w0 : World), okL mi [(.agg [.ints .u64 x1 4]), (.agg [.ints .u64 x2 4])] → Pre mi [] w0 → Calls Tryd.prog 54 (([(.agg [.ints .u64 x1 4]), (.agg [.ints .u64 x2 4])] : List D).map D.val).toArray w0 (RetX mi [] (fun (ch : Unit) => ((.agg [.ints .u64 r 4]) : D)) (fun (ch : Unit) => []) w0)
def word_Sub.j1 (y1 : List Int) : Option ((List Int)) := some y1
def word_Sub.b1 (x1 : List Int) (x2 : List Int) (rec1 : Int → Int → (List Int) → Option ((List Int))) (y5 : Int) (y6 : Int) (y7 : List Int) : Option ((List Int)) := if (decide (y5 < 4)) = true then (if (0 : Int) ≤ y5 ∧ y5 < 4 then (if (0 : Int) ≤ (rd x1 y5) ∧ ((0 : Int) ≤ (rd x2 y5) ∧ ((rd x2 y5) : Int) < 18446744073709551616) ∧ (0 : Int) ≤ y6 ∧ (y6 : Int) ≤ 1 then (rec1 (wr .i64 (y5 + 1)) (if (rd x1 y5) < (rd x2 y5) + y6 then 1 else 0) (y7.set (Int.toNat y5) (((rd x1 y5) - (rd x2 y5) - y6) % 18446744073709551616))) else none) else none) else (word_Sub.j1 y7)
def word_Sub.l1 (x1 : List Int) (x2 : List Int) : Nat → Int → Int → (List Int) → Option ((List Int))
  | 0, _, _, _ => none
  | q + 1, y5, y6, y7 => word_Sub.b1 x1 x2 (word_Sub.l1 x1 x2 q) y5 y6 y7
def word_Sub.f (k : Nat) (x1 : List Int) (x2 : List Int) : Option ((List Int)) := word_Sub.l1 x1 x2 k 0 0 [0, 0, 0, 0]
theorem word_Sub.ok (k : Nat) : word_Sub.Ctr (word_Sub.f k) := by
  intro x1 x2 r h0 mi w0 ok hm
  delta word_Sub.f at h0
  refine c_enterX (n := 30) [(.agg [.ints .u64 x1 4]), (.agg [.ints .u64 x2 4])] (l := [(0, (.agg [.ints .u64 x1 4])), (1, (.agg [.ints .u64 x2 4]))]) Tryd.func54 rfl rfl rfl rfl ok hm ?_
  clear ok hm
  intro b0 hb a S
  refine c_region ?_
  refine s_box S rfl rfl rfl ?_; clear S a; intro g1 a w S
  refine s_box S rfl rfl rfl ?_; clear S a w; intro g2 a w S
  refine s_alloc S Z26 rfl ⟨rfl, trivial⟩ rfl ?_; clear S a w; intro g3 a w S
  refine c_end ?_
  refine c_region ?_
  refine s_alloc S Z26 rfl ⟨rfl, trivial⟩ rfl ?_; clear S a w; intro g4 a w S
  refine c_end ?_
  refine c_region ?_
  refine s_assign S rfl rfl ?_; clear S a; intro a S
  refine c_end ?_
  refine wp_seq_k ?_
  intro K1 hK1
  have j1 : ∀ (m : Mem) (g17 : Nat) (g18 : Nat) (y1 : List Int) (a : Act) (w : World), St 30 m b0 [(5, (.v (.pointer (some ⟨g17, 0, none⟩)))), (4, (.v (.pointer (some ⟨g18, 0, none⟩))))] [Res.cells g17 26 [.ints .u64 y1 4], Res.cells g18 26 [.ints .u64 [0, 0, 0, 0] 4]] a w → word_Sub.j1 y1 = some r → K1 a w := by
    intro m g17 g18 y1 a w S h0
    delta word_Sub.j1 at h0
    refine hK1 a w ?_
    refine c_region ?_
    refine s_loada S rfl .here T26 (s' := [.ints .u64 y1 4]) rfl rfl ?_; clear S a; intro a S
    refine s_store S rfl rfl rfl (s' := [.ints .u64 y1 4]) (.there .here) T26 rfl rfl ?_; clear S w; intro w S
    refine c_end ?_
    refine wp_ret ?_
    obtain rfl := Option.some.inj h0
    exact b_ret1 (d := (.agg [.ints .u64 y1 4])) S rfl (resD_cell rfl (.there .here) T26 rfl rfl) fun ok => S.retX (Hx := []) hb _ _ (() : Unit) .nil ok
  refine c_region ?_
  refine s_move S rfl rfl ?_; clear S a; intro a S
  refine c_end ?_
  refine wp_block ?_
  refine c_loop (fun q1 a w => ∃ (m : Mem) (y5 : Int) (y6 : Int) (g27 : Nat) (g28 : Nat) (g29 : Nat) (g30 : Nat) (y7 : List Int), St 30 m b0 [(10, (.v (.int .i64 y5))), (6, (.v (.int .u64 y6))), (5, (.v (.pointer (some ⟨g27, 0, none⟩)))), (4, (.v (.pointer (some ⟨g28, 0, none⟩)))), (3, (.v (.pointer (some ⟨g29, 0, none⟩)))), (2, (.v (.pointer (some ⟨g30, 0, none⟩))))] [Res.cells g27 26 [.ints .u64 y7 4], Res.cells g28 26 [.ints .u64 [0, 0, 0, 0] 4], Res.cells g29 26 [.ints .u64 x2 4], Res.cells g30 26 [.ints .u64 x1 4]] a w ∧ word_Sub.l1 x1 x2 q1 y5 y6 y7 = some r) ?_ ?_ (k := k) ⟨_, 0, 0, g4, g3, g2, g1, [0, 0, 0, 0], (S.sub ⟨rfl, rfl, rfl, rfl, rfl, rfl, trivial⟩ (.cons .here (.cons .here (.cons .here (.cons .here .nil))))), h0⟩
  · rintro a w ⟨m, y5, y6, g27, g28, g29, g30, y7, S, h0⟩
    exact (nomatch (show (none : Option ((List Int))) = some r from h0))
  · clear S h0
    rintro q1 a w ⟨m, y5, y6, g27, g28, g29, g30, y7, S, h0⟩
    replace h0 : word_Sub.b1 x1 x2 (word_Sub.l1 x1 x2 q1) y5 y6 y7 = some r := h0
    delta word_Sub.b1 at h0
    refine c_region ?_
    refine s_bin S rfl rfl rfl rfl ?_; clear S a; intro a S
    refine c_end ?_
    refine wp_seq ?_
    rcases ite_of h0 with ⟨c1, h1⟩ | ⟨c1, h1⟩ <;> clear h0
    · refine c_condT S rfl c1 ?_
      refine wp_skip ?_
      refine x_thenN ?_
      refine wp_seq ?_
      refine wp_block ?_
      refine c_region ?_
      refine s_move S rfl rfl ?_; clear S a; intro a S
      refine s_assign S rfl rfl ?_; clear S a; intro a S
      refine c_end ?_
      refine wp_seq (c_heldS S (.take 0 (.take 1 (.take 2 (.take 3 (.take 4 (.take 5 (.take 6 (.alts (.run 7 true (.take 8 (.take 9 (.take 10 (.take 11 (.take 12 .done))))) .nil))))))))) 13 [Res.cells g27 26 [.ints .u64 y7 4], Res.cells g28 26 [.ints .u64 [0, 0, 0, 0] 4], Res.cells g29 26 [.ints .u64 x2 4], Res.cells g30 26 [.ints .u64 x1 4]] (.cons .here (.cons .here (.cons .here (.cons .here .nil)))) ⟨Res.stay_cells, Res.stay_cells, Res.stay_cells, Res.stay_cells, trivial⟩ [(7, (.v (.int .i64 y5))), (6, (.v (.int .u64 y6))), (3, (.v (.pointer (some ⟨g29, 0, none⟩)))), (2, (.v (.pointer (some ⟨g30, 0, none⟩))))] ⟨rfl, rfl, rfl, rfl, trivial⟩ (by kernel_rfl) (by kernel_rfl) ?_); clear S; intro w S CL hw le
      refine h_move S CL hw le ⟨rfl, rfl, rfl, rfl, trivial⟩ rfl rfl rfl trivial ?_; clear S CL a; intro a S CL
      obtain ⟨c2, h2⟩ := chk_of h1; clear h1
      refine h_iaddr S CL hw le ⟨rfl, rfl, rfl, rfl, rfl, trivial⟩ rfl rfl Tryd.underlying26 T24 c2.1 c2.2 (mul1 _ _) rfl rfl trivial ?_; clear S CL a; intro a S CL
      refine h_loadi S CL hw le ⟨rfl, rfl, rfl, rfl, rfl, rfl, trivial⟩ (i := y5) rfl (.there (.there (.there .here))) T24 .here rfl c2.1 c2.2 rfl rfl trivial ?_; clear S CL a; intro a S CL
      refine h_move S CL hw le ⟨rfl, rfl, rfl, rfl, rfl, rfl, rfl, trivial⟩ rfl rfl rfl trivial ?_; clear S CL a; intro a S CL
      refine h_iaddr S CL hw le ⟨rfl, rfl, rfl, rfl, rfl, rfl, rfl, rfl, trivial⟩ rfl rfl Tryd.underlying26 T24 c2.1 c2.2 (mul1 _ _) rfl rfl trivial ?_; clear S CL a; intro a S CL
      refine h_loadi S CL hw le ⟨rfl, rfl, rfl, rfl, rfl, rfl, rfl, rfl, rfl, trivial⟩ (i := y5) rfl (.there (.there .here)) T24 .here rfl c2.1 c2.2 rfl rfl trivial ?_; clear S CL a; intro a S CL
      refine h_move S CL hw le ⟨rfl, rfl, rfl, rfl, rfl, rfl, rfl, rfl, rfl, rfl, trivial⟩ rfl rfl rfl trivial ?_; clear S CL a; intro a S CL
      refine h_run' S rfl trivial ?_
      obtain ⟨c3, h3⟩ := chk_of h2; clear h2
      refine s_extSub S X74 rfl rfl rfl c3 rfl ?_; clear S a; intro a S
      replace hw := CL.again hw S (.cons .here (.cons .here (.cons .here (.cons .here .nil)))) le
      refine h_back ⟨fun _ => hw, ?_⟩
      replace CL := CL.add (t := 21) (d := (.tup [(false, [.one (.int .u64 (((rd x1 y5) - (rd x2 y5) - y6) % 18446744073709551616))]), (false, [.one (.int .u64 (if (rd x1 y5) < (rd x2 y5) + y6 then 1 else 0))])])) S rfl rfl
      refine h_move S CL hw le ⟨rfl, rfl, rfl, rfl, rfl, rfl, rfl, rfl, rfl, rfl, rfl, rfl, trivial⟩ rfl rfl rfl trivial ?_; clear S CL a; intro a S CL
      refine h_extract S CL hw le ⟨rfl, rfl, rfl, rfl, rfl, rfl, rfl, rfl, rfl, rfl, rfl, rfl, rfl, trivial⟩ rfl rfl rfl rfl rfl trivial ?_; clear S CL a; intro a S CL
      refine h_extract S CL hw le ⟨rfl, rfl, rfl, rfl, rfl, rfl, rfl, rfl, rfl, rfl, rfl, rfl, rfl, rfl, trivial⟩ rfl rfl rfl rfl rfl trivial ?_; clear S CL a; intro a S CL
      refine h_assign S CL hw le ⟨rfl, rfl, rfl, rfl, rfl, rfl, rfl, rfl, rfl, rfl, rfl, rfl, rfl, rfl, rfl, trivial⟩ rfl rfl rfl trivial ?_; clear S CL a; intro a S CL
      refine h_assign S CL hw le ⟨rfl, rfl, rfl, rfl, rfl, rfl, rfl, rfl, rfl, rfl, rfl, rfl, rfl, rfl, rfl, rfl, trivial⟩ rfl rfl rfl trivial ?_; clear S CL a; intro a S CL
      refine h_done ?_; clear CL hw le
      refine x_thenN ?_
      refine c_region ?_
      refine s_move S rfl rfl ?_; clear S a; intro a S
      refine s_move S rfl rfl ?_; clear S a; intro a S
      refine s_iaddr S rfl rfl Tryd.underlying26 T24 c2.1 c2.2 (mul1 _ _) rfl ?_; clear S a; intro a S
      refine s_storei S (i := y5) rfl rfl .here T24 .here rfl c2.1 c2.2 ?_; clear S w; intro w S
      refine c_end ?_
      refine c_region' ?_
      refine s_move S rfl rfl ?_; clear S a; intro a S
      refine s_assign S rfl rfl ?_; clear S a; intro a S
      refine c_end' ?_
      refine x_blockN ?_
      refine x_thenN ?_
      refine c_region' ?_
      refine s_bin S rfl rfl rfl rfl ?_; clear S a; intro a S
      refine s_move S rfl rfl ?_; clear S a; intro a S
      refine c_end' ?_
      refine x_thenN ?_
      exact ⟨_, (wr .i64 (y5 + 1)), (if (rd x1 y5) < (rd x2 y5) + y6 then 1 else 0), g27, g28, g29, g30, (y7.set (Int.toNat y5) (((rd x1 y5) - (rd x2 y5) - y6) % 18446744073709551616)), (S.sub ⟨rfl, rfl, rfl, rfl, rfl, rfl, trivial⟩ (.cons .here (.cons .here (.cons .here (.cons .here .nil))))), h3⟩
    · refine c_condF S rfl c1 ?_
      refine wp_exit ?_
      refine x_thenX ?_
      refine x_thenX ?_
      refine x_blockX ?_
      refine x_thenN ?_
      exact j1 _ g27 g28 y7 a w (S.sub ⟨rfl, rfl, trivial⟩ (.cons .here (.cons .here .nil))) h1
end GW
