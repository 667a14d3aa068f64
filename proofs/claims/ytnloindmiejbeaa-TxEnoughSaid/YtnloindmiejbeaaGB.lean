import Derived.Test.YtnloindmiejbeaaProg
import Derived.Test.YtnloindmiejbeaaGA
set_option linter.unusedVariables false
set_option linter.unusedSimpArgs false
set_option maxRecDepth 10000
set_option maxHeartbeats 4000000
namespace GW
open Go Go.RowKit Go.Proofs Go.Proofs.Try
noncomputable section
abbrev state_New_0i79.Ty : Type := ((List L76)) → Option ((((List L76)) × ((List ((List Int) × Option Nat)) × (List L97) × (List (List ((List Int) × (List Int)))) × (List (List ((List Int) × Bool)))) × Int × (List L132) × (List Bool) × (List (List Int))))
def state_New_0i79.Ctr (s : state_New_0i79.Ty) : Prop := ∀ (x1 : (List L76)) (ch_0_0 : Option Addr) (ch_0_1 : Nat) (r : (((List L76)) × ((List ((List Int) × Option Nat)) × (List L97) × (List (List ((List Int) × (List Int)))) × (List (List ((List Int) × Bool)))) × Int × (List L132) × (List Bool) × (List (List Int)))), Ct (C := (Nat × (Option Addr) × Nat × Nat × (List Nat) × (List Nat) × (List Nat) × (Option Addr) × Nat × Nat × (Option Addr) × Nat × Nat × (Option Addr) × Nat × Nat)) Try.prog 17 (s x1 = some r) [] [(.rf (.iface 79 (.agg (cellsOf [.q Y76 ch_0_0 ch_0_1 x1]).toArray)) (IfR [.q Y76 ch_0_0 ch_0_1 x1]))] (fun ch => (.v (.pointer (some ⟨ch.1, 0, none⟩)))) fun ch => [Res.cells ch.1 85 [.rf (.iface 79 (.agg (cellsOf [.q Y76 ch.2.1 ch.2.2.1 r.1]).toArray)) (IfR [.q Y76 ch.2.1 ch.2.2.1 r.1]), .one (.map (some ch.2.2.2.1)), .i r.2.2.1, .s ch.2.2.2.2.2.2.2.1 ch.2.2.2.2.2.2.2.2.1 ch.2.2.2.2.2.2.2.2.2.1, .s ch.2.2.2.2.2.2.2.2.2.2.1 ch.2.2.2.2.2.2.2.2.2.2.2.1 ch.2.2.2.2.2.2.2.2.2.2.2.2.1, .s ch.2.2.2.2.2.2.2.2.2.2.2.2.2.1 ch.2.2.2.2.2.2.2.2.2.2.2.2.2.2.1 ch.2.2.2.2.2.2.2.2.2.2.2.2.2.2.2], Res.map true (Ty.arr .u8 20) false (Ty.pid ch.2.2.2.2.1) ch.2.2.2.1 r.2.1.1, Res.fam (Res.struct (YE97 ch.2.2.2.2.2.1 ch.2.2.2.2.2.2.1) 97) (one_struct _ _) ch.2.2.2.2.1 [] r.2.1.2.1, Res.fam (fun g_ kvs_ => Res.map true (Ty.arr .u64 4) true (Ty.arr .u64 4) g_ kvs_) (one_map true (Ty.arr .u64 4) true (Ty.arr .u64 4)) ch.2.2.2.2.2.1 [] r.2.1.2.2.1, Res.fam (fun g_ kvs_ => Res.map true (Ty.arr .u64 4) false Ty.bool g_ kvs_) (one_map true (Ty.arr .u64 4) false Ty.bool) ch.2.2.2.2.2.2.1 [] r.2.1.2.2.2, Res.row Y132 132 ch.2.2.2.2.2.2.2.1 ch.2.2.2.2.2.2.2.2.1 ch.2.2.2.2.2.2.2.2.2.1 r.2.2.2.1, Res.row Ty.bool 1 ch.2.2.2.2.2.2.2.2.2.2.1 ch.2.2.2.2.2.2.2.2.2.2.2.1 ch.2.2.2.2.2.2.2.2.2.2.2.2.1 r.2.2.2.2.1, Res.row (Ty.arr .u8 20) 23 ch.2.2.2.2.2.2.2.2.2.2.2.2.2.1 ch.2.2.2.2.2.2.2.2.2.2.2.2.2.2.1 ch.2.2.2.2.2.2.2.2.2.2.2.2.2.2.2 r.2.2.2.2.2]
def state_New_0i79.f (x1 : (List L76)) : Option ((((List L76)) × ((List ((List Int) × Option Nat)) × (List L97) × (List (List ((List Int) × (List Int)))) × (List (List ((List Int) × Bool)))) × Int × (List L132) × (List Bool) × (List (List Int)))) := some ((x1), (([] : List ((List Int) × Option Nat)), ([] : List L97), ([] : List (List ((List Int) × (List Int)))), ([] : List (List ((List Int) × Bool)))), 0, ([] : List L132), ([] : List Bool), ([] : List (List Int)))
theorem state_New_0i79.ok : state_New_0i79.Ctr (state_New_0i79.f) := by
 intro x1 ch_0_0 ch_0_1 r h0 mi w0 ok hm
 delta state_New_0i79.f at h0
 refine c_enterZ (n := 11) ok hm func17 rfl rfl rfl fun b0 hb a S => c_region (s_assign S rfl rfl fun a S => c_end (wp_seq (c_region (s_move S rfl rfl fun a S => s_eqIN S rfl rfl rfl underlying52 rfl fun a S => c_end (c_condF S rfl rfl (wp_skip (x_thenN (c_region (s_move S rfl rfl fun a S => s_makeMap (α := List Int) (β := Option Nat) S true (Ty.arr .u8 20) false (Ty.pid ([] : List Nat)) rfl fun g1 a w S => ?_)))))))))
 replace S := S.fam0 (fun g_ kvs_ => Res.map true (Ty.arr .u64 4) false Ty.bool g_ kvs_) (one_map true (Ty.arr .u64 4) false Ty.bool)
 replace S := S.fam0 (fun g_ kvs_ => Res.map true (Ty.arr .u64 4) true (Ty.arr .u64 4) g_ kvs_) (one_map true (Ty.arr .u64 4) true (Ty.arr .u64 4))
 replace S := S.fam0 (Res.struct (YE97 ([] : List Nat) ([] : List Nat)) 97) (one_struct _ _)
 refine s_bldS S (ds := [(0, (.rf (.iface 79 (.agg (cellsOf [.q Y76 ch_0_0 ch_0_1 x1]).toArray)) (IfR [.q Y76 ch_0_0 ch_0_1 x1]))), (1, (.v (.map (some g1))))]) (zs := [.one .nilIface, .one (.map none), .i 0, .s none 0 0, .s none 0 0, .s none 0 0]) (s' := [.rf (.iface 79 (.agg (cellsOf [.q Y76 ch_0_0 ch_0_1 x1]).toArray)) (IfR [.q Y76 ch_0_0 ch_0_1 x1]), .one (.map (some g1)), .i 0, .s none 0 0, .s none 0 0, .s none 0 0]) rfl underlying85 P85 Z85 ⟨rfl, rfl, rfl, rfl, rfl, rfl, trivial⟩ rfl rfl fun a S => s_box S rfl rfl rfl fun g2 a w S => s_assign S rfl rfl fun a S => c_end (wp_ret ?_)
 replace S := S.nilrow Y132 132
 replace S := S.nilrow Ty.bool 1
 replace S := S.nilrow (Ty.arr .u8 20) 23
 obtain rfl := Option.some.inj h0
 exact b_ret1 (d := (.p g2)) S rfl rfl fun ok => S.retX (Hx := []) hb _ _ ((g2, ch_0_0, ch_0_1, g1, ([] : List Nat), ([] : List Nat), ([] : List Nat), none, 0, 0, none, 0, 0, none, 0, 0) : Nat × (Option Addr) × Nat × Nat × (List Nat) × (List Nat) × (List Nat) × (Option Addr) × Nat × Nat × (Option Addr) × Nat × Nat × (Option Addr) × Nat × Nat) (.c3 (.c6 (.c3 (.c3 (.c3 (.c2 (.c1 (.c0 .n)))))))) ok
abbrev tx_long.Ty : Type := (L30) → Option Bool
def tx_long.Ctr (s : tx_long.Ty) : Prop := ∀ (x1 : L30) (ch_0_0 : Option Addr) (ch_0_1 : Nat) (ch_0_2 : Option Addr) (ch_0_3 : Nat) (r : Bool), Ct (C := Unit) Try.prog 52 (s x1 = some r) [] [(.agg (Y30.segs x1 ((), (), (), (), (), (ch_0_0, ch_0_1), (), (), (), (ch_0_2, ch_0_3))))] (fun _ => (.b r)) fun _ => []
def tx_long.j1 (x1 : L30) : Option Bool := if (decide (131072 < ((x1.2.2.2.2.2.1).length : Int))) = true then (some true) else (some (decide (64 < ((x1.2.2.2.2.2.2.2.2.2).length : Int))))
def tx_long.b1 (x1 : L30) (rec1 : Int → Option Bool) (y1 : Int) : Option Bool := if (decide (y1 < ((x1.2.2.2.2.2.2.2.2.2).length : Int))) = true then (if (0 : Int) ≤ y1 ∧ y1 < ((x1.2.2.2.2.2.2.2.2.2).length : Int) then (if (decide (64 < (((gt x1.2.2.2.2.2.2.2.2.2 y1).2).length : Int))) = true then (some true) else (rec1 (wr .i64 (y1 + 1)))) else none) else (tx_long.j1 x1)
def tx_long.l1 (x1 : L30) : Nat → Int → Option Bool
  | 0, _ => none
  | q + 1, y1 => tx_long.b1 x1 (tx_long.l1 x1 q) y1
def tx_long.f (k : Nat) (x1 : L30) : Option Bool := tx_long.l1 x1 k 0
theorem tx_long.ok (k : Nat) : tx_long.Ctr (tx_long.f k) := by
 intro x1 ch_0_0 ch_0_1 ch_0_2 ch_0_3 r h0 mi w0 ok hm
 delta tx_long.f at h0
 refine c_enterZ (n := 27) ok hm func52 rfl rfl rfl fun b0 hb a S => c_region (s_box S rfl rfl rfl fun g1 a w S => s_assign S rfl rfl fun a S => c_end (wp_seq_k fun K1 hK1 => ?_))
 have j1 : ∀ m g7 a w, St 27 m b0 [(1, (.p g7))] [Res.cells g7 30 (Y30.segs x1 ((), (), (), (), (), (ch_0_0, ch_0_1), (), (), (), (ch_0_2, ch_0_3)))] a w → tx_long.j1 x1 = some r → K1 a w := by
  intro m g7 a w S h0
  delta tx_long.j1 at h0
  refine hK1 a w (c_region (s_fieldAddr S rfl I30_5 T27 (by decide) rfl rfl fun a S => s_loadSl S rfl .h T27 (A := ch_0_0) (len := (x1.2.2.2.2.2.1).length) (cap := ch_0_1) rfl rfl fun a S => s_lenS S rfl underlying27 rfl fun a S => s_bin S rfl rfl rfl rfl fun a S => s_move S rfl rfl fun a S => ?_))
  rcases ite_of h0 with ⟨c1, h1⟩ | ⟨c1, h1⟩
  ·refine s_gF S (b := (decide (131072 < ((x1.2.2.2.2.2.1).length : Int)))) rfl rfl c1 rfl fun a S => s_gF S (b := (decide (131072 < ((x1.2.2.2.2.2.1).length : Int)))) rfl rfl c1 rfl fun a S => s_gF S (b := (decide (131072 < ((x1.2.2.2.2.2.1).length : Int)))) rfl rfl c1 rfl fun a S => s_gF S (b := (decide (131072 < ((x1.2.2.2.2.2.1).length : Int)))) rfl rfl c1 rfl fun a S => s_pick S (b := true) (hc_of rfl c1) rfl rfl fun a S => s_assign S rfl rfl fun a S => c_end (wp_ret ?_)
   obtain rfl := Option.some.inj h1
   exact b_ret1 (d := (.b true)) S rfl rfl (S.rt hb)
  ·refine s_gT S (b := (decide (131072 < ((x1.2.2.2.2.2.1).length : Int)))) rfl rfl c1 (s_fieldAddr S rfl I30_9 T28 (by decide) rfl rfl fun a S => s_gT S (b := (decide (131072 < ((x1.2.2.2.2.2.1).length : Int)))) rfl rfl c1 (s_loadSl S rfl .h T28 (A := ch_0_2) (len := (x1.2.2.2.2.2.2.2.2.2).length) (cap := ch_0_3) rfl rfl fun a S => s_gT S (b := (decide (131072 < ((x1.2.2.2.2.2.1).length : Int)))) rfl rfl c1 (s_lenS S rfl underlying28 rfl fun a S => s_gT S (b := (decide (131072 < ((x1.2.2.2.2.2.1).length : Int)))) rfl rfl c1 (s_bin S rfl rfl rfl rfl fun a S => s_pick S (b := false) (hc_of rfl c1) rfl rfl fun a S => s_assign S rfl rfl fun a S => c_end (wp_ret ?_)))))
   obtain rfl := Option.some.inj h1
   exact b_ret1 (d := (.b (decide (64 < ((x1.2.2.2.2.2.2.2.2.2).length : Int))))) S rfl rfl (S.rt hb)
 refine c_region (s_fieldAddr S rfl I30_9 T28 (by decide) rfl rfl fun a S => s_loadSl S rfl .h T28 (A := ch_0_2) (len := (x1.2.2.2.2.2.2.2.2.2).length) (cap := ch_0_3) rfl rfl fun a S => s_lenS S rfl underlying28 rfl fun a S => s_move S rfl rfl fun a S => c_end (wp_block ?_))
 refine c_loop (fun q1 a w => ∃ m y1 g12, St 27 m b0 [(8, (.i y1)), (7, (.i ((x1.2.2.2.2.2.2.2.2.2).length : Int))), (6, (.q Y63 ch_0_2 ch_0_3 x1.2.2.2.2.2.2.2.2.2)), (1, (.p g12))] [Res.cells g12 30 (Y30.segs x1 ((), (), (), (), (), (ch_0_0, ch_0_1), (), (), (), (ch_0_2, ch_0_3)))] a w ∧ tx_long.l1 x1 q1 y1 = some r) ?_ ?_ (k := k) ⟨_, 0, g1, (S.sb rfl (.c0 .n)), h0⟩
 ·rintro a w ⟨m, y1, g12, S, h0⟩
  exact (nomatch (show (none : Option Bool) = some r from h0))
 ·clear S h0
  rintro q1 a w ⟨m, y1, g12, S, h0⟩
  replace h0 : tx_long.b1 x1 (tx_long.l1 x1 q1) y1 = some r := h0
  delta tx_long.b1 at h0
  refine c_region (s_bin S rfl rfl rfl rfl fun a S => c_end (wp_seq ?_))
  rcases ite_of h0 with ⟨c2, h1⟩ | ⟨c2, h1⟩
  ·refine c_condT S rfl c2 (wp_skip (x_thenN (wp_seq (wp_block (c_region ?_)))))
   obtain ⟨c3, h2⟩ := chk_of h1; clear h1
   refine s_iaddrS S rfl rfl rfl underlying28 T63 c3.1 c3.2 rfl fun p1 a S => s_ldA S (fun (c : Unit × (Option Addr × Nat)) => [.b20 ((gt x1.2.2.2.2.2.2.2.2.2 y1).1), .q (Ty.arr .u64 4) c.2.1 c.2.2 ((gt x1.2.2.2.2.2.2.2.2.2 y1).2)]) rfl T63 (fun _ => rfl) rfl fun ch1 a S => ?_
   refine s_alloc S Z63 rfl ⟨rfl, rfl, trivial⟩ rfl fun g13 a w S => s_store S rfl rfl rfl (s' := [.b20 ((gt x1.2.2.2.2.2.2.2.2.2 y1).1), .q (Ty.arr .u64 4) ch1.2.1 ch1.2.2 ((gt x1.2.2.2.2.2.2.2.2.2 y1).2)]) .h T63 rfl rfl fun w S => c_end (c_region (s_fieldAddr S rfl I63_1 T61 (by decide) rfl rfl fun a S => s_loadSl S rfl .h T61 (A := ch1.2.1) (len := ((gt x1.2.2.2.2.2.2.2.2.2 y1).2).length) (cap := ch1.2.2) rfl rfl fun a S => s_lenS S rfl underlying61 rfl fun a S => s_bin S rfl rfl rfl rfl fun a S => c_end ?_))
   rcases ite_of h2 with ⟨c4, h3⟩ | ⟨c4, h3⟩
   ·refine c_condT S rfl c4 (c_region (s_assign S rfl rfl fun a S => c_end (wp_ret (x_blockR (x_thenR (x_thenR (x_blockR (x_thenR ?_))))))))
    obtain rfl := Option.some.inj h3
    exact b_ret1 (d := (.b true)) S rfl rfl (S.rt hb)
   ·refine c_condF S rfl c4 (wp_skip (x_blockN (x_thenN (c_region' (s_bin S rfl rfl rfl rfl fun a S => s_move S rfl rfl fun a S => c_end' (x_thenN ?_))))))
    exact ⟨_, (wr .i64 (y1 + 1)), g12, (S.sb rfl (.c1 .n)), h3⟩
  ·refine c_condF S rfl c2 (wp_exit (x_thenX (x_thenX (x_blockX (x_thenN ?_)))))
   exact j1 _ g12 a w (S.sub ⟨rfl, trivial⟩ (.c0 .n)) h1
abbrev gas_either.Ty : Type := Bool → Int → Int → Option Int
def gas_either.Ctr (s : gas_either.Ty) : Prop := ∀ (x1 : Bool) (x2 : Int) (x3 : Int) (r : Int), Ct (C := Unit) Try.prog 48 (s x1 x2 x3 = some r) [] [(.b x1), (.w x2), (.w x3)] (fun _ => (.w r)) fun _ => []
def gas_either.f (x1 : Bool) (x2 : Int) (x3 : Int) : Option Int := if x1 = true then (some x2) else (some x3)
theorem gas_either.ok : gas_either.Ctr (gas_either.f) := by
 intro x1 x2 x3 r h0 mi w0 ok hm
 delta gas_either.f at h0
 refine c_enterZ (n := 10) ok hm func48 rfl rfl rfl fun b0 hb a S => c_region (s_assign S rfl rfl fun a S => c_end (wp_seq (c_region (s_move S rfl rfl fun a S => c_end ?_))))
 rcases ite_of h0 with ⟨c1, h1⟩ | ⟨c1, h1⟩
 ·refine c_condT S rfl c1 (c_region (s_move S rfl rfl fun a S => s_assign S rfl rfl fun a S => c_end (wp_ret (x_thenR ?_))))
  obtain rfl := Option.some.inj h1
  exact b_ret1 (d := (.w x2)) S rfl rfl (S.rt hb)
 ·refine c_condF S rfl c1 (wp_skip (x_thenN (c_region (s_move S rfl rfl fun a S => s_assign S rfl rfl fun a S => c_end (wp_ret ?_)))))
  obtain rfl := Option.some.inj h1
  exact b_ret1 (d := (.w x3)) S rfl rfl (S.rt hb)
abbrev mem_Words.Ty : Type := Int → Option Int
def mem_Words.Ctr (s : mem_Words.Ty) : Prop := ∀ (x1 : Int) (r : Int), Ct (C := Unit) Try.prog 49 (s x1 = some r) [] [(.w x1)] (fun _ => (.w r)) fun _ => []
def mem_Words.j1 (y1 : Int) : Option Int := some y1
def mem_Words.f (x1 : Int) : Option Int := if (decide (0 < (Int.tmod x1 32))) = true then (mem_Words.j1 (wr .u64 ((wr .u64 (Int.tdiv x1 32)) + 1))) else (mem_Words.j1 (wr .u64 (Int.tdiv x1 32)))
theorem mem_Words.ok : mem_Words.Ctr (mem_Words.f) := by
 intro x1 r h0 mi w0 ok hm
 delta mem_Words.f at h0
 refine c_enterZ (n := 12) ok hm func49 rfl rfl rfl fun b0 hb a S => c_region (s_assign S rfl rfl fun a S => c_end (c_region (s_move S rfl rfl fun a S => s_quo S rfl rfl (by decide) rfl fun a S => s_assign S rfl rfl fun a S => c_end (wp_seq_k fun K1 hK1 => ?_))))
 have j1 : ∀ m y1 a w, St 12 m b0 [(3, (.w y1))] [] a w → mem_Words.j1 y1 = some r → K1 a w := by
  intro m y1 a w S h0
  delta mem_Words.j1 at h0
  refine hK1 a w (c_region (s_move S rfl rfl fun a S => s_assign S rfl rfl fun a S => c_end (wp_ret ?_)))
  obtain rfl := Option.some.inj h0
  exact b_ret1 (d := (.w y1)) S rfl rfl (S.rt hb)
 refine c_region (s_move S rfl rfl fun a S => s_rem S rfl rfl (by decide) rfl fun a S => s_bin S rfl rfl rfl rfl fun a S => c_end ?_)
 rcases ite_of h0 with ⟨c1, h1⟩ | ⟨c1, h1⟩
 ·refine c_condT S rfl c1 (c_region' (s_move S rfl rfl fun a S => s_bin S rfl rfl rfl rfl fun a S => s_assign S rfl rfl fun a S => c_end' (x_thenN ?_)))
  exact j1 _ (wr .u64 ((wr .u64 (Int.tdiv x1 32)) + 1)) a w0 (S.sub ⟨rfl, trivial⟩ .nil) h1
 ·refine c_condF S rfl c1 (wp_skip (x_thenN ?_))
  exact j1 _ (wr .u64 (Int.tdiv x1 32)) a w0 (S.sub ⟨rfl, trivial⟩ .nil) h1
abbrev gas_Intrinsic.Ty : Type := (List Int) → Bool → Int → Int → Option Int
def gas_Intrinsic.Ctr (s : gas_Intrinsic.Ty) : Prop := ∀ (x1 : List Int) (x2 : Bool) (x3 : Int) (x4 : Int) (ch_0_0 : Option Addr) (ch_0_1 : Nat) (r : Int), Ct (C := Unit) Try.prog 33 (s x1 x2 x3 x4 = some r) [] [(.q yb ch_0_0 ch_0_1 x1), (.b x2), (.w x3), (.w x4)] (fun _ => (.w r)) fun _ => []
def gas_Intrinsic.j2 (y2 : Int) : Option Int := some y2
def gas_Intrinsic.j1 (x1 : List Int) (x2 : Bool) (y1 : Int) : Option Int := if x2 = true then ((mem_Words.f (wr .u64 ((x1).length : Int))).bind fun t1 => (gas_Intrinsic.j2 (wr .u64 (y1 + (wr .u64 (32000 + (wr .u64 (2 * t1)))))))) else (gas_Intrinsic.j2 y1)
def gas_Intrinsic.b1 (x1 : List Int) (x2 : Bool) (rec1 : Int → Int → Option Int) (y5 : Int) (y6 : Int) : Option Int := if (decide (y5 < ((x1).length : Int))) = true then (if (0 : Int) ≤ y5 ∧ y5 < ((x1).length : Int) then ((gas_either.f ((rd x1 y5) == 0) 4 16).bind fun t4 => (rec1 (wr .i64 (y5 + 1)) (wr .u64 (y6 + t4)))) else none) else (gas_Intrinsic.j1 x1 x2 y6)
def gas_Intrinsic.l1 (x1 : List Int) (x2 : Bool) : Nat → Int → Int → Option Int
  | 0, _, _ => none
  | q + 1, y5, y6 => gas_Intrinsic.b1 x1 x2 (gas_Intrinsic.l1 x1 x2 q) y5 y6
def gas_Intrinsic.f (k : Nat) (x1 : List Int) (x2 : Bool) (x3 : Int) (x4 : Int) : Option Int := gas_Intrinsic.l1 x1 x2 k 0 (wr .u64 ((wr .u64 (21000 + (wr .u64 (2400 * x3)))) + (wr .u64 (1900 * x4))))
theorem gas_Intrinsic.ok (k : Nat) : gas_Intrinsic.Ctr (gas_Intrinsic.f k) := by
 intro x1 x2 x3 x4 ch_0_0 ch_0_1 r h0 mi w0 ok hm
 delta gas_Intrinsic.f at h0
 refine c_enterZ (n := 40) ok hm func33 rfl rfl rfl fun b0 hb a S => c_region (s_assign S rfl rfl fun a S => c_end (c_region (s_move S rfl rfl fun a S => s_bin S rfl rfl rfl rfl fun a S => s_bin S rfl rfl rfl rfl fun a S => s_move S rfl rfl fun a S => s_bin S rfl rfl rfl rfl fun a S => s_bin S rfl rfl rfl rfl fun a S => s_assign S rfl rfl fun a S => c_end (wp_seq_k fun K1 hK1 => ?_))))
 have j1 : ∀ m y1 a w, St 40 m b0 [(9, (.w y1)), (0, (.q yb ch_0_0 ch_0_1 x1)), (1, (.b x2))] [] a w → gas_Intrinsic.j1 x1 x2 y1 = some r → K1 a w := by
  intro m y1 a w S h0
  delta gas_Intrinsic.j1 at h0
  refine hK1 a w (wp_seq_k fun K2 hK2 => ?_)
  have j2 : ∀ m y2 a w, St 40 m b0 [(9, (.w y2))] [] a w → gas_Intrinsic.j2 y2 = some r → K2 a w := by
   intro m y2 a w S h0
   delta gas_Intrinsic.j2 at h0
   refine hK2 a w (c_region (s_move S rfl rfl fun a S => s_assign S rfl rfl fun a S => c_end (wp_ret ?_)))
   obtain rfl := Option.some.inj h0
   exact b_ret1 (d := (.w y2)) S rfl rfl (S.rt hb)
  refine c_region (s_move S rfl rfl fun a S => c_end ?_)
  rcases ite_of h0 with ⟨c1, h1⟩ | ⟨c1, h1⟩
  ·refine c_condT S rfl c1 (c_region' (s_move S rfl rfl fun a S => s_move S rfl rfl fun a S => s_lenS S rfl underlying27 rfl fun a S => s_conv S rfl rfl underlying24 rfl fun a S => bindX h1 fun t1 et1 h2 => s_callP S _ N49 rfl rfl (mem_Words.ok (wr .u64 ((x1).length : Int)) t1 et1 _ _) fun ch1 m le1 a w S => s_bin S rfl rfl rfl rfl fun a S => s_bin S rfl rfl rfl rfl fun a S => s_bin S rfl rfl rfl rfl fun a S => s_assign S rfl rfl fun a S => c_end' (x_thenN ?_)))
   exact j2 _ (wr .u64 (y1 + (wr .u64 (32000 + (wr .u64 (2 * t1)))))) a w (S.sub ⟨rfl, trivial⟩ .nil) h2
  ·refine c_condF S rfl c1 (wp_skip (x_thenN ?_))
   exact j2 _ y1 a w (S.sub ⟨rfl, trivial⟩ .nil) h1
 refine c_region (s_move S rfl rfl fun a S => s_lenS S rfl underlying27 rfl fun a S => s_move S rfl rfl fun a S => c_end (wp_block ?_))
 refine c_loop (fun q1 a w => ∃ m y5 y6, St 40 m b0 [(20, (.i y5)), (19, (.i ((x1).length : Int))), (18, (.q yb ch_0_0 ch_0_1 x1)), (9, (.w y6)), (0, (.q yb ch_0_0 ch_0_1 x1)), (1, (.b x2))] [] a w ∧ gas_Intrinsic.l1 x1 x2 q1 y5 y6 = some r) ?_ ?_ (k := k) ⟨_, 0, (wr .u64 ((wr .u64 (21000 + (wr .u64 (2400 * x3)))) + (wr .u64 (1900 * x4)))), (S.sb rfl .nil), h0⟩
 ·rintro a w ⟨m, y5, y6, S, h0⟩
  exact (nomatch (show (none : Option Int) = some r from h0))
 ·clear S h0
  rintro q1 a w ⟨m, y5, y6, S, h0⟩
  replace h0 : gas_Intrinsic.b1 x1 x2 (gas_Intrinsic.l1 x1 x2 q1) y5 y6 = some r := h0
  delta gas_Intrinsic.b1 at h0
  refine c_region (s_bin S rfl rfl rfl rfl fun a S => c_end (wp_seq ?_))
  rcases ite_of h0 with ⟨c2, h1⟩ | ⟨c2, h1⟩
  ·refine c_condT S rfl c2 (wp_skip (x_thenN (wp_seq (wp_block (c_region ?_)))))
   obtain ⟨c3, h2⟩ := chk_of h1; clear h1
   refine s_iaddrS S rfl rfl rfl underlying27 T5 c3.1 c3.2 rfl fun p1 a S => s_ld1 S (v := (.int .u8 (rd x1 y5))) rfl T5 (fun _ => rfl) rfl fun a S => s_assign S rfl rfl fun a S => c_end (c_region' (s_move S rfl rfl fun a S => s_move S rfl rfl fun a S => s_bin S rfl rfl rfl rfl fun a S => bindX h2 fun t4 et4 h3 => s_callP S _ N48 rfl rfl (gas_either.ok ((rd x1 y5) == 0) 4 16 t4 et4 _ _) fun ch2 m le1 a w S => s_bin S rfl rfl rfl rfl fun a S => s_assign S rfl rfl fun a S => c_end' (x_blockN (x_thenN (c_region' (s_bin S rfl rfl rfl rfl fun a S => s_move S rfl rfl fun a S => c_end' (x_thenN ?_)))))))
   exact ⟨_, (wr .i64 (y5 + 1)), (wr .u64 (y6 + t4)), (S.sb rfl .nil), h3⟩
  ·refine c_condF S rfl c2 (wp_exit (x_thenX (x_thenX (x_blockX (x_thenN ?_)))))
   exact j1 _ y6 a w (S.sb rfl .nil) h1
abbrev tx_Intrinsic.Ty : Type := (L30) → Option Int
def tx_Intrinsic.Ctr (s : tx_Intrinsic.Ty) : Prop := ∀ (x1 : L30) (ch_0_0 : Option Addr) (ch_0_1 : Nat) (ch_0_2 : Option Addr) (ch_0_3 : Nat) (r : Int), Ct (C := Unit) Try.prog 14 (s x1 = some r) [] [(.agg (Y30.segs x1 ((), (), (), (), (), (ch_0_0, ch_0_1), (), (), (), (ch_0_2, ch_0_3))))] (fun _ => (.w r)) fun _ => []
def tx_Intrinsic.j1 (k : Nat) (x1 : L30) (y1 : Int) : Option Int := (gas_Intrinsic.f k x1.2.2.2.2.2.1 x1.2.2.1 (wr .u64 ((x1.2.2.2.2.2.2.2.2.2).length : Int)) y1).bind fun t1 => (some t1)
def tx_Intrinsic.b1 (k : Nat) (x1 : L30) (rec1 : Int → Int → Option Int) (y4 : Int) (y5 : Int) : Option Int := if (decide (y4 < ((x1.2.2.2.2.2.2.2.2.2).length : Int))) = true then (if (0 : Int) ≤ y4 ∧ y4 < ((x1.2.2.2.2.2.2.2.2.2).length : Int) then (rec1 (wr .i64 (y4 + 1)) (wr .u64 (y5 + (wr .u64 (((gt x1.2.2.2.2.2.2.2.2.2 y4).2).length : Int))))) else none) else (tx_Intrinsic.j1 k x1 y5)
def tx_Intrinsic.l1 (k : Nat) (x1 : L30) : Nat → Int → Int → Option Int
  | 0, _, _ => none
  | q + 1, y4, y5 => tx_Intrinsic.b1 k x1 (tx_Intrinsic.l1 k x1 q) y4 y5
def tx_Intrinsic.f (k : Nat) (x1 : L30) : Option Int := tx_Intrinsic.l1 k x1 k 0 0
theorem tx_Intrinsic.ok (k : Nat) : tx_Intrinsic.Ctr (tx_Intrinsic.f k) := by
 intro x1 ch_0_0 ch_0_1 ch_0_2 ch_0_3 r h0 mi w0 ok hm
 delta tx_Intrinsic.f at h0
 refine c_enterZ (n := 30) ok hm func14 rfl rfl rfl fun b0 hb a S => c_region (s_box S rfl rfl rfl fun g1 a w S => s_assign S rfl rfl fun a S => c_end (c_region (s_assign S rfl rfl fun a S => c_end (wp_seq_k fun K1 hK1 => ?_))))
 have j1 : ∀ m y1 g7 a w, St 30 m b0 [(3, (.w y1)), (1, (.p g7))] [Res.cells g7 30 (Y30.segs x1 ((), (), (), (), (), (ch_0_0, ch_0_1), (), (), (), (ch_0_2, ch_0_3)))] a w → tx_Intrinsic.j1 k x1 y1 = some r → K1 a w := by
  intro m y1 g7 a w S h0
  delta tx_Intrinsic.j1 at h0
  refine hK1 a w (c_region (s_fieldAddr S rfl I30_5 T27 (by decide) rfl rfl fun a S => s_loadSl S rfl .h T27 (A := ch_0_0) (len := (x1.2.2.2.2.2.1).length) (cap := ch_0_1) rfl rfl fun a S => s_fieldAddr S rfl I30_2 T4 (by decide) rfl rfl fun a S => s_load1 S rfl .h T4 (v := (.bool x1.2.2.1)) rfl rfl fun a S => s_fieldAddr S rfl I30_9 T28 (by decide) rfl rfl fun a S => s_loadSl S rfl .h T28 (A := ch_0_2) (len := (x1.2.2.2.2.2.2.2.2.2).length) (cap := ch_0_3) rfl rfl fun a S => s_lenS S rfl underlying28 rfl fun a S => s_conv S rfl rfl underlying24 rfl fun a S => s_move S rfl rfl fun a S => bindX h0 fun t1 et1 h1 => s_callP S _ N33 rfl rfl (gas_Intrinsic.ok k x1.2.2.2.2.2.1 x1.2.2.1 (wr .u64 ((x1.2.2.2.2.2.2.2.2.2).length : Int)) y1 ch_0_0 ch_0_1 t1 et1 _ _) fun ch1 m le1 a w S => s_assign S rfl rfl fun a S => c_end (wp_ret ?_)))
  obtain rfl := Option.some.inj h1
  exact b_ret1 (d := (.w t1)) S rfl rfl (S.rt hb)
 refine c_region (s_fieldAddr S rfl I30_9 T28 (by decide) rfl rfl fun a S => s_loadSl S rfl .h T28 (A := ch_0_2) (len := (x1.2.2.2.2.2.2.2.2.2).length) (cap := ch_0_3) rfl rfl fun a S => s_lenS S rfl underlying28 rfl fun a S => s_move S rfl rfl fun a S => c_end (wp_block ?_))
 refine c_loop (fun q1 a w => ∃ m y4 y5 g12, St 30 m b0 [(9, (.i y4)), (8, (.i ((x1.2.2.2.2.2.2.2.2.2).length : Int))), (7, (.q Y63 ch_0_2 ch_0_3 x1.2.2.2.2.2.2.2.2.2)), (3, (.w y5)), (1, (.p g12))] [Res.cells g12 30 (Y30.segs x1 ((), (), (), (), (), (ch_0_0, ch_0_1), (), (), (), (ch_0_2, ch_0_3)))] a w ∧ tx_Intrinsic.l1 k x1 q1 y4 y5 = some r) ?_ ?_ (k := k) ⟨_, 0, 0, g1, (S.sb rfl (.c0 .n)), h0⟩
 ·rintro a w ⟨m, y4, y5, g12, S, h0⟩
  exact (nomatch (show (none : Option Int) = some r from h0))
 ·clear S h0
  rintro q1 a w ⟨m, y4, y5, g12, S, h0⟩
  replace h0 : tx_Intrinsic.b1 k x1 (tx_Intrinsic.l1 k x1 q1) y4 y5 = some r := h0
  delta tx_Intrinsic.b1 at h0
  refine c_region (s_bin S rfl rfl rfl rfl fun a S => c_end (wp_seq ?_))
  rcases ite_of h0 with ⟨c1, h1⟩ | ⟨c1, h1⟩
  ·refine c_condT S rfl c1 (wp_skip (x_thenN (wp_seq (wp_block (c_region ?_)))))
   obtain ⟨c2, h2⟩ := chk_of h1; clear h1
   refine s_iaddrS S rfl rfl rfl underlying28 T63 c2.1 c2.2 rfl fun p1 a S => s_ldA S (fun (c : Unit × (Option Addr × Nat)) => [.b20 ((gt x1.2.2.2.2.2.2.2.2.2 y4).1), .q (Ty.arr .u64 4) c.2.1 c.2.2 ((gt x1.2.2.2.2.2.2.2.2.2 y4).2)]) rfl T63 (fun _ => rfl) rfl fun ch4 a S => ?_
   refine s_alloc S Z63 rfl ⟨rfl, rfl, trivial⟩ rfl fun g13 a w S => s_store S rfl rfl rfl (s' := [.b20 ((gt x1.2.2.2.2.2.2.2.2.2 y4).1), .q (Ty.arr .u64 4) ch4.2.1 ch4.2.2 ((gt x1.2.2.2.2.2.2.2.2.2 y4).2)]) .h T63 rfl rfl fun w S => c_end (c_region' (s_move S rfl rfl fun a S => s_fieldAddr S rfl I63_1 T61 (by decide) rfl rfl fun a S => s_loadSl S rfl .h T61 (A := ch4.2.1) (len := ((gt x1.2.2.2.2.2.2.2.2.2 y4).2).length) (cap := ch4.2.2) rfl rfl fun a S => s_lenS S rfl underlying61 rfl fun a S => s_conv S rfl rfl underlying24 rfl fun a S => s_bin S rfl rfl rfl rfl fun a S => s_assign S rfl rfl fun a S => c_end' (x_blockN (x_thenN (c_region' (s_bin S rfl rfl rfl rfl fun a S => s_move S rfl rfl fun a S => c_end' (x_thenN ?_)))))))
   exact ⟨_, (wr .i64 (y4 + 1)), (wr .u64 (y5 + (wr .u64 (((gt x1.2.2.2.2.2.2.2.2.2 y4).2).length : Int)))), g12, (S.sb rfl (.c1 .n)), h2⟩
  ·refine c_condF S rfl c1 (wp_exit (x_thenX (x_thenX (x_blockX (x_thenN ?_)))))
   exact j1 _ y5 g12 a w (S.sb rfl (.c0 .n)) h1
abbrev tx_May.Ty : Type := (L30) → Option Int
def tx_May.Ctr (s : tx_May.Ty) : Prop := ∀ (x1 : L30) (ch_0_0 : Option Addr) (ch_0_1 : Nat) (ch_0_2 : Option Addr) (ch_0_3 : Nat) (r : Int), Ct (C := Unit) Try.prog 39 (s x1 = some r) [] [(.agg (Y30.segs x1 ((), (), (), (), (), (ch_0_0, ch_0_1), (), (), (), (ch_0_2, ch_0_3))))] (fun _ => (.i r)) fun _ => []
def tx_May.j2 (k : Nat) (x1 : L30) (y2 : Bool) : Option Int := if y2 = true then (some 8) else ((word_Compare.f k x1.2.2.2.2.2.2.2.2.1 x1.2.2.2.2.2.2.2.1).bind fun t1 => (if (decide (0 < t1)) = true then (some 9) else (if (x1.2.2.2.1 == 18446744073709551615) = true then (some 6) else (some 0))))
def tx_May.j1 (k : Nat) (x1 : L30) (y1 : Bool) : Option Int := if y1 = true then (some 4) else (if (decide (1099511627776 < x1.2.2.2.2.2.2.1)) = true then (tx_May.j2 k x1 true) else ((tx_Intrinsic.f k x1).bind fun t2 => (tx_May.j2 k x1 (decide (x1.2.2.2.2.2.2.1 < t2)))))
def tx_May.f (k : Nat) (x1 : L30) : Option Int := (tx_long.f k x1).bind fun t3 => (if t3 = true then (tx_May.j1 k x1 true) else (if x1.2.2.1 = true then (tx_May.j1 k x1 (decide (49152 < ((x1.2.2.2.2.2.1).length : Int)))) else (tx_May.j1 k x1 false)))
theorem tx_May.ok (k : Nat) : tx_May.Ctr (tx_May.f k) := by
 intro x1 ch_0_0 ch_0_1 ch_0_2 ch_0_3 r h0 mi w0 ok hm
 delta tx_May.f at h0
 refine c_enterZ (n := 38) ok hm func39 rfl rfl rfl fun b0 hb a S => c_region (s_box S rfl rfl rfl fun g1 a w S => s_assign S rfl rfl fun a S => c_end (wp_seq (wp_block (wp_seq_k fun K1 hK1 => ?_))))
 have j1 : ∀ m y1 g2 a w, St 38 m b0 [(3, (.b y1)), (1, (.p g2))] [Res.cells g2 30 (Y30.segs x1 ((), (), (), (), (), (ch_0_0, ch_0_1), (), (), (), (ch_0_2, ch_0_3)))] a w → tx_May.j1 k x1 y1 = some r → K1 a w := by
  intro m y1 g2 a w S h0
  delta tx_May.j1 at h0
  refine hK1 a w ?_
  rcases ite_of h0 with ⟨c1, h1⟩ | ⟨c1, h1⟩
  ·refine c_condT S rfl c1 (c_region (s_assign S rfl rfl fun a S => c_end (wp_ret (x_blockR (x_thenR ?_)))))
   obtain rfl := Option.some.inj h1
   exact b_ret1 (d := (.i 4)) S rfl rfl (S.rt hb)
  ·refine c_condF S rfl c1 (wp_seq_k fun K2 hK2 => ?_)
   have j2 : ∀ m y2 g3 a w, St 38 m b0 [(16, (.b y2)), (1, (.p g3))] [Res.cells g3 30 (Y30.segs x1 ((), (), (), (), (), (ch_0_0, ch_0_1), (), (), (), (ch_0_2, ch_0_3)))] a w → tx_May.j2 k x1 y2 = some r → K2 a w := by
    intro m y2 g3 a w S h0
    delta tx_May.j2 at h0
    refine hK2 a w ?_
    rcases ite_of h0 with ⟨c2, h1⟩ | ⟨c2, h1⟩
    ·refine c_condT S rfl c2 (c_region (s_assign S rfl rfl fun a S => c_end (wp_ret (x_blockR (x_thenR ?_)))))
     obtain rfl := Option.some.inj h1
     exact b_ret1 (d := (.i 8)) S rfl rfl (S.rt hb)
    ·refine c_condF S rfl c2 (c_region (s_fieldAddr S rfl I30_8 T26 (by decide) rfl rfl fun a S => s_loada S rfl .h T26 (s' := [.w4 x1.2.2.2.2.2.2.2.2.1]) rfl rfl fun a S => s_fieldAddr S rfl I30_7 T26 (by decide) rfl rfl fun a S => s_loada S rfl .h T26 (s' := [.w4 x1.2.2.2.2.2.2.2.1]) rfl rfl fun a S => bindX h1 fun t1 et1 h2 => s_callP S _ N28 rfl rfl (word_Compare.ok k x1.2.2.2.2.2.2.2.2.1 x1.2.2.2.2.2.2.2.1 t1 et1 _ _) fun ch1 m le1 a w S => s_bin S rfl rfl rfl rfl fun a S => s_assign S rfl rfl fun a S => c_end ?_))
     rcases ite_of h2 with ⟨c3, h3⟩ | ⟨c3, h3⟩
     ·refine c_condT S rfl c3 (c_region (s_assign S rfl rfl fun a S => c_end (wp_ret (x_blockR (x_thenR ?_)))))
      obtain rfl := Option.some.inj h3
      exact b_ret1 (d := (.i 9)) S rfl rfl (S.rt hb)
     ·refine c_condF S rfl c3 (c_region (s_fieldAddr S rfl I30_3 T24 (by decide) rfl rfl fun a S => s_load1 S rfl .h T24 (v := (.int .u64 x1.2.2.2.1)) rfl rfl fun a S => s_bin S rfl rfl rfl rfl fun a S => s_assign S rfl rfl fun a S => c_end ?_))
      rcases ite_of h3 with ⟨c4, h4⟩ | ⟨c4, h4⟩
      ·refine c_condT S rfl c4 (c_region (s_assign S rfl rfl fun a S => c_end (wp_ret (x_blockR (x_thenR ?_)))))
       obtain rfl := Option.some.inj h4
       exact b_ret1 (d := (.i 6)) S rfl rfl (S.rt hb)
      ·refine c_condF S rfl c4 (wp_skip (x_blockN (x_thenN (c_region (s_assign S rfl rfl fun a S => c_end (wp_ret ?_))))))
       obtain rfl := Option.some.inj h4
       exact b_ret1 (d := (.i 0)) S rfl rfl (S.rt hb)
   refine c_heldS S (.take 0 (.take 1 (.take 2 (.take 3 (.take 4 (.take 5 (.take 6 (.alts (.run 7 true (.take 8 (.take 9 (.take 10 .done))) .nil))))))))) 11 [Res.cells g2 30 (Y30.segs x1 ((), (), (), (), (), (ch_0_0, ch_0_1), (), (), (), (ch_0_2, ch_0_3)))] (.c0 .n) ⟨Res.stay_cells, trivial⟩ [(1, (.p g2))] ⟨rfl, trivial⟩ (by kernel_rfl) (by kernel_rfl) fun w S CL hw le => ?_
   refine h_fieldAddr S CL hw le ⟨rfl, trivial⟩ rfl I30_6 T24 (by decide) rfl rfl rfl trivial fun a S CL => h_load1 S CL hw le (subR rfl) rfl .h T24 (v := (.int .u64 x1.2.2.2.2.2.2.1)) rfl rfl rfl trivial fun a S CL => h_bin S CL hw le (subR rfl) rfl rfl rfl rfl rfl trivial fun a S CL => h_move S CL hw le (subR rfl) rfl rfl rfl trivial fun a S CL => ?_
   rcases ite_of h1 with ⟨c5, h2⟩ | ⟨c5, h2⟩
   ·refine h_skip S CL rfl rfl rfl (ne_bool c5) rfl fun a S CL => h_skip S CL rfl rfl rfl (ne_bool c5) rfl fun a S CL => h_skip S CL rfl rfl rfl (ne_bool c5) rfl fun a S CL => h_skipRt S rfl rfl rfl (ne_bool c5) rfl fun a S => CL.bk hw S (.c0 .n) le fun hw => ?_
    replace CL := CL.add (t := 24) (d := .u) S rfl rfl
    refine h_skip S CL rfl rfl rfl (ne_bool c5) rfl fun a S CL => h_pick S CL hw le (subR rfl) (b := true) (hc_of rfl c5) rfl rfl rfl trivial fun a S CL => h_assign S CL hw le (subR rfl) rfl rfl rfl trivial fun a S CL => ?_
    refine h_done ?_; clear CL hw le
    refine x_thenN ?_
    exact j2 _ true g2 a w (S.sb rfl (.c0 .n)) h2
   ·refine h_fieldAddr S CL hw le (subR rfl) rfl I30_6 T24 (by decide) rfl rfl rfl ⟨_, _, rfl, rfl, c5⟩ fun a S CL => h_load1 S CL hw le (subR rfl) rfl .h T24 (v := (.int .u64 x1.2.2.2.2.2.2.1)) rfl rfl rfl ⟨_, _, rfl, rfl, c5⟩ fun a S CL => h_loada S CL hw le (subR rfl) rfl .h T30 (s' := (Y30.segs x1 ((), (), (), (), (), (ch_0_0, ch_0_1), (), (), (), (ch_0_2, ch_0_3)))) rfl rfl rfl ⟨_, _, rfl, rfl, c5⟩ fun a S CL => h_run' S rfl ⟨_, _, rfl, rfl, c5⟩ (bindX h2 fun t2 et2 h3 => s_callP S _ N14 rfl rfl (tx_Intrinsic.ok k x1 ch_0_0 ch_0_1 ch_0_2 ch_0_3 t2 et2 _ _) fun ch2 m le1 a w S => ?_)
    replace le := le.trans le1
    refine CL.bk hw S (.c0 .n) le fun hw => ?_
    replace CL := CL.add (t := 24) (d := (.w t2)) S rfl rfl
    refine h_bin S CL hw le (subR rfl) rfl rfl rfl rfl rfl ⟨_, _, rfl, rfl, c5⟩ fun a S CL => h_pick S CL hw le (subR rfl) (b := false) (hc_of rfl c5) rfl rfl rfl trivial fun a S CL => h_assign S CL hw le (subR rfl) rfl rfl rfl trivial fun a S CL => ?_
    refine h_done ?_; clear CL hw le
    refine x_thenN ?_
    exact j2 _ (decide (x1.2.2.2.2.2.2.1 < t2)) g2 a w (S.sb rfl (.c0 .n)) h3
 refine c_region' (s_loada S rfl .h T30 (s' := (Y30.segs x1 ((), (), (), (), (), (ch_0_0, ch_0_1), (), (), (), (ch_0_2, ch_0_3)))) rfl rfl fun a S => bindX h0 fun t3 et3 h1 => s_callP S _ N52 rfl rfl (tx_long.ok k x1 ch_0_0 ch_0_1 ch_0_2 ch_0_3 t3 et3 _ _) fun ch3 m le1 a w S => s_move S rfl rfl fun a S => ?_)
 rcases ite_of h1 with ⟨c6, h2⟩ | ⟨c6, h2⟩
 ·refine s_gF S (b := t3) rfl rfl c6 rfl fun a S => s_gF S (b := t3) rfl rfl c6 rfl fun a S => s_gF S (b := t3) rfl rfl c6 rfl fun a S => s_gU S rfl rfl rfl fun a S => s_gU S rfl rfl rfl fun a S => s_gU S rfl rfl rfl fun a S => s_gU S rfl rfl rfl fun a S => s_gF S (b := t3) rfl rfl c6 rfl fun a S => s_pick S (b := true) (hc_of rfl c6) rfl rfl fun a S => s_assign S rfl rfl fun a S => c_end' (x_thenN ?_)
  exact j1 _ true g1 a w (S.sb rfl (.c0 .n)) h2
 ·refine s_gT S (b := t3) rfl rfl c6 (s_fieldAddr S rfl I30_2 T4 (by decide) rfl rfl fun a S => s_gT S (b := t3) rfl rfl c6 (s_load1 S rfl .h T4 (v := (.bool x1.2.2.1)) rfl rfl fun a S => s_gT S (b := t3) rfl rfl c6 (s_move S rfl rfl fun a S => ?_)))
  rcases ite_of h2 with ⟨c7, h3⟩ | ⟨c7, h3⟩
  ·refine s_gT S (b := x1.2.2.1) rfl rfl c7 (s_fieldAddr S rfl I30_5 T27 (by decide) rfl rfl fun a S => s_gT S (b := x1.2.2.1) rfl rfl c7 (s_loadSl S rfl .h T27 (A := ch_0_0) (len := (x1.2.2.2.2.2.1).length) (cap := ch_0_1) rfl rfl fun a S => s_gT S (b := x1.2.2.1) rfl rfl c7 (s_lenS S rfl underlying27 rfl fun a S => s_gT S (b := x1.2.2.1) rfl rfl c7 (s_bin S rfl rfl rfl rfl fun a S => s_gT S (b := t3) rfl rfl c6 (s_pick S (b := true) (hc_of rfl c7) rfl rfl fun a S => s_pick S (b := false) (hc_of rfl c6) rfl rfl fun a S => s_assign S rfl rfl fun a S => c_end' (x_thenN ?_))))))
   exact j1 _ (decide (49152 < ((x1.2.2.2.2.2.1).length : Int))) g1 a w (S.sb rfl (.c0 .n)) h3
  ·refine s_gF S (b := x1.2.2.1) rfl rfl c7 rfl fun a S => s_gF S (b := x1.2.2.1) rfl rfl c7 rfl fun a S => s_gF S (b := x1.2.2.1) rfl rfl c7 rfl fun a S => s_gF S (b := x1.2.2.1) rfl rfl c7 rfl fun a S => s_gT S (b := t3) rfl rfl c6 (s_pick S (b := false) (hc_of rfl c7) rfl rfl fun a S => s_pick S (b := false) (hc_of rfl c6) rfl rfl fun a S => s_assign S rfl rfl fun a S => c_end' (x_thenN ?_))
   exact j1 _ false g1 a w (S.sb rfl (.c0 .n)) h3
abbrev state_list_Account.Ty : Type := ((List L76)) → (List Int) → Option ((L76) × Bool)
def state_list_Account.Ctr (s : state_list_Account.Ty) : Prop := ∀ (x1 : (List L76)) (x2 : List Int) (ch_0_0 : Option Addr) (ch_0_1 : Nat) (r : (L76) × Bool), Ct (C := ((Option Addr) × Nat × (Option Addr) × Nat)) Try.prog 71 (s x1 x2 = some r) [] [(.agg [.q Y76 ch_0_0 ch_0_1 x1]), (.agg [.b20 x2])] (fun ch => (.tup [(true, (Y76.segs r.1 ((), (), (), (ch.1, ch.2.1), (ch.2.2.1, ch.2.2.2)))), (false, [.b r.2])])) fun _ => []
def state_list_Account.j1 (x2 : List Int) : Option ((L76) × Bool) := some ((x2, 0, [0, 0, 0, 0], ([] : List Int), ([] : List ((List Int) × (List Int)))), true)
def state_list_Account.b1 (x1 : (List L76)) (x2 : List Int) (rec1 : Int → Option ((L76) × Bool)) (y1 : Int) : Option ((L76) × Bool) := if (decide (y1 < ((x1).length : Int))) = true then (if (0 : Int) ≤ y1 ∧ y1 < ((x1).length : Int) then (if (decide ((gt x1 y1).1 = x2)) = true then (some (gt x1 y1, true)) else (rec1 (wr .i64 (y1 + 1)))) else none) else (state_list_Account.j1 x2)
def state_list_Account.l1 (x1 : (List L76)) (x2 : List Int) : Nat → Int → Option ((L76) × Bool)
  | 0, _ => none
  | q + 1, y1 => state_list_Account.b1 x1 x2 (state_list_Account.l1 x1 x2 q) y1
def state_list_Account.f (k : Nat) (x1 : (List L76)) (x2 : List Int) : Option ((L76) × Bool) := state_list_Account.l1 x1 x2 k 0
theorem state_list_Account.ok (k : Nat) : state_list_Account.Ctr (state_list_Account.f k) := by
 intro x1 x2 ch_0_0 ch_0_1 r h0 mi w0 ok hm
 delta state_list_Account.f at h0
 refine c_enterZ (n := 23) ok hm func71 rfl rfl rfl fun b0 hb a S => c_region (s_box S rfl rfl rfl fun g1 a w S => s_box S rfl rfl rfl fun g2 a w S => s_alloc S Z76 rfl ⟨rfl, rfl, rfl, rfl, rfl, trivial⟩ rfl fun g3 a w S => s_assign S rfl rfl fun a S => c_end (wp_seq_k fun K1 hK1 => ?_))
 have j1 : ∀ m g12 g13 a w, St 23 m b0 [(4, (.p g12)), (3, (.p g13))] [Res.cells g12 76 [.b20 z20, .w 0, .w4 [0, 0, 0, 0], .s none 0 0, .s none 0 0], Res.cells g13 23 [.b20 x2]] a w → state_list_Account.j1 x2 = some r → K1 a w := by
  intro m g12 g13 a w S h0
  delta state_list_Account.j1 at h0
  refine hK1 a w (c_region (s_loada S rfl .h1 T23 (s' := [.b20 x2]) rfl rfl fun a S => s_bldS S (ds := [(0, (.agg [.b20 x2]))]) (zs := [.b20 z20, .w 0, .w4 [0, 0, 0, 0], .s none 0 0, .s none 0 0]) (s' := [.b20 x2, .w 0, .w4 [0, 0, 0, 0], .s none 0 0, .s none 0 0]) rfl underlying76 P76 Z76 ⟨rfl, rfl, rfl, rfl, rfl, trivial⟩ rfl rfl fun a S => s_store S rfl rfl rfl (s' := [.b20 x2, .w 0, .w4 [0, 0, 0, 0], .s none 0 0, .s none 0 0]) .h T76 rfl rfl fun w S => s_assign S rfl rfl fun a S => c_end (wp_ret ?_)))
  replace S := S.cellro (s' := [.b20 x2, .w 0, .w4 [0, 0, 0, 0], .q yb none 0 ([] : List Int), .s none 0 0]) .h rfl (fun h => ⟨h.1, h.2.1, h.2.2.1, ok_nil, h.2.2.2.2.1, trivial⟩)
  replace S := S.cellro (s' := [.b20 x2, .w 0, .w4 [0, 0, 0, 0], .q yb none 0 ([] : List Int), .q Y89 none 0 ([] : List ((List Int) × (List Int)))]) .h rfl (fun h => ⟨h.1, h.2.1, h.2.2.1, h.2.2.2.1, ok_nil, trivial⟩)
  obtain rfl := Option.some.inj h0
  exact b_ret2 (d1 := (.agg [.b20 x2, .w 0, .w4 [0, 0, 0, 0], .q yb none 0 ([] : List Int), .q Y89 none 0 ([] : List ((List Int) × (List Int)))])) (d2 := (.b true)) S rfl (resD_cell rfl .h T76 rfl rfl) rfl fun ok1 ok2 => S.retX (Hx := []) hb _ _ ((none, 0, none, 0) : (Option Addr) × Nat × (Option Addr) × Nat) .nil ⟨ok1, ⟨ok2, trivial⟩, trivial⟩
 refine c_region (s_fieldAddr S rfl I79_0 T44 (by decide) rfl rfl fun a S => s_loadSl S rfl .h2 T44 (A := ch_0_0) (len := (x1).length) (cap := ch_0_1) rfl rfl fun a S => s_lenS S rfl underlying44 rfl fun a S => s_move S rfl rfl fun a S => c_end (wp_block ?_))
 refine c_loop (fun q1 a w => ∃ m y1 g20 g21, St 23 m b0 [(11, (.i y1)), (10, (.i ((x1).length : Int))), (9, (.q Y76 ch_0_0 ch_0_1 x1)), (4, (.p g20)), (3, (.p g21))] [Res.cells g20 76 [.b20 z20, .w 0, .w4 [0, 0, 0, 0], .s none 0 0, .s none 0 0], Res.cells g21 23 [.b20 x2]] a w ∧ state_list_Account.l1 x1 x2 q1 y1 = some r) ?_ ?_ (k := k) ⟨_, 0, g3, g2, (S.sb rfl (.c0 (.c0 .n))), h0⟩
 ·rintro a w ⟨m, y1, g20, g21, S, h0⟩
  exact (nomatch (show (none : Option ((L76) × Bool)) = some r from h0))
 ·clear S h0
  rintro q1 a w ⟨m, y1, g20, g21, S, h0⟩
  replace h0 : state_list_Account.b1 x1 x2 (state_list_Account.l1 x1 x2 q1) y1 = some r := h0
  delta state_list_Account.b1 at h0
  refine c_region (s_bin S rfl rfl rfl rfl fun a S => c_end (wp_seq ?_))
  rcases ite_of h0 with ⟨c1, h1⟩ | ⟨c1, h1⟩
  ·refine c_condT S rfl c1 (wp_skip (x_thenN (wp_seq (wp_block (c_region ?_)))))
   obtain ⟨c2, h2⟩ := chk_of h1; clear h1
   refine s_iaddrS S rfl rfl rfl underlying44 T76 c2.1 c2.2 rfl fun p1 a S => s_ldA S (fun (c : Unit × Unit × Unit × (Option Addr × Nat) × (Option Addr × Nat)) => (Y76.segs (gt x1 y1) c)) rfl T76 (fun _ => rfl) rfl fun ch1 a S => ?_
   refine s_alloc S Z76 rfl ⟨rfl, rfl, rfl, rfl, rfl, trivial⟩ rfl fun g22 a w S => s_store S rfl rfl rfl (s' := [.b20 ((gt x1 y1).1), .w ((gt x1 y1).2.1), .w4 ((gt x1 y1).2.2.1), .q yb ch1.2.2.2.1.1 ch1.2.2.2.1.2 ((gt x1 y1).2.2.2.1), .q Y89 ch1.2.2.2.2.1 ch1.2.2.2.2.2 ((gt x1 y1).2.2.2.2)]) .h T76 rfl rfl fun w S => c_end (c_region (s_fieldAddr S rfl I76_0 T23 (by decide) rfl rfl fun a S => s_loada S rfl .h T23 (s' := [.b20 ((gt x1 y1).1)]) rfl rfl fun a S => s_loada S rfl .h2 T23 (s' := [.b20 x2]) rfl rfl fun a S => s_eqa S rfl rfl underlying23 underlying5 T5 Q23 rfl fun a S => c_end ?_))
   rcases ite_of h2 with ⟨c3, h3⟩ | ⟨c3, h3⟩
   ·refine c_condT S rfl c3 (c_region (s_loada S rfl .h T76 (s' := (Y76.segs (gt x1 y1) ch1)) rfl rfl fun a S => s_store S rfl rfl rfl (s' := [.b20 ((gt x1 y1).1), .w ((gt x1 y1).2.1), .w4 ((gt x1 y1).2.2.1), .q yb ch1.2.2.2.1.1 ch1.2.2.2.1.2 ((gt x1 y1).2.2.2.1), .q Y89 ch1.2.2.2.2.1 ch1.2.2.2.2.2 ((gt x1 y1).2.2.2.2)]) .h1 T76 rfl rfl fun w S => s_assign S rfl rfl fun a S => c_end (wp_ret (x_blockR (x_thenR (x_thenR (x_blockR (x_thenR ?_))))))))
    obtain rfl := Option.some.inj h3
    exact b_ret2 (d1 := (.agg (Y76.segs (gt x1 y1) ch1))) (d2 := (.b true)) S rfl (resD_cell rfl .h1 T76 rfl rfl) rfl fun ok1 ok2 => S.retX (Hx := []) hb _ _ ((ch1.2.2.2.1.1, ch1.2.2.2.1.2, ch1.2.2.2.2.1, ch1.2.2.2.2.2) : (Option Addr) × Nat × (Option Addr) × Nat) .nil ⟨ok1, ⟨ok2, trivial⟩, trivial⟩
   ·refine c_condF S rfl c3 (wp_skip (x_blockN (x_thenN (c_region' (s_bin S rfl rfl rfl rfl fun a S => s_move S rfl rfl fun a S => c_end' (x_thenN ?_))))))
    exact ⟨_, (wr .i64 (y1 + 1)), g20, g21, (S.sb rfl (.c1 (.c1 .n))), h3⟩
  ·refine c_condF S rfl c1 (wp_exit (x_thenX (x_thenX (x_blockX (x_thenN ?_)))))
   exact j1 _ g20 g21 a w (S.sb rfl (.c0 (.c0 .n))) h1
abbrev state_State_at.Ty : Type := (((List L76)) × ((List ((List Int) × Option Nat)) × (List L97) × (List (List ((List Int) × (List Int)))) × (List (List ((List Int) × Bool)))) × Int × (List L132) × (List Bool) × (List (List Int))) → (List Int) → Option ((Option Nat) × (Unit × ((List ((List Int) × Option Nat)) × (List L97) × (List (List ((List Int) × (List Int)))) × (List (List ((List Int) × Bool)))) × Unit × (List L132) × (List Bool) × (List (List Int))))
def state_State_at.Ctr (s : state_State_at.Ty) : Prop := ∀ (x1 : ((List L76)) × ((List ((List Int) × Option Nat)) × (List L97) × (List (List ((List Int) × (List Int)))) × (List (List ((List Int) × Bool)))) × Int × (List L132) × (List Bool) × (List (List Int))) (x2 : List Int) (ch_0_0 : Nat) (ch_0_1 : Option Addr) (ch_0_2 : Nat) (ch_0_3 : Nat) (ch_0_4 : List Nat) (ch_0_5 : List Nat) (ch_0_6 : List Nat) (ch_0_7 : Option Addr) (ch_0_8 : Nat) (ch_0_9 : Nat) (ch_0_10 : Option Addr) (ch_0_11 : Nat) (ch_0_12 : Nat) (ch_0_13 : Option Addr) (ch_0_14 : Nat) (ch_0_15 : Nat) (r : (Option Nat) × (Unit × ((List ((List Int) × Option Nat)) × (List L97) × (List (List ((List Int) × (List Int)))) × (List (List ((List Int) × Bool)))) × Unit × (List L132) × (List Bool) × (List (List Int)))), Ct (C := (Nat × (List Nat) × (List Nat) × (List Nat) × (Option Addr) × Nat × Nat × (Option Addr) × Nat × Nat × (Option Addr) × Nat × Nat)) Try.prog 43 (s x1 x2 = some r) [Res.cells ch_0_0 85 [.rf (.iface 79 (.agg (cellsOf [.q Y76 ch_0_1 ch_0_2 x1.1]).toArray)) (IfR [.q Y76 ch_0_1 ch_0_2 x1.1]), .one (.map (some ch_0_3)), .i x1.2.2.1, .s ch_0_7 ch_0_8 ch_0_9, .s ch_0_10 ch_0_11 ch_0_12, .s ch_0_13 ch_0_14 ch_0_15], Res.map true (Ty.arr .u8 20) false (Ty.pid ch_0_4) ch_0_3 x1.2.1.1, Res.fam (Res.struct (YE97 ch_0_5 ch_0_6) 97) (one_struct _ _) ch_0_4 [] x1.2.1.2.1, Res.fam (fun g_ kvs_ => Res.map true (Ty.arr .u64 4) true (Ty.arr .u64 4) g_ kvs_) (one_map true (Ty.arr .u64 4) true (Ty.arr .u64 4)) ch_0_5 [] x1.2.1.2.2.1, Res.fam (fun g_ kvs_ => Res.map true (Ty.arr .u64 4) false Ty.bool g_ kvs_) (one_map true (Ty.arr .u64 4) false Ty.bool) ch_0_6 [] x1.2.1.2.2.2, Res.row Y132 132 ch_0_7 ch_0_8 ch_0_9 x1.2.2.2.1, Res.row Ty.bool 1 ch_0_10 ch_0_11 ch_0_12 x1.2.2.2.2.1, Res.row (Ty.arr .u8 20) 23 ch_0_13 ch_0_14 ch_0_15 x1.2.2.2.2.2] [(.p ch_0_0), (.agg [.b20 x2])] (fun ch => (.rf (ptrV ch.2.1 r.1) (ptrR ch.2.1 r.1))) fun ch => [Res.cells ch_0_0 85 [.rf (.iface 79 (.agg (cellsOf [.q Y76 ch_0_1 ch_0_2 x1.1]).toArray)) (IfR [.q Y76 ch_0_1 ch_0_2 x1.1]), .one (.map (some ch.1)), .i x1.2.2.1, .s ch.2.2.2.2.1 ch.2.2.2.2.2.1 ch.2.2.2.2.2.2.1, .s ch.2.2.2.2.2.2.2.1 ch.2.2.2.2.2.2.2.2.1 ch.2.2.2.2.2.2.2.2.2.1, .s ch.2.2.2.2.2.2.2.2.2.2.1 ch.2.2.2.2.2.2.2.2.2.2.2.1 ch.2.2.2.2.2.2.2.2.2.2.2.2], Res.map true (Ty.arr .u8 20) false (Ty.pid ch.2.1) ch.1 r.2.2.1.1, Res.fam (Res.struct (YE97 ch.2.2.1 ch.2.2.2.1) 97) (one_struct _ _) ch.2.1 [] r.2.2.1.2.1, Res.fam (fun g_ kvs_ => Res.map true (Ty.arr .u64 4) true (Ty.arr .u64 4) g_ kvs_) (one_map true (Ty.arr .u64 4) true (Ty.arr .u64 4)) ch.2.2.1 [] r.2.2.1.2.2.1, Res.fam (fun g_ kvs_ => Res.map true (Ty.arr .u64 4) false Ty.bool g_ kvs_) (one_map true (Ty.arr .u64 4) false Ty.bool) ch.2.2.2.1 [] r.2.2.1.2.2.2, Res.row Y132 132 ch.2.2.2.2.1 ch.2.2.2.2.2.1 ch.2.2.2.2.2.2.1 r.2.2.2.2.1, Res.row Ty.bool 1 ch.2.2.2.2.2.2.2.1 ch.2.2.2.2.2.2.2.2.1 ch.2.2.2.2.2.2.2.2.2.1 r.2.2.2.2.2.1, Res.row (Ty.arr .u8 20) 23 ch.2.2.2.2.2.2.2.2.2.2.1 ch.2.2.2.2.2.2.2.2.2.2.2.1 ch.2.2.2.2.2.2.2.2.2.2.2.2 r.2.2.2.2.2.2]
def state_State_at.j3 (x1 : ((List L76)) × ((List ((List Int) × Option Nat)) × (List L97) × (List (List ((List Int) × (List Int)))) × (List (List ((List Int) × Bool)))) × Int × (List L132) × (List Bool) × (List (List Int))) (x2 : List Int) (y7 : List (List Int)) (y8 : List Int) (y9 : Int) (y10 : List Int) (y11 : List Int) (y12 : List ((List Int) × (List Int))) : Option ((Option Nat) × (Unit × ((List ((List Int) × Option Nat)) × (List L97) × (List (List ((List Int) × (List Int)))) × (List (List ((List Int) × Bool)))) × Unit × (List L132) × (List Bool) × (List (List Int)))) := some ((some x1.2.1.2.1.length), ((), (aput x1.2.1.1 x2 (some x1.2.1.2.1.length), x1.2.1.2.1 ++ [((x2, y9, y10, y11, y12), (x2, y9, y10, y11, y12), false, x1.2.1.2.2.1.length, false, false, x1.2.1.2.2.2.length)], x1.2.1.2.2.1 ++ [([] : List ((List Int) × (List Int)))], x1.2.1.2.2.2 ++ [([] : List ((List Int) × Bool))]), (), x1.2.2.2.1, x1.2.2.2.2.1, y7))
def state_State_at.j2 (x1 : ((List L76)) × ((List ((List Int) × Option Nat)) × (List L97) × (List (List ((List Int) × (List Int)))) × (List (List ((List Int) × Bool)))) × Int × (List L132) × (List Bool) × (List (List Int))) (x2 : List Int) (y1 : Bool) (y2 : List Int) (y3 : Int) (y4 : List Int) (y5 : List Int) (y6 : List ((List Int) × (List Int))) : Option ((Option Nat) × (Unit × ((List ((List Int) × Option Nat)) × (List L97) × (List (List ((List Int) × (List Int)))) × (List (List ((List Int) × Bool)))) × Unit × (List L132) × (List Bool) × (List (List Int)))) := if (!y1) = true then (if (((x1.2.2.2.2.2).length : Int) == 0) = true then (state_State_at.j3 x1 x2 [x2] [0, 0, 0, 0, 0, 0, 0, 0, 0, 0, 0, 0, 0, 0, 0, 0, 0, 0, 0, 0] 0 [0, 0, 0, 0] ([] : List Int) ([] : List ((List Int) × (List Int)))) else (state_State_at.j3 x1 x2 x1.2.2.2.2.2 [0, 0, 0, 0, 0, 0, 0, 0, 0, 0, 0, 0, 0, 0, 0, 0, 0, 0, 0, 0] 0 [0, 0, 0, 0] ([] : List Int) ([] : List ((List Int) × (List Int))))) else (state_State_at.j3 x1 x2 x1.2.2.2.2.2 y2 y3 y4 y5 y6)
def state_State_at.j1 (k : Nat) (x1 : ((List L76)) × ((List ((List Int) × Option Nat)) × (List L97) × (List (List ((List Int) × (List Int)))) × (List (List ((List Int) × Bool)))) × Int × (List L132) × (List Bool) × (List (List Int))) (x2 : List Int) : Option ((Option Nat) × (Unit × ((List ((List Int) × Option Nat)) × (List L97) × (List (List ((List Int) × (List Int)))) × (List (List ((List Int) × Bool)))) × Unit × (List L132) × (List Bool) × (List (List Int)))) := if ((lk (aget x1.2.1.1 x2) none).2) = true then (some ((lk (aget x1.2.1.1 x2) none).1, ((), x1.2.1, (), x1.2.2.2.1, x1.2.2.2.2.1, x1.2.2.2.2.2))) else ((state_list_Account.f k (x1.1) x2).bind fun t1 => (state_State_at.j2 x1 x2 t1.2 t1.1.1 t1.1.2.1 t1.1.2.2.1 t1.1.2.2.2.1 t1.1.2.2.2.2))
def state_State_at.f (k : Nat) (x1 : ((List L76)) × ((List ((List Int) × Option Nat)) × (List L97) × (List (List ((List Int) × (List Int)))) × (List (List ((List Int) × Bool)))) × Int × (List L132) × (List Bool) × (List (List Int))) (x2 : List Int) : Option ((Option Nat) × (Unit × ((List ((List Int) × Option Nat)) × (List L97) × (List (List ((List Int) × (List Int)))) × (List (List ((List Int) × Bool)))) × Unit × (List L132) × (List Bool) × (List (List Int)))) := state_State_at.j1 k x1 x2
theorem state_State_at.ok (k : Nat) : state_State_at.Ctr (state_State_at.f k) := by
 intro x1 x2 ch_0_0 ch_0_1 ch_0_2 ch_0_3 ch_0_4 ch_0_5 ch_0_6 ch_0_7 ch_0_8 ch_0_9 ch_0_10 ch_0_11 ch_0_12 ch_0_13 ch_0_14 ch_0_15 r h0 mi w0 ok hm
 delta state_State_at.f at h0
 refine c_enterZ (n := 59) ok hm func43 rfl rfl rfl fun b0 hb a S => c_region (s_box S rfl rfl rfl fun g1 a w S => s_assign S rfl rfl fun a S => c_end (wp_seq (wp_seq_k fun K1 hK1 => ?_)))
 have j1 : ∀ m g2 a w, St 59 m b0 [(6, (.b ((lk (aget x1.2.1.1 x2) none).2))), (5, (.rf (ptrV ch_0_4 ((lk (aget x1.2.1.1 x2) none).1)) (ptrR ch_0_4 ((lk (aget x1.2.1.1 x2) none).1)))), (3, (.p g2)), (0, (.p ch_0_0))] [Res.cells g2 23 [.b20 x2], Res.cells ch_0_0 85 [.rf (.iface 79 (.agg (cellsOf [.q Y76 ch_0_1 ch_0_2 x1.1]).toArray)) (IfR [.q Y76 ch_0_1 ch_0_2 x1.1]), .one (.map (some ch_0_3)), .i x1.2.2.1, .s ch_0_7 ch_0_8 ch_0_9, .s ch_0_10 ch_0_11 ch_0_12, .s ch_0_13 ch_0_14 ch_0_15], Res.map true (Ty.arr .u8 20) false (Ty.pid ch_0_4) ch_0_3 x1.2.1.1, Res.fam (Res.struct (YE97 ch_0_5 ch_0_6) 97) (one_struct _ _) ch_0_4 [] x1.2.1.2.1, Res.fam (fun g_ kvs_ => Res.map true (Ty.arr .u64 4) true (Ty.arr .u64 4) g_ kvs_) (one_map true (Ty.arr .u64 4) true (Ty.arr .u64 4)) ch_0_5 [] x1.2.1.2.2.1, Res.fam (fun g_ kvs_ => Res.map true (Ty.arr .u64 4) false Ty.bool g_ kvs_) (one_map true (Ty.arr .u64 4) false Ty.bool) ch_0_6 [] x1.2.1.2.2.2, Res.row Y132 132 ch_0_7 ch_0_8 ch_0_9 x1.2.2.2.1, Res.row Ty.bool 1 ch_0_10 ch_0_11 ch_0_12 x1.2.2.2.2.1, Res.row (Ty.arr .u8 20) 23 ch_0_13 ch_0_14 ch_0_15 x1.2.2.2.2.2] a w → state_State_at.j1 k x1 x2 = some r → K1 a w := by
  intro m g2 a w S h0
  delta state_State_at.j1 at h0
  refine hK1 a w (c_region (s_move S rfl rfl fun a S => c_end ?_))
  rcases ite_of h0 with ⟨c1, h1⟩ | ⟨c1, h1⟩
  ·refine c_condT S rfl c1 (c_region (s_move S rfl rfl fun a S => s_assign S rfl rfl fun a S => c_end (wp_ret (x_thenR ?_))))
   obtain rfl := Option.some.inj h1
   exact b_ret1 (d := (.rf (ptrV ch_0_4 ((lk (aget x1.2.1.1 x2) none).1)) (ptrR ch_0_4 ((lk (aget x1.2.1.1 x2) none).1)))) S rfl rfl fun ok => S.retX (Hx := []) hb _ _ ((ch_0_3, ch_0_4, ch_0_5, ch_0_6, ch_0_7, ch_0_8, ch_0_9, ch_0_10, ch_0_11, ch_0_12, ch_0_13, ch_0_14, ch_0_15) : Nat × (List Nat) × (List Nat) × (List Nat) × (Option Addr) × Nat × Nat × (Option Addr) × Nat × Nat × (Option Addr) × Nat × Nat) (.c1 (.c1 (.c1 (.c1 (.c1 (.c1 (.c1 (.c1 .n)))))))) ok
  ·refine c_condF S rfl c1 (wp_skip (x_thenN (wp_seq_k fun K2 hK2 => ?_)))
   have j2 : ∀ m y1 g4 g5 y2 y3 y4 A1 cp1 y5 A2 cp2 y6 a w, St 59 m b0 [(8, (.b y1)), (7, (.p g4)), (3, (.p g5)), (0, (.p ch_0_0))] [Res.cells g4 76 [.b20 y2, .w y3, .w4 y4, .q yb A1 cp1 y5, .q Y89 A2 cp2 y6], Res.cells g5 23 [.b20 x2], Res.cells ch_0_0 85 [.rf (.iface 79 (.agg (cellsOf [.q Y76 ch_0_1 ch_0_2 x1.1]).toArray)) (IfR [.q Y76 ch_0_1 ch_0_2 x1.1]), .one (.map (some ch_0_3)), .i x1.2.2.1, .s ch_0_7 ch_0_8 ch_0_9, .s ch_0_10 ch_0_11 ch_0_12, .s ch_0_13 ch_0_14 ch_0_15], Res.map true (Ty.arr .u8 20) false (Ty.pid ch_0_4) ch_0_3 x1.2.1.1, Res.fam (Res.struct (YE97 ch_0_5 ch_0_6) 97) (one_struct _ _) ch_0_4 [] x1.2.1.2.1, Res.fam (fun g_ kvs_ => Res.map true (Ty.arr .u64 4) true (Ty.arr .u64 4) g_ kvs_) (one_map true (Ty.arr .u64 4) true (Ty.arr .u64 4)) ch_0_5 [] x1.2.1.2.2.1, Res.fam (fun g_ kvs_ => Res.map true (Ty.arr .u64 4) false Ty.bool g_ kvs_) (one_map true (Ty.arr .u64 4) false Ty.bool) ch_0_6 [] x1.2.1.2.2.2, Res.row Y132 132 ch_0_7 ch_0_8 ch_0_9 x1.2.2.2.1, Res.row Ty.bool 1 ch_0_10 ch_0_11 ch_0_12 x1.2.2.2.2.1, Res.row (Ty.arr .u8 20) 23 ch_0_13 ch_0_14 ch_0_15 x1.2.2.2.2.2] a w → state_State_at.j2 x1 x2 y1 y2 y3 y4 y5 y6 = some r → K2 a w := by
    intro m y1 g4 g5 y2 y3 y4 A1 cp1 y5 A2 cp2 y6 a w S h0
    delta state_State_at.j2 at h0
    refine hK2 a w (wp_seq_k fun K3 hK3 => ?_)
    have j3 : ∀ m g7 g8 A3 nn1 cp3 y7 y8 y9 y10 A4 cp4 y11 A5 cp5 y12 a w, St 59 m b0 [(7, (.p g7)), (3, (.p g8)), (0, (.p ch_0_0))] [Res.row (Ty.arr .u8 20) 23 A3 nn1 cp3 y7, Res.cells g7 76 [.b20 y8, .w y9, .w4 y10, .q yb A4 cp4 y11, .q Y89 A5 cp5 y12], Res.cells g8 23 [.b20 x2], Res.cells ch_0_0 85 [.rf (.iface 79 (.agg (cellsOf [.q Y76 ch_0_1 ch_0_2 x1.1]).toArray)) (IfR [.q Y76 ch_0_1 ch_0_2 x1.1]), .one (.map (some ch_0_3)), .i x1.2.2.1, .s ch_0_7 ch_0_8 ch_0_9, .s ch_0_10 ch_0_11 ch_0_12, .s A3 nn1 cp3], Res.map true (Ty.arr .u8 20) false (Ty.pid ch_0_4) ch_0_3 x1.2.1.1, Res.fam (Res.struct (YE97 ch_0_5 ch_0_6) 97) (one_struct _ _) ch_0_4 [] x1.2.1.2.1, Res.fam (fun g_ kvs_ => Res.map true (Ty.arr .u64 4) true (Ty.arr .u64 4) g_ kvs_) (one_map true (Ty.arr .u64 4) true (Ty.arr .u64 4)) ch_0_5 [] x1.2.1.2.2.1, Res.fam (fun g_ kvs_ => Res.map true (Ty.arr .u64 4) false Ty.bool g_ kvs_) (one_map true (Ty.arr .u64 4) false Ty.bool) ch_0_6 [] x1.2.1.2.2.2, Res.row Y132 132 ch_0_7 ch_0_8 ch_0_9 x1.2.2.2.1, Res.row Ty.bool 1 ch_0_10 ch_0_11 ch_0_12 x1.2.2.2.2.1] a w → state_State_at.j3 x1 x2 y7 y8 y9 y10 y11 y12 = some r → K3 a w := by
     intro m g7 g8 A3 nn1 cp3 y7 y8 y9 y10 A4 cp4 y11 A5 cp5 y12 a w S h0
     delta state_State_at.j3 at h0
     refine hK3 a w (c_region (s_loada S rfl .h2 T23 (s' := [.b20 x2]) rfl rfl fun a S => s_fieldAddr S rfl I76_0 T23 (by decide) rfl rfl fun a S => s_store S rfl rfl rfl (s' := [.b20 x2, .w y9, .w4 y10, .q yb A4 cp4 y11, .q Y89 A5 cp5 y12]) .h1 T23 rfl rfl fun w S => c_end (c_region (s_loada S rfl .h1 T76 (s' := [.b20 x2, .w y9, .w4 y10, .q yb A4 cp4 y11, .q Y89 A5 cp5 y12]) rfl rfl fun a S => s_loada S rfl .h1 T76 (s' := [.b20 x2, .w y9, .w4 y10, .q yb A4 cp4 y11, .q Y89 A5 cp5 y12]) rfl rfl fun a S => s_makeMap S true (Ty.arr .u64 4) true (Ty.arr .u64 4) rfl fun g9 a w S => s_makeMap S true (Ty.arr .u64 4) false Ty.bool rfl fun g10 a w S => s_bldS S (ds := [(0, (.agg [.b20 x2, .w y9, .w4 y10, .q yb A4 cp4 y11, .q Y89 A5 cp5 y12])), (1, (.agg [.b20 x2, .w y9, .w4 y10, .q yb A4 cp4 y11, .q Y89 A5 cp5 y12])), (3, (.v (.map (some g9)))), (6, (.v (.map (some g10))))]) (zs := [.b20 z20, .w 0, .w4 [0, 0, 0, 0], .s none 0 0, .s none 0 0, .b20 z20, .w 0, .w4 [0, 0, 0, 0], .s none 0 0, .s none 0 0, .b false, .one (.map none), .b false, .b false, .one (.map none)]) (s' := [.b20 x2, .w y9, .w4 y10, .q yb A4 cp4 y11, .q Y89 A5 cp5 y12, .b20 x2, .w y9, .w4 y10, .q yb A4 cp4 y11, .q Y89 A5 cp5 y12, .b false, .one (.map (some g9)), .b false, .b false, .one (.map (some g10))]) rfl underlying97 P97 Z97 ⟨rfl, rfl, rfl, rfl, rfl, rfl, rfl, rfl, rfl, rfl, rfl, rfl, rfl, rfl, rfl, trivial⟩ rfl rfl fun a S => s_box S rfl rfl rfl fun g11 a w S => s_assign S rfl rfl fun a S => c_end ?_))))
     refine wp_seq (c_heldS S (.take 0 (.take 1 (.take 2 (.take 3 (.take 4 (.take 5 (.alts (.run 6 true .done .nil)))))))) 7 [Res.row (Ty.arr .u8 20) 23 A3 nn1 cp3 y7, Res.cells g7 76 [.b20 x2, .w y9, .w4 y10, .q yb A4 cp4 y11, .q Y89 A5 cp5 y12], Res.cells g8 23 [.b20 x2], Res.cells ch_0_0 85 [.rf (.iface 79 (.agg (cellsOf [.q Y76 ch_0_1 ch_0_2 x1.1]).toArray)) (IfR [.q Y76 ch_0_1 ch_0_2 x1.1]), .one (.map (some ch_0_3)), .i x1.2.2.1, .s ch_0_7 ch_0_8 ch_0_9, .s ch_0_10 ch_0_11 ch_0_12, .s A3 nn1 cp3]] (.c3 (.c3 (.c3 (.c3 .n)))) ⟨Res.stay_row flat_arr, Res.stay_cells, Res.stay_cells, Res.stay_cells, trivial⟩ [(9, (.p g11)), (3, (.p g8)), (0, (.p ch_0_0))] (subR rfl) (by kernel_rfl) (by kernel_rfl) ?_); clear S; intro w S CL hw le
     refine h_move S CL hw le (subR rfl) rfl rfl rfl trivial fun a S CL => h_nilchk S CL hw le (subR rfl) rfl rfl rfl rfl trivial fun a S CL => h_fieldAddr S CL hw le (subR rfl) rfl I85_1 T80 (by decide) rfl rfl rfl trivial fun a S CL => h_load1 S CL hw le (subR rfl) rfl .h3 T80 (v := (.map (some ch_0_3))) rfl rfl rfl trivial fun a S CL => h_loada S CL hw le (subR rfl) rfl .h2 T23 (s' := [.b20 x2]) rfl rfl rfl trivial fun a S CL => h_move S CL hw le (subR rfl) rfl rfl rfl trivial fun a S CL => h_run' S rfl trivial ?_
     have hS := S.famAdd .h2 .h8
     clear S; obtain ⟨S, hn1⟩ := hS
     replace S := S.cellMid (s1 := [.b20 x2, .w y9, .w4 y10, .q yb A4 cp4 y11, .q Y89 A5 cp5 y12, .b20 x2, .w y9, .w4 y10, .q yb A4 cp4 y11, .q Y89 A5 cp5 y12, .b false]) (s2 := [.b false, .b false, .one (.map (some g10))]) (bAt_last _ _ hn1) (by rw [hn1]; simp) .h
     replace S := S.famSub (F' := Res.struct (YE97 (ch_0_5 ++ [g9]) ch_0_6) 97) (hF' := one_struct _ _) (fun _ _ _ _ h => struct_sub (YS97_0 ch_0_5 ch_0_6 g9) _ _ _ _ _ h) .h7
     have hS := S.famAdd .h1 .h8
     clear S; obtain ⟨S, hn2⟩ := hS
     replace S := S.cellMid (s1 := [.b20 x2, .w y9, .w4 y10, .q yb A4 cp4 y11, .q Y89 A5 cp5 y12, .b20 x2, .w y9, .w4 y10, .q yb A4 cp4 y11, .q Y89 A5 cp5 y12, .b false, .rf (.map (some (bAt (ch_0_5 ++ [g9]) x1.2.1.2.2.1.length))) (ltR x1.2.1.2.2.1.length (ch_0_5 ++ [g9])), .b false, .b false]) (s2 := []) (bAt_last _ _ hn2) (by rw [hn2]; simp) .h
     replace S := S.famSub (F' := Res.struct (YE97 (ch_0_5 ++ [g9]) (ch_0_6 ++ [g10])) 97) (hF' := one_struct _ _) (fun _ _ _ _ h => struct_sub (YS97_1 (ch_0_5 ++ [g9]) ch_0_6 g10) _ _ _ _ _ h) .h6
     replace S := S.structClose (T := (YE97 (ch_0_5 ++ [g9]) (ch_0_6 ++ [g10]))) (e := ((x2, y9, y10, y11, y12), (x2, y9, y10, y11, y12), false, x1.2.1.2.2.1.length, false, false, x1.2.1.2.2.2.length)) ((((), (), (), (A4, cp4), (A5, cp5)), ((), (), (), (A4, cp4), (A5, cp5)), (), (), (), (), ()) : ((YE97 (ch_0_5 ++ [g9]) (ch_0_6 ++ [g10]))).Ch) rfl .h
     have hS := S.famAdd .h .h5
     clear S; obtain ⟨S, hn3⟩ := hS
     replace S := S.mapSub (fun m x v h => vl_pid g11 m x v h) .h4
     replace S := S.slotPB (u := 57) (i := x1.2.1.2.1.length) (g := g11) (G := (ch_0_4 ++ [g11])) (by rw [hn3]; simp) (bAt_last _ _ hn3) rfl
     replace S := S.slotPB (u := 9) (i := x1.2.1.2.1.length) (g := g11) (G := (ch_0_4 ++ [g11])) (by rw [hn3]; simp) (bAt_last _ _ hn3) rfl
     replace S := S.slotPB (u := 51) (i := x1.2.1.2.1.length) (g := g11) (G := (ch_0_4 ++ [g11])) (by rw [hn3]; simp) (bAt_last _ _ hn3) rfl
     refine s_mapput S (k := x2) (y := (some x1.2.1.2.1.length)) rfl .h4 rfl (fun h => ⟨(), rfl, h⟩) rfl (fun h => ⟨(), rfl, h, trivial⟩) underlying80 KT23 fun w S => CL.bk hw S (.c0 (.c0 (.c0 (.c0 .n)))) le fun hw => ?_
     refine h_done ?_; clear CL hw le
     refine x_thenN (c_region (s_move S rfl rfl fun a S => s_assign S rfl rfl fun a S => c_end (wp_ret ?_)))
     obtain rfl := Option.some.inj h0
     exact b_ret1 (d := (.rf (ptrV (ch_0_4 ++ [g11]) (some x1.2.1.2.1.length)) (ptrR (ch_0_4 ++ [g11]) (some x1.2.1.2.1.length)))) S rfl rfl fun ok => S.retX (Hx := []) hb _ _ ((ch_0_3, (ch_0_4 ++ [g11]), (ch_0_5 ++ [g9]), (ch_0_6 ++ [g10]), ch_0_7, ch_0_8, ch_0_9, ch_0_10, ch_0_11, ch_0_12, A3, nn1, cp3) : Nat × (List Nat) × (List Nat) × (List Nat) × (Option Addr) × Nat × Nat × (Option Addr) × Nat × Nat × (Option Addr) × Nat × Nat) (.c3 (.c3 (.c3 (.c3 (.c3 (.c3 (.c3 (.c0 .n)))))))) ok
    refine c_region (s_move S rfl rfl fun a S => s_not S rfl rfl fun a S => c_end ?_)
    rcases ite_of h0 with ⟨c2, h1⟩ | ⟨c2, h1⟩
    ·refine c_condT S rfl c2 (c_region (s_bldS S (ds := []) (zs := [.b20 z20, .w 0, .w4 [0, 0, 0, 0], .s none 0 0, .s none 0 0]) (s' := [.b20 z20, .w 0, .w4 [0, 0, 0, 0], .s none 0 0, .s none 0 0]) rfl underlying76 P76 Z76 ⟨rfl, rfl, rfl, rfl, rfl, trivial⟩ rfl rfl fun a S => s_store S rfl rfl rfl (s' := [.b20 z20, .w 0, .w4 [0, 0, 0, 0], .s none 0 0, .s none 0 0]) .h T76 rfl rfl fun w S => c_end (c_region (s_move S rfl rfl fun a S => s_nilchk S rfl rfl fun a S => s_fieldAddr S rfl I85_5 T83 (by decide) rfl rfl fun a S => s_load1 S rfl .h2 T83 (v := (.slice ch_0_13 ch_0_14 ch_0_15)) rfl rfl fun a S => s_lenO S rfl .h9 underlying83 rfl fun a S => s_bin S rfl rfl rfl rfl fun a S => c_end ?_))))
     rcases ite_of h1 with ⟨c3, h2⟩ | ⟨c3, h2⟩
     ·refine c_condT S rfl c3 (c_region' (s_move S rfl rfl fun a S => s_loada S rfl .h1 T23 (s' := [.b20 x2]) rfl rfl fun a S => s_bldSl S (ty' := (Ty.arr .u8 20)) (ds := [(0, (.agg [.b20 x2]))]) (z := z20) (c0 := ()) (ys := [x2]) (cs := [()]) rfl underlying83 J23 Z23 rfl ⟨rfl, trivial⟩ rfl rfl rfl rfl rfl rfl fun g12 a w S => s_nilchk S rfl rfl fun a S => s_fieldAddr S rfl I85_5 T83 (by decide) rfl rfl fun a S => s_store S rfl rfl rfl (s' := [.rf (.iface 79 (.agg (cellsOf [.q Y76 ch_0_1 ch_0_2 x1.1]).toArray)) (IfR [.q Y76 ch_0_1 ch_0_2 x1.1]), .one (.map (some ch_0_3)), .i x1.2.2.1, .s ch_0_7 ch_0_8 ch_0_9, .s ch_0_10 ch_0_11 ch_0_12, .s (ad g12) 1 1]) .h3 T83 rfl rfl fun w S => c_end' (x_thenN ?_)))
      replace S := S.cellro (s' := [.b20 z20, .w 0, .w4 [0, 0, 0, 0], .q yb none 0 ([] : List Int), .s none 0 0]) .h1 rfl (fun h => ⟨h.1, h.2.1, h.2.2.1, ok_nil, h.2.2.2.2.1, trivial⟩)
      replace S := S.cellro (s' := [.b20 z20, .w 0, .w4 [0, 0, 0, 0], .q yb none 0 ([] : List Int), .q Y89 none 0 ([] : List ((List Int) × (List Int)))]) .h1 rfl (fun h => ⟨h.1, h.2.1, h.2.2.1, h.2.2.2.1, ok_nil, trivial⟩)
      exact j3 _ g4 g5 (ad g12) 1 1 [x2] z20 0 [0, 0, 0, 0] none 0 ([] : List Int) none 0 ([] : List ((List Int) × (List Int))) a w (S.sb rfl (.c0 (.c0 (.c0 (.c0 (.c0 (.c0 (.c0 (.c0 (.c0 (.c0 .n))))))))))) h2
     ·refine c_condF S rfl c3 (wp_skip (x_thenN ?_))
      replace S := S.cellro (s' := [.b20 z20, .w 0, .w4 [0, 0, 0, 0], .q yb none 0 ([] : List Int), .s none 0 0]) .h rfl (fun h => ⟨h.1, h.2.1, h.2.2.1, ok_nil, h.2.2.2.2.1, trivial⟩)
      replace S := S.cellro (s' := [.b20 z20, .w 0, .w4 [0, 0, 0, 0], .q yb none 0 ([] : List Int), .q Y89 none 0 ([] : List ((List Int) × (List Int)))]) .h rfl (fun h => ⟨h.1, h.2.1, h.2.2.1, h.2.2.2.1, ok_nil, trivial⟩)
      exact j3 _ g4 g5 ch_0_13 ch_0_14 ch_0_15 x1.2.2.2.2.2 z20 0 [0, 0, 0, 0] none 0 ([] : List Int) none 0 ([] : List ((List Int) × (List Int))) a w (S.sb rfl (.c9 (.c0 (.c0 (.c0 (.c0 (.c0 (.c0 (.c0 (.c0 (.c0 .n))))))))))) h2
    ·refine c_condF S rfl c2 (wp_skip (x_thenN ?_))
     exact j3 _ g4 g5 ch_0_13 ch_0_14 ch_0_15 x1.2.2.2.2.2 y2 y3 y4 A1 cp1 y5 A2 cp2 y6 a w (S.sb rfl (.c9 (.c0 (.c0 (.c0 (.c0 (.c0 (.c0 (.c0 (.c0 (.c0 .n))))))))))) h1
   refine c_heldS S (.take 0 (.take 1 (.take 2 (.take 3 (.take 4 (.alts (.run 5 true (.alts (.run 6 true (.alts (.run 7 true (.alts (.run 8 true (.alts (.run 9 true (.alts (.run 10 false (.alts (.run 11 false .done .nil)) .nil)) .nil)) (.run 9 true (.alts (.run 8 true (.alts (.run 10 false (.alts (.run 11 false .done .nil)) .nil)) (.run 10 false (.alts (.run 8 false (.alts (.run 11 false .done .nil)) .nil)) .nil))) .nil))) (.run 8 true (.alts (.run 7 true (.alts (.run 9 true (.alts (.run 10 false (.alts (.run 11 false .done .nil)) .nil)) .nil)) (.run 9 true (.alts (.run 7 true (.alts (.run 10 false (.alts (.run 11 false .done .nil)) .nil)) .nil)) .nil))) (.run 9 true (.alts (.run 7 true (.alts (.run 8 true (.alts (.run 10 false (.alts (.run 11 false .done .nil)) .nil)) (.run 10 false (.alts (.run 8 false (.alts (.run 11 false .done .nil)) .nil)) .nil))) (.run 8 true (.alts (.run 7 true (.alts (.run 10 false (.alts (.run 11 false .done .nil)) .nil)) .nil)) .nil))) .nil)))) (.run 9 true (.alts (.run 6 true (.alts (.run 7 true (.alts (.run 8 true (.alts (.run 10 false (.alts (.run 11 false .done .nil)) .nil)) (.run 10 false (.alts (.run 8 false (.alts (.run 11 false .done .nil)) .nil)) .nil))) (.run 8 true (.alts (.run 7 true (.alts (.run 10 false (.alts (.run 11 false .done .nil)) .nil)) .nil)) .nil))) .nil)) .nil))) (.run 9 true (.alts (.run 5 true (.alts (.run 6 true (.alts (.run 7 true (.alts (.run 8 true (.alts (.run 10 false (.alts (.run 11 false .done .nil)) .nil)) (.run 10 false (.alts (.run 8 false (.alts (.run 11 false .done .nil)) .nil)) .nil))) (.run 8 true (.alts (.run 7 true (.alts (.run 10 false (.alts (.run 11 false .done .nil)) .nil)) .nil)) .nil))) .nil)) .nil)) .nil)))))))) 10 [Res.cells g2 23 [.b20 x2], Res.cells ch_0_0 85 [.rf (.iface 79 (.agg (cellsOf [.q Y76 ch_0_1 ch_0_2 x1.1]).toArray)) (IfR [.q Y76 ch_0_1 ch_0_2 x1.1]), .one (.map (some ch_0_3)), .i x1.2.2.1, .s ch_0_7 ch_0_8 ch_0_9, .s ch_0_10 ch_0_11 ch_0_12, .s ch_0_13 ch_0_14 ch_0_15], Res.row (Ty.arr .u8 20) 23 ch_0_13 ch_0_14 ch_0_15 x1.2.2.2.2.2] (.c0 (.c0 (.c6 .n))) ⟨Res.stay_cells, Res.stay_cells, Res.stay_row flat_arr, trivial⟩ [(3, (.p g2)), (0, (.p ch_0_0))] (subR rfl) (by kernel_rfl) (by kernel_rfl) fun w S CL hw le => ?_
   refine h_move S CL hw le (subR rfl) rfl rfl rfl trivial fun a S CL => h_nilchk S CL hw le (subR rfl) rfl rfl rfl rfl trivial fun a S CL => h_fieldAddr S CL hw le (subR rfl) rfl I85_0 T52 (by decide) rfl rfl rfl trivial fun a S CL => h_loadM S CL hw le (subR rfl) rfl .h1 T52 (v := (.iface 79 (.agg (cellsOf [.q Y76 ch_0_1 ch_0_2 x1.1]).toArray))) rfl rfl rfl trivial fun a S CL => h_loada S CL hw le (subR rfl) rfl .h T23 (s' := [.b20 x2]) rfl rfl rfl trivial fun a S CL => bindX h1 fun t1 et1 h2 => h_alts ?_
   refine h_runO S rfl trivial ?_ ?_
   ·refine s_callI S (d0 := (.agg [.q Y76 ch_0_1 ch_0_2 x1.1])) (ds' := [(.agg [.b20 x2])]) (ds := [(.agg [.b20 x2])]) [] [Res.cells g2 23 [.b20 x2], Res.cells ch_0_0 85 [.rf (.iface 79 (.agg (cellsOf [.q Y76 ch_0_1 ch_0_2 x1.1]).toArray)) (IfR [.q Y76 ch_0_1 ch_0_2 x1.1]), .one (.map (some ch_0_3)), .i x1.2.2.1, .s ch_0_7 ch_0_8 ch_0_9, .s ch_0_10 ch_0_11 ch_0_12, .s ch_0_13 ch_0_14 ch_0_15], Res.map true (Ty.arr .u8 20) false (Ty.pid ch_0_4) ch_0_3 x1.2.1.1, Res.fam (Res.struct (YE97 ch_0_5 ch_0_6) 97) (one_struct _ _) ch_0_4 [] x1.2.1.2.1, Res.fam (fun g_ kvs_ => Res.map true (Ty.arr .u64 4) true (Ty.arr .u64 4) g_ kvs_) (one_map true (Ty.arr .u64 4) true (Ty.arr .u64 4)) ch_0_5 [] x1.2.1.2.2.1, Res.fam (fun g_ kvs_ => Res.map true (Ty.arr .u64 4) false Ty.bool g_ kvs_) (one_map true (Ty.arr .u64 4) false Ty.bool) ch_0_6 [] x1.2.1.2.2.2, Res.row Y132 132 ch_0_7 ch_0_8 ch_0_9 x1.2.2.2.1, Res.row Ty.bool 1 ch_0_10 ch_0_11 ch_0_12 x1.2.2.2.2.1, Res.row (Ty.arr .u8 20) 23 ch_0_13 ch_0_14 ch_0_15 x1.2.2.2.2.2] (fun (ch : (Option Addr) × Nat × (Option Addr) × Nat) => ((.tup [(true, (Y76.segs t1.1 ((), (), (), (ch.1, ch.2.1), (ch.2.2.1, ch.2.2.2)))), (false, [.b t1.2])]) : D)) (fun (ch : (Option Addr) × Nat × (Option Addr) × Nat) => []) (fun (ch : (Option Addr) × Nat × (Option Addr) × Nat) => [Res.cells g2 23 [.b20 x2], Res.cells ch_0_0 85 [.rf (.iface 79 (.agg (cellsOf [.q Y76 ch_0_1 ch_0_2 x1.1]).toArray)) (IfR [.q Y76 ch_0_1 ch_0_2 x1.1]), .one (.map (some ch_0_3)), .i x1.2.2.1, .s ch_0_7 ch_0_8 ch_0_9, .s ch_0_10 ch_0_11 ch_0_12, .s ch_0_13 ch_0_14 ch_0_15], Res.map true (Ty.arr .u8 20) false (Ty.pid ch_0_4) ch_0_3 x1.2.1.1, Res.fam (Res.struct (YE97 ch_0_5 ch_0_6) 97) (one_struct _ _) ch_0_4 [] x1.2.1.2.1, Res.fam (fun g_ kvs_ => Res.map true (Ty.arr .u64 4) true (Ty.arr .u64 4) g_ kvs_) (one_map true (Ty.arr .u64 4) true (Ty.arr .u64 4)) ch_0_5 [] x1.2.1.2.2.1, Res.fam (fun g_ kvs_ => Res.map true (Ty.arr .u64 4) false Ty.bool g_ kvs_) (one_map true (Ty.arr .u64 4) false Ty.bool) ch_0_6 [] x1.2.1.2.2.2, Res.row Y132 132 ch_0_7 ch_0_8 ch_0_9 x1.2.2.2.1, Res.row Ty.bool 1 ch_0_10 ch_0_11 ch_0_12 x1.2.2.2.2.1, Res.row (Ty.arr .u8 20) 23 ch_0_13 ch_0_14 ch_0_15 x1.2.2.2.2.2]) (fun _ => rfl) N71 M79_Account rfl rfl (fun h => h) rfl rfl (fun ok => ok) (.c0 (.c0 (.c0 (.c0 (.c0 (.c0 (.c0 (.c0 (.c0 .n))))))))) rfl (state_list_Account.ok k (x1.1) x2 ch_0_1 ch_0_2 t1 et1 _ _) fun ch1 m le1 a w S => ?_
    replace le := le.trans le1
    refine CL.bk hw S (.c0 (.c0 (.c6 .n))) le fun hw => h_alts ?_
    refine h_runO S rfl trivial ?_ ?_
    ·refine s_move S rfl rfl fun a S => CL.bk hw S (.c0 (.c0 (.c6 .n))) le fun hw => h_alts ?_
     refine h_runO S rfl trivial ?_ ?_
     ·refine s_extract S rfl rfl rfl rfl fun a S => CL.bk hw S (.c0 (.c0 (.c6 .n))) le fun hw => h_alts ?_
      refine h_runO S rfl trivial ?_ ?_
      ·refine s_extract S rfl rfl rfl rfl fun a S => CL.bk hw S (.c0 (.c0 (.c6 .n))) le fun hw => h_run' S rfl trivial (s_alloc S Z76 rfl ⟨rfl, rfl, rfl, rfl, rfl, trivial⟩ rfl fun g13 a w S => CL.bk hw S (.c1 (.c1 (.c7 .n))) le fun hw => h_run' S rfl trivial (s_store S rfl rfl rfl (s' := [.b20 t1.1.1, .w t1.1.2.1, .w4 t1.1.2.2.1, .q yb ch1.1 ch1.2.1 t1.1.2.2.2.1, .q Y89 ch1.2.2.1 ch1.2.2.2 t1.1.2.2.2.2]) .h T76 rfl rfl fun w S => ?_))
       refine h_back ⟨fun h => (nomatch h), ?_⟩
       refine h_run' S rfl trivial (s_assign S rfl rfl fun a S => ?_)
       refine h_back ⟨fun h => (nomatch h), ?_⟩
       refine h_done ?_; clear CL hw le
       refine x_thenN ?_
       exact j2 _ t1.2 g13 g2 t1.1.1 t1.1.2.1 t1.1.2.2.1 ch1.1 ch1.2.1 t1.1.2.2.2.1 ch1.2.2.1 ch1.2.2.2 t1.1.2.2.2.2 a w (S.sb rfl (.c0 (.c0 (.c0 (.c0 (.c0 (.c0 (.c0 (.c0 (.c0 (.c0 .n))))))))))) h2
      refine h_runO S rfl trivial ?_ ?_
      ·refine s_alloc S Z76 rfl ⟨rfl, rfl, rfl, rfl, rfl, trivial⟩ rfl fun g13 a w S => CL.bk hw S (.c1 (.c1 (.c7 .n))) le fun hw => h_alts ?_
       refine h_runO S rfl trivial ?_ ?_
       ·refine s_extract S rfl rfl rfl rfl fun a S => CL.bk hw S (.c1 (.c1 (.c7 .n))) le fun hw => h_run' S rfl trivial (s_store S rfl rfl rfl (s' := [.b20 t1.1.1, .w t1.1.2.1, .w4 t1.1.2.2.1, .q yb ch1.1 ch1.2.1 t1.1.2.2.2.1, .q Y89 ch1.2.2.1 ch1.2.2.2 t1.1.2.2.2.2]) .h T76 rfl rfl fun w S => ?_)
        refine h_back ⟨fun h => (nomatch h), ?_⟩
        refine h_run' S rfl trivial (s_assign S rfl rfl fun a S => ?_)
        refine h_back ⟨fun h => (nomatch h), ?_⟩
        refine h_done ?_; clear CL hw le
        refine x_thenN ?_
        exact j2 _ t1.2 g13 g2 t1.1.1 t1.1.2.1 t1.1.2.2.1 ch1.1 ch1.2.1 t1.1.2.2.2.1 ch1.2.2.1 ch1.2.2.2 t1.1.2.2.2.2 a w (S.sb rfl (.c0 (.c0 (.c0 (.c0 (.c0 (.c0 (.c0 (.c0 (.c0 (.c0 .n))))))))))) h2
       refine h_runO S rfl trivial ?_ ?_
       ·refine s_store S rfl rfl rfl (s' := [.b20 t1.1.1, .w t1.1.2.1, .w4 t1.1.2.2.1, .q yb ch1.1 ch1.2.1 t1.1.2.2.2.1, .q Y89 ch1.2.2.1 ch1.2.2.2 t1.1.2.2.2.2]) .h T76 rfl rfl fun w S => ?_
        refine h_back ⟨fun h => (nomatch h), ?_⟩
        refine h_run' S rfl trivial (s_extract S rfl rfl rfl rfl fun a S => ?_)
        refine h_back ⟨fun h => (nomatch h), ?_⟩
        refine h_run' S rfl trivial (s_assign S rfl rfl fun a S => ?_)
        refine h_back ⟨fun h => (nomatch h), ?_⟩
        refine h_done ?_; clear CL hw le
        refine x_thenN ?_
        exact j2 _ t1.2 g13 g2 t1.1.1 t1.1.2.1 t1.1.2.2.1 ch1.1 ch1.2.1 t1.1.2.2.2.1 ch1.2.2.1 ch1.2.2.2 t1.1.2.2.2.2 a w (S.sb rfl (.c0 (.c0 (.c0 (.c0 (.c0 (.c0 (.c0 (.c0 (.c0 (.c0 .n))))))))))) h2
       exact h_nil
      exact h_nil
     refine h_runO S rfl trivial ?_ ?_
     ·refine s_extract S rfl rfl rfl rfl fun a S => CL.bk hw S (.c0 (.c0 (.c6 .n))) le fun hw => h_alts ?_
      refine h_runO S rfl trivial ?_ ?_
      ·refine s_extract S rfl rfl rfl rfl fun a S => CL.bk hw S (.c0 (.c0 (.c6 .n))) le fun hw => h_run' S rfl trivial (s_alloc S Z76 rfl ⟨rfl, rfl, rfl, rfl, rfl, trivial⟩ rfl fun g13 a w S => CL.bk hw S (.c1 (.c1 (.c7 .n))) le fun hw => h_run' S rfl trivial (s_store S rfl rfl rfl (s' := [.b20 t1.1.1, .w t1.1.2.1, .w4 t1.1.2.2.1, .q yb ch1.1 ch1.2.1 t1.1.2.2.2.1, .q Y89 ch1.2.2.1 ch1.2.2.2 t1.1.2.2.2.2]) .h T76 rfl rfl fun w S => ?_))
       refine h_back ⟨fun h => (nomatch h), ?_⟩
       refine h_run' S rfl trivial (s_assign S rfl rfl fun a S => ?_)
       refine h_back ⟨fun h => (nomatch h), ?_⟩
       refine h_done ?_; clear CL hw le
       refine x_thenN ?_
       exact j2 _ t1.2 g13 g2 t1.1.1 t1.1.2.1 t1.1.2.2.1 ch1.1 ch1.2.1 t1.1.2.2.2.1 ch1.2.2.1 ch1.2.2.2 t1.1.2.2.2.2 a w (S.sb rfl (.c0 (.c0 (.c0 (.c0 (.c0 (.c0 (.c0 (.c0 (.c0 (.c0 .n))))))))))) h2
      refine h_runO S rfl trivial ?_ ?_
      ·refine s_alloc S Z76 rfl ⟨rfl, rfl, rfl, rfl, rfl, trivial⟩ rfl fun g13 a w S => CL.bk hw S (.c1 (.c1 (.c7 .n))) le fun hw => h_run' S rfl trivial (s_extract S rfl rfl rfl rfl fun a S => CL.bk hw S (.c1 (.c1 (.c7 .n))) le fun hw => h_run' S rfl trivial (s_store S rfl rfl rfl (s' := [.b20 t1.1.1, .w t1.1.2.1, .w4 t1.1.2.2.1, .q yb ch1.1 ch1.2.1 t1.1.2.2.2.1, .q Y89 ch1.2.2.1 ch1.2.2.2 t1.1.2.2.2.2]) .h T76 rfl rfl fun w S => ?_))
       refine h_back ⟨fun h => (nomatch h), ?_⟩
       refine h_run' S rfl trivial (s_assign S rfl rfl fun a S => ?_)
       refine h_back ⟨fun h => (nomatch h), ?_⟩
       refine h_done ?_; clear CL hw le
       refine x_thenN ?_
       exact j2 _ t1.2 g13 g2 t1.1.1 t1.1.2.1 t1.1.2.2.1 ch1.1 ch1.2.1 t1.1.2.2.2.1 ch1.2.2.1 ch1.2.2.2 t1.1.2.2.2.2 a w (S.sb rfl (.c0 (.c0 (.c0 (.c0 (.c0 (.c0 (.c0 (.c0 (.c0 (.c0 .n))))))))))) h2
      exact h_nil
     refine h_runO S rfl trivial ?_ ?_
     ·refine s_alloc S Z76 rfl ⟨rfl, rfl, rfl, rfl, rfl, trivial⟩ rfl fun g13 a w S => CL.bk hw S (.c1 (.c1 (.c7 .n))) le fun hw => h_alts ?_
      refine h_runO S rfl trivial ?_ ?_
      ·refine s_extract S rfl rfl rfl rfl fun a S => CL.bk hw S (.c1 (.c1 (.c7 .n))) le fun hw => h_alts ?_
       refine h_runO S rfl trivial ?_ ?_
       ·refine s_extract S rfl rfl rfl rfl fun a S => CL.bk hw S (.c1 (.c1 (.c7 .n))) le fun hw => h_run' S rfl trivial (s_store S rfl rfl rfl (s' := [.b20 t1.1.1, .w t1.1.2.1, .w4 t1.1.2.2.1, .q yb ch1.1 ch1.2.1 t1.1.2.2.2.1, .q Y89 ch1.2.2.1 ch1.2.2.2 t1.1.2.2.2.2]) .h T76 rfl rfl fun w S => ?_)
        refine h_back ⟨fun h => (nomatch h), ?_⟩
        refine h_run' S rfl trivial (s_assign S rfl rfl fun a S => ?_)
        refine h_back ⟨fun h => (nomatch h), ?_⟩
        refine h_done ?_; clear CL hw le
        refine x_thenN ?_
        exact j2 _ t1.2 g13 g2 t1.1.1 t1.1.2.1 t1.1.2.2.1 ch1.1 ch1.2.1 t1.1.2.2.2.1 ch1.2.2.1 ch1.2.2.2 t1.1.2.2.2.2 a w (S.sb rfl (.c0 (.c0 (.c0 (.c0 (.c0 (.c0 (.c0 (.c0 (.c0 (.c0 .n))))))))))) h2
       refine h_runO S rfl trivial ?_ ?_
       ·refine s_store S rfl rfl rfl (s' := [.b20 t1.1.1, .w t1.1.2.1, .w4 t1.1.2.2.1, .q yb ch1.1 ch1.2.1 t1.1.2.2.2.1, .q Y89 ch1.2.2.1 ch1.2.2.2 t1.1.2.2.2.2]) .h T76 rfl rfl fun w S => ?_
        refine h_back ⟨fun h => (nomatch h), ?_⟩
        refine h_run' S rfl trivial (s_extract S rfl rfl rfl rfl fun a S => ?_)
        refine h_back ⟨fun h => (nomatch h), ?_⟩
        refine h_run' S rfl trivial (s_assign S rfl rfl fun a S => ?_)
        refine h_back ⟨fun h => (nomatch h), ?_⟩
        refine h_done ?_; clear CL hw le
        refine x_thenN ?_
        exact j2 _ t1.2 g13 g2 t1.1.1 t1.1.2.1 t1.1.2.2.1 ch1.1 ch1.2.1 t1.1.2.2.2.1 ch1.2.2.1 ch1.2.2.2 t1.1.2.2.2.2 a w (S.sb rfl (.c0 (.c0 (.c0 (.c0 (.c0 (.c0 (.c0 (.c0 (.c0 (.c0 .n))))))))))) h2
       exact h_nil
      refine h_runO S rfl trivial ?_ ?_
      ·refine s_extract S rfl rfl rfl rfl fun a S => CL.bk hw S (.c1 (.c1 (.c7 .n))) le fun hw => h_run' S rfl trivial (s_extract S rfl rfl rfl rfl fun a S => CL.bk hw S (.c1 (.c1 (.c7 .n))) le fun hw => h_run' S rfl trivial (s_store S rfl rfl rfl (s' := [.b20 t1.1.1, .w t1.1.2.1, .w4 t1.1.2.2.1, .q yb ch1.1 ch1.2.1 t1.1.2.2.2.1, .q Y89 ch1.2.2.1 ch1.2.2.2 t1.1.2.2.2.2]) .h T76 rfl rfl fun w S => ?_))
       refine h_back ⟨fun h => (nomatch h), ?_⟩
       refine h_run' S rfl trivial (s_assign S rfl rfl fun a S => ?_)
       refine h_back ⟨fun h => (nomatch h), ?_⟩
       refine h_done ?_; clear CL hw le
       refine x_thenN ?_
       exact j2 _ t1.2 g13 g2 t1.1.1 t1.1.2.1 t1.1.2.2.1 ch1.1 ch1.2.1 t1.1.2.2.2.1 ch1.2.2.1 ch1.2.2.2 t1.1.2.2.2.2 a w (S.sb rfl (.c0 (.c0 (.c0 (.c0 (.c0 (.c0 (.c0 (.c0 (.c0 (.c0 .n))))))))))) h2
      exact h_nil
     exact h_nil
    refine h_runO S rfl trivial ?_ ?_
    ·refine s_alloc S Z76 rfl ⟨rfl, rfl, rfl, rfl, rfl, trivial⟩ rfl fun g13 a w S => CL.bk hw S (.c1 (.c1 (.c7 .n))) le fun hw => h_run' S rfl trivial (s_move S rfl rfl fun a S => CL.bk hw S (.c1 (.c1 (.c7 .n))) le fun hw => h_alts ?_)
     refine h_runO S rfl trivial ?_ ?_
     ·refine s_extract S rfl rfl rfl rfl fun a S => CL.bk hw S (.c1 (.c1 (.c7 .n))) le fun hw => h_alts ?_
      refine h_runO S rfl trivial ?_ ?_
      ·refine s_extract S rfl rfl rfl rfl fun a S => CL.bk hw S (.c1 (.c1 (.c7 .n))) le fun hw => h_run' S rfl trivial (s_store S rfl rfl rfl (s' := [.b20 t1.1.1, .w t1.1.2.1, .w4 t1.1.2.2.1, .q yb ch1.1 ch1.2.1 t1.1.2.2.2.1, .q Y89 ch1.2.2.1 ch1.2.2.2 t1.1.2.2.2.2]) .h T76 rfl rfl fun w S => ?_)
       refine h_back ⟨fun h => (nomatch h), ?_⟩
       refine h_run' S rfl trivial (s_assign S rfl rfl fun a S => ?_)
       refine h_back ⟨fun h => (nomatch h), ?_⟩
       refine h_done ?_; clear CL hw le
       refine x_thenN ?_
       exact j2 _ t1.2 g13 g2 t1.1.1 t1.1.2.1 t1.1.2.2.1 ch1.1 ch1.2.1 t1.1.2.2.2.1 ch1.2.2.1 ch1.2.2.2 t1.1.2.2.2.2 a w (S.sb rfl (.c0 (.c0 (.c0 (.c0 (.c0 (.c0 (.c0 (.c0 (.c0 (.c0 .n))))))))))) h2
      refine h_runO S rfl trivial ?_ ?_
      ·refine s_store S rfl rfl rfl (s' := [.b20 t1.1.1, .w t1.1.2.1, .w4 t1.1.2.2.1, .q yb ch1.1 ch1.2.1 t1.1.2.2.2.1, .q Y89 ch1.2.2.1 ch1.2.2.2 t1.1.2.2.2.2]) .h T76 rfl rfl fun w S => ?_
       refine h_back ⟨fun h => (nomatch h), ?_⟩
       refine h_run' S rfl trivial (s_extract S rfl rfl rfl rfl fun a S => ?_)
       refine h_back ⟨fun h => (nomatch h), ?_⟩
       refine h_run' S rfl trivial (s_assign S rfl rfl fun a S => ?_)
       refine h_back ⟨fun h => (nomatch h), ?_⟩
       refine h_done ?_; clear CL hw le
       refine x_thenN ?_
       exact j2 _ t1.2 g13 g2 t1.1.1 t1.1.2.1 t1.1.2.2.1 ch1.1 ch1.2.1 t1.1.2.2.2.1 ch1.2.2.1 ch1.2.2.2 t1.1.2.2.2.2 a w (S.sb rfl (.c0 (.c0 (.c0 (.c0 (.c0 (.c0 (.c0 (.c0 (.c0 (.c0 .n))))))))))) h2
      exact h_nil
     refine h_runO S rfl trivial ?_ ?_
     ·refine s_extract S rfl rfl rfl rfl fun a S => CL.bk hw S (.c1 (.c1 (.c7 .n))) le fun hw => h_run' S rfl trivial (s_extract S rfl rfl rfl rfl fun a S => CL.bk hw S (.c1 (.c1 (.c7 .n))) le fun hw => h_run' S rfl trivial (s_store S rfl rfl rfl (s' := [.b20 t1.1.1, .w t1.1.2.1, .w4 t1.1.2.2.1, .q yb ch1.1 ch1.2.1 t1.1.2.2.2.1, .q Y89 ch1.2.2.1 ch1.2.2.2 t1.1.2.2.2.2]) .h T76 rfl rfl fun w S => ?_))
      refine h_back ⟨fun h => (nomatch h), ?_⟩
      refine h_run' S rfl trivial (s_assign S rfl rfl fun a S => ?_)
      refine h_back ⟨fun h => (nomatch h), ?_⟩
      refine h_done ?_; clear CL hw le
      refine x_thenN ?_
      exact j2 _ t1.2 g13 g2 t1.1.1 t1.1.2.1 t1.1.2.2.1 ch1.1 ch1.2.1 t1.1.2.2.2.1 ch1.2.2.1 ch1.2.2.2 t1.1.2.2.2.2 a w (S.sb rfl (.c0 (.c0 (.c0 (.c0 (.c0 (.c0 (.c0 (.c0 (.c0 (.c0 .n))))))))))) h2
     exact h_nil
    exact h_nil
   refine h_runO S rfl trivial ?_ ?_
   ·refine s_alloc S Z76 rfl ⟨rfl, rfl, rfl, rfl, rfl, trivial⟩ rfl fun g13 a w S => CL.bk hw S (.c1 (.c1 (.c7 .n))) le fun hw => h_run' S rfl trivial (s_callI S (d0 := (.agg [.q Y76 ch_0_1 ch_0_2 x1.1])) (ds' := [(.agg [.b20 x2])]) (ds := [(.agg [.b20 x2])]) [] [Res.cells g13 76 [.b20 z20, .w 0, .w4 [0, 0, 0, 0], .s none 0 0, .s none 0 0], Res.cells g2 23 [.b20 x2], Res.cells ch_0_0 85 [.rf (.iface 79 (.agg (cellsOf [.q Y76 ch_0_1 ch_0_2 x1.1]).toArray)) (IfR [.q Y76 ch_0_1 ch_0_2 x1.1]), .one (.map (some ch_0_3)), .i x1.2.2.1, .s ch_0_7 ch_0_8 ch_0_9, .s ch_0_10 ch_0_11 ch_0_12, .s ch_0_13 ch_0_14 ch_0_15], Res.map true (Ty.arr .u8 20) false (Ty.pid ch_0_4) ch_0_3 x1.2.1.1, Res.fam (Res.struct (YE97 ch_0_5 ch_0_6) 97) (one_struct _ _) ch_0_4 [] x1.2.1.2.1, Res.fam (fun g_ kvs_ => Res.map true (Ty.arr .u64 4) true (Ty.arr .u64 4) g_ kvs_) (one_map true (Ty.arr .u64 4) true (Ty.arr .u64 4)) ch_0_5 [] x1.2.1.2.2.1, Res.fam (fun g_ kvs_ => Res.map true (Ty.arr .u64 4) false Ty.bool g_ kvs_) (one_map true (Ty.arr .u64 4) false Ty.bool) ch_0_6 [] x1.2.1.2.2.2, Res.row Y132 132 ch_0_7 ch_0_8 ch_0_9 x1.2.2.2.1, Res.row Ty.bool 1 ch_0_10 ch_0_11 ch_0_12 x1.2.2.2.2.1, Res.row (Ty.arr .u8 20) 23 ch_0_13 ch_0_14 ch_0_15 x1.2.2.2.2.2] (fun (ch : (Option Addr) × Nat × (Option Addr) × Nat) => ((.tup [(true, (Y76.segs t1.1 ((), (), (), (ch.1, ch.2.1), (ch.2.2.1, ch.2.2.2)))), (false, [.b t1.2])]) : D)) (fun (ch : (Option Addr) × Nat × (Option Addr) × Nat) => []) (fun (ch : (Option Addr) × Nat × (Option Addr) × Nat) => [Res.cells g13 76 [.b20 z20, .w 0, .w4 [0, 0, 0, 0], .s none 0 0, .s none 0 0], Res.cells g2 23 [.b20 x2], Res.cells ch_0_0 85 [.rf (.iface 79 (.agg (cellsOf [.q Y76 ch_0_1 ch_0_2 x1.1]).toArray)) (IfR [.q Y76 ch_0_1 ch_0_2 x1.1]), .one (.map (some ch_0_3)), .i x1.2.2.1, .s ch_0_7 ch_0_8 ch_0_9, .s ch_0_10 ch_0_11 ch_0_12, .s ch_0_13 ch_0_14 ch_0_15], Res.map true (Ty.arr .u8 20) false (Ty.pid ch_0_4) ch_0_3 x1.2.1.1, Res.fam (Res.struct (YE97 ch_0_5 ch_0_6) 97) (one_struct _ _) ch_0_4 [] x1.2.1.2.1, Res.fam (fun g_ kvs_ => Res.map true (Ty.arr .u64 4) true (Ty.arr .u64 4) g_ kvs_) (one_map true (Ty.arr .u64 4) true (Ty.arr .u64 4)) ch_0_5 [] x1.2.1.2.2.1, Res.fam (fun g_ kvs_ => Res.map true (Ty.arr .u64 4) false Ty.bool g_ kvs_) (one_map true (Ty.arr .u64 4) false Ty.bool) ch_0_6 [] x1.2.1.2.2.2, Res.row Y132 132 ch_0_7 ch_0_8 ch_0_9 x1.2.2.2.1, Res.row Ty.bool 1 ch_0_10 ch_0_11 ch_0_12 x1.2.2.2.2.1, Res.row (Ty.arr .u8 20) 23 ch_0_13 ch_0_14 ch_0_15 x1.2.2.2.2.2]) (fun _ => rfl) N71 M79_Account rfl rfl (fun h => h) rfl rfl (fun ok => ok) (.c0 (.c0 (.c0 (.c0 (.c0 (.c0 (.c0 (.c0 (.c0 (.c0 .n)))))))))) rfl (state_list_Account.ok k (x1.1) x2 ch_0_1 ch_0_2 t1 et1 _ _) fun ch1 m le1 a w S => ?_)
    replace le := le.trans le1
    refine CL.bk hw S (.c1 (.c1 (.c7 .n))) le fun hw => h_run' S rfl trivial (s_move S rfl rfl fun a S => CL.bk hw S (.c1 (.c1 (.c7 .n))) le fun hw => h_alts ?_)
    refine h_runO S rfl trivial ?_ ?_
    ·refine s_extract S rfl rfl rfl rfl fun a S => CL.bk hw S (.c1 (.c1 (.c7 .n))) le fun hw => h_alts ?_
     refine h_runO S rfl trivial ?_ ?_
     ·refine s_extract S rfl rfl rfl rfl fun a S => CL.bk hw S (.c1 (.c1 (.c7 .n))) le fun hw => h_run' S rfl trivial (s_store S rfl rfl rfl (s' := [.b20 t1.1.1, .w t1.1.2.1, .w4 t1.1.2.2.1, .q yb ch1.1 ch1.2.1 t1.1.2.2.2.1, .q Y89 ch1.2.2.1 ch1.2.2.2 t1.1.2.2.2.2]) .h T76 rfl rfl fun w S => ?_)
      refine h_back ⟨fun h => (nomatch h), ?_⟩
      refine h_run' S rfl trivial (s_assign S rfl rfl fun a S => ?_)
      refine h_back ⟨fun h => (nomatch h), ?_⟩
      refine h_done ?_; clear CL hw le
      refine x_thenN ?_
      exact j2 _ t1.2 g13 g2 t1.1.1 t1.1.2.1 t1.1.2.2.1 ch1.1 ch1.2.1 t1.1.2.2.2.1 ch1.2.2.1 ch1.2.2.2 t1.1.2.2.2.2 a w (S.sb rfl (.c0 (.c0 (.c0 (.c0 (.c0 (.c0 (.c0 (.c0 (.c0 (.c0 .n))))))))))) h2
     refine h_runO S rfl trivial ?_ ?_
     ·refine s_store S rfl rfl rfl (s' := [.b20 t1.1.1, .w t1.1.2.1, .w4 t1.1.2.2.1, .q yb ch1.1 ch1.2.1 t1.1.2.2.2.1, .q Y89 ch1.2.2.1 ch1.2.2.2 t1.1.2.2.2.2]) .h T76 rfl rfl fun w S => ?_
      refine h_back ⟨fun h => (nomatch h), ?_⟩
      refine h_run' S rfl trivial (s_extract S rfl rfl rfl rfl fun a S => ?_)
      refine h_back ⟨fun h => (nomatch h), ?_⟩
      refine h_run' S rfl trivial (s_assign S rfl rfl fun a S => ?_)
      refine h_back ⟨fun h => (nomatch h), ?_⟩
      refine h_done ?_; clear CL hw le
      refine x_thenN ?_
      exact j2 _ t1.2 g13 g2 t1.1.1 t1.1.2.1 t1.1.2.2.1 ch1.1 ch1.2.1 t1.1.2.2.2.1 ch1.2.2.1 ch1.2.2.2 t1.1.2.2.2.2 a w (S.sb rfl (.c0 (.c0 (.c0 (.c0 (.c0 (.c0 (.c0 (.c0 (.c0 (.c0 .n))))))))))) h2
     exact h_nil
    refine h_runO S rfl trivial ?_ ?_
    ·refine s_extract S rfl rfl rfl rfl fun a S => CL.bk hw S (.c1 (.c1 (.c7 .n))) le fun hw => h_run' S rfl trivial (s_extract S rfl rfl rfl rfl fun a S => CL.bk hw S (.c1 (.c1 (.c7 .n))) le fun hw => h_run' S rfl trivial (s_store S rfl rfl rfl (s' := [.b20 t1.1.1, .w t1.1.2.1, .w4 t1.1.2.2.1, .q yb ch1.1 ch1.2.1 t1.1.2.2.2.1, .q Y89 ch1.2.2.1 ch1.2.2.2 t1.1.2.2.2.2]) .h T76 rfl rfl fun w S => ?_))
     refine h_back ⟨fun h => (nomatch h), ?_⟩
     refine h_run' S rfl trivial (s_assign S rfl rfl fun a S => ?_)
     refine h_back ⟨fun h => (nomatch h), ?_⟩
     refine h_done ?_; clear CL hw le
     refine x_thenN ?_
     exact j2 _ t1.2 g13 g2 t1.1.1 t1.1.2.1 t1.1.2.2.1 ch1.1 ch1.2.1 t1.1.2.2.2.1 ch1.2.2.1 ch1.2.2.2 t1.1.2.2.2.2 a w (S.sb rfl (.c0 (.c0 (.c0 (.c0 (.c0 (.c0 (.c0 (.c0 (.c0 (.c0 .n))))))))))) h2
    exact h_nil
   exact h_nil
 refine c_heldS S (.take 0 (.take 1 (.take 2 (.take 3 (.take 4 (.alts (.run 5 true (.alts (.run 6 true (.alts (.run 7 true (.alts (.run 8 true (.alts (.run 9 true (.take 10 .done) .nil)) (.run 9 true (.alts (.run 8 true (.take 10 .done) .nil)) .nil))) (.run 8 true (.alts (.run 7 true (.alts (.run 9 true (.take 10 .done) .nil)) .nil)) .nil))) .nil)) .nil))))))) 11 [Res.cells g1 23 [.b20 x2], Res.cells ch_0_0 85 [.rf (.iface 79 (.agg (cellsOf [.q Y76 ch_0_1 ch_0_2 x1.1]).toArray)) (IfR [.q Y76 ch_0_1 ch_0_2 x1.1]), .one (.map (some ch_0_3)), .i x1.2.2.1, .s ch_0_7 ch_0_8 ch_0_9, .s ch_0_10 ch_0_11 ch_0_12, .s ch_0_13 ch_0_14 ch_0_15], Res.row (Ty.arr .u8 20) 23 ch_0_13 ch_0_14 ch_0_15 x1.2.2.2.2.2] (.c0 (.c0 (.c6 .n))) ⟨Res.stay_cells, Res.stay_cells, Res.stay_row flat_arr, trivial⟩ [(3, (.p g1)), (0, (.p ch_0_0))] (subR rfl) (by kernel_rfl) (by kernel_rfl) fun w S CL hw le => ?_
 refine h_move S CL hw le (subR rfl) rfl rfl rfl trivial fun a S CL => h_nilchk S CL hw le (subR rfl) rfl rfl rfl rfl trivial fun a S CL => h_fieldAddr S CL hw le (subR rfl) rfl I85_1 T80 (by decide) rfl rfl rfl trivial fun a S CL => h_load1 S CL hw le (subR rfl) rfl .h1 T80 (v := (.map (some ch_0_3))) rfl rfl rfl trivial fun a S CL => h_loada S CL hw le (subR rfl) rfl .h T23 (s' := [.b20 x2]) rfl rfl rfl trivial fun a S CL => h_run' S rfl trivial (s_lookO S (z := none) (k := x2) rfl .h2 () rfl (fun h => ⟨(), rfl, h⟩) underlying80 KT23 Z98 ⟨⟨rfl, (fun _ h => by cases h), ptrR.mono _ _⟩, trivial⟩ rfl fun ch2 a S => CL.bk hw S (.c0 (.c0 (.c6 .n))) le fun hw => h_run' S rfl trivial (s_move S rfl rfl fun a S => CL.bk hw S (.c0 (.c0 (.c6 .n))) le fun hw => h_alts ?_))
 refine h_runO S rfl trivial ?_ ?_
 ·refine s_extract S rfl rfl rfl rfl fun a S => CL.bk hw S (.c0 (.c0 (.c6 .n))) le fun hw => h_alts ?_
  refine h_runO S rfl trivial ?_ ?_
  ·refine s_extract S rfl rfl rfl rfl fun a S => CL.bk hw S (.c0 (.c0 (.c6 .n))) le fun hw => ?_
   replace CL := CL.add (t := 18) (d := (.b ((lk (aget x1.2.1.1 x2) none).2))) S rfl rfl
   refine h_run' S rfl trivial (s_assign S rfl rfl fun a S => CL.bk hw S (.c0 (.c0 (.c6 .n))) le fun hw => h_assign S CL hw le (subR rfl) rfl rfl rfl trivial fun a S CL => ?_)
   refine h_done ?_; clear CL hw le
   refine x_thenN ?_
   exact j1 _ g1 a w (S.sb rfl (.c0 (.c0 (.c0 (.c0 (.c0 (.c0 (.c0 (.c0 (.c0 .n)))))))))) h0
  refine h_runO S rfl trivial ?_ ?_
  ·refine s_assign S rfl rfl fun a S => CL.bk hw S (.c0 (.c0 (.c6 .n))) le fun hw => h_run' S rfl trivial (s_extract S rfl rfl rfl rfl fun a S => CL.bk hw S (.c0 (.c0 (.c6 .n))) le fun hw => ?_)
   replace CL := CL.add (t := 18) (d := (.b ((lk (aget x1.2.1.1 x2) none).2))) S rfl rfl
   refine h_assign S CL hw le (subR rfl) rfl rfl rfl trivial fun a S CL => ?_
   refine h_done ?_; clear CL hw le
   refine x_thenN ?_
   exact j1 _ g1 a w (S.sb rfl (.c0 (.c0 (.c0 (.c0 (.c0 (.c0 (.c0 (.c0 (.c0 .n)))))))))) h0
  exact h_nil
 refine h_runO S rfl trivial ?_ ?_
 ·refine s_extract S rfl rfl rfl rfl fun a S => CL.bk hw S (.c0 (.c0 (.c6 .n))) le fun hw => ?_
  replace CL := CL.add (t := 18) (d := (.b ((lk (aget x1.2.1.1 x2) none).2))) S rfl rfl
  refine h_run' S rfl trivial (s_extract S rfl rfl rfl rfl fun a S => CL.bk hw S (.c0 (.c0 (.c6 .n))) le fun hw => h_run' S rfl trivial (s_assign S rfl rfl fun a S => CL.bk hw S (.c0 (.c0 (.c6 .n))) le fun hw => h_assign S CL hw le (subR rfl) rfl rfl rfl trivial fun a S CL => ?_))
  refine h_done ?_; clear CL hw le
  refine x_thenN ?_
  exact j1 _ g1 a w (S.sb rfl (.c0 (.c0 (.c0 (.c0 (.c0 (.c0 (.c0 (.c0 (.c0 .n)))))))))) h0
 exact h_nil
abbrev state_State_Nonce.Ty : Type := (((List L76)) × ((List ((List Int) × Option Nat)) × (List L97) × (List (List ((List Int) × (List Int)))) × (List (List ((List Int) × Bool)))) × Int × (List L132) × (List Bool) × (List (List Int))) → (List Int) → Option (Int × (Unit × ((List ((List Int) × Option Nat)) × (List L97) × (List (List ((List Int) × (List Int)))) × (List (List ((List Int) × Bool)))) × Unit × (List L132) × (List Bool) × (List (List Int))))
def state_State_Nonce.Ctr (s : state_State_Nonce.Ty) : Prop := ∀ (x1 : ((List L76)) × ((List ((List Int) × Option Nat)) × (List L97) × (List (List ((List Int) × (List Int)))) × (List (List ((List Int) × Bool)))) × Int × (List L132) × (List Bool) × (List (List Int))) (x2 : List Int) (ch_0_0 : Nat) (ch_0_1 : Option Addr) (ch_0_2 : Nat) (ch_0_3 : Nat) (ch_0_4 : List Nat) (ch_0_5 : List Nat) (ch_0_6 : List Nat) (ch_0_7 : Option Addr) (ch_0_8 : Nat) (ch_0_9 : Nat) (ch_0_10 : Option Addr) (ch_0_11 : Nat) (ch_0_12 : Nat) (ch_0_13 : Option Addr) (ch_0_14 : Nat) (ch_0_15 : Nat) (r : Int × (Unit × ((List ((List Int) × Option Nat)) × (List L97) × (List (List ((List Int) × (List Int)))) × (List (List ((List Int) × Bool)))) × Unit × (List L132) × (List Bool) × (List (List Int)))), Ct (C := (Nat × (List Nat) × (List Nat) × (List Nat) × (Option Addr) × Nat × Nat × (Option Addr) × Nat × Nat × (Option Addr) × Nat × Nat)) Try.prog 40 (s x1 x2 = some r) [Res.cells ch_0_0 85 [.rf (.iface 79 (.agg (cellsOf [.q Y76 ch_0_1 ch_0_2 x1.1]).toArray)) (IfR [.q Y76 ch_0_1 ch_0_2 x1.1]), .one (.map (some ch_0_3)), .i x1.2.2.1, .s ch_0_7 ch_0_8 ch_0_9, .s ch_0_10 ch_0_11 ch_0_12, .s ch_0_13 ch_0_14 ch_0_15], Res.map true (Ty.arr .u8 20) false (Ty.pid ch_0_4) ch_0_3 x1.2.1.1, Res.fam (Res.struct (YE97 ch_0_5 ch_0_6) 97) (one_struct _ _) ch_0_4 [] x1.2.1.2.1, Res.fam (fun g_ kvs_ => Res.map true (Ty.arr .u64 4) true (Ty.arr .u64 4) g_ kvs_) (one_map true (Ty.arr .u64 4) true (Ty.arr .u64 4)) ch_0_5 [] x1.2.1.2.2.1, Res.fam (fun g_ kvs_ => Res.map true (Ty.arr .u64 4) false Ty.bool g_ kvs_) (one_map true (Ty.arr .u64 4) false Ty.bool) ch_0_6 [] x1.2.1.2.2.2, Res.row Y132 132 ch_0_7 ch_0_8 ch_0_9 x1.2.2.2.1, Res.row Ty.bool 1 ch_0_10 ch_0_11 ch_0_12 x1.2.2.2.2.1, Res.row (Ty.arr .u8 20) 23 ch_0_13 ch_0_14 ch_0_15 x1.2.2.2.2.2] [(.p ch_0_0), (.agg [.b20 x2])] (fun _ => (.w r.1)) fun ch => [Res.cells ch_0_0 85 [.rf (.iface 79 (.agg (cellsOf [.q Y76 ch_0_1 ch_0_2 x1.1]).toArray)) (IfR [.q Y76 ch_0_1 ch_0_2 x1.1]), .one (.map (some ch.1)), .i x1.2.2.1, .s ch.2.2.2.2.1 ch.2.2.2.2.2.1 ch.2.2.2.2.2.2.1, .s ch.2.2.2.2.2.2.2.1 ch.2.2.2.2.2.2.2.2.1 ch.2.2.2.2.2.2.2.2.2.1, .s ch.2.2.2.2.2.2.2.2.2.2.1 ch.2.2.2.2.2.2.2.2.2.2.2.1 ch.2.2.2.2.2.2.2.2.2.2.2.2], Res.map true (Ty.arr .u8 20) false (Ty.pid ch.2.1) ch.1 r.2.2.1.1, Res.fam (Res.struct (YE97 ch.2.2.1 ch.2.2.2.1) 97) (one_struct _ _) ch.2.1 [] r.2.2.1.2.1, Res.fam (fun g_ kvs_ => Res.map true (Ty.arr .u64 4) true (Ty.arr .u64 4) g_ kvs_) (one_map true (Ty.arr .u64 4) true (Ty.arr .u64 4)) ch.2.2.1 [] r.2.2.1.2.2.1, Res.fam (fun g_ kvs_ => Res.map true (Ty.arr .u64 4) false Ty.bool g_ kvs_) (one_map true (Ty.arr .u64 4) false Ty.bool) ch.2.2.2.1 [] r.2.2.1.2.2.2, Res.row Y132 132 ch.2.2.2.2.1 ch.2.2.2.2.2.1 ch.2.2.2.2.2.2.1 r.2.2.2.2.1, Res.row Ty.bool 1 ch.2.2.2.2.2.2.2.1 ch.2.2.2.2.2.2.2.2.1 ch.2.2.2.2.2.2.2.2.2.1 r.2.2.2.2.2.1, Res.row (Ty.arr .u8 20) 23 ch.2.2.2.2.2.2.2.2.2.2.1 ch.2.2.2.2.2.2.2.2.2.2.2.1 ch.2.2.2.2.2.2.2.2.2.2.2.2 r.2.2.2.2.2.2]
def state_State_Nonce.f (k : Nat) (x1 : ((List L76)) × ((List ((List Int) × Option Nat)) × (List L97) × (List (List ((List Int) × (List Int)))) × (List (List ((List Int) × Bool)))) × Int × (List L132) × (List Bool) × (List (List Int))) (x2 : List Int) : Option (Int × (Unit × ((List ((List Int) × Option Nat)) × (List L97) × (List (List ((List Int) × (List Int)))) × (List (List ((List Int) × Bool)))) × Unit × (List L132) × (List Bool) × (List (List Int)))) := (state_State_at.f k ((x1.1), x1.2.1, x1.2.2.1, x1.2.2.2.1, x1.2.2.2.2.1, x1.2.2.2.2.2) x2).bind fun t1 => (if t1.1.isSome = true then (some (((atE t1.2.2.1.2.1 (t1.1.getD 0)).2.1).2.1, ((), t1.2.2.1, (), t1.2.2.2.2.1, t1.2.2.2.2.2.1, t1.2.2.2.2.2.2))) else none)
theorem state_State_Nonce.ok (k : Nat) : state_State_Nonce.Ctr (state_State_Nonce.f k) := by
 intro x1 x2 ch_0_0 ch_0_1 ch_0_2 ch_0_3 ch_0_4 ch_0_5 ch_0_6 ch_0_7 ch_0_8 ch_0_9 ch_0_10 ch_0_11 ch_0_12 ch_0_13 ch_0_14 ch_0_15 r h0 mi w0 ok hm
 delta state_State_Nonce.f at h0
 refine c_enterZ (n := 14) ok hm func40 rfl rfl rfl fun b0 hb a S => c_region (s_box S rfl rfl rfl fun g1 a w S => s_assign S rfl rfl fun a S => c_end (wp_seq (c_region (s_move S rfl rfl fun a S => s_eqp S (b := false) rfl rfl underlying49 rfl rfl fun a S => c_end (c_condF S rfl rfl (wp_skip (x_thenN (c_region (s_move S rfl rfl fun a S => s_loada S rfl .h T23 (s' := [.b20 x2]) rfl rfl fun a S => bindX h0 fun t1 et1 h1 => s_callX S (ds' := [(.p ch_0_0), (.agg [.b20 x2])]) (ds := [(.p ch_0_0), (.agg [.b20 x2])]) [Res.cells ch_0_0 85 [.rf (.iface 79 (.agg (cellsOf [.q Y76 ch_0_1 ch_0_2 x1.1]).toArray)) (IfR [.q Y76 ch_0_1 ch_0_2 x1.1]), .one (.map (some ch_0_3)), .i x1.2.2.1, .s ch_0_7 ch_0_8 ch_0_9, .s ch_0_10 ch_0_11 ch_0_12, .s ch_0_13 ch_0_14 ch_0_15], Res.map true (Ty.arr .u8 20) false (Ty.pid ch_0_4) ch_0_3 x1.2.1.1, Res.fam (Res.struct (YE97 ch_0_5 ch_0_6) 97) (one_struct _ _) ch_0_4 [] x1.2.1.2.1, Res.fam (fun g_ kvs_ => Res.map true (Ty.arr .u64 4) true (Ty.arr .u64 4) g_ kvs_) (one_map true (Ty.arr .u64 4) true (Ty.arr .u64 4)) ch_0_5 [] x1.2.1.2.2.1, Res.fam (fun g_ kvs_ => Res.map true (Ty.arr .u64 4) false Ty.bool g_ kvs_) (one_map true (Ty.arr .u64 4) false Ty.bool) ch_0_6 [] x1.2.1.2.2.2, Res.row Y132 132 ch_0_7 ch_0_8 ch_0_9 x1.2.2.2.1, Res.row Ty.bool 1 ch_0_10 ch_0_11 ch_0_12 x1.2.2.2.2.1, Res.row (Ty.arr .u8 20) 23 ch_0_13 ch_0_14 ch_0_15 x1.2.2.2.2.2] [Res.cells g1 23 [.b20 x2]] (fun (ch : Nat × (List Nat) × (List Nat) × (List Nat) × (Option Addr) × Nat × Nat × (Option Addr) × Nat × Nat × (Option Addr) × Nat × Nat) => ((.rf (ptrV ch.2.1 t1.1) (ptrR ch.2.1 t1.1)) : D)) (fun (ch : Nat × (List Nat) × (List Nat) × (List Nat) × (Option Addr) × Nat × Nat × (Option Addr) × Nat × Nat × (Option Addr) × Nat × Nat) => [Res.cells ch_0_0 85 [.rf (.iface 79 (.agg (cellsOf [.q Y76 ch_0_1 ch_0_2 x1.1]).toArray)) (IfR [.q Y76 ch_0_1 ch_0_2 x1.1]), .one (.map (some ch.1)), .i x1.2.2.1, .s ch.2.2.2.2.1 ch.2.2.2.2.2.1 ch.2.2.2.2.2.2.1, .s ch.2.2.2.2.2.2.2.1 ch.2.2.2.2.2.2.2.2.1 ch.2.2.2.2.2.2.2.2.2.1, .s ch.2.2.2.2.2.2.2.2.2.2.1 ch.2.2.2.2.2.2.2.2.2.2.2.1 ch.2.2.2.2.2.2.2.2.2.2.2.2], Res.map true (Ty.arr .u8 20) false (Ty.pid ch.2.1) ch.1 t1.2.2.1.1, Res.fam (Res.struct (YE97 ch.2.2.1 ch.2.2.2.1) 97) (one_struct _ _) ch.2.1 [] t1.2.2.1.2.1, Res.fam (fun g_ kvs_ => Res.map true (Ty.arr .u64 4) true (Ty.arr .u64 4) g_ kvs_) (one_map true (Ty.arr .u64 4) true (Ty.arr .u64 4)) ch.2.2.1 [] t1.2.2.1.2.2.1, Res.fam (fun g_ kvs_ => Res.map true (Ty.arr .u64 4) false Ty.bool g_ kvs_) (one_map true (Ty.arr .u64 4) false Ty.bool) ch.2.2.2.1 [] t1.2.2.1.2.2.2, Res.row Y132 132 ch.2.2.2.2.1 ch.2.2.2.2.2.1 ch.2.2.2.2.2.2.1 t1.2.2.2.2.1, Res.row Ty.bool 1 ch.2.2.2.2.2.2.2.1 ch.2.2.2.2.2.2.2.2.1 ch.2.2.2.2.2.2.2.2.2.1 t1.2.2.2.2.2.1, Res.row (Ty.arr .u8 20) 23 ch.2.2.2.2.2.2.2.2.2.2.1 ch.2.2.2.2.2.2.2.2.2.2.2.1 ch.2.2.2.2.2.2.2.2.2.2.2.2 t1.2.2.2.2.2.2]) (fun (ch : Nat × (List Nat) × (List Nat) × (List Nat) × (Option Addr) × Nat × Nat × (Option Addr) × Nat × Nat × (Option Addr) × Nat × Nat) => [Res.cells ch_0_0 85 [.rf (.iface 79 (.agg (cellsOf [.q Y76 ch_0_1 ch_0_2 x1.1]).toArray)) (IfR [.q Y76 ch_0_1 ch_0_2 x1.1]), .one (.map (some ch.1)), .i x1.2.2.1, .s ch.2.2.2.2.1 ch.2.2.2.2.2.1 ch.2.2.2.2.2.2.1, .s ch.2.2.2.2.2.2.2.1 ch.2.2.2.2.2.2.2.2.1 ch.2.2.2.2.2.2.2.2.2.1, .s ch.2.2.2.2.2.2.2.2.2.2.1 ch.2.2.2.2.2.2.2.2.2.2.2.1 ch.2.2.2.2.2.2.2.2.2.2.2.2], Res.map true (Ty.arr .u8 20) false (Ty.pid ch.2.1) ch.1 t1.2.2.1.1, Res.fam (Res.struct (YE97 ch.2.2.1 ch.2.2.2.1) 97) (one_struct _ _) ch.2.1 [] t1.2.2.1.2.1, Res.fam (fun g_ kvs_ => Res.map true (Ty.arr .u64 4) true (Ty.arr .u64 4) g_ kvs_) (one_map true (Ty.arr .u64 4) true (Ty.arr .u64 4)) ch.2.2.1 [] t1.2.2.1.2.2.1, Res.fam (fun g_ kvs_ => Res.map true (Ty.arr .u64 4) false Ty.bool g_ kvs_) (one_map true (Ty.arr .u64 4) false Ty.bool) ch.2.2.2.1 [] t1.2.2.1.2.2.2, Res.row Y132 132 ch.2.2.2.2.1 ch.2.2.2.2.2.1 ch.2.2.2.2.2.2.1 t1.2.2.2.2.1, Res.row Ty.bool 1 ch.2.2.2.2.2.2.2.1 ch.2.2.2.2.2.2.2.2.1 ch.2.2.2.2.2.2.2.2.2.1 t1.2.2.2.2.2.1, Res.row (Ty.arr .u8 20) 23 ch.2.2.2.2.2.2.2.2.2.2.1 ch.2.2.2.2.2.2.2.2.2.2.2.1 ch.2.2.2.2.2.2.2.2.2.2.2.2 t1.2.2.2.2.2.2, Res.cells g1 23 [.b20 x2]]) (fun _ => rfl) N43 rfl rfl (fun ok => ok) (.c1 (.c1 (.c1 (.c1 (.c1 (.c1 (.c1 (.c1 (.c0 .n))))))))) rfl (state_State_at.ok k ((x1.1), x1.2.1, x1.2.2.1, x1.2.2.2.1, x1.2.2.2.2.1, x1.2.2.2.2.2) x2 ch_0_0 ch_0_1 ch_0_2 ch_0_3 ch_0_4 ch_0_5 ch_0_6 ch_0_7 ch_0_8 ch_0_9 ch_0_10 ch_0_11 ch_0_12 ch_0_13 ch_0_14 ch_0_15 t1 et1 _ _) fun ch1 m le1 a w S => ?_)))))))))
 obtain ⟨c1, h2⟩ := chk_of h1; clear h1
 have hl1 := S.slotPlt (u := 9) c1 rfl
 replace S := S.slotP (u := 9) c1 rfl
 refine s_nilchk S rfl rfl fun a S => s_fieldAddr S rfl I97_1 T76 (by decide) rfl rfl fun a S => s_fieldAddr S rfl I76_1 T24 (by decide) rfl rfl fun a S => ?_
 replace S := S.famOpen (i := (t1.1.getD 0)) hl1 .h2
 have hS := S.structOpen (T := (YE97 ch1.2.2.1 ch1.2.2.2.1)) (fun _ => .h) (((), (), (), (none, 0), (none, 0)), ((), (), (), (none, 0), (none, 0)), (), (), (), (), ())
 clear S; obtain ⟨ch2, S⟩ := hS
 refine s_load1 S rfl .h T24 (v := (.int .u64 (((atE t1.2.2.1.2.1 (t1.1.getD 0)).2.1).2.1))) rfl rfl fun a S => ?_
 replace S := S.structClose (T := (YE97 ch1.2.2.1 ch1.2.2.2.1)) (e := atE t1.2.2.1.2.1 (t1.1.getD 0)) ((((), (), (), (ch2.1.2.2.2.1.1, ch2.1.2.2.2.1.2), (ch2.1.2.2.2.2.1, ch2.1.2.2.2.2.2)), ((), (), (), (ch2.2.1.2.2.2.1.1, ch2.2.1.2.2.2.1.2), (ch2.2.1.2.2.2.2.1, ch2.2.1.2.2.2.2.2)), (), (), (), (), ()) : ((YE97 ch1.2.2.1 ch1.2.2.2.1)).Ch) rfl .h
 replace S := S.famShut hl1 .h .h2
 refine s_assign S rfl rfl fun a S => c_end (wp_ret ?_)
 obtain rfl := Option.some.inj h2
 exact b_ret1 (d := (.w (((atE t1.2.2.1.2.1 (t1.1.getD 0)).2.1).2.1))) S rfl rfl fun ok => S.retX (Hx := []) hb _ _ ((ch1.1, ch1.2.1, ch1.2.2.1, ch1.2.2.2.1, ch1.2.2.2.2.1, ch1.2.2.2.2.2.1, ch1.2.2.2.2.2.2.1, ch1.2.2.2.2.2.2.2.1, ch1.2.2.2.2.2.2.2.2.1, ch1.2.2.2.2.2.2.2.2.2.1, ch1.2.2.2.2.2.2.2.2.2.2.1, ch1.2.2.2.2.2.2.2.2.2.2.2.1, ch1.2.2.2.2.2.2.2.2.2.2.2.2) : Nat × (List Nat) × (List Nat) × (List Nat) × (Option Addr) × Nat × Nat × (Option Addr) × Nat × Nat × (Option Addr) × Nat × Nat) (.c0 (.c0 (.c0 (.c0 (.c0 (.c0 (.c0 (.c0 .n)))))))) ok
abbrev state_State_Code.Ty : Type := (((List L76)) × ((List ((List Int) × Option Nat)) × (List L97) × (List (List ((List Int) × (List Int)))) × (List (List ((List Int) × Bool)))) × Int × (List L132) × (List Bool) × (List (List Int))) → (List Int) → Option ((List Int) × (Unit × ((List ((List Int) × Option Nat)) × (List L97) × (List (List ((List Int) × (List Int)))) × (List (List ((List Int) × Bool)))) × Unit × (List L132) × (List Bool) × (List (List Int))))
def state_State_Code.Ctr (s : state_State_Code.Ty) : Prop := ∀ (x1 : ((List L76)) × ((List ((List Int) × Option Nat)) × (List L97) × (List (List ((List Int) × (List Int)))) × (List (List ((List Int) × Bool)))) × Int × (List L132) × (List Bool) × (List (List Int))) (x2 : List Int) (ch_0_0 : Nat) (ch_0_1 : Option Addr) (ch_0_2 : Nat) (ch_0_3 : Nat) (ch_0_4 : List Nat) (ch_0_5 : List Nat) (ch_0_6 : List Nat) (ch_0_7 : Option Addr) (ch_0_8 : Nat) (ch_0_9 : Nat) (ch_0_10 : Option Addr) (ch_0_11 : Nat) (ch_0_12 : Nat) (ch_0_13 : Option Addr) (ch_0_14 : Nat) (ch_0_15 : Nat) (r : (List Int) × (Unit × ((List ((List Int) × Option Nat)) × (List L97) × (List (List ((List Int) × (List Int)))) × (List (List ((List Int) × Bool)))) × Unit × (List L132) × (List Bool) × (List (List Int)))), Ct (C := ((Option Addr) × Nat × Nat × Nat × (List Nat) × (List Nat) × (List Nat) × (Option Addr) × Nat × Nat × (Option Addr) × Nat × Nat × (Option Addr) × Nat × Nat)) Try.prog 41 (s x1 x2 = some r) [Res.cells ch_0_0 85 [.rf (.iface 79 (.agg (cellsOf [.q Y76 ch_0_1 ch_0_2 x1.1]).toArray)) (IfR [.q Y76 ch_0_1 ch_0_2 x1.1]), .one (.map (some ch_0_3)), .i x1.2.2.1, .s ch_0_7 ch_0_8 ch_0_9, .s ch_0_10 ch_0_11 ch_0_12, .s ch_0_13 ch_0_14 ch_0_15], Res.map true (Ty.arr .u8 20) false (Ty.pid ch_0_4) ch_0_3 x1.2.1.1, Res.fam (Res.struct (YE97 ch_0_5 ch_0_6) 97) (one_struct _ _) ch_0_4 [] x1.2.1.2.1, Res.fam (fun g_ kvs_ => Res.map true (Ty.arr .u64 4) true (Ty.arr .u64 4) g_ kvs_) (one_map true (Ty.arr .u64 4) true (Ty.arr .u64 4)) ch_0_5 [] x1.2.1.2.2.1, Res.fam (fun g_ kvs_ => Res.map true (Ty.arr .u64 4) false Ty.bool g_ kvs_) (one_map true (Ty.arr .u64 4) false Ty.bool) ch_0_6 [] x1.2.1.2.2.2, Res.row Y132 132 ch_0_7 ch_0_8 ch_0_9 x1.2.2.2.1, Res.row Ty.bool 1 ch_0_10 ch_0_11 ch_0_12 x1.2.2.2.2.1, Res.row (Ty.arr .u8 20) 23 ch_0_13 ch_0_14 ch_0_15 x1.2.2.2.2.2] [(.p ch_0_0), (.agg [.b20 x2])] (fun ch => (.s ch.1 ch.2.1 ch.2.2.1)) fun ch => [Res.row yb 5 ch.1 ch.2.1 ch.2.2.1 r.1, Res.cells ch_0_0 85 [.rf (.iface 79 (.agg (cellsOf [.q Y76 ch_0_1 ch_0_2 x1.1]).toArray)) (IfR [.q Y76 ch_0_1 ch_0_2 x1.1]), .one (.map (some ch.2.2.2.1)), .i x1.2.2.1, .s ch.2.2.2.2.2.2.2.1 ch.2.2.2.2.2.2.2.2.1 ch.2.2.2.2.2.2.2.2.2.1, .s ch.2.2.2.2.2.2.2.2.2.2.1 ch.2.2.2.2.2.2.2.2.2.2.2.1 ch.2.2.2.2.2.2.2.2.2.2.2.2.1, .s ch.2.2.2.2.2.2.2.2.2.2.2.2.2.1 ch.2.2.2.2.2.2.2.2.2.2.2.2.2.2.1 ch.2.2.2.2.2.2.2.2.2.2.2.2.2.2.2], Res.map true (Ty.arr .u8 20) false (Ty.pid ch.2.2.2.2.1) ch.2.2.2.1 r.2.2.1.1, Res.fam (Res.struct (YE97 ch.2.2.2.2.2.1 ch.2.2.2.2.2.2.1) 97) (one_struct _ _) ch.2.2.2.2.1 [] r.2.2.1.2.1, Res.fam (fun g_ kvs_ => Res.map true (Ty.arr .u64 4) true (Ty.arr .u64 4) g_ kvs_) (one_map true (Ty.arr .u64 4) true (Ty.arr .u64 4)) ch.2.2.2.2.2.1 [] r.2.2.1.2.2.1, Res.fam (fun g_ kvs_ => Res.map true (Ty.arr .u64 4) false Ty.bool g_ kvs_) (one_map true (Ty.arr .u64 4) false Ty.bool) ch.2.2.2.2.2.2.1 [] r.2.2.1.2.2.2, Res.row Y132 132 ch.2.2.2.2.2.2.2.1 ch.2.2.2.2.2.2.2.2.1 ch.2.2.2.2.2.2.2.2.2.1 r.2.2.2.2.1, Res.row Ty.bool 1 ch.2.2.2.2.2.2.2.2.2.2.1 ch.2.2.2.2.2.2.2.2.2.2.2.1 ch.2.2.2.2.2.2.2.2.2.2.2.2.1 r.2.2.2.2.2.1, Res.row (Ty.arr .u8 20) 23 ch.2.2.2.2.2.2.2.2.2.2.2.2.2.1 ch.2.2.2.2.2.2.2.2.2.2.2.2.2.2.1 ch.2.2.2.2.2.2.2.2.2.2.2.2.2.2.2 r.2.2.2.2.2.2]
def state_State_Code.f (k : Nat) (x1 : ((List L76)) × ((List ((List Int) × Option Nat)) × (List L97) × (List (List ((List Int) × (List Int)))) × (List (List ((List Int) × Bool)))) × Int × (List L132) × (List Bool) × (List (List Int))) (x2 : List Int) : Option ((List Int) × (Unit × ((List ((List Int) × Option Nat)) × (List L97) × (List (List ((List Int) × (List Int)))) × (List (List ((List Int) × Bool)))) × Unit × (List L132) × (List Bool) × (List (List Int)))) := (state_State_at.f k ((x1.1), x1.2.1, x1.2.2.1, x1.2.2.2.1, x1.2.2.2.2.1, x1.2.2.2.2.2) x2).bind fun t1 => (if t1.1.isSome = true then ((slices_Clone_byte_byte.f (((atE t1.2.2.1.2.1 (t1.1.getD 0)).2.1).2.2.2.1)).bind fun t2 => (some (t2, ((), t1.2.2.1, (), t1.2.2.2.2.1, t1.2.2.2.2.2.1, t1.2.2.2.2.2.2)))) else none)
theorem state_State_Code.ok (k : Nat) : state_State_Code.Ctr (state_State_Code.f k) := by
 intro x1 x2 ch_0_0 ch_0_1 ch_0_2 ch_0_3 ch_0_4 ch_0_5 ch_0_6 ch_0_7 ch_0_8 ch_0_9 ch_0_10 ch_0_11 ch_0_12 ch_0_13 ch_0_14 ch_0_15 r h0 mi w0 ok hm
 delta state_State_Code.f at h0
 refine c_enterZ (n := 15) ok hm func41 rfl rfl rfl fun b0 hb a S => c_region (s_box S rfl rfl rfl fun g1 a w S => s_assign S rfl rfl fun a S => c_end (wp_seq (c_region (s_move S rfl rfl fun a S => s_eqp S (b := false) rfl rfl underlying49 rfl rfl fun a S => c_end (c_condF S rfl rfl (wp_skip (x_thenN (c_region (s_move S rfl rfl fun a S => s_loada S rfl .h T23 (s' := [.b20 x2]) rfl rfl fun a S => bindX h0 fun t1 et1 h1 => s_callX S (ds' := [(.p ch_0_0), (.agg [.b20 x2])]) (ds := [(.p ch_0_0), (.agg [.b20 x2])]) [Res.cells ch_0_0 85 [.rf (.iface 79 (.agg (cellsOf [.q Y76 ch_0_1 ch_0_2 x1.1]).toArray)) (IfR [.q Y76 ch_0_1 ch_0_2 x1.1]), .one (.map (some ch_0_3)), .i x1.2.2.1, .s ch_0_7 ch_0_8 ch_0_9, .s ch_0_10 ch_0_11 ch_0_12, .s ch_0_13 ch_0_14 ch_0_15], Res.map true (Ty.arr .u8 20) false (Ty.pid ch_0_4) ch_0_3 x1.2.1.1, Res.fam (Res.struct (YE97 ch_0_5 ch_0_6) 97) (one_struct _ _) ch_0_4 [] x1.2.1.2.1, Res.fam (fun g_ kvs_ => Res.map true (Ty.arr .u64 4) true (Ty.arr .u64 4) g_ kvs_) (one_map true (Ty.arr .u64 4) true (Ty.arr .u64 4)) ch_0_5 [] x1.2.1.2.2.1, Res.fam (fun g_ kvs_ => Res.map true (Ty.arr .u64 4) false Ty.bool g_ kvs_) (one_map true (Ty.arr .u64 4) false Ty.bool) ch_0_6 [] x1.2.1.2.2.2, Res.row Y132 132 ch_0_7 ch_0_8 ch_0_9 x1.2.2.2.1, Res.row Ty.bool 1 ch_0_10 ch_0_11 ch_0_12 x1.2.2.2.2.1, Res.row (Ty.arr .u8 20) 23 ch_0_13 ch_0_14 ch_0_15 x1.2.2.2.2.2] [Res.cells g1 23 [.b20 x2]] (fun (ch : Nat × (List Nat) × (List Nat) × (List Nat) × (Option Addr) × Nat × Nat × (Option Addr) × Nat × Nat × (Option Addr) × Nat × Nat) => ((.rf (ptrV ch.2.1 t1.1) (ptrR ch.2.1 t1.1)) : D)) (fun (ch : Nat × (List Nat) × (List Nat) × (List Nat) × (Option Addr) × Nat × Nat × (Option Addr) × Nat × Nat × (Option Addr) × Nat × Nat) => [Res.cells ch_0_0 85 [.rf (.iface 79 (.agg (cellsOf [.q Y76 ch_0_1 ch_0_2 x1.1]).toArray)) (IfR [.q Y76 ch_0_1 ch_0_2 x1.1]), .one (.map (some ch.1)), .i x1.2.2.1, .s ch.2.2.2.2.1 ch.2.2.2.2.2.1 ch.2.2.2.2.2.2.1, .s ch.2.2.2.2.2.2.2.1 ch.2.2.2.2.2.2.2.2.1 ch.2.2.2.2.2.2.2.2.2.1, .s ch.2.2.2.2.2.2.2.2.2.2.1 ch.2.2.2.2.2.2.2.2.2.2.2.1 ch.2.2.2.2.2.2.2.2.2.2.2.2], Res.map true (Ty.arr .u8 20) false (Ty.pid ch.2.1) ch.1 t1.2.2.1.1, Res.fam (Res.struct (YE97 ch.2.2.1 ch.2.2.2.1) 97) (one_struct _ _) ch.2.1 [] t1.2.2.1.2.1, Res.fam (fun g_ kvs_ => Res.map true (Ty.arr .u64 4) true (Ty.arr .u64 4) g_ kvs_) (one_map true (Ty.arr .u64 4) true (Ty.arr .u64 4)) ch.2.2.1 [] t1.2.2.1.2.2.1, Res.fam (fun g_ kvs_ => Res.map true (Ty.arr .u64 4) false Ty.bool g_ kvs_) (one_map true (Ty.arr .u64 4) false Ty.bool) ch.2.2.2.1 [] t1.2.2.1.2.2.2, Res.row Y132 132 ch.2.2.2.2.1 ch.2.2.2.2.2.1 ch.2.2.2.2.2.2.1 t1.2.2.2.2.1, Res.row Ty.bool 1 ch.2.2.2.2.2.2.2.1 ch.2.2.2.2.2.2.2.2.1 ch.2.2.2.2.2.2.2.2.2.1 t1.2.2.2.2.2.1, Res.row (Ty.arr .u8 20) 23 ch.2.2.2.2.2.2.2.2.2.2.1 ch.2.2.2.2.2.2.2.2.2.2.2.1 ch.2.2.2.2.2.2.2.2.2.2.2.2 t1.2.2.2.2.2.2]) (fun (ch : Nat × (List Nat) × (List Nat) × (List Nat) × (Option Addr) × Nat × Nat × (Option Addr) × Nat × Nat × (Option Addr) × Nat × Nat) => [Res.cells ch_0_0 85 [.rf (.iface 79 (.agg (cellsOf [.q Y76 ch_0_1 ch_0_2 x1.1]).toArray)) (IfR [.q Y76 ch_0_1 ch_0_2 x1.1]), .one (.map (some ch.1)), .i x1.2.2.1, .s ch.2.2.2.2.1 ch.2.2.2.2.2.1 ch.2.2.2.2.2.2.1, .s ch.2.2.2.2.2.2.2.1 ch.2.2.2.2.2.2.2.2.1 ch.2.2.2.2.2.2.2.2.2.1, .s ch.2.2.2.2.2.2.2.2.2.2.1 ch.2.2.2.2.2.2.2.2.2.2.2.1 ch.2.2.2.2.2.2.2.2.2.2.2.2], Res.map true (Ty.arr .u8 20) false (Ty.pid ch.2.1) ch.1 t1.2.2.1.1, Res.fam (Res.struct (YE97 ch.2.2.1 ch.2.2.2.1) 97) (one_struct _ _) ch.2.1 [] t1.2.2.1.2.1, Res.fam (fun g_ kvs_ => Res.map true (Ty.arr .u64 4) true (Ty.arr .u64 4) g_ kvs_) (one_map true (Ty.arr .u64 4) true (Ty.arr .u64 4)) ch.2.2.1 [] t1.2.2.1.2.2.1, Res.fam (fun g_ kvs_ => Res.map true (Ty.arr .u64 4) false Ty.bool g_ kvs_) (one_map true (Ty.arr .u64 4) false Ty.bool) ch.2.2.2.1 [] t1.2.2.1.2.2.2, Res.row Y132 132 ch.2.2.2.2.1 ch.2.2.2.2.2.1 ch.2.2.2.2.2.2.1 t1.2.2.2.2.1, Res.row Ty.bool 1 ch.2.2.2.2.2.2.2.1 ch.2.2.2.2.2.2.2.2.1 ch.2.2.2.2.2.2.2.2.2.1 t1.2.2.2.2.2.1, Res.row (Ty.arr .u8 20) 23 ch.2.2.2.2.2.2.2.2.2.2.1 ch.2.2.2.2.2.2.2.2.2.2.2.1 ch.2.2.2.2.2.2.2.2.2.2.2.2 t1.2.2.2.2.2.2, Res.cells g1 23 [.b20 x2]]) (fun _ => rfl) N43 rfl rfl (fun ok => ok) (.c1 (.c1 (.c1 (.c1 (.c1 (.c1 (.c1 (.c1 (.c0 .n))))))))) rfl (state_State_at.ok k ((x1.1), x1.2.1, x1.2.2.1, x1.2.2.2.1, x1.2.2.2.2.1, x1.2.2.2.2.2) x2 ch_0_0 ch_0_1 ch_0_2 ch_0_3 ch_0_4 ch_0_5 ch_0_6 ch_0_7 ch_0_8 ch_0_9 ch_0_10 ch_0_11 ch_0_12 ch_0_13 ch_0_14 ch_0_15 t1 et1 _ _) fun ch1 m le1 a w S => ?_)))))))))
 obtain ⟨c1, h2⟩ := chk_of h1; clear h1
 have hl1 := S.slotPlt (u := 9) c1 rfl
 replace S := S.slotP (u := 9) c1 rfl
 refine s_nilchk S rfl rfl fun a S => s_fieldAddr S rfl I97_1 T76 (by decide) rfl rfl fun a S => s_fieldAddr S rfl I76_3 T27 (by decide) rfl rfl fun a S => ?_
 replace S := S.famOpen (i := (t1.1.getD 0)) hl1 .h2
 have hS := S.structOpen (T := (YE97 ch1.2.2.1 ch1.2.2.2.1)) (fun _ => .h) (((), (), (), (none, 0), (none, 0)), ((), (), (), (none, 0), (none, 0)), (), (), (), (), ())
 clear S; obtain ⟨ch2, S⟩ := hS
 refine s_loadSl S rfl .h T27 (A := ch2.2.1.2.2.2.1.1) (len := (((atE t1.2.2.1.2.1 (t1.1.getD 0)).2.1).2.2.2.1).length) (cap := ch2.2.1.2.2.2.1.2) rfl rfl fun a S => ?_
 replace S := S.structClose (T := (YE97 ch1.2.2.1 ch1.2.2.2.1)) (e := atE t1.2.2.1.2.1 (t1.1.getD 0)) ((((), (), (), (ch2.1.2.2.2.1.1, ch2.1.2.2.2.1.2), (ch2.1.2.2.2.2.1, ch2.1.2.2.2.2.2)), ((), (), (), (ch2.2.1.2.2.2.1.1, ch2.2.1.2.2.2.1.2), (ch2.2.1.2.2.2.2.1, ch2.2.1.2.2.2.2.2)), (), (), (), (), ()) : ((YE97 ch1.2.2.1 ch1.2.2.2.1)).Ch) rfl .h
 replace S := S.famShut hl1 .h .h2
 refine bindX h2 fun t2 et2 h3 => s_callR S (fun (ch : (Option Addr) × Nat × Nat) => ((.s ch.1 ch.2.1 ch.2.2) : D)) (fun (ch : (Option Addr) × Nat × Nat) => Res.row yb 5 ch.1 ch.2.1 ch.2.2 t2) N37 rfl rfl (slices_Clone_byte_byte.ok (((atE t1.2.2.1.2.1 (t1.1.getD 0)).2.1).2.2.2.1) ch2.2.1.2.2.2.1.1 ch2.2.1.2.2.2.1.2 t2 et2 _ _) fun ch3 m le1 a w S => s_assign S rfl rfl fun a S => c_end (wp_ret ?_)
 obtain rfl := Option.some.inj h3
 exact b_ret1 (d := (.s ch3.1 ch3.2.1 ch3.2.2)) S rfl rfl fun ok => S.retX (Hx := []) hb _ _ ((ch3.1, ch3.2.1, ch3.2.2, ch1.1, ch1.2.1, ch1.2.2.1, ch1.2.2.2.1, ch1.2.2.2.2.1, ch1.2.2.2.2.2.1, ch1.2.2.2.2.2.2.1, ch1.2.2.2.2.2.2.2.1, ch1.2.2.2.2.2.2.2.2.1, ch1.2.2.2.2.2.2.2.2.2.1, ch1.2.2.2.2.2.2.2.2.2.2.1, ch1.2.2.2.2.2.2.2.2.2.2.2.1, ch1.2.2.2.2.2.2.2.2.2.2.2.2) : (Option Addr) × Nat × Nat × Nat × (List Nat) × (List Nat) × (List Nat) × (Option Addr) × Nat × Nat × (Option Addr) × Nat × Nat × (Option Addr) × Nat × Nat) (.c0 (.c0 (.c0 (.c0 (.c0 (.c0 (.c0 (.c0 (.c0 .n))))))))) ok
abbrev state_State_Balance.Ty : Type := (((List L76)) × ((List ((List Int) × Option Nat)) × (List L97) × (List (List ((List Int) × (List Int)))) × (List (List ((List Int) × Bool)))) × Int × (List L132) × (List Bool) × (List (List Int))) → (List Int) → Option ((List Int) × (Unit × ((List ((List Int) × Option Nat)) × (List L97) × (List (List ((List Int) × (List Int)))) × (List (List ((List Int) × Bool)))) × Unit × (List L132) × (List Bool) × (List (List Int))))
def state_State_Balance.Ctr (s : state_State_Balance.Ty) : Prop := ∀ (x1 : ((List L76)) × ((List ((List Int) × Option Nat)) × (List L97) × (List (List ((List Int) × (List Int)))) × (List (List ((List Int) × Bool)))) × Int × (List L132) × (List Bool) × (List (List Int))) (x2 : List Int) (ch_0_0 : Nat) (ch_0_1 : Option Addr) (ch_0_2 : Nat) (ch_0_3 : Nat) (ch_0_4 : List Nat) (ch_0_5 : List Nat) (ch_0_6 : List Nat) (ch_0_7 : Option Addr) (ch_0_8 : Nat) (ch_0_9 : Nat) (ch_0_10 : Option Addr) (ch_0_11 : Nat) (ch_0_12 : Nat) (ch_0_13 : Option Addr) (ch_0_14 : Nat) (ch_0_15 : Nat) (r : (List Int) × (Unit × ((List ((List Int) × Option Nat)) × (List L97) × (List (List ((List Int) × (List Int)))) × (List (List ((List Int) × Bool)))) × Unit × (List L132) × (List Bool) × (List (List Int)))), Ct (C := (Nat × (List Nat) × (List Nat) × (List Nat) × (Option Addr) × Nat × Nat × (Option Addr) × Nat × Nat × (Option Addr) × Nat × Nat)) Try.prog 24 (s x1 x2 = some r) [Res.cells ch_0_0 85 [.rf (.iface 79 (.agg (cellsOf [.q Y76 ch_0_1 ch_0_2 x1.1]).toArray)) (IfR [.q Y76 ch_0_1 ch_0_2 x1.1]), .one (.map (some ch_0_3)), .i x1.2.2.1, .s ch_0_7 ch_0_8 ch_0_9, .s ch_0_10 ch_0_11 ch_0_12, .s ch_0_13 ch_0_14 ch_0_15], Res.map true (Ty.arr .u8 20) false (Ty.pid ch_0_4) ch_0_3 x1.2.1.1, Res.fam (Res.struct (YE97 ch_0_5 ch_0_6) 97) (one_struct _ _) ch_0_4 [] x1.2.1.2.1, Res.fam (fun g_ kvs_ => Res.map true (Ty.arr .u64 4) true (Ty.arr .u64 4) g_ kvs_) (one_map true (Ty.arr .u64 4) true (Ty.arr .u64 4)) ch_0_5 [] x1.2.1.2.2.1, Res.fam (fun g_ kvs_ => Res.map true (Ty.arr .u64 4) false Ty.bool g_ kvs_) (one_map true (Ty.arr .u64 4) false Ty.bool) ch_0_6 [] x1.2.1.2.2.2, Res.row Y132 132 ch_0_7 ch_0_8 ch_0_9 x1.2.2.2.1, Res.row Ty.bool 1 ch_0_10 ch_0_11 ch_0_12 x1.2.2.2.2.1, Res.row (Ty.arr .u8 20) 23 ch_0_13 ch_0_14 ch_0_15 x1.2.2.2.2.2] [(.p ch_0_0), (.agg [.b20 x2])] (fun _ => (.a4 r.1)) fun ch => [Res.cells ch_0_0 85 [.rf (.iface 79 (.agg (cellsOf [.q Y76 ch_0_1 ch_0_2 x1.1]).toArray)) (IfR [.q Y76 ch_0_1 ch_0_2 x1.1]), .one (.map (some ch.1)), .i x1.2.2.1, .s ch.2.2.2.2.1 ch.2.2.2.2.2.1 ch.2.2.2.2.2.2.1, .s ch.2.2.2.2.2.2.2.1 ch.2.2.2.2.2.2.2.2.1 ch.2.2.2.2.2.2.2.2.2.1, .s ch.2.2.2.2.2.2.2.2.2.2.1 ch.2.2.2.2.2.2.2.2.2.2.2.1 ch.2.2.2.2.2.2.2.2.2.2.2.2], Res.map true (Ty.arr .u8 20) false (Ty.pid ch.2.1) ch.1 r.2.2.1.1, Res.fam (Res.struct (YE97 ch.2.2.1 ch.2.2.2.1) 97) (one_struct _ _) ch.2.1 [] r.2.2.1.2.1, Res.fam (fun g_ kvs_ => Res.map true (Ty.arr .u64 4) true (Ty.arr .u64 4) g_ kvs_) (one_map true (Ty.arr .u64 4) true (Ty.arr .u64 4)) ch.2.2.1 [] r.2.2.1.2.2.1, Res.fam (fun g_ kvs_ => Res.map true (Ty.arr .u64 4) false Ty.bool g_ kvs_) (one_map true (Ty.arr .u64 4) false Ty.bool) ch.2.2.2.1 [] r.2.2.1.2.2.2, Res.row Y132 132 ch.2.2.2.2.1 ch.2.2.2.2.2.1 ch.2.2.2.2.2.2.1 r.2.2.2.2.1, Res.row Ty.bool 1 ch.2.2.2.2.2.2.2.1 ch.2.2.2.2.2.2.2.2.1 ch.2.2.2.2.2.2.2.2.2.1 r.2.2.2.2.2.1, Res.row (Ty.arr .u8 20) 23 ch.2.2.2.2.2.2.2.2.2.2.1 ch.2.2.2.2.2.2.2.2.2.2.2.1 ch.2.2.2.2.2.2.2.2.2.2.2.2 r.2.2.2.2.2.2]
def state_State_Balance.f (k : Nat) (x1 : ((List L76)) × ((List ((List Int) × Option Nat)) × (List L97) × (List (List ((List Int) × (List Int)))) × (List (List ((List Int) × Bool)))) × Int × (List L132) × (List Bool) × (List (List Int))) (x2 : List Int) : Option ((List Int) × (Unit × ((List ((List Int) × Option Nat)) × (List L97) × (List (List ((List Int) × (List Int)))) × (List (List ((List Int) × Bool)))) × Unit × (List L132) × (List Bool) × (List (List Int)))) := (state_State_at.f k ((x1.1), x1.2.1, x1.2.2.1, x1.2.2.2.1, x1.2.2.2.2.1, x1.2.2.2.2.2) x2).bind fun t1 => (if t1.1.isSome = true then (some (((atE t1.2.2.1.2.1 (t1.1.getD 0)).2.1).2.2.1, ((), t1.2.2.1, (), t1.2.2.2.2.1, t1.2.2.2.2.2.1, t1.2.2.2.2.2.2))) else none)
theorem state_State_Balance.ok (k : Nat) : state_State_Balance.Ctr (state_State_Balance.f k) := by
 intro x1 x2 ch_0_0 ch_0_1 ch_0_2 ch_0_3 ch_0_4 ch_0_5 ch_0_6 ch_0_7 ch_0_8 ch_0_9 ch_0_10 ch_0_11 ch_0_12 ch_0_13 ch_0_14 ch_0_15 r h0 mi w0 ok hm
 delta state_State_Balance.f at h0
 refine c_enterZ (n := 15) ok hm func24 rfl rfl rfl fun b0 hb a S => c_region (s_box S rfl rfl rfl fun g1 a w S => s_alloc S Z26 rfl ⟨rfl, trivial⟩ rfl fun g2 a w S => c_end (wp_seq (c_region (s_move S rfl rfl fun a S => s_eqp S (b := false) rfl rfl underlying49 rfl rfl fun a S => c_end (c_condF S rfl rfl (wp_skip (x_thenN (c_region (s_move S rfl rfl fun a S => s_loada S rfl .h1 T23 (s' := [.b20 x2]) rfl rfl fun a S => bindX h0 fun t1 et1 h1 => s_callX S (ds' := [(.p ch_0_0), (.agg [.b20 x2])]) (ds := [(.p ch_0_0), (.agg [.b20 x2])]) [Res.cells ch_0_0 85 [.rf (.iface 79 (.agg (cellsOf [.q Y76 ch_0_1 ch_0_2 x1.1]).toArray)) (IfR [.q Y76 ch_0_1 ch_0_2 x1.1]), .one (.map (some ch_0_3)), .i x1.2.2.1, .s ch_0_7 ch_0_8 ch_0_9, .s ch_0_10 ch_0_11 ch_0_12, .s ch_0_13 ch_0_14 ch_0_15], Res.map true (Ty.arr .u8 20) false (Ty.pid ch_0_4) ch_0_3 x1.2.1.1, Res.fam (Res.struct (YE97 ch_0_5 ch_0_6) 97) (one_struct _ _) ch_0_4 [] x1.2.1.2.1, Res.fam (fun g_ kvs_ => Res.map true (Ty.arr .u64 4) true (Ty.arr .u64 4) g_ kvs_) (one_map true (Ty.arr .u64 4) true (Ty.arr .u64 4)) ch_0_5 [] x1.2.1.2.2.1, Res.fam (fun g_ kvs_ => Res.map true (Ty.arr .u64 4) false Ty.bool g_ kvs_) (one_map true (Ty.arr .u64 4) false Ty.bool) ch_0_6 [] x1.2.1.2.2.2, Res.row Y132 132 ch_0_7 ch_0_8 ch_0_9 x1.2.2.2.1, Res.row Ty.bool 1 ch_0_10 ch_0_11 ch_0_12 x1.2.2.2.2.1, Res.row (Ty.arr .u8 20) 23 ch_0_13 ch_0_14 ch_0_15 x1.2.2.2.2.2] [Res.cells g2 26 [.w4 [0, 0, 0, 0]], Res.cells g1 23 [.b20 x2]] (fun (ch : Nat × (List Nat) × (List Nat) × (List Nat) × (Option Addr) × Nat × Nat × (Option Addr) × Nat × Nat × (Option Addr) × Nat × Nat) => ((.rf (ptrV ch.2.1 t1.1) (ptrR ch.2.1 t1.1)) : D)) (fun (ch : Nat × (List Nat) × (List Nat) × (List Nat) × (Option Addr) × Nat × Nat × (Option Addr) × Nat × Nat × (Option Addr) × Nat × Nat) => [Res.cells ch_0_0 85 [.rf (.iface 79 (.agg (cellsOf [.q Y76 ch_0_1 ch_0_2 x1.1]).toArray)) (IfR [.q Y76 ch_0_1 ch_0_2 x1.1]), .one (.map (some ch.1)), .i x1.2.2.1, .s ch.2.2.2.2.1 ch.2.2.2.2.2.1 ch.2.2.2.2.2.2.1, .s ch.2.2.2.2.2.2.2.1 ch.2.2.2.2.2.2.2.2.1 ch.2.2.2.2.2.2.2.2.2.1, .s ch.2.2.2.2.2.2.2.2.2.2.1 ch.2.2.2.2.2.2.2.2.2.2.2.1 ch.2.2.2.2.2.2.2.2.2.2.2.2], Res.map true (Ty.arr .u8 20) false (Ty.pid ch.2.1) ch.1 t1.2.2.1.1, Res.fam (Res.struct (YE97 ch.2.2.1 ch.2.2.2.1) 97) (one_struct _ _) ch.2.1 [] t1.2.2.1.2.1, Res.fam (fun g_ kvs_ => Res.map true (Ty.arr .u64 4) true (Ty.arr .u64 4) g_ kvs_) (one_map true (Ty.arr .u64 4) true (Ty.arr .u64 4)) ch.2.2.1 [] t1.2.2.1.2.2.1, Res.fam (fun g_ kvs_ => Res.map true (Ty.arr .u64 4) false Ty.bool g_ kvs_) (one_map true (Ty.arr .u64 4) false Ty.bool) ch.2.2.2.1 [] t1.2.2.1.2.2.2, Res.row Y132 132 ch.2.2.2.2.1 ch.2.2.2.2.2.1 ch.2.2.2.2.2.2.1 t1.2.2.2.2.1, Res.row Ty.bool 1 ch.2.2.2.2.2.2.2.1 ch.2.2.2.2.2.2.2.2.1 ch.2.2.2.2.2.2.2.2.2.1 t1.2.2.2.2.2.1, Res.row (Ty.arr .u8 20) 23 ch.2.2.2.2.2.2.2.2.2.2.1 ch.2.2.2.2.2.2.2.2.2.2.2.1 ch.2.2.2.2.2.2.2.2.2.2.2.2 t1.2.2.2.2.2.2]) (fun (ch : Nat × (List Nat) × (List Nat) × (List Nat) × (Option Addr) × Nat × Nat × (Option Addr) × Nat × Nat × (Option Addr) × Nat × Nat) => [Res.cells ch_0_0 85 [.rf (.iface 79 (.agg (cellsOf [.q Y76 ch_0_1 ch_0_2 x1.1]).toArray)) (IfR [.q Y76 ch_0_1 ch_0_2 x1.1]), .one (.map (some ch.1)), .i x1.2.2.1, .s ch.2.2.2.2.1 ch.2.2.2.2.2.1 ch.2.2.2.2.2.2.1, .s ch.2.2.2.2.2.2.2.1 ch.2.2.2.2.2.2.2.2.1 ch.2.2.2.2.2.2.2.2.2.1, .s ch.2.2.2.2.2.2.2.2.2.2.1 ch.2.2.2.2.2.2.2.2.2.2.2.1 ch.2.2.2.2.2.2.2.2.2.2.2.2], Res.map true (Ty.arr .u8 20) false (Ty.pid ch.2.1) ch.1 t1.2.2.1.1, Res.fam (Res.struct (YE97 ch.2.2.1 ch.2.2.2.1) 97) (one_struct _ _) ch.2.1 [] t1.2.2.1.2.1, Res.fam (fun g_ kvs_ => Res.map true (Ty.arr .u64 4) true (Ty.arr .u64 4) g_ kvs_) (one_map true (Ty.arr .u64 4) true (Ty.arr .u64 4)) ch.2.2.1 [] t1.2.2.1.2.2.1, Res.fam (fun g_ kvs_ => Res.map true (Ty.arr .u64 4) false Ty.bool g_ kvs_) (one_map true (Ty.arr .u64 4) false Ty.bool) ch.2.2.2.1 [] t1.2.2.1.2.2.2, Res.row Y132 132 ch.2.2.2.2.1 ch.2.2.2.2.2.1 ch.2.2.2.2.2.2.1 t1.2.2.2.2.1, Res.row Ty.bool 1 ch.2.2.2.2.2.2.2.1 ch.2.2.2.2.2.2.2.2.1 ch.2.2.2.2.2.2.2.2.2.1 t1.2.2.2.2.2.1, Res.row (Ty.arr .u8 20) 23 ch.2.2.2.2.2.2.2.2.2.2.1 ch.2.2.2.2.2.2.2.2.2.2.2.1 ch.2.2.2.2.2.2.2.2.2.2.2.2 t1.2.2.2.2.2.2, Res.cells g2 26 [.w4 [0, 0, 0, 0]], Res.cells g1 23 [.b20 x2]]) (fun _ => rfl) N43 rfl rfl (fun ok => ok) (.c2 (.c2 (.c2 (.c2 (.c2 (.c2 (.c2 (.c2 (.c0 (.c0 .n)))))))))) rfl (state_State_at.ok k ((x1.1), x1.2.1, x1.2.2.1, x1.2.2.2.1, x1.2.2.2.2.1, x1.2.2.2.2.2) x2 ch_0_0 ch_0_1 ch_0_2 ch_0_3 ch_0_4 ch_0_5 ch_0_6 ch_0_7 ch_0_8 ch_0_9 ch_0_10 ch_0_11 ch_0_12 ch_0_13 ch_0_14 ch_0_15 t1 et1 _ _) fun ch1 m le1 a w S => ?_)))))))))
 obtain ⟨c1, h2⟩ := chk_of h1; clear h1
 have hl1 := S.slotPlt (u := 10) c1 rfl
 replace S := S.slotP (u := 10) c1 rfl
 refine s_nilchk S rfl rfl fun a S => s_fieldAddr S rfl I97_1 T76 (by decide) rfl rfl fun a S => s_fieldAddr S rfl I76_2 T26 (by decide) rfl rfl fun a S => ?_
 replace S := S.famOpen (i := (t1.1.getD 0)) hl1 .h2
 have hS := S.structOpen (T := (YE97 ch1.2.2.1 ch1.2.2.2.1)) (fun _ => .h) (((), (), (), (none, 0), (none, 0)), ((), (), (), (none, 0), (none, 0)), (), (), (), (), ())
 clear S; obtain ⟨ch2, S⟩ := hS
 refine s_loada S rfl .h T26 (s' := [.w4 (((atE t1.2.2.1.2.1 (t1.1.getD 0)).2.1).2.2.1)]) rfl rfl fun a S => ?_
 replace S := S.structClose (T := (YE97 ch1.2.2.1 ch1.2.2.2.1)) (e := atE t1.2.2.1.2.1 (t1.1.getD 0)) ((((), (), (), (ch2.1.2.2.2.1.1, ch2.1.2.2.2.1.2), (ch2.1.2.2.2.2.1, ch2.1.2.2.2.2.2)), ((), (), (), (ch2.2.1.2.2.2.1.1, ch2.2.1.2.2.2.1.2), (ch2.2.1.2.2.2.2.1, ch2.2.1.2.2.2.2.2)), (), (), (), (), ()) : ((YE97 ch1.2.2.1 ch1.2.2.2.1)).Ch) rfl .h
 replace S := S.famShut hl1 .h .h2
 refine s_store S rfl rfl rfl (s' := [.w4 (((atE t1.2.2.1.2.1 (t1.1.getD 0)).2.1).2.2.1)]) .h8 T26 rfl rfl fun w S => c_end (wp_ret ?_)
 obtain rfl := Option.some.inj h2
 exact b_ret1 (d := (.a4 (((atE t1.2.2.1.2.1 (t1.1.getD 0)).2.1).2.2.1))) S rfl (resD_cell rfl .h8 T26 rfl rfl) fun ok => S.retX (Hx := []) hb _ _ ((ch1.1, ch1.2.1, ch1.2.2.1, ch1.2.2.2.1, ch1.2.2.2.2.1, ch1.2.2.2.2.2.1, ch1.2.2.2.2.2.2.1, ch1.2.2.2.2.2.2.2.1, ch1.2.2.2.2.2.2.2.2.1, ch1.2.2.2.2.2.2.2.2.2.1, ch1.2.2.2.2.2.2.2.2.2.2.1, ch1.2.2.2.2.2.2.2.2.2.2.2.1, ch1.2.2.2.2.2.2.2.2.2.2.2.2) : Nat × (List Nat) × (List Nat) × (List Nat) × (Option Addr) × Nat × Nat × (Option Addr) × Nat × Nat × (Option Addr) × Nat × Nat) (.c0 (.c0 (.c0 (.c0 (.c0 (.c0 (.c0 (.c0 .n)))))))) ok
end
end GW
