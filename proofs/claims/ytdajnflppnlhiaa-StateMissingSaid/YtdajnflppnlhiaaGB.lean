import Derived.Test.YtdajnflppnlhiaaProg
import Derived.Test.YtdajnflppnlhiaaGA
set_option linter.unusedVariables false
set_option linter.unusedSimpArgs false
set_option maxRecDepth 10000
set_option maxHeartbeats 4000000
namespace GW
open Go Go.RowKit Go.Proofs
noncomputable section
abbrev state_stored.Ty : Type := W1 → (List Int) → Option ((List Int))
def state_stored.Ctr (s : state_stored.Ty) : Prop := ∀ (x1 : W1) (x2 : List Int) (ch_0_0 : Option Addr) (ch_0_1 : Nat) (ch_0_2 : Option Addr) (ch_0_3 : Nat) (r : (List Int)) (h0 : s x1 x2 = some r) (mi : Mem) (w0 : World), okL mi [(.agg (Y39.segs x1 ((), (), (), (ch_0_0, ch_0_1), (ch_0_2, ch_0_3)))), (.agg [.ints .u64 x2 4])] → Pre mi [] w0 → Calls Try.prog 50 (([(.agg (Y39.segs x1 ((), (), (), (ch_0_0, ch_0_1), (ch_0_2, ch_0_3)))), (.agg [.ints .u64 x2 4])] : List D).map D.val).toArray w0 (RetX mi [] (fun (ch : Unit) => ((.agg [.ints .u64 r 4]) : D)) (fun (ch : Unit) => []) w0)
def state_stored.f (k : Nat) (x1 : W1) (x2 : List Int) : Option ((List Int)) := (api_Word_n65_2f66.f k x1.2.2.2.2 x2).bind fun t1 => (if (!t1.2) = true then (some [0, 0, 0, 0]) else (if (0 : Int) ≤ t1.1 ∧ t1.1 < ((x1.2.2.2.2).length : Int) then (some ((gt x1.2.2.2.2 t1.1).2)) else none))
theorem state_stored.ok (k : Nat) : state_stored.Ctr (state_stored.f k) := by
 intro x1 x2 ch_0_0 ch_0_1 ch_0_2 ch_0_3 r h0 mi w0 ok hm
 delta state_stored.f at h0
 refine c_enterX (n := 23) [(.agg (Y39.segs x1 ((), (), (), (ch_0_0, ch_0_1), (ch_0_2, ch_0_3)))), (.agg [.ints .u64 x2 4])] (l := [(0, (.agg (Y39.segs x1 ((), (), (), (ch_0_0, ch_0_1), (ch_0_2, ch_0_3))))), (1, (.agg [.ints .u64 x2 4]))]) Try.func50 rfl rfl rfl rfl ok hm ?_
 clear ok hm
 intro b0 hb a S
 refine c_region ?_
 refine s_box S rfl rfl rfl ?_; clear S a; intro g1 a w S
 refine s_box S rfl rfl rfl ?_; clear S a w; intro g2 a w S
 refine s_alloc S Z35 rfl ⟨rfl, trivial⟩ rfl ?_; clear S a w; intro g3 a w S
 refine c_end ?_
 refine c_region ?_
 refine s_fieldAddr S rfl I39_4 T37 (by decide) rfl rfl ?_; clear S a; intro a S
 refine s_loadSl S rfl (.there (.there .here)) T37 (A := ch_0_2) (len := (x1.2.2.2.2).length) (cap := ch_0_3) rfl rfl ?_; clear S a; intro a S
 refine s_loada S rfl (.there .here) T35 (s' := [.ints .u64 x2 4]) rfl rfl ?_; clear S a; intro a S
 obtain ⟨t1, et1, h1⟩ := bind_of h0; clear h0
 refine s_callP S (fun (ch : Unit) => ((.tup [(false, [.one (.int .i64 t1.1)]), (false, [.one (.bool t1.2)])]) : D)) N65 rfl rfl (api_Word_n65_2f66.ok k x1.2.2.2.2 x2 ch_0_2 ch_0_3 t1 et1 _ _) ?_; clear S a w; intro ch1 m le1 a w S
 refine s_move S rfl rfl ?_; clear S a; intro a S
 refine s_extract S rfl rfl rfl rfl ?_; clear S a; intro a S
 refine s_extract S rfl rfl rfl rfl ?_; clear S a; intro a S
 refine s_assign S rfl rfl ?_; clear S a; intro a S
 refine s_assign S rfl rfl ?_; clear S a; intro a S
 refine c_end ?_
 refine wp_seq ?_
 refine c_region ?_
 refine s_move S rfl rfl ?_; clear S a; intro a S
 refine s_not S rfl rfl ?_; clear S a; intro a S
 refine c_end ?_
 rcases ite_of h1 with ⟨c1, h2⟩ | ⟨c1, h2⟩ <;> clear h1
 ·refine c_condT S rfl c1 ?_
  refine c_region ?_
  refine s_build S (ds := []) (dv := (.agg [.ints .u64 [0, 0, 0, 0] 4])) rfl (fun _ => by kernel_rfl) ⟨rfl, trivial⟩ rfl ?_; clear S a; intro a S
  refine s_store S rfl rfl rfl (s' := [.ints .u64 [0, 0, 0, 0] 4]) .here T35 rfl rfl ?_; clear S w; intro w S
  refine c_end ?_
  refine wp_ret ?_
  refine x_thenR ?_
  obtain rfl := Option.some.inj h2
  exact b_ret1 (d := (.agg [.ints .u64 [0, 0, 0, 0] 4])) S rfl (resD_cell rfl .here T35 rfl rfl) fun ok => S.retX (Hx := []) hb _ _ (() : Unit) .nil ok
 ·refine c_condF S rfl c1 ?_
  refine wp_skip ?_
  refine x_thenN ?_
  refine c_region ?_
  refine s_fieldAddr S rfl I39_4 T37 (by decide) rfl rfl ?_; clear S a; intro a S
  refine s_loadSl S rfl (.there (.there .here)) T37 (A := ch_0_2) (len := (x1.2.2.2.2).length) (cap := ch_0_3) rfl rfl ?_; clear S a; intro a S
  refine s_move S rfl rfl ?_; clear S a; intro a S
  obtain ⟨c2, h3⟩ := chk_of h2; clear h2
  refine s_iaddrS S rfl rfl rfl Try.underlying37 T82 c2.1 c2.2 rfl ?_; clear S a; intro p1 a S
  refine s_faddrP S (tF := (Ty.arr .u64 4)) (y := (gt x1.2.2.2.2 t1.1).2) rfl I82_1 T35 (by decide) (fun m h => (at_snd (at_0 h))) rfl ?_; clear S a; intro a S
  refine s_ldA S (fun (c : Unit) => [.ints .u64 ((gt x1.2.2.2.2 t1.1).2) 4]) rfl T35 (fun _ => rfl) rfl ?_; clear S a; intro ch2 a S
  refine s_store S rfl rfl rfl (s' := [.ints .u64 ((gt x1.2.2.2.2 t1.1).2) 4]) .here T35 rfl rfl ?_; clear S w; intro w S
  refine c_end ?_
  refine wp_ret ?_
  obtain rfl := Option.some.inj h3
  exact b_ret1 (d := (.agg [.ints .u64 ((gt x1.2.2.2.2 t1.1).2) 4])) S rfl (resD_cell rfl .here T35 rfl rfl) fun ok => S.retX (Hx := []) hb _ _ (() : Unit) .nil ok
abbrev state_State_First.Ty : Type := W8 → (List Int) → (List Int) → Option W18
def state_State_First.Ctr (s : state_State_First.Ty) : Prop := ∀ (x1 : W8) (x2 : List Int) (x3 : List Int) (ch_0_0 : Nat) (ch_0_1 : Option Addr) (ch_0_2 : Nat) (ch_0_3 : Nat) (ch_0_4 : List Nat) (ch_0_5 : List Nat) (ch_0_6 : List Nat) (ch_0_7 : Option Addr) (ch_0_8 : Nat) (ch_0_9 : Nat) (ch_0_10 : Option Addr) (ch_0_11 : Nat) (ch_0_12 : Nat) (ch_0_13 : Option Addr) (ch_0_14 : Nat) (ch_0_15 : Nat) (r : W18) (h0 : s x1 x2 x3 = some r) (mi : Mem) (w0 : World), okL mi [(.v (.pointer (some ⟨ch_0_0, 0, none⟩))), (.agg [.ints .u8 x2 20]), (.agg [.ints .u64 x3 4])] → Pre mi [Res.cells ch_0_0 72 [.rf (.iface 68 (.agg (cellsOf [.sl ch_0_1 (x1.1).length ch_0_2 (RdS Y39 ch_0_1 x1.1)]).toArray)) (IfR [.sl ch_0_1 (x1.1).length ch_0_2 (RdS Y39 ch_0_1 x1.1)]), .one (.map (some ch_0_3)), .one (.int .i64 x1.2.2.1), .one (.slice ch_0_7 ch_0_8 ch_0_9), .one (.slice ch_0_10 ch_0_11 ch_0_12), .one (.slice ch_0_13 ch_0_14 ch_0_15)], Res.map true (Ty.arr .u8 20) false (Ty.pid ch_0_4) ch_0_3 x1.2.1.1, Res.fam (Res.struct (YE76 ch_0_5 ch_0_6) 76) (one_struct _ _) ch_0_4 [] x1.2.1.2.1, Res.fam (fun g_ kvs_ => Res.map true (Ty.arr .u64 4) true (Ty.arr .u64 4) g_ kvs_) (one_map true (Ty.arr .u64 4) true (Ty.arr .u64 4)) ch_0_5 [] x1.2.1.2.2.1, Res.fam (fun g_ kvs_ => Res.map true (Ty.arr .u64 4) false Ty.bool g_ kvs_) (one_map true (Ty.arr .u64 4) false Ty.bool) ch_0_6 [] x1.2.1.2.2.2, Res.row Y51 51 ch_0_7 ch_0_8 ch_0_9 x1.2.2.2.1, Res.row (YC ch_0_0 ch_0_4 ch_0_5 ch_0_6) 1 ch_0_10 ch_0_11 ch_0_12 x1.2.2.2.2.1, Res.row (Ty.arr .u8 20) 31 ch_0_13 ch_0_14 ch_0_15 x1.2.2.2.2.2] w0 → Calls Try.prog 39 (([(.v (.pointer (some ⟨ch_0_0, 0, none⟩))), (.agg [.ints .u8 x2 20]), (.agg [.ints .u64 x3 4])] : List D).map D.val).toArray w0 (RetX mi [Res.cells ch_0_0 72 [.rf (.iface 68 (.agg (cellsOf [.sl ch_0_1 (x1.1).length ch_0_2 (RdS Y39 ch_0_1 x1.1)]).toArray)) (IfR [.sl ch_0_1 (x1.1).length ch_0_2 (RdS Y39 ch_0_1 x1.1)]), .one (.map (some ch_0_3)), .one (.int .i64 x1.2.2.1), .one (.slice ch_0_7 ch_0_8 ch_0_9), .one (.slice ch_0_10 ch_0_11 ch_0_12), .one (.slice ch_0_13 ch_0_14 ch_0_15)], Res.map true (Ty.arr .u8 20) false (Ty.pid ch_0_4) ch_0_3 x1.2.1.1, Res.fam (Res.struct (YE76 ch_0_5 ch_0_6) 76) (one_struct _ _) ch_0_4 [] x1.2.1.2.1, Res.fam (fun g_ kvs_ => Res.map true (Ty.arr .u64 4) true (Ty.arr .u64 4) g_ kvs_) (one_map true (Ty.arr .u64 4) true (Ty.arr .u64 4)) ch_0_5 [] x1.2.1.2.2.1, Res.fam (fun g_ kvs_ => Res.map true (Ty.arr .u64 4) false Ty.bool g_ kvs_) (one_map true (Ty.arr .u64 4) false Ty.bool) ch_0_6 [] x1.2.1.2.2.2, Res.row Y51 51 ch_0_7 ch_0_8 ch_0_9 x1.2.2.2.1, Res.row (YC ch_0_0 ch_0_4 ch_0_5 ch_0_6) 1 ch_0_10 ch_0_11 ch_0_12 x1.2.2.2.2.1, Res.row (Ty.arr .u8 20) 31 ch_0_13 ch_0_14 ch_0_15 x1.2.2.2.2.2] (fun (ch : W7) => ((.agg [.ints .u64 r.1 4]) : D)) (fun (ch : W7) => [Res.cells ch_0_0 72 [.rf (.iface 68 (.agg (cellsOf [.sl ch_0_1 (x1.1).length ch_0_2 (RdS Y39 ch_0_1 x1.1)]).toArray)) (IfR [.sl ch_0_1 (x1.1).length ch_0_2 (RdS Y39 ch_0_1 x1.1)]), .one (.map (some ch.1)), .one (.int .i64 x1.2.2.1), .one (.slice ch.2.2.2.2.1 ch.2.2.2.2.2.1 ch.2.2.2.2.2.2.1), .one (.slice ch.2.2.2.2.2.2.2.1 ch.2.2.2.2.2.2.2.2.1 ch.2.2.2.2.2.2.2.2.2.1), .one (.slice ch.2.2.2.2.2.2.2.2.2.2.1 ch.2.2.2.2.2.2.2.2.2.2.2.1 ch.2.2.2.2.2.2.2.2.2.2.2.2)], Res.map true (Ty.arr .u8 20) false (Ty.pid ch.2.1) ch.1 r.2.2.1.1, Res.fam (Res.struct (YE76 ch.2.2.1 ch.2.2.2.1) 76) (one_struct _ _) ch.2.1 [] r.2.2.1.2.1, Res.fam (fun g_ kvs_ => Res.map true (Ty.arr .u64 4) true (Ty.arr .u64 4) g_ kvs_) (one_map true (Ty.arr .u64 4) true (Ty.arr .u64 4)) ch.2.2.1 [] r.2.2.1.2.2.1, Res.fam (fun g_ kvs_ => Res.map true (Ty.arr .u64 4) false Ty.bool g_ kvs_) (one_map true (Ty.arr .u64 4) false Ty.bool) ch.2.2.2.1 [] r.2.2.1.2.2.2, Res.row Y51 51 ch.2.2.2.2.1 ch.2.2.2.2.2.1 ch.2.2.2.2.2.2.1 r.2.2.2.2.1, Res.row (YC ch_0_0 ch.2.1 ch.2.2.1 ch.2.2.2.1) 1 ch.2.2.2.2.2.2.2.1 ch.2.2.2.2.2.2.2.2.1 ch.2.2.2.2.2.2.2.2.2.1 r.2.2.2.2.2.1, Res.row (Ty.arr .u8 20) 31 ch.2.2.2.2.2.2.2.2.2.2.1 ch.2.2.2.2.2.2.2.2.2.2.2.1 ch.2.2.2.2.2.2.2.2.2.2.2.2 r.2.2.2.2.2.2]) w0)
def state_State_First.f (k : Nat) (x1 : W8) (x2 : List Int) (x3 : List Int) : Option W18 := (state_State_at.f k ((x1.1), x1.2.1, x1.2.2.1, x1.2.2.2.1, x1.2.2.2.2.1, x1.2.2.2.2.2) x2).bind fun t1 => (if t1.1.isSome = true then (if ((atE t1.2.2.1.2.1 (t1.1.getD 0)).2.2.1) = true then (some ([0, 0, 0, 0], ((), t1.2.2.1, (), t1.2.2.2.2.1, t1.2.2.2.2.2.1, t1.2.2.2.2.2.2))) else ((state_stored.f k ((atE t1.2.2.1.2.1 (t1.1.getD 0)).1) x3).bind fun t2 => (some (t2, ((), t1.2.2.1, (), t1.2.2.2.2.1, t1.2.2.2.2.2.1, t1.2.2.2.2.2.2))))) else none)
theorem state_State_First.ok (k : Nat) : state_State_First.Ctr (state_State_First.f k) := by
 intro x1 x2 x3 ch_0_0 ch_0_1 ch_0_2 ch_0_3 ch_0_4 ch_0_5 ch_0_6 ch_0_7 ch_0_8 ch_0_9 ch_0_10 ch_0_11 ch_0_12 ch_0_13 ch_0_14 ch_0_15 r h0 mi w0 ok hm
 delta state_State_First.f at h0
 refine c_enterX (n := 25) [(.v (.pointer (some ⟨ch_0_0, 0, none⟩))), (.agg [.ints .u8 x2 20]), (.agg [.ints .u64 x3 4])] (l := [(0, (.v (.pointer (some ⟨ch_0_0, 0, none⟩)))), (1, (.agg [.ints .u8 x2 20])), (2, (.agg [.ints .u64 x3 4]))]) Try.func39 rfl rfl rfl rfl ok hm ?_
 clear ok hm
 intro b0 hb a S
 refine c_region ?_
 refine s_box S rfl rfl rfl ?_; clear S a; intro g1 a w S
 refine s_box S rfl rfl rfl ?_; clear S a w; intro g2 a w S
 refine s_alloc S Z35 rfl ⟨rfl, trivial⟩ rfl ?_; clear S a w; intro g3 a w S
 refine c_end ?_
 refine wp_seq ?_
 refine c_region ?_
 refine s_move S rfl rfl ?_; clear S a; intro a S
 refine s_eqp S (b := false) rfl rfl Try.underlying26 rfl rfl ?_; clear S a; intro a S
 refine c_end ?_
 refine c_condF S rfl rfl ?_
 refine wp_skip ?_
 refine x_thenN ?_
 refine c_region ?_
 refine s_move S rfl rfl ?_; clear S a; intro a S
 refine s_loada S rfl (.there (.there .here)) T31 (s' := [.ints .u8 x2 20]) rfl rfl ?_; clear S a; intro a S
 obtain ⟨t1, et1, h1⟩ := bind_of h0; clear h0
 refine s_callX S (ds' := [(.v (.pointer (some ⟨ch_0_0, 0, none⟩))), (.agg [.ints .u8 x2 20])]) (ds := [(.v (.pointer (some ⟨ch_0_0, 0, none⟩))), (.agg [.ints .u8 x2 20])]) [Res.cells ch_0_0 72 [.rf (.iface 68 (.agg (cellsOf [.sl ch_0_1 (x1.1).length ch_0_2 (RdS Y39 ch_0_1 x1.1)]).toArray)) (IfR [.sl ch_0_1 (x1.1).length ch_0_2 (RdS Y39 ch_0_1 x1.1)]), .one (.map (some ch_0_3)), .one (.int .i64 x1.2.2.1), .one (.slice ch_0_7 ch_0_8 ch_0_9), .one (.slice ch_0_10 ch_0_11 ch_0_12), .one (.slice ch_0_13 ch_0_14 ch_0_15)], Res.map true (Ty.arr .u8 20) false (Ty.pid ch_0_4) ch_0_3 x1.2.1.1, Res.fam (Res.struct (YE76 ch_0_5 ch_0_6) 76) (one_struct _ _) ch_0_4 [] x1.2.1.2.1, Res.fam (fun g_ kvs_ => Res.map true (Ty.arr .u64 4) true (Ty.arr .u64 4) g_ kvs_) (one_map true (Ty.arr .u64 4) true (Ty.arr .u64 4)) ch_0_5 [] x1.2.1.2.2.1, Res.fam (fun g_ kvs_ => Res.map true (Ty.arr .u64 4) false Ty.bool g_ kvs_) (one_map true (Ty.arr .u64 4) false Ty.bool) ch_0_6 [] x1.2.1.2.2.2, Res.row Y51 51 ch_0_7 ch_0_8 ch_0_9 x1.2.2.2.1, Res.row (YC ch_0_0 ch_0_4 ch_0_5 ch_0_6) 1 ch_0_10 ch_0_11 ch_0_12 x1.2.2.2.2.1, Res.row (Ty.arr .u8 20) 31 ch_0_13 ch_0_14 ch_0_15 x1.2.2.2.2.2] [Res.cells g3 35 [.ints .u64 [0, 0, 0, 0] 4], Res.cells g2 35 [.ints .u64 x3 4], Res.cells g1 31 [.ints .u8 x2 20]] (fun (ch : W7) => ((.rf (ptrV ch.2.1 t1.1) (ptrR ch.2.1 t1.1)) : D)) (fun (ch : W7) => [Res.cells ch_0_0 72 [.rf (.iface 68 (.agg (cellsOf [.sl ch_0_1 (x1.1).length ch_0_2 (RdS Y39 ch_0_1 x1.1)]).toArray)) (IfR [.sl ch_0_1 (x1.1).length ch_0_2 (RdS Y39 ch_0_1 x1.1)]), .one (.map (some ch.1)), .one (.int .i64 x1.2.2.1), .one (.slice ch.2.2.2.2.1 ch.2.2.2.2.2.1 ch.2.2.2.2.2.2.1), .one (.slice ch.2.2.2.2.2.2.2.1 ch.2.2.2.2.2.2.2.2.1 ch.2.2.2.2.2.2.2.2.2.1), .one (.slice ch.2.2.2.2.2.2.2.2.2.2.1 ch.2.2.2.2.2.2.2.2.2.2.2.1 ch.2.2.2.2.2.2.2.2.2.2.2.2)], Res.map true (Ty.arr .u8 20) false (Ty.pid ch.2.1) ch.1 t1.2.2.1.1, Res.fam (Res.struct (YE76 ch.2.2.1 ch.2.2.2.1) 76) (one_struct _ _) ch.2.1 [] t1.2.2.1.2.1, Res.fam (fun g_ kvs_ => Res.map true (Ty.arr .u64 4) true (Ty.arr .u64 4) g_ kvs_) (one_map true (Ty.arr .u64 4) true (Ty.arr .u64 4)) ch.2.2.1 [] t1.2.2.1.2.2.1, Res.fam (fun g_ kvs_ => Res.map true (Ty.arr .u64 4) false Ty.bool g_ kvs_) (one_map true (Ty.arr .u64 4) false Ty.bool) ch.2.2.2.1 [] t1.2.2.1.2.2.2, Res.row Y51 51 ch.2.2.2.2.1 ch.2.2.2.2.2.1 ch.2.2.2.2.2.2.1 t1.2.2.2.2.1, Res.row (YC ch_0_0 ch.2.1 ch.2.2.1 ch.2.2.2.1) 1 ch.2.2.2.2.2.2.2.1 ch.2.2.2.2.2.2.2.2.1 ch.2.2.2.2.2.2.2.2.2.1 t1.2.2.2.2.2.1, Res.row (Ty.arr .u8 20) 31 ch.2.2.2.2.2.2.2.2.2.2.1 ch.2.2.2.2.2.2.2.2.2.2.2.1 ch.2.2.2.2.2.2.2.2.2.2.2.2 t1.2.2.2.2.2.2]) (fun (ch : W7) => [Res.cells ch_0_0 72 [.rf (.iface 68 (.agg (cellsOf [.sl ch_0_1 (x1.1).length ch_0_2 (RdS Y39 ch_0_1 x1.1)]).toArray)) (IfR [.sl ch_0_1 (x1.1).length ch_0_2 (RdS Y39 ch_0_1 x1.1)]), .one (.map (some ch.1)), .one (.int .i64 x1.2.2.1), .one (.slice ch.2.2.2.2.1 ch.2.2.2.2.2.1 ch.2.2.2.2.2.2.1), .one (.slice ch.2.2.2.2.2.2.2.1 ch.2.2.2.2.2.2.2.2.1 ch.2.2.2.2.2.2.2.2.2.1), .one (.slice ch.2.2.2.2.2.2.2.2.2.2.1 ch.2.2.2.2.2.2.2.2.2.2.2.1 ch.2.2.2.2.2.2.2.2.2.2.2.2)], Res.map true (Ty.arr .u8 20) false (Ty.pid ch.2.1) ch.1 t1.2.2.1.1, Res.fam (Res.struct (YE76 ch.2.2.1 ch.2.2.2.1) 76) (one_struct _ _) ch.2.1 [] t1.2.2.1.2.1, Res.fam (fun g_ kvs_ => Res.map true (Ty.arr .u64 4) true (Ty.arr .u64 4) g_ kvs_) (one_map true (Ty.arr .u64 4) true (Ty.arr .u64 4)) ch.2.2.1 [] t1.2.2.1.2.2.1, Res.fam (fun g_ kvs_ => Res.map true (Ty.arr .u64 4) false Ty.bool g_ kvs_) (one_map true (Ty.arr .u64 4) false Ty.bool) ch.2.2.2.1 [] t1.2.2.1.2.2.2, Res.row Y51 51 ch.2.2.2.2.1 ch.2.2.2.2.2.1 ch.2.2.2.2.2.2.1 t1.2.2.2.2.1, Res.row (YC ch_0_0 ch.2.1 ch.2.2.1 ch.2.2.2.1) 1 ch.2.2.2.2.2.2.2.1 ch.2.2.2.2.2.2.2.2.1 ch.2.2.2.2.2.2.2.2.2.1 t1.2.2.2.2.2.1, Res.row (Ty.arr .u8 20) 31 ch.2.2.2.2.2.2.2.2.2.2.1 ch.2.2.2.2.2.2.2.2.2.2.2.1 ch.2.2.2.2.2.2.2.2.2.2.2.2 t1.2.2.2.2.2.2, Res.cells g3 35 [.ints .u64 [0, 0, 0, 0] 4], Res.cells g2 35 [.ints .u64 x3 4], Res.cells g1 31 [.ints .u8 x2 20]]) (fun _ => rfl) N26 rfl rfl (fun ok => ok) (.cons (.there (.there (.there .here))) (.cons (.there (.there (.there .here))) (.cons (.there (.there (.there .here))) (.cons (.there (.there (.there .here))) (.cons (.there (.there (.there .here))) (.cons (.there (.there (.there .here))) (.cons (.there (.there (.there .here))) (.cons (.there (.there (.there .here))) (.cons .here (.cons .here (.cons .here .nil))))))))))) rfl (state_State_at.ok k ((x1.1), x1.2.1, x1.2.2.1, x1.2.2.2.1, x1.2.2.2.2.1, x1.2.2.2.2.2) x2 ch_0_0 ch_0_1 ch_0_2 ch_0_3 ch_0_4 ch_0_5 ch_0_6 ch_0_7 ch_0_8 ch_0_9 ch_0_10 ch_0_11 ch_0_12 ch_0_13 ch_0_14 ch_0_15 t1 et1 _ _) ?_; clear S a w; intro ch1 m le1 a w S
 refine s_assign S rfl rfl ?_; clear S a; intro a S
 refine c_end ?_
 refine wp_seq ?_
 refine c_region ?_
 refine s_move S rfl rfl ?_; clear S a; intro a S
 obtain ⟨c1, h2⟩ := chk_of h1; clear h1
 have hl1 := S.slotPlt (u := 14) c1 rfl
 replace S := S.slotP (u := 14) c1 rfl
 refine s_nilchk S rfl rfl ?_; clear S a; intro a S
 refine s_fieldAddr S rfl I76_2 T4 (by decide) rfl rfl ?_; clear S a; intro a S
 replace S := S.famOpen (i := (t1.1.getD 0)) hl1 (.there (.there .here))
 have hS := S.structOpen (T := (YE76 ch1.2.2.1 ch1.2.2.2.1)) (fun _ => .here) (((), (), (), (none, 0), (none, 0)), ((), (), (), (none, 0), (none, 0)), (), (), (), (), ())
 clear S; obtain ⟨ch2, S⟩ := hS
 refine s_load1 S rfl .here T4 (v := (.bool ((atE t1.2.2.1.2.1 (t1.1.getD 0)).2.2.1))) rfl rfl ?_; clear S a; intro a S
 replace S := S.structClose (T := (YE76 ch1.2.2.1 ch1.2.2.2.1)) (e := atE t1.2.2.1.2.1 (t1.1.getD 0)) ((((), (), (), (ch2.1.2.2.2.1.1, ch2.1.2.2.2.1.2), (ch2.1.2.2.2.2.1, ch2.1.2.2.2.2.2)), ((), (), (), (ch2.2.1.2.2.2.1.1, ch2.2.1.2.2.2.1.2), (ch2.2.1.2.2.2.2.1, ch2.2.1.2.2.2.2.2)), (), (), (), (), ()) : ((YE76 ch1.2.2.1 ch1.2.2.2.1)).Ch) rfl .here
 replace S := S.famShut hl1 .here (.there (.there .here))
 refine c_end ?_
 rcases ite_of h2 with ⟨c2, h3⟩ | ⟨c2, h3⟩ <;> clear h2
 ·refine c_condT S rfl c2 ?_
  refine c_region ?_
  refine s_build S (ds := []) (dv := (.agg [.ints .u64 [0, 0, 0, 0] 4])) rfl (fun _ => by kernel_rfl) ⟨rfl, trivial⟩ rfl ?_; clear S a; intro a S
  refine s_store S rfl rfl rfl (s' := [.ints .u64 [0, 0, 0, 0] 4]) (.there (.there (.there (.there (.there (.there (.there (.there .here)))))))) T35 rfl rfl ?_; clear S w; intro w S
  refine c_end ?_
  refine wp_ret ?_
  refine x_thenR ?_
  obtain rfl := Option.some.inj h3
  exact b_ret1 (d := (.agg [.ints .u64 [0, 0, 0, 0] 4])) S rfl (resD_cell rfl (.there (.there (.there (.there (.there (.there (.there (.there .here)))))))) T35 rfl rfl) fun ok => S.retX (Hx := []) hb _ _ ((ch1.1, ch1.2.1, ch1.2.2.1, ch1.2.2.2.1, ch1.2.2.2.2.1, ch1.2.2.2.2.2.1, ch1.2.2.2.2.2.2.1, ch1.2.2.2.2.2.2.2.1, ch1.2.2.2.2.2.2.2.2.1, ch1.2.2.2.2.2.2.2.2.2.1, ch1.2.2.2.2.2.2.2.2.2.2.1, ch1.2.2.2.2.2.2.2.2.2.2.2.1, ch1.2.2.2.2.2.2.2.2.2.2.2.2) : W7) (.cons .here (.cons .here (.cons .here (.cons .here (.cons .here (.cons .here (.cons .here (.cons .here .nil)))))))) ok
 ·refine c_condF S rfl c2 ?_
  refine wp_skip ?_
  refine x_thenN ?_
  refine wp_seq (c_heldS S (.take 0 (.take 4 (.alts (.run 1 true (.take 2 (.alts (.run 3 true (.alts (.run 5 true (.alts (.run 6 false .done .nil)) .nil)) .nil))) .nil)))) 6 [Res.cells ch_0_0 72 [.rf (.iface 68 (.agg (cellsOf [.sl ch_0_1 (x1.1).length ch_0_2 (RdS Y39 ch_0_1 x1.1)]).toArray)) (IfR [.sl ch_0_1 (x1.1).length ch_0_2 (RdS Y39 ch_0_1 x1.1)]), .one (.map (some ch1.1)), .one (.int .i64 x1.2.2.1), .one (.slice ch1.2.2.2.2.1 ch1.2.2.2.2.2.1 ch1.2.2.2.2.2.2.1), .one (.slice ch1.2.2.2.2.2.2.2.1 ch1.2.2.2.2.2.2.2.2.1 ch1.2.2.2.2.2.2.2.2.2.1), .one (.slice ch1.2.2.2.2.2.2.2.2.2.2.1 ch1.2.2.2.2.2.2.2.2.2.2.2.1 ch1.2.2.2.2.2.2.2.2.2.2.2.2)], Res.row (Ty.arr .u8 20) 31 ch1.2.2.2.2.2.2.2.2.2.2.1 ch1.2.2.2.2.2.2.2.2.2.2.2.1 ch1.2.2.2.2.2.2.2.2.2.2.2.2 t1.2.2.2.2.2.2, Res.cells g3 35 [.ints .u64 [0, 0, 0, 0] 4], Res.cells g2 35 [.ints .u64 x3 4], Res.cells g1 31 [.ints .u8 x2 20]] (.cons .here (.cons (.there (.there (.there (.there (.there (.there .here)))))) (.cons (.there (.there (.there (.there (.there (.there .here)))))) (.cons (.there (.there (.there (.there (.there (.there .here)))))) (.cons (.there (.there (.there (.there (.there (.there .here)))))) .nil))))) ⟨Res.stay_cells, Res.stay_row flat_arr, Res.stay_cells, Res.stay_cells, Res.stay_cells, trivial⟩ [(7, (.rf (ptrV ch1.2.1 t1.1) (ptrR ch1.2.1 t1.1))), (5, (.v (.pointer (some ⟨g2, 0, none⟩))))] (subR rfl) (by kernel_rfl) (by kernel_rfl) ?_); clear S; intro w S CL hw le
  refine h_move S CL hw le (subR rfl) rfl rfl rfl trivial ?_; clear S CL a; intro a S CL
  refine h_loada S CL hw le (subR rfl) rfl (.there (.there (.there .here))) T35 (s' := [.ints .u64 x3 4]) rfl rfl rfl trivial ?_; clear S CL a; intro a S CL
  refine h_run' S rfl trivial ?_
  have hl1 := S.slotPlt (u := 19) c1 rfl
  replace S := S.slotP (u := 19) c1 rfl
  replace CL := CL.drop (lq' := [(23, (.agg [.ints .u64 x3 4])), (7, (.rf (ptrV ch1.2.1 t1.1) (ptrR ch1.2.1 t1.1))), (5, (.v (.pointer (some ⟨g2, 0, none⟩))))]) (subR rfl)
  refine s_nilchk S rfl rfl ?_; clear S a; intro a S
  replace hw := CL.again hw S (.cons .here (.cons (.there (.there (.there (.there (.there (.there .here)))))) (.cons (.there (.there (.there (.there (.there (.there .here)))))) (.cons (.there (.there (.there (.there (.there (.there .here)))))) (.cons (.there (.there (.there (.there (.there (.there .here)))))) .nil))))) le
  refine h_back ⟨fun _ => hw, ?_⟩
  replace CL := CL.add (t := 20) (d := (.v (.pointer (some ⟨(bAt ch1.2.1 (t1.1.getD 0)), 0, none⟩)))) S rfl rfl
  refine h_fieldAddr S CL hw le (subR rfl) rfl I76_0 T39 (by decide) rfl rfl rfl trivial ?_; clear S CL a; intro a S CL
  refine h_run' S rfl trivial ?_
  replace S := S.famOpen (i := (t1.1.getD 0)) hl1 (.there (.there .here))
  have hS := S.structOpen (T := (YE76 ch1.2.2.1 ch1.2.2.2.1)) (fun _ => .here) (((), (), (), (none, 0), (none, 0)), ((), (), (), (none, 0), (none, 0)), (), (), (), (), ())
  clear S; obtain ⟨ch3, S⟩ := hS
  refine s_loada S rfl .here T39 (s' := (Y39.segs ((atE t1.2.2.1.2.1 (t1.1.getD 0)).1) ch3.1)) rfl rfl ?_; clear S a; intro a S
  replace S := S.structClose (T := (YE76 ch1.2.2.1 ch1.2.2.2.1)) (e := atE t1.2.2.1.2.1 (t1.1.getD 0)) ((((), (), (), (ch3.1.2.2.2.1.1, ch3.1.2.2.2.1.2), (ch3.1.2.2.2.2.1, ch3.1.2.2.2.2.2)), ((), (), (), (ch3.2.1.2.2.2.1.1, ch3.2.1.2.2.2.1.2), (ch3.2.1.2.2.2.2.1, ch3.2.1.2.2.2.2.2)), (), (), (), (), ()) : ((YE76 ch1.2.2.1 ch1.2.2.2.1)).Ch) rfl .here
  replace S := S.famShut hl1 .here (.there (.there .here))
  replace hw := CL.again hw S (.cons .here (.cons (.there (.there (.there (.there (.there (.there .here)))))) (.cons (.there (.there (.there (.there (.there (.there .here)))))) (.cons (.there (.there (.there (.there (.there (.there .here)))))) (.cons (.there (.there (.there (.there (.there (.there .here)))))) .nil))))) le
  refine h_back ⟨fun _ => hw, ?_⟩
  refine h_run' S rfl trivial ?_
  obtain ⟨t2, et2, h4⟩ := bind_of h3; clear h3
  refine s_callP S (fun (ch : Unit) => ((.agg [.ints .u64 t2 4]) : D)) N50 rfl rfl (state_stored.ok k ((atE t1.2.2.1.2.1 (t1.1.getD 0)).1) x3 ch3.1.2.2.2.1.1 ch3.1.2.2.2.1.2 ch3.1.2.2.2.2.1 ch3.1.2.2.2.2.2 t2 et2 _ _) ?_; clear S a; intro ch4 m le1 a w S
  replace le := le.trans le1
  replace hw := CL.again hw S (.cons .here (.cons (.there (.there (.there (.there (.there (.there .here)))))) (.cons (.there (.there (.there (.there (.there (.there .here)))))) (.cons (.there (.there (.there (.there (.there (.there .here)))))) (.cons (.there (.there (.there (.there (.there (.there .here)))))) .nil))))) le
  refine h_back ⟨fun _ => hw, ?_⟩
  refine h_run' S rfl trivial ?_
  refine s_store S rfl rfl rfl (s' := [.ints .u64 t2 4]) (.there (.there (.there (.there (.there (.there (.there (.there .here)))))))) T35 rfl rfl ?_; clear S; intro w S
  refine h_back ⟨fun h => (nomatch h), ?_⟩
  refine h_done ?_; clear CL hw le
  refine x_thenN ?_
  refine wp_ret ?_
  obtain rfl := Option.some.inj h4
  exact b_ret1 (d := (.agg [.ints .u64 t2 4])) S rfl (resD_cell rfl (.there (.there (.there (.there (.there (.there (.there (.there .here)))))))) T35 rfl rfl) fun ok => S.retX (Hx := []) hb _ _ ((ch1.1, ch1.2.1, ch1.2.2.1, ch1.2.2.2.1, ch1.2.2.2.2.1, ch1.2.2.2.2.2.1, ch1.2.2.2.2.2.2.1, ch1.2.2.2.2.2.2.2.1, ch1.2.2.2.2.2.2.2.2.1, ch1.2.2.2.2.2.2.2.2.2.1, ch1.2.2.2.2.2.2.2.2.2.2.1, ch1.2.2.2.2.2.2.2.2.2.2.2.1, ch1.2.2.2.2.2.2.2.2.2.2.2.2) : W7) (.cons .here (.cons .here (.cons .here (.cons .here (.cons .here (.cons .here (.cons .here (.cons .here .nil)))))))) ok
abbrev state_State_Load.Ty : Type := W8 → (List Int) → (List Int) → Option W18
def state_State_Load.Ctr (s : state_State_Load.Ty) : Prop := ∀ (x1 : W8) (x2 : List Int) (x3 : List Int) (ch_0_0 : Nat) (ch_0_1 : Option Addr) (ch_0_2 : Nat) (ch_0_3 : Nat) (ch_0_4 : List Nat) (ch_0_5 : List Nat) (ch_0_6 : List Nat) (ch_0_7 : Option Addr) (ch_0_8 : Nat) (ch_0_9 : Nat) (ch_0_10 : Option Addr) (ch_0_11 : Nat) (ch_0_12 : Nat) (ch_0_13 : Option Addr) (ch_0_14 : Nat) (ch_0_15 : Nat) (r : W18) (h0 : s x1 x2 x3 = some r) (mi : Mem) (w0 : World), okL mi [(.v (.pointer (some ⟨ch_0_0, 0, none⟩))), (.agg [.ints .u8 x2 20]), (.agg [.ints .u64 x3 4])] → Pre mi [Res.cells ch_0_0 72 [.rf (.iface 68 (.agg (cellsOf [.sl ch_0_1 (x1.1).length ch_0_2 (RdS Y39 ch_0_1 x1.1)]).toArray)) (IfR [.sl ch_0_1 (x1.1).length ch_0_2 (RdS Y39 ch_0_1 x1.1)]), .one (.map (some ch_0_3)), .one (.int .i64 x1.2.2.1), .one (.slice ch_0_7 ch_0_8 ch_0_9), .one (.slice ch_0_10 ch_0_11 ch_0_12), .one (.slice ch_0_13 ch_0_14 ch_0_15)], Res.map true (Ty.arr .u8 20) false (Ty.pid ch_0_4) ch_0_3 x1.2.1.1, Res.fam (Res.struct (YE76 ch_0_5 ch_0_6) 76) (one_struct _ _) ch_0_4 [] x1.2.1.2.1, Res.fam (fun g_ kvs_ => Res.map true (Ty.arr .u64 4) true (Ty.arr .u64 4) g_ kvs_) (one_map true (Ty.arr .u64 4) true (Ty.arr .u64 4)) ch_0_5 [] x1.2.1.2.2.1, Res.fam (fun g_ kvs_ => Res.map true (Ty.arr .u64 4) false Ty.bool g_ kvs_) (one_map true (Ty.arr .u64 4) false Ty.bool) ch_0_6 [] x1.2.1.2.2.2, Res.row Y51 51 ch_0_7 ch_0_8 ch_0_9 x1.2.2.2.1, Res.row (YC ch_0_0 ch_0_4 ch_0_5 ch_0_6) 1 ch_0_10 ch_0_11 ch_0_12 x1.2.2.2.2.1, Res.row (Ty.arr .u8 20) 31 ch_0_13 ch_0_14 ch_0_15 x1.2.2.2.2.2] w0 → Calls Try.prog 20 (([(.v (.pointer (some ⟨ch_0_0, 0, none⟩))), (.agg [.ints .u8 x2 20]), (.agg [.ints .u64 x3 4])] : List D).map D.val).toArray w0 (RetX mi [Res.cells ch_0_0 72 [.rf (.iface 68 (.agg (cellsOf [.sl ch_0_1 (x1.1).length ch_0_2 (RdS Y39 ch_0_1 x1.1)]).toArray)) (IfR [.sl ch_0_1 (x1.1).length ch_0_2 (RdS Y39 ch_0_1 x1.1)]), .one (.map (some ch_0_3)), .one (.int .i64 x1.2.2.1), .one (.slice ch_0_7 ch_0_8 ch_0_9), .one (.slice ch_0_10 ch_0_11 ch_0_12), .one (.slice ch_0_13 ch_0_14 ch_0_15)], Res.map true (Ty.arr .u8 20) false (Ty.pid ch_0_4) ch_0_3 x1.2.1.1, Res.fam (Res.struct (YE76 ch_0_5 ch_0_6) 76) (one_struct _ _) ch_0_4 [] x1.2.1.2.1, Res.fam (fun g_ kvs_ => Res.map true (Ty.arr .u64 4) true (Ty.arr .u64 4) g_ kvs_) (one_map true (Ty.arr .u64 4) true (Ty.arr .u64 4)) ch_0_5 [] x1.2.1.2.2.1, Res.fam (fun g_ kvs_ => Res.map true (Ty.arr .u64 4) false Ty.bool g_ kvs_) (one_map true (Ty.arr .u64 4) false Ty.bool) ch_0_6 [] x1.2.1.2.2.2, Res.row Y51 51 ch_0_7 ch_0_8 ch_0_9 x1.2.2.2.1, Res.row (YC ch_0_0 ch_0_4 ch_0_5 ch_0_6) 1 ch_0_10 ch_0_11 ch_0_12 x1.2.2.2.2.1, Res.row (Ty.arr .u8 20) 31 ch_0_13 ch_0_14 ch_0_15 x1.2.2.2.2.2] (fun (ch : W7) => ((.agg [.ints .u64 r.1 4]) : D)) (fun (ch : W7) => [Res.cells ch_0_0 72 [.rf (.iface 68 (.agg (cellsOf [.sl ch_0_1 (x1.1).length ch_0_2 (RdS Y39 ch_0_1 x1.1)]).toArray)) (IfR [.sl ch_0_1 (x1.1).length ch_0_2 (RdS Y39 ch_0_1 x1.1)]), .one (.map (some ch.1)), .one (.int .i64 x1.2.2.1), .one (.slice ch.2.2.2.2.1 ch.2.2.2.2.2.1 ch.2.2.2.2.2.2.1), .one (.slice ch.2.2.2.2.2.2.2.1 ch.2.2.2.2.2.2.2.2.1 ch.2.2.2.2.2.2.2.2.2.1), .one (.slice ch.2.2.2.2.2.2.2.2.2.2.1 ch.2.2.2.2.2.2.2.2.2.2.2.1 ch.2.2.2.2.2.2.2.2.2.2.2.2)], Res.map true (Ty.arr .u8 20) false (Ty.pid ch.2.1) ch.1 r.2.2.1.1, Res.fam (Res.struct (YE76 ch.2.2.1 ch.2.2.2.1) 76) (one_struct _ _) ch.2.1 [] r.2.2.1.2.1, Res.fam (fun g_ kvs_ => Res.map true (Ty.arr .u64 4) true (Ty.arr .u64 4) g_ kvs_) (one_map true (Ty.arr .u64 4) true (Ty.arr .u64 4)) ch.2.2.1 [] r.2.2.1.2.2.1, Res.fam (fun g_ kvs_ => Res.map true (Ty.arr .u64 4) false Ty.bool g_ kvs_) (one_map true (Ty.arr .u64 4) false Ty.bool) ch.2.2.2.1 [] r.2.2.1.2.2.2, Res.row Y51 51 ch.2.2.2.2.1 ch.2.2.2.2.2.1 ch.2.2.2.2.2.2.1 r.2.2.2.2.1, Res.row (YC ch_0_0 ch.2.1 ch.2.2.1 ch.2.2.2.1) 1 ch.2.2.2.2.2.2.2.1 ch.2.2.2.2.2.2.2.2.1 ch.2.2.2.2.2.2.2.2.2.1 r.2.2.2.2.2.1, Res.row (Ty.arr .u8 20) 31 ch.2.2.2.2.2.2.2.2.2.2.1 ch.2.2.2.2.2.2.2.2.2.2.2.1 ch.2.2.2.2.2.2.2.2.2.2.2.2 r.2.2.2.2.2.2]) w0)
def state_State_Load.j1 (k : Nat) (x1 : W8) (x2 : List Int) (x3 : List Int) (y1 : Bool) (y2 : W15) (y3 : List L76) (y4 : W16) (y5 : W17) (y6 : List L51) (y7 : List Clo) (y8 : List (List Int)) (y9 : List Int) : Option W18 := if y1 = true then (some (y9, ((), (y2, y3, y4, y5), (), y6, y7, y8))) else ((state_State_First.f k ((x1.1), (y2, y3, y4, y5), x1.2.2.1, y6, y7, y8) x2 x3).bind fun t1 => (some (t1.1, ((), t1.2.2.1, (), t1.2.2.2.2.1, t1.2.2.2.2.2.1, t1.2.2.2.2.2.2))))
def state_State_Load.f (k : Nat) (x1 : W8) (x2 : List Int) (x3 : List Int) : Option W18 := (state_State_at.f k ((x1.1), x1.2.1, x1.2.2.1, x1.2.2.2.1, x1.2.2.2.2.1, x1.2.2.2.2.2) x2).bind fun t2 => (if t2.1.isSome = true then (state_State_Load.j1 k x1 x2 x3 ((lk (aget (atE t2.2.2.1.2.2.1 ((atE t2.2.2.1.2.1 (t2.1.getD 0)).2.2.2.1)) x3) [0, 0, 0, 0]).2) t2.2.2.1.1 t2.2.2.1.2.1 t2.2.2.1.2.2.1 t2.2.2.1.2.2.2 t2.2.2.2.2.1 t2.2.2.2.2.2.1 t2.2.2.2.2.2.2 ((lk (aget (atE t2.2.2.1.2.2.1 ((atE t2.2.2.1.2.1 (t2.1.getD 0)).2.2.2.1)) x3) [0, 0, 0, 0]).1)) else none)
theorem state_State_Load.ok (k : Nat) : state_State_Load.Ctr (state_State_Load.f k) := by
 intro x1 x2 x3 ch_0_0 ch_0_1 ch_0_2 ch_0_3 ch_0_4 ch_0_5 ch_0_6 ch_0_7 ch_0_8 ch_0_9 ch_0_10 ch_0_11 ch_0_12 ch_0_13 ch_0_14 ch_0_15 r h0 mi w0 ok hm
 delta state_State_Load.f at h0
 refine c_enterX (n := 29) [(.v (.pointer (some ⟨ch_0_0, 0, none⟩))), (.agg [.ints .u8 x2 20]), (.agg [.ints .u64 x3 4])] (l := [(0, (.v (.pointer (some ⟨ch_0_0, 0, none⟩)))), (1, (.agg [.ints .u8 x2 20])), (2, (.agg [.ints .u64 x3 4]))]) Try.func20 rfl rfl rfl rfl ok hm ?_
 clear ok hm
 intro b0 hb a S
 refine c_region ?_
 refine s_box S rfl rfl rfl ?_; clear S a; intro g1 a w S
 refine s_box S rfl rfl rfl ?_; clear S a w; intro g2 a w S
 refine s_alloc S Z35 rfl ⟨rfl, trivial⟩ rfl ?_; clear S a w; intro g3 a w S
 refine c_end ?_
 refine wp_seq ?_
 refine c_region ?_
 refine s_move S rfl rfl ?_; clear S a; intro a S
 refine s_eqp S (b := false) rfl rfl Try.underlying26 rfl rfl ?_; clear S a; intro a S
 refine c_end ?_
 refine c_condF S rfl rfl ?_
 refine wp_skip ?_
 refine x_thenN ?_
 refine wp_seq ?_
 refine wp_seq_k ?_
 intro K1 hK1
 have j1 : ∀ (m : Mem) (y1 : Bool) (g5 : Nat) (g6 : Nat) (g7 : Nat) (g8 : Nat) (g9 : Nat) (y2 : List ((List Int) × Option Nat)) (G1 : List Nat) (G2 : List Nat) (G3 : List Nat) (y3 : List L76) (y4 : List (List ((List Int) × (List Int)))) (y5 : List (List ((List Int) × Bool))) (A1 : Option Addr) (nn1 : Nat) (cp1 : Nat) (y6 : List L51) (A2 : Option Addr) (nn2 : Nat) (cp2 : Nat) (y7 : List Clo) (A3 : Option Addr) (nn3 : Nat) (cp3 : Nat) (y8 : List (List Int)) (y9 : List Int) (a : Act) (w : World), St 29 m b0 [(8, (.v (.bool y1))), (7, (.v (.pointer (some ⟨g5, 0, none⟩)))), (6, (.v (.pointer (some ⟨g6, 0, none⟩)))), (5, (.v (.pointer (some ⟨g7, 0, none⟩)))), (4, (.v (.pointer (some ⟨g8, 0, none⟩)))), (0, (.v (.pointer (some ⟨ch_0_0, 0, none⟩))))] [Res.cells g5 35 [.ints .u64 y9 4], Res.cells ch_0_0 72 [.rf (.iface 68 (.agg (cellsOf [.sl ch_0_1 (x1.1).length ch_0_2 (RdS Y39 ch_0_1 x1.1)]).toArray)) (IfR [.sl ch_0_1 (x1.1).length ch_0_2 (RdS Y39 ch_0_1 x1.1)]), .one (.map (some g9)), .one (.int .i64 x1.2.2.1), .one (.slice A1 nn1 cp1), .one (.slice A2 nn2 cp2), .one (.slice A3 nn3 cp3)], Res.map true (Ty.arr .u8 20) false (Ty.pid G1) g9 y2, Res.fam (Res.struct (YE76 G2 G3) 76) (one_struct _ _) G1 [] y3, Res.fam (fun g_ kvs_ => Res.map true (Ty.arr .u64 4) true (Ty.arr .u64 4) g_ kvs_) (one_map true (Ty.arr .u64 4) true (Ty.arr .u64 4)) G2 [] y4, Res.fam (fun g_ kvs_ => Res.map true (Ty.arr .u64 4) false Ty.bool g_ kvs_) (one_map true (Ty.arr .u64 4) false Ty.bool) G3 [] y5, Res.row Y51 51 A1 nn1 cp1 y6, Res.row (YC ch_0_0 G1 G2 G3) 1 A2 nn2 cp2 y7, Res.row (Ty.arr .u8 20) 31 A3 nn3 cp3 y8, Res.cells g6 35 [.ints .u64 [0, 0, 0, 0] 4], Res.cells g7 35 [.ints .u64 x3 4], Res.cells g8 31 [.ints .u8 x2 20]] a w → state_State_Load.j1 k x1 x2 x3 y1 y2 y3 y4 y5 y6 y7 y8 y9 = some r → K1 a w := by
  intro m y1 g5 g6 g7 g8 g9 y2 G1 G2 G3 y3 y4 y5 A1 nn1 cp1 y6 A2 nn2 cp2 y7 A3 nn3 cp3 y8 y9 a w S h0
  delta state_State_Load.j1 at h0
  refine hK1 a w ?_
  refine c_region ?_
  refine s_move S rfl rfl ?_; clear S a; intro a S
  refine c_end ?_
  rcases ite_of h0 with ⟨c1, h1⟩ | ⟨c1, h1⟩ <;> clear h0
  ·refine c_condT S rfl c1 ?_
   refine c_region ?_
   refine s_loada S rfl .here T35 (s' := [.ints .u64 y9 4]) rfl rfl ?_; clear S a; intro a S
   refine s_store S rfl rfl rfl (s' := [.ints .u64 y9 4]) (.there (.there (.there (.there (.there (.there (.there (.there (.there .here))))))))) T35 rfl rfl ?_; clear S w; intro w S
   refine c_end ?_
   refine wp_ret ?_
   refine x_thenR ?_
   obtain rfl := Option.some.inj h1
   exact b_ret1 (d := (.agg [.ints .u64 y9 4])) S rfl (resD_cell rfl (.there (.there (.there (.there (.there (.there (.there (.there (.there .here))))))))) T35 rfl rfl) fun ok => S.retX (Hx := []) hb _ _ ((g9, G1, G2, G3, A1, nn1, cp1, A2, nn2, cp2, A3, nn3, cp3) : W7) (.cons (.there .here) (.cons (.there .here) (.cons (.there .here) (.cons (.there .here) (.cons (.there .here) (.cons (.there .here) (.cons (.there .here) (.cons (.there .here) .nil)))))))) ok
  ·refine c_condF S rfl c1 ?_
   refine wp_skip ?_
   refine x_thenN ?_
   refine c_region ?_
   refine s_move S rfl rfl ?_; clear S a; intro a S
   refine s_loada S rfl (.there (.there (.there (.there (.there (.there (.there (.there (.there (.there (.there .here))))))))))) T31 (s' := [.ints .u8 x2 20]) rfl rfl ?_; clear S a; intro a S
   refine s_loada S rfl (.there (.there (.there (.there (.there (.there (.there (.there (.there (.there .here)))))))))) T35 (s' := [.ints .u64 x3 4]) rfl rfl ?_; clear S a; intro a S
   obtain ⟨t1, et1, h2⟩ := bind_of h1; clear h1
   refine s_callX S (ds' := [(.v (.pointer (some ⟨ch_0_0, 0, none⟩))), (.agg [.ints .u8 x2 20]), (.agg [.ints .u64 x3 4])]) (ds := [(.v (.pointer (some ⟨ch_0_0, 0, none⟩))), (.agg [.ints .u8 x2 20]), (.agg [.ints .u64 x3 4])]) [Res.cells ch_0_0 72 [.rf (.iface 68 (.agg (cellsOf [.sl ch_0_1 (x1.1).length ch_0_2 (RdS Y39 ch_0_1 x1.1)]).toArray)) (IfR [.sl ch_0_1 (x1.1).length ch_0_2 (RdS Y39 ch_0_1 x1.1)]), .one (.map (some g9)), .one (.int .i64 x1.2.2.1), .one (.slice A1 nn1 cp1), .one (.slice A2 nn2 cp2), .one (.slice A3 nn3 cp3)], Res.map true (Ty.arr .u8 20) false (Ty.pid G1) g9 y2, Res.fam (Res.struct (YE76 G2 G3) 76) (one_struct _ _) G1 [] y3, Res.fam (fun g_ kvs_ => Res.map true (Ty.arr .u64 4) true (Ty.arr .u64 4) g_ kvs_) (one_map true (Ty.arr .u64 4) true (Ty.arr .u64 4)) G2 [] y4, Res.fam (fun g_ kvs_ => Res.map true (Ty.arr .u64 4) false Ty.bool g_ kvs_) (one_map true (Ty.arr .u64 4) false Ty.bool) G3 [] y5, Res.row Y51 51 A1 nn1 cp1 y6, Res.row (YC ch_0_0 G1 G2 G3) 1 A2 nn2 cp2 y7, Res.row (Ty.arr .u8 20) 31 A3 nn3 cp3 y8] [Res.cells g5 35 [.ints .u64 y9 4], Res.cells g6 35 [.ints .u64 [0, 0, 0, 0] 4], Res.cells g7 35 [.ints .u64 x3 4], Res.cells g8 31 [.ints .u8 x2 20]] (fun (ch : W7) => ((.agg [.ints .u64 t1.1 4]) : D)) (fun (ch : W7) => [Res.cells ch_0_0 72 [.rf (.iface 68 (.agg (cellsOf [.sl ch_0_1 (x1.1).length ch_0_2 (RdS Y39 ch_0_1 x1.1)]).toArray)) (IfR [.sl ch_0_1 (x1.1).length ch_0_2 (RdS Y39 ch_0_1 x1.1)]), .one (.map (some ch.1)), .one (.int .i64 x1.2.2.1), .one (.slice ch.2.2.2.2.1 ch.2.2.2.2.2.1 ch.2.2.2.2.2.2.1), .one (.slice ch.2.2.2.2.2.2.2.1 ch.2.2.2.2.2.2.2.2.1 ch.2.2.2.2.2.2.2.2.2.1), .one (.slice ch.2.2.2.2.2.2.2.2.2.2.1 ch.2.2.2.2.2.2.2.2.2.2.2.1 ch.2.2.2.2.2.2.2.2.2.2.2.2)], Res.map true (Ty.arr .u8 20) false (Ty.pid ch.2.1) ch.1 t1.2.2.1.1, Res.fam (Res.struct (YE76 ch.2.2.1 ch.2.2.2.1) 76) (one_struct _ _) ch.2.1 [] t1.2.2.1.2.1, Res.fam (fun g_ kvs_ => Res.map true (Ty.arr .u64 4) true (Ty.arr .u64 4) g_ kvs_) (one_map true (Ty.arr .u64 4) true (Ty.arr .u64 4)) ch.2.2.1 [] t1.2.2.1.2.2.1, Res.fam (fun g_ kvs_ => Res.map true (Ty.arr .u64 4) false Ty.bool g_ kvs_) (one_map true (Ty.arr .u64 4) false Ty.bool) ch.2.2.2.1 [] t1.2.2.1.2.2.2, Res.row Y51 51 ch.2.2.2.2.1 ch.2.2.2.2.2.1 ch.2.2.2.2.2.2.1 t1.2.2.2.2.1, Res.row (YC ch_0_0 ch.2.1 ch.2.2.1 ch.2.2.2.1) 1 ch.2.2.2.2.2.2.2.1 ch.2.2.2.2.2.2.2.2.1 ch.2.2.2.2.2.2.2.2.2.1 t1.2.2.2.2.2.1, Res.row (Ty.arr .u8 20) 31 ch.2.2.2.2.2.2.2.2.2.2.1 ch.2.2.2.2.2.2.2.2.2.2.2.1 ch.2.2.2.2.2.2.2.2.2.2.2.2 t1.2.2.2.2.2.2]) (fun (ch : W7) => [Res.cells ch_0_0 72 [.rf (.iface 68 (.agg (cellsOf [.sl ch_0_1 (x1.1).length ch_0_2 (RdS Y39 ch_0_1 x1.1)]).toArray)) (IfR [.sl ch_0_1 (x1.1).length ch_0_2 (RdS Y39 ch_0_1 x1.1)]), .one (.map (some ch.1)), .one (.int .i64 x1.2.2.1), .one (.slice ch.2.2.2.2.1 ch.2.2.2.2.2.1 ch.2.2.2.2.2.2.1), .one (.slice ch.2.2.2.2.2.2.2.1 ch.2.2.2.2.2.2.2.2.1 ch.2.2.2.2.2.2.2.2.2.1), .one (.slice ch.2.2.2.2.2.2.2.2.2.2.1 ch.2.2.2.2.2.2.2.2.2.2.2.1 ch.2.2.2.2.2.2.2.2.2.2.2.2)], Res.map true (Ty.arr .u8 20) false (Ty.pid ch.2.1) ch.1 t1.2.2.1.1, Res.fam (Res.struct (YE76 ch.2.2.1 ch.2.2.2.1) 76) (one_struct _ _) ch.2.1 [] t1.2.2.1.2.1, Res.fam (fun g_ kvs_ => Res.map true (Ty.arr .u64 4) true (Ty.arr .u64 4) g_ kvs_) (one_map true (Ty.arr .u64 4) true (Ty.arr .u64 4)) ch.2.2.1 [] t1.2.2.1.2.2.1, Res.fam (fun g_ kvs_ => Res.map true (Ty.arr .u64 4) false Ty.bool g_ kvs_) (one_map true (Ty.arr .u64 4) false Ty.bool) ch.2.2.2.1 [] t1.2.2.1.2.2.2, Res.row Y51 51 ch.2.2.2.2.1 ch.2.2.2.2.2.1 ch.2.2.2.2.2.2.1 t1.2.2.2.2.1, Res.row (YC ch_0_0 ch.2.1 ch.2.2.1 ch.2.2.2.1) 1 ch.2.2.2.2.2.2.2.1 ch.2.2.2.2.2.2.2.2.1 ch.2.2.2.2.2.2.2.2.2.1 t1.2.2.2.2.2.1, Res.row (Ty.arr .u8 20) 31 ch.2.2.2.2.2.2.2.2.2.2.1 ch.2.2.2.2.2.2.2.2.2.2.2.1 ch.2.2.2.2.2.2.2.2.2.2.2.2 t1.2.2.2.2.2.2, Res.cells g5 35 [.ints .u64 y9 4], Res.cells g6 35 [.ints .u64 [0, 0, 0, 0] 4], Res.cells g7 35 [.ints .u64 x3 4], Res.cells g8 31 [.ints .u8 x2 20]]) (fun _ => rfl) N39 rfl rfl (fun ok => ok) (.cons (.there .here) (.cons (.there .here) (.cons (.there .here) (.cons (.there .here) (.cons (.there .here) (.cons (.there .here) (.cons (.there .here) (.cons (.there .here) (.cons .here (.cons .here (.cons .here (.cons .here .nil)))))))))))) rfl (state_State_First.ok k ((x1.1), (y2, y3, y4, y5), x1.2.2.1, y6, y7, y8) x2 x3 ch_0_0 ch_0_1 ch_0_2 g9 G1 G2 G3 A1 nn1 cp1 A2 nn2 cp2 A3 nn3 cp3 t1 et1 _ _) ?_; clear S a w; intro ch1 m le1 a w S
   refine s_store S rfl rfl rfl (s' := [.ints .u64 t1.1 4]) (.there (.there (.there (.there (.there (.there (.there (.there (.there .here))))))))) T35 rfl rfl ?_; clear S w; intro w S
   refine c_end ?_
   refine wp_ret ?_
   obtain rfl := Option.some.inj h2
   exact b_ret1 (d := (.agg [.ints .u64 t1.1 4])) S rfl (resD_cell rfl (.there (.there (.there (.there (.there (.there (.there (.there (.there .here))))))))) T35 rfl rfl) fun ok => S.retX (Hx := []) hb _ _ ((ch1.1, ch1.2.1, ch1.2.2.1, ch1.2.2.2.1, ch1.2.2.2.2.1, ch1.2.2.2.2.2.1, ch1.2.2.2.2.2.2.1, ch1.2.2.2.2.2.2.2.1, ch1.2.2.2.2.2.2.2.2.1, ch1.2.2.2.2.2.2.2.2.2.1, ch1.2.2.2.2.2.2.2.2.2.2.1, ch1.2.2.2.2.2.2.2.2.2.2.2.1, ch1.2.2.2.2.2.2.2.2.2.2.2.2) : W7) (.cons .here (.cons .here (.cons .here (.cons .here (.cons .here (.cons .here (.cons .here (.cons .here .nil)))))))) ok
 refine c_heldS S (.take 0 (.take 1 (.take 6 (.alts (.run 2 true (.alts (.run 3 true (.take 4 (.alts (.run 5 true (.alts (.run 7 false (.pure 8 (.pure 9 (.pure 10 (.alts (.run 11 false (.alts (.run 12 false (.alts (.run 13 false .done .nil)) .nil)) .nil))))) (.run 11 true (.alts (.run 7 false (.pure 8 (.pure 9 (.pure 10 (.alts (.run 12 false (.alts (.run 13 false .done .nil)) .nil))))) .nil)) .nil))) (.run 11 true (.alts (.run 5 true (.alts (.run 7 false (.pure 8 (.pure 9 (.pure 10 (.alts (.run 12 false (.alts (.run 13 false .done .nil)) .nil))))) .nil)) .nil)) .nil)))) (.run 11 true (.alts (.run 3 true (.take 4 (.alts (.run 5 true (.alts (.run 7 false (.pure 8 (.pure 9 (.pure 10 (.alts (.run 12 false (.alts (.run 13 false .done .nil)) .nil))))) .nil)) .nil))) .nil)) .nil))) (.run 11 true (.alts (.run 2 true (.alts (.run 3 true (.take 4 (.alts (.run 5 true (.alts (.run 7 false (.pure 8 (.pure 9 (.pure 10 (.alts (.run 12 false (.alts (.run 13 false .done .nil)) .nil))))) .nil)) .nil))) .nil)) .nil)) .nil)))))) 7 [Res.cells g3 35 [.ints .u64 [0, 0, 0, 0] 4], Res.cells g2 35 [.ints .u64 x3 4], Res.cells g1 31 [.ints .u8 x2 20]] (.cons .here (.cons .here (.cons .here .nil))) ⟨Res.stay_cells, Res.stay_cells, Res.stay_cells, trivial⟩ [(5, (.v (.pointer (some ⟨g2, 0, none⟩)))), (4, (.v (.pointer (some ⟨g1, 0, none⟩)))), (0, (.v (.pointer (some ⟨ch_0_0, 0, none⟩))))] (subR rfl) (by kernel_rfl) (by kernel_rfl) ?_; clear S; intro w S CL hw le
 refine h_move S CL hw le (subR rfl) rfl rfl rfl trivial ?_; clear S CL a; intro a S CL
 refine h_loada S CL hw le (subR rfl) rfl (.there (.there .here)) T31 (s' := [.ints .u8 x2 20]) rfl rfl rfl trivial ?_; clear S CL a; intro a S CL
 refine h_loada S CL hw le (subR rfl) rfl (.there .here) T35 (s' := [.ints .u64 x3 4]) rfl rfl rfl trivial ?_; clear S CL a; intro a S CL
 obtain ⟨t2, et2, h1⟩ := bind_of h0; clear h0
 obtain ⟨c2, h2⟩ := chk_of h1; clear h1
 refine h_alts ?_
 refine h_runO S rfl trivial ?_ ?_
 ·refine s_callX S (ds' := [(.v (.pointer (some ⟨ch_0_0, 0, none⟩))), (.agg [.ints .u8 x2 20])]) (ds := [(.v (.pointer (some ⟨ch_0_0, 0, none⟩))), (.agg [.ints .u8 x2 20])]) [Res.cells ch_0_0 72 [.rf (.iface 68 (.agg (cellsOf [.sl ch_0_1 (x1.1).length ch_0_2 (RdS Y39 ch_0_1 x1.1)]).toArray)) (IfR [.sl ch_0_1 (x1.1).length ch_0_2 (RdS Y39 ch_0_1 x1.1)]), .one (.map (some ch_0_3)), .one (.int .i64 x1.2.2.1), .one (.slice ch_0_7 ch_0_8 ch_0_9), .one (.slice ch_0_10 ch_0_11 ch_0_12), .one (.slice ch_0_13 ch_0_14 ch_0_15)], Res.map true (Ty.arr .u8 20) false (Ty.pid ch_0_4) ch_0_3 x1.2.1.1, Res.fam (Res.struct (YE76 ch_0_5 ch_0_6) 76) (one_struct _ _) ch_0_4 [] x1.2.1.2.1, Res.fam (fun g_ kvs_ => Res.map true (Ty.arr .u64 4) true (Ty.arr .u64 4) g_ kvs_) (one_map true (Ty.arr .u64 4) true (Ty.arr .u64 4)) ch_0_5 [] x1.2.1.2.2.1, Res.fam (fun g_ kvs_ => Res.map true (Ty.arr .u64 4) false Ty.bool g_ kvs_) (one_map true (Ty.arr .u64 4) false Ty.bool) ch_0_6 [] x1.2.1.2.2.2, Res.row Y51 51 ch_0_7 ch_0_8 ch_0_9 x1.2.2.2.1, Res.row (YC ch_0_0 ch_0_4 ch_0_5 ch_0_6) 1 ch_0_10 ch_0_11 ch_0_12 x1.2.2.2.2.1, Res.row (Ty.arr .u8 20) 31 ch_0_13 ch_0_14 ch_0_15 x1.2.2.2.2.2] [Res.cells g3 35 [.ints .u64 [0, 0, 0, 0] 4], Res.cells g2 35 [.ints .u64 x3 4], Res.cells g1 31 [.ints .u8 x2 20]] (fun (ch : W7) => ((.rf (ptrV ch.2.1 t2.1) (ptrR ch.2.1 t2.1)) : D)) (fun (ch : W7) => [Res.cells ch_0_0 72 [.rf (.iface 68 (.agg (cellsOf [.sl ch_0_1 (x1.1).length ch_0_2 (RdS Y39 ch_0_1 x1.1)]).toArray)) (IfR [.sl ch_0_1 (x1.1).length ch_0_2 (RdS Y39 ch_0_1 x1.1)]), .one (.map (some ch.1)), .one (.int .i64 x1.2.2.1), .one (.slice ch.2.2.2.2.1 ch.2.2.2.2.2.1 ch.2.2.2.2.2.2.1), .one (.slice ch.2.2.2.2.2.2.2.1 ch.2.2.2.2.2.2.2.2.1 ch.2.2.2.2.2.2.2.2.2.1), .one (.slice ch.2.2.2.2.2.2.2.2.2.2.1 ch.2.2.2.2.2.2.2.2.2.2.2.1 ch.2.2.2.2.2.2.2.2.2.2.2.2)], Res.map true (Ty.arr .u8 20) false (Ty.pid ch.2.1) ch.1 t2.2.2.1.1, Res.fam (Res.struct (YE76 ch.2.2.1 ch.2.2.2.1) 76) (one_struct _ _) ch.2.1 [] t2.2.2.1.2.1, Res.fam (fun g_ kvs_ => Res.map true (Ty.arr .u64 4) true (Ty.arr .u64 4) g_ kvs_) (one_map true (Ty.arr .u64 4) true (Ty.arr .u64 4)) ch.2.2.1 [] t2.2.2.1.2.2.1, Res.fam (fun g_ kvs_ => Res.map true (Ty.arr .u64 4) false Ty.bool g_ kvs_) (one_map true (Ty.arr .u64 4) false Ty.bool) ch.2.2.2.1 [] t2.2.2.1.2.2.2, Res.row Y51 51 ch.2.2.2.2.1 ch.2.2.2.2.2.1 ch.2.2.2.2.2.2.1 t2.2.2.2.2.1, Res.row (YC ch_0_0 ch.2.1 ch.2.2.1 ch.2.2.2.1) 1 ch.2.2.2.2.2.2.2.1 ch.2.2.2.2.2.2.2.2.1 ch.2.2.2.2.2.2.2.2.2.1 t2.2.2.2.2.2.1, Res.row (Ty.arr .u8 20) 31 ch.2.2.2.2.2.2.2.2.2.2.1 ch.2.2.2.2.2.2.2.2.2.2.2.1 ch.2.2.2.2.2.2.2.2.2.2.2.2 t2.2.2.2.2.2.2]) (fun (ch : W7) => [Res.cells ch_0_0 72 [.rf (.iface 68 (.agg (cellsOf [.sl ch_0_1 (x1.1).length ch_0_2 (RdS Y39 ch_0_1 x1.1)]).toArray)) (IfR [.sl ch_0_1 (x1.1).length ch_0_2 (RdS Y39 ch_0_1 x1.1)]), .one (.map (some ch.1)), .one (.int .i64 x1.2.2.1), .one (.slice ch.2.2.2.2.1 ch.2.2.2.2.2.1 ch.2.2.2.2.2.2.1), .one (.slice ch.2.2.2.2.2.2.2.1 ch.2.2.2.2.2.2.2.2.1 ch.2.2.2.2.2.2.2.2.2.1), .one (.slice ch.2.2.2.2.2.2.2.2.2.2.1 ch.2.2.2.2.2.2.2.2.2.2.2.1 ch.2.2.2.2.2.2.2.2.2.2.2.2)], Res.map true (Ty.arr .u8 20) false (Ty.pid ch.2.1) ch.1 t2.2.2.1.1, Res.fam (Res.struct (YE76 ch.2.2.1 ch.2.2.2.1) 76) (one_struct _ _) ch.2.1 [] t2.2.2.1.2.1, Res.fam (fun g_ kvs_ => Res.map true (Ty.arr .u64 4) true (Ty.arr .u64 4) g_ kvs_) (one_map true (Ty.arr .u64 4) true (Ty.arr .u64 4)) ch.2.2.1 [] t2.2.2.1.2.2.1, Res.fam (fun g_ kvs_ => Res.map true (Ty.arr .u64 4) false Ty.bool g_ kvs_) (one_map true (Ty.arr .u64 4) false Ty.bool) ch.2.2.2.1 [] t2.2.2.1.2.2.2, Res.row Y51 51 ch.2.2.2.2.1 ch.2.2.2.2.2.1 ch.2.2.2.2.2.2.1 t2.2.2.2.2.1, Res.row (YC ch_0_0 ch.2.1 ch.2.2.1 ch.2.2.2.1) 1 ch.2.2.2.2.2.2.2.1 ch.2.2.2.2.2.2.2.2.1 ch.2.2.2.2.2.2.2.2.2.1 t2.2.2.2.2.2.1, Res.row (Ty.arr .u8 20) 31 ch.2.2.2.2.2.2.2.2.2.2.1 ch.2.2.2.2.2.2.2.2.2.2.2.1 ch.2.2.2.2.2.2.2.2.2.2.2.2 t2.2.2.2.2.2.2, Res.cells g3 35 [.ints .u64 [0, 0, 0, 0] 4], Res.cells g2 35 [.ints .u64 x3 4], Res.cells g1 31 [.ints .u8 x2 20]]) (fun _ => rfl) N26 rfl rfl (fun ok => ok) (.cons (.there (.there (.there .here))) (.cons (.there (.there (.there .here))) (.cons (.there (.there (.there .here))) (.cons (.there (.there (.there .here))) (.cons (.there (.there (.there .here))) (.cons (.there (.there (.there .here))) (.cons (.there (.there (.there .here))) (.cons (.there (.there (.there .here))) (.cons .here (.cons .here (.cons .here .nil))))))))))) rfl (state_State_at.ok k ((x1.1), x1.2.1, x1.2.2.1, x1.2.2.2.1, x1.2.2.2.2.1, x1.2.2.2.2.2) x2 ch_0_0 ch_0_1 ch_0_2 ch_0_3 ch_0_4 ch_0_5 ch_0_6 ch_0_7 ch_0_8 ch_0_9 ch_0_10 ch_0_11 ch_0_12 ch_0_13 ch_0_14 ch_0_15 t2 et2 _ _) ?_; clear S a; intro ch2 m le1 a w S
  replace le := le.trans le1
  replace hw := CL.again hw S (.cons (.there (.there (.there (.there (.there (.there (.there (.there .here)))))))) (.cons (.there (.there (.there (.there (.there (.there (.there (.there .here)))))))) (.cons (.there (.there (.there (.there (.there (.there (.there (.there .here)))))))) .nil))) le
  refine h_back ⟨fun _ => hw, ?_⟩
  refine h_alts ?_
  refine h_runO S rfl trivial ?_ ?_
  ·have hl2 := S.slotPlt (u := 15) c2 rfl
   replace S := S.slotP (u := 15) c2 rfl
   refine s_nilchk S rfl rfl ?_; clear S a; intro a S
   replace hw := CL.again hw S (.cons (.there (.there (.there (.there (.there (.there (.there (.there .here)))))))) (.cons (.there (.there (.there (.there (.there (.there (.there (.there .here)))))))) (.cons (.there (.there (.there (.there (.there (.there (.there (.there .here)))))))) .nil))) le
   refine h_back ⟨fun _ => hw, ?_⟩
   replace CL := CL.add (t := 16) (d := (.v (.pointer (some ⟨(bAt ch2.2.1 (t2.1.getD 0)), 0, none⟩)))) S rfl rfl
   refine h_fieldAddr S CL hw le (subR rfl) rfl I76_3 T73 (by decide) rfl rfl rfl trivial ?_; clear S CL a; intro a S CL
   refine h_alts ?_
   refine h_runO S rfl trivial ?_ ?_
   ·replace S := S.famOpen (i := (t2.1.getD 0)) hl2 (.there (.there .here))
    have hS := S.structOpen (T := (YE76 ch2.2.2.1 ch2.2.2.2.1)) (fun _ => .here) (((), (), (), (none, 0), (none, 0)), ((), (), (), (none, 0), (none, 0)), (), (), (), (), ())
    clear S; obtain ⟨ch3, S⟩ := hS
    refine s_loadM S rfl .here T73 (v := (.map (some (bAt ch2.2.2.1 ((atE t2.2.2.1.2.1 (t2.1.getD 0)).2.2.2.1))))) rfl rfl ?_; clear S a; intro a S
    replace S := S.structClose (T := (YE76 ch2.2.2.1 ch2.2.2.2.1)) (e := atE t2.2.2.1.2.1 (t2.1.getD 0)) ((((), (), (), (ch3.1.2.2.2.1.1, ch3.1.2.2.2.1.2), (ch3.1.2.2.2.2.1, ch3.1.2.2.2.2.2)), ((), (), (), (ch3.2.1.2.2.2.1.1, ch3.2.1.2.2.2.1.2), (ch3.2.1.2.2.2.2.1, ch3.2.1.2.2.2.2.2)), (), (), (), (), ()) : ((YE76 ch2.2.2.1 ch2.2.2.2.1)).Ch) rfl .here
    replace S := S.famShut hl2 .here (.there (.there .here))
    replace hw := CL.again hw S (.cons (.there (.there (.there (.there (.there (.there (.there (.there .here)))))))) (.cons (.there (.there (.there (.there (.there (.there (.there (.there .here)))))))) (.cons (.there (.there (.there (.there (.there (.there (.there (.there .here)))))))) .nil))) le
    refine h_back ⟨fun _ => hw, ?_⟩
    refine h_alts ?_
    refine h_runO S rfl trivial ?_ ?_
    ·have hm1 := S.slotLt (u := 18) rfl
     replace S := S.slotMid (u := 18) rfl
     replace S := S.famOpen (i := ((atE t2.2.2.1.2.1 (t2.1.getD 0)).2.2.2.1)) hm1 (.there (.there (.there .here)))
     refine s_lookO S (z := [0, 0, 0, 0]) (k := x3) rfl .here () rfl (fun h => ⟨(), rfl, h⟩) Try.underlying73 KT35 Z35 ⟨rfl, trivial⟩ rfl ?_; clear S a; intro ch4 a S
     replace S := S.famShut hm1 .here (.there (.there (.there .here)))
     replace S := S.slotMidB (u := 18) hm1 rfl
     refine h_back ⟨fun h => (nomatch h), ?_⟩
     refine p_move S rfl rfl rfl trivial ?_; clear S a; intro a S
     refine p_extract S rfl rfl rfl rfl rfl trivial ?_; clear S a; intro a S
     refine p_extract S rfl rfl rfl rfl rfl trivial ?_; clear S a; intro a S
     refine h_run' S rfl trivial ?_
     refine s_alloc S Z35 rfl ⟨rfl, trivial⟩ rfl ?_; clear S a; intro g10 a w S
     refine h_back ⟨fun h => (nomatch h), ?_⟩
     refine h_run' S rfl trivial ?_
     refine s_store S rfl rfl rfl (s' := [.ints .u64 ((lk (aget (atE t2.2.2.1.2.2.1 ((atE t2.2.2.1.2.1 (t2.1.getD 0)).2.2.2.1)) x3) [0, 0, 0, 0]).1) 4]) .here T35 rfl rfl ?_; clear S; intro w S
     refine h_back ⟨fun h => (nomatch h), ?_⟩
     refine h_run' S rfl trivial ?_
     refine s_assign S rfl rfl ?_; clear S a; intro a S
     refine h_back ⟨fun h => (nomatch h), ?_⟩
     refine h_done ?_; clear CL hw le
     refine x_thenN ?_
     exact j1 _ ((lk (aget (atE t2.2.2.1.2.2.1 ((atE t2.2.2.1.2.1 (t2.1.getD 0)).2.2.2.1)) x3) [0, 0, 0, 0]).2) g10 g3 g2 g1 ch2.1 t2.2.2.1.1 ch2.2.1 ch2.2.2.1 ch2.2.2.2.1 t2.2.2.1.2.1 t2.2.2.1.2.2.1 t2.2.2.1.2.2.2 ch2.2.2.2.2.1 ch2.2.2.2.2.2.1 ch2.2.2.2.2.2.2.1 t2.2.2.2.2.1 ch2.2.2.2.2.2.2.2.1 ch2.2.2.2.2.2.2.2.2.1 ch2.2.2.2.2.2.2.2.2.2.1 t2.2.2.2.2.2.1 ch2.2.2.2.2.2.2.2.2.2.2.1 ch2.2.2.2.2.2.2.2.2.2.2.2.1 ch2.2.2.2.2.2.2.2.2.2.2.2.2 t2.2.2.2.2.2.2 ((lk (aget (atE t2.2.2.1.2.2.1 ((atE t2.2.2.1.2.1 (t2.1.getD 0)).2.2.2.1)) x3) [0, 0, 0, 0]).1) a w (S.sub (subR rfl) (.cons .here (.cons .here (.cons .here (.cons .here (.cons .here (.cons .here (.cons .here (.cons .here (.cons .here (.cons .here (.cons .here (.cons .here .nil))))))))))))) h2
    refine h_runO S rfl trivial ?_ ?_
    ·refine s_alloc S Z35 rfl ⟨rfl, trivial⟩ rfl ?_; clear S a; intro g10 a w S
     replace hw := CL.again hw S (.cons (.there (.there (.there (.there (.there (.there (.there (.there (.there .here))))))))) (.cons (.there (.there (.there (.there (.there (.there (.there (.there (.there .here))))))))) (.cons (.there (.there (.there (.there (.there (.there (.there (.there (.there .here))))))))) .nil))) le
     refine h_back ⟨fun _ => hw, ?_⟩
     refine h_run' S rfl trivial ?_
     have hm1 := S.slotLt (u := 18) rfl
     replace S := S.slotMid (u := 18) rfl
     replace S := S.famOpen (i := ((atE t2.2.2.1.2.1 (t2.1.getD 0)).2.2.2.1)) hm1 (.there (.there (.there (.there .here))))
     refine s_lookO S (z := [0, 0, 0, 0]) (k := x3) rfl .here () rfl (fun h => ⟨(), rfl, h⟩) Try.underlying73 KT35 Z35 ⟨rfl, trivial⟩ rfl ?_; clear S a; intro ch4 a S
     replace S := S.famShut hm1 .here (.there (.there (.there (.there .here))))
     replace S := S.slotMidB (u := 18) hm1 rfl
     refine h_back ⟨fun h => (nomatch h), ?_⟩
     refine p_move S rfl rfl rfl trivial ?_; clear S a; intro a S
     refine p_extract S rfl rfl rfl rfl rfl trivial ?_; clear S a; intro a S
     refine p_extract S rfl rfl rfl rfl rfl trivial ?_; clear S a; intro a S
     refine h_run' S rfl trivial ?_
     refine s_store S rfl rfl rfl (s' := [.ints .u64 ((lk (aget (atE t2.2.2.1.2.2.1 ((atE t2.2.2.1.2.1 (t2.1.getD 0)).2.2.2.1)) x3) [0, 0, 0, 0]).1) 4]) .here T35 rfl rfl ?_; clear S; intro w S
     refine h_back ⟨fun h => (nomatch h), ?_⟩
     refine h_run' S rfl trivial ?_
     refine s_assign S rfl rfl ?_; clear S a; intro a S
     refine h_back ⟨fun h => (nomatch h), ?_⟩
     refine h_done ?_; clear CL hw le
     refine x_thenN ?_
     exact j1 _ ((lk (aget (atE t2.2.2.1.2.2.1 ((atE t2.2.2.1.2.1 (t2.1.getD 0)).2.2.2.1)) x3) [0, 0, 0, 0]).2) g10 g3 g2 g1 ch2.1 t2.2.2.1.1 ch2.2.1 ch2.2.2.1 ch2.2.2.2.1 t2.2.2.1.2.1 t2.2.2.1.2.2.1 t2.2.2.1.2.2.2 ch2.2.2.2.2.1 ch2.2.2.2.2.2.1 ch2.2.2.2.2.2.2.1 t2.2.2.2.2.1 ch2.2.2.2.2.2.2.2.1 ch2.2.2.2.2.2.2.2.2.1 ch2.2.2.2.2.2.2.2.2.2.1 t2.2.2.2.2.2.1 ch2.2.2.2.2.2.2.2.2.2.2.1 ch2.2.2.2.2.2.2.2.2.2.2.2.1 ch2.2.2.2.2.2.2.2.2.2.2.2.2 t2.2.2.2.2.2.2 ((lk (aget (atE t2.2.2.1.2.2.1 ((atE t2.2.2.1.2.1 (t2.1.getD 0)).2.2.2.1)) x3) [0, 0, 0, 0]).1) a w (S.sub (subR rfl) (.cons .here (.cons .here (.cons .here (.cons .here (.cons .here (.cons .here (.cons .here (.cons .here (.cons .here (.cons .here (.cons .here (.cons .here .nil))))))))))))) h2
    exact h_nil
   refine h_runO S rfl trivial ?_ ?_
   ·refine s_alloc S Z35 rfl ⟨rfl, trivial⟩ rfl ?_; clear S a; intro g10 a w S
    replace hw := CL.again hw S (.cons (.there (.there (.there (.there (.there (.there (.there (.there (.there .here))))))))) (.cons (.there (.there (.there (.there (.there (.there (.there (.there (.there .here))))))))) (.cons (.there (.there (.there (.there (.there (.there (.there (.there (.there .here))))))))) .nil))) le
    refine h_back ⟨fun _ => hw, ?_⟩
    refine h_run' S rfl trivial ?_
    replace S := S.famOpen (i := (t2.1.getD 0)) hl2 (.there (.there (.there .here)))
    have hS := S.structOpen (T := (YE76 ch2.2.2.1 ch2.2.2.2.1)) (fun _ => .here) (((), (), (), (none, 0), (none, 0)), ((), (), (), (none, 0), (none, 0)), (), (), (), (), ())
    clear S; obtain ⟨ch3, S⟩ := hS
    refine s_loadM S rfl .here T73 (v := (.map (some (bAt ch2.2.2.1 ((atE t2.2.2.1.2.1 (t2.1.getD 0)).2.2.2.1))))) rfl rfl ?_; clear S a; intro a S
    replace S := S.structClose (T := (YE76 ch2.2.2.1 ch2.2.2.2.1)) (e := atE t2.2.2.1.2.1 (t2.1.getD 0)) ((((), (), (), (ch3.1.2.2.2.1.1, ch3.1.2.2.2.1.2), (ch3.1.2.2.2.2.1, ch3.1.2.2.2.2.2)), ((), (), (), (ch3.2.1.2.2.2.1.1, ch3.2.1.2.2.2.1.2), (ch3.2.1.2.2.2.2.1, ch3.2.1.2.2.2.2.2)), (), (), (), (), ()) : ((YE76 ch2.2.2.1 ch2.2.2.2.1)).Ch) rfl .here
    replace S := S.famShut hl2 .here (.there (.there (.there .here)))
    replace hw := CL.again hw S (.cons (.there (.there (.there (.there (.there (.there (.there (.there (.there .here))))))))) (.cons (.there (.there (.there (.there (.there (.there (.there (.there (.there .here))))))))) (.cons (.there (.there (.there (.there (.there (.there (.there (.there (.there .here))))))))) .nil))) le
    refine h_back ⟨fun _ => hw, ?_⟩
    refine h_run' S rfl trivial ?_
    have hm1 := S.slotLt (u := 18) rfl
    replace S := S.slotMid (u := 18) rfl
    replace S := S.famOpen (i := ((atE t2.2.2.1.2.1 (t2.1.getD 0)).2.2.2.1)) hm1 (.there (.there (.there (.there .here))))
    refine s_lookO S (z := [0, 0, 0, 0]) (k := x3) rfl .here () rfl (fun h => ⟨(), rfl, h⟩) Try.underlying73 KT35 Z35 ⟨rfl, trivial⟩ rfl ?_; clear S a; intro ch4 a S
    replace S := S.famShut hm1 .here (.there (.there (.there (.there .here))))
    replace S := S.slotMidB (u := 18) hm1 rfl
    refine h_back ⟨fun h => (nomatch h), ?_⟩
    refine p_move S rfl rfl rfl trivial ?_; clear S a; intro a S
    refine p_extract S rfl rfl rfl rfl rfl trivial ?_; clear S a; intro a S
    refine p_extract S rfl rfl rfl rfl rfl trivial ?_; clear S a; intro a S
    refine h_run' S rfl trivial ?_
    refine s_store S rfl rfl rfl (s' := [.ints .u64 ((lk (aget (atE t2.2.2.1.2.2.1 ((atE t2.2.2.1.2.1 (t2.1.getD 0)).2.2.2.1)) x3) [0, 0, 0, 0]).1) 4]) .here T35 rfl rfl ?_; clear S; intro w S
    refine h_back ⟨fun h => (nomatch h), ?_⟩
    refine h_run' S rfl trivial ?_
    refine s_assign S rfl rfl ?_; clear S a; intro a S
    refine h_back ⟨fun h => (nomatch h), ?_⟩
    refine h_done ?_; clear CL hw le
    refine x_thenN ?_
    exact j1 _ ((lk (aget (atE t2.2.2.1.2.2.1 ((atE t2.2.2.1.2.1 (t2.1.getD 0)).2.2.2.1)) x3) [0, 0, 0, 0]).2) g10 g3 g2 g1 ch2.1 t2.2.2.1.1 ch2.2.1 ch2.2.2.1 ch2.2.2.2.1 t2.2.2.1.2.1 t2.2.2.1.2.2.1 t2.2.2.1.2.2.2 ch2.2.2.2.2.1 ch2.2.2.2.2.2.1 ch2.2.2.2.2.2.2.1 t2.2.2.2.2.1 ch2.2.2.2.2.2.2.2.1 ch2.2.2.2.2.2.2.2.2.1 ch2.2.2.2.2.2.2.2.2.2.1 t2.2.2.2.2.2.1 ch2.2.2.2.2.2.2.2.2.2.2.1 ch2.2.2.2.2.2.2.2.2.2.2.2.1 ch2.2.2.2.2.2.2.2.2.2.2.2.2 t2.2.2.2.2.2.2 ((lk (aget (atE t2.2.2.1.2.2.1 ((atE t2.2.2.1.2.1 (t2.1.getD 0)).2.2.2.1)) x3) [0, 0, 0, 0]).1) a w (S.sub (subR rfl) (.cons .here (.cons .here (.cons .here (.cons .here (.cons .here (.cons .here (.cons .here (.cons .here (.cons .here (.cons .here (.cons .here (.cons .here .nil))))))))))))) h2
   exact h_nil
  refine h_runO S rfl trivial ?_ ?_
  ·refine s_alloc S Z35 rfl ⟨rfl, trivial⟩ rfl ?_; clear S a; intro g10 a w S
   replace hw := CL.again hw S (.cons (.there (.there (.there (.there (.there (.there (.there (.there (.there .here))))))))) (.cons (.there (.there (.there (.there (.there (.there (.there (.there (.there .here))))))))) (.cons (.there (.there (.there (.there (.there (.there (.there (.there (.there .here))))))))) .nil))) le
   refine h_back ⟨fun _ => hw, ?_⟩
   refine h_run' S rfl trivial ?_
   have hl2 := S.slotPlt (u := 15) c2 rfl
   replace S := S.slotP (u := 15) c2 rfl
   refine s_nilchk S rfl rfl ?_; clear S a; intro a S
   replace hw := CL.again hw S (.cons (.there (.there (.there (.there (.there (.there (.there (.there (.there .here))))))))) (.cons (.there (.there (.there (.there (.there (.there (.there (.there (.there .here))))))))) (.cons (.there (.there (.there (.there (.there (.there (.there (.there (.there .here))))))))) .nil))) le
   refine h_back ⟨fun _ => hw, ?_⟩
   replace CL := CL.add (t := 16) (d := (.v (.pointer (some ⟨(bAt ch2.2.1 (t2.1.getD 0)), 0, none⟩)))) S rfl rfl
   refine h_fieldAddr S CL hw le (subR rfl) rfl I76_3 T73 (by decide) rfl rfl rfl trivial ?_; clear S CL a; intro a S CL
   refine h_run' S rfl trivial ?_
   replace S := S.famOpen (i := (t2.1.getD 0)) hl2 (.there (.there (.there .here)))
   have hS := S.structOpen (T := (YE76 ch2.2.2.1 ch2.2.2.2.1)) (fun _ => .here) (((), (), (), (none, 0), (none, 0)), ((), (), (), (none, 0), (none, 0)), (), (), (), (), ())
   clear S; obtain ⟨ch3, S⟩ := hS
   refine s_loadM S rfl .here T73 (v := (.map (some (bAt ch2.2.2.1 ((atE t2.2.2.1.2.1 (t2.1.getD 0)).2.2.2.1))))) rfl rfl ?_; clear S a; intro a S
   replace S := S.structClose (T := (YE76 ch2.2.2.1 ch2.2.2.2.1)) (e := atE t2.2.2.1.2.1 (t2.1.getD 0)) ((((), (), (), (ch3.1.2.2.2.1.1, ch3.1.2.2.2.1.2), (ch3.1.2.2.2.2.1, ch3.1.2.2.2.2.2)), ((), (), (), (ch3.2.1.2.2.2.1.1, ch3.2.1.2.2.2.1.2), (ch3.2.1.2.2.2.2.1, ch3.2.1.2.2.2.2.2)), (), (), (), (), ()) : ((YE76 ch2.2.2.1 ch2.2.2.2.1)).Ch) rfl .here
   replace S := S.famShut hl2 .here (.there (.there (.there .here)))
   replace hw := CL.again hw S (.cons (.there (.there (.there (.there (.there (.there (.there (.there (.there .here))))))))) (.cons (.there (.there (.there (.there (.there (.there (.there (.there (.there .here))))))))) (.cons (.there (.there (.there (.there (.there (.there (.there (.there (.there .here))))))))) .nil))) le
   refine h_back ⟨fun _ => hw, ?_⟩
   refine h_run' S rfl trivial ?_
   have hm1 := S.slotLt (u := 18) rfl
   replace S := S.slotMid (u := 18) rfl
   replace S := S.famOpen (i := ((atE t2.2.2.1.2.1 (t2.1.getD 0)).2.2.2.1)) hm1 (.there (.there (.there (.there .here))))
   refine s_lookO S (z := [0, 0, 0, 0]) (k := x3) rfl .here () rfl (fun h => ⟨(), rfl, h⟩) Try.underlying73 KT35 Z35 ⟨rfl, trivial⟩ rfl ?_; clear S a; intro ch4 a S
   replace S := S.famShut hm1 .here (.there (.there (.there (.there .here))))
   replace S := S.slotMidB (u := 18) hm1 rfl
   refine h_back ⟨fun h => (nomatch h), ?_⟩
   refine p_move S rfl rfl rfl trivial ?_; clear S a; intro a S
   refine p_extract S rfl rfl rfl rfl rfl trivial ?_; clear S a; intro a S
   refine p_extract S rfl rfl rfl rfl rfl trivial ?_; clear S a; intro a S
   refine h_run' S rfl trivial ?_
   refine s_store S rfl rfl rfl (s' := [.ints .u64 ((lk (aget (atE t2.2.2.1.2.2.1 ((atE t2.2.2.1.2.1 (t2.1.getD 0)).2.2.2.1)) x3) [0, 0, 0, 0]).1) 4]) .here T35 rfl rfl ?_; clear S; intro w S
   refine h_back ⟨fun h => (nomatch h), ?_⟩
   refine h_run' S rfl trivial ?_
   refine s_assign S rfl rfl ?_; clear S a; intro a S
   refine h_back ⟨fun h => (nomatch h), ?_⟩
   refine h_done ?_; clear CL hw le
   refine x_thenN ?_
   exact j1 _ ((lk (aget (atE t2.2.2.1.2.2.1 ((atE t2.2.2.1.2.1 (t2.1.getD 0)).2.2.2.1)) x3) [0, 0, 0, 0]).2) g10 g3 g2 g1 ch2.1 t2.2.2.1.1 ch2.2.1 ch2.2.2.1 ch2.2.2.2.1 t2.2.2.1.2.1 t2.2.2.1.2.2.1 t2.2.2.1.2.2.2 ch2.2.2.2.2.1 ch2.2.2.2.2.2.1 ch2.2.2.2.2.2.2.1 t2.2.2.2.2.1 ch2.2.2.2.2.2.2.2.1 ch2.2.2.2.2.2.2.2.2.1 ch2.2.2.2.2.2.2.2.2.2.1 t2.2.2.2.2.2.1 ch2.2.2.2.2.2.2.2.2.2.2.1 ch2.2.2.2.2.2.2.2.2.2.2.2.1 ch2.2.2.2.2.2.2.2.2.2.2.2.2 t2.2.2.2.2.2.2 ((lk (aget (atE t2.2.2.1.2.2.1 ((atE t2.2.2.1.2.1 (t2.1.getD 0)).2.2.2.1)) x3) [0, 0, 0, 0]).1) a w (S.sub (subR rfl) (.cons .here (.cons .here (.cons .here (.cons .here (.cons .here (.cons .here (.cons .here (.cons .here (.cons .here (.cons .here (.cons .here (.cons .here .nil))))))))))))) h2
  exact h_nil
 refine h_runO S rfl trivial ?_ ?_
 ·refine s_alloc S Z35 rfl ⟨rfl, trivial⟩ rfl ?_; clear S a; intro g10 a w S
  replace hw := CL.again hw S (.cons (.there .here) (.cons (.there .here) (.cons (.there .here) .nil))) le
  refine h_back ⟨fun _ => hw, ?_⟩
  refine h_run' S rfl trivial ?_
  refine s_callX S (ds' := [(.v (.pointer (some ⟨ch_0_0, 0, none⟩))), (.agg [.ints .u8 x2 20])]) (ds := [(.v (.pointer (some ⟨ch_0_0, 0, none⟩))), (.agg [.ints .u8 x2 20])]) [Res.cells ch_0_0 72 [.rf (.iface 68 (.agg (cellsOf [.sl ch_0_1 (x1.1).length ch_0_2 (RdS Y39 ch_0_1 x1.1)]).toArray)) (IfR [.sl ch_0_1 (x1.1).length ch_0_2 (RdS Y39 ch_0_1 x1.1)]), .one (.map (some ch_0_3)), .one (.int .i64 x1.2.2.1), .one (.slice ch_0_7 ch_0_8 ch_0_9), .one (.slice ch_0_10 ch_0_11 ch_0_12), .one (.slice ch_0_13 ch_0_14 ch_0_15)], Res.map true (Ty.arr .u8 20) false (Ty.pid ch_0_4) ch_0_3 x1.2.1.1, Res.fam (Res.struct (YE76 ch_0_5 ch_0_6) 76) (one_struct _ _) ch_0_4 [] x1.2.1.2.1, Res.fam (fun g_ kvs_ => Res.map true (Ty.arr .u64 4) true (Ty.arr .u64 4) g_ kvs_) (one_map true (Ty.arr .u64 4) true (Ty.arr .u64 4)) ch_0_5 [] x1.2.1.2.2.1, Res.fam (fun g_ kvs_ => Res.map true (Ty.arr .u64 4) false Ty.bool g_ kvs_) (one_map true (Ty.arr .u64 4) false Ty.bool) ch_0_6 [] x1.2.1.2.2.2, Res.row Y51 51 ch_0_7 ch_0_8 ch_0_9 x1.2.2.2.1, Res.row (YC ch_0_0 ch_0_4 ch_0_5 ch_0_6) 1 ch_0_10 ch_0_11 ch_0_12 x1.2.2.2.2.1, Res.row (Ty.arr .u8 20) 31 ch_0_13 ch_0_14 ch_0_15 x1.2.2.2.2.2] [Res.cells g10 35 [.ints .u64 [0, 0, 0, 0] 4], Res.cells g3 35 [.ints .u64 [0, 0, 0, 0] 4], Res.cells g2 35 [.ints .u64 x3 4], Res.cells g1 31 [.ints .u8 x2 20]] (fun (ch : W7) => ((.rf (ptrV ch.2.1 t2.1) (ptrR ch.2.1 t2.1)) : D)) (fun (ch : W7) => [Res.cells ch_0_0 72 [.rf (.iface 68 (.agg (cellsOf [.sl ch_0_1 (x1.1).length ch_0_2 (RdS Y39 ch_0_1 x1.1)]).toArray)) (IfR [.sl ch_0_1 (x1.1).length ch_0_2 (RdS Y39 ch_0_1 x1.1)]), .one (.map (some ch.1)), .one (.int .i64 x1.2.2.1), .one (.slice ch.2.2.2.2.1 ch.2.2.2.2.2.1 ch.2.2.2.2.2.2.1), .one (.slice ch.2.2.2.2.2.2.2.1 ch.2.2.2.2.2.2.2.2.1 ch.2.2.2.2.2.2.2.2.2.1), .one (.slice ch.2.2.2.2.2.2.2.2.2.2.1 ch.2.2.2.2.2.2.2.2.2.2.2.1 ch.2.2.2.2.2.2.2.2.2.2.2.2)], Res.map true (Ty.arr .u8 20) false (Ty.pid ch.2.1) ch.1 t2.2.2.1.1, Res.fam (Res.struct (YE76 ch.2.2.1 ch.2.2.2.1) 76) (one_struct _ _) ch.2.1 [] t2.2.2.1.2.1, Res.fam (fun g_ kvs_ => Res.map true (Ty.arr .u64 4) true (Ty.arr .u64 4) g_ kvs_) (one_map true (Ty.arr .u64 4) true (Ty.arr .u64 4)) ch.2.2.1 [] t2.2.2.1.2.2.1, Res.fam (fun g_ kvs_ => Res.map true (Ty.arr .u64 4) false Ty.bool g_ kvs_) (one_map true (Ty.arr .u64 4) false Ty.bool) ch.2.2.2.1 [] t2.2.2.1.2.2.2, Res.row Y51 51 ch.2.2.2.2.1 ch.2.2.2.2.2.1 ch.2.2.2.2.2.2.1 t2.2.2.2.2.1, Res.row (YC ch_0_0 ch.2.1 ch.2.2.1 ch.2.2.2.1) 1 ch.2.2.2.2.2.2.2.1 ch.2.2.2.2.2.2.2.2.1 ch.2.2.2.2.2.2.2.2.2.1 t2.2.2.2.2.2.1, Res.row (Ty.arr .u8 20) 31 ch.2.2.2.2.2.2.2.2.2.2.1 ch.2.2.2.2.2.2.2.2.2.2.2.1 ch.2.2.2.2.2.2.2.2.2.2.2.2 t2.2.2.2.2.2.2]) (fun (ch : W7) => [Res.cells ch_0_0 72 [.rf (.iface 68 (.agg (cellsOf [.sl ch_0_1 (x1.1).length ch_0_2 (RdS Y39 ch_0_1 x1.1)]).toArray)) (IfR [.sl ch_0_1 (x1.1).length ch_0_2 (RdS Y39 ch_0_1 x1.1)]), .one (.map (some ch.1)), .one (.int .i64 x1.2.2.1), .one (.slice ch.2.2.2.2.1 ch.2.2.2.2.2.1 ch.2.2.2.2.2.2.1), .one (.slice ch.2.2.2.2.2.2.2.1 ch.2.2.2.2.2.2.2.2.1 ch.2.2.2.2.2.2.2.2.2.1), .one (.slice ch.2.2.2.2.2.2.2.2.2.2.1 ch.2.2.2.2.2.2.2.2.2.2.2.1 ch.2.2.2.2.2.2.2.2.2.2.2.2)], Res.map true (Ty.arr .u8 20) false (Ty.pid ch.2.1) ch.1 t2.2.2.1.1, Res.fam (Res.struct (YE76 ch.2.2.1 ch.2.2.2.1) 76) (one_struct _ _) ch.2.1 [] t2.2.2.1.2.1, Res.fam (fun g_ kvs_ => Res.map true (Ty.arr .u64 4) true (Ty.arr .u64 4) g_ kvs_) (one_map true (Ty.arr .u64 4) true (Ty.arr .u64 4)) ch.2.2.1 [] t2.2.2.1.2.2.1, Res.fam (fun g_ kvs_ => Res.map true (Ty.arr .u64 4) false Ty.bool g_ kvs_) (one_map true (Ty.arr .u64 4) false Ty.bool) ch.2.2.2.1 [] t2.2.2.1.2.2.2, Res.row Y51 51 ch.2.2.2.2.1 ch.2.2.2.2.2.1 ch.2.2.2.2.2.2.1 t2.2.2.2.2.1, Res.row (YC ch_0_0 ch.2.1 ch.2.2.1 ch.2.2.2.1) 1 ch.2.2.2.2.2.2.2.1 ch.2.2.2.2.2.2.2.2.1 ch.2.2.2.2.2.2.2.2.2.1 t2.2.2.2.2.2.1, Res.row (Ty.arr .u8 20) 31 ch.2.2.2.2.2.2.2.2.2.2.1 ch.2.2.2.2.2.2.2.2.2.2.2.1 ch.2.2.2.2.2.2.2.2.2.2.2.2 t2.2.2.2.2.2.2, Res.cells g10 35 [.ints .u64 [0, 0, 0, 0] 4], Res.cells g3 35 [.ints .u64 [0, 0, 0, 0] 4], Res.cells g2 35 [.ints .u64 x3 4], Res.cells g1 31 [.ints .u8 x2 20]]) (fun _ => rfl) N26 rfl rfl (fun ok => ok) (.cons (.there (.there (.there (.there .here)))) (.cons (.there (.there (.there (.there .here)))) (.cons (.there (.there (.there (.there .here)))) (.cons (.there (.there (.there (.there .here)))) (.cons (.there (.there (.there (.there .here)))) (.cons (.there (.there (.there (.there .here)))) (.cons (.there (.there (.there (.there .here)))) (.cons (.there (.there (.there (.there .here)))) (.cons .here (.cons .here (.cons .here (.cons .here .nil)))))))))))) rfl (state_State_at.ok k ((x1.1), x1.2.1, x1.2.2.1, x1.2.2.2.1, x1.2.2.2.2.1, x1.2.2.2.2.2) x2 ch_0_0 ch_0_1 ch_0_2 ch_0_3 ch_0_4 ch_0_5 ch_0_6 ch_0_7 ch_0_8 ch_0_9 ch_0_10 ch_0_11 ch_0_12 ch_0_13 ch_0_14 ch_0_15 t2 et2 _ _) ?_; clear S a; intro ch2 m le1 a w S
  replace le := le.trans le1
  replace hw := CL.again hw S (.cons (.there (.there (.there (.there (.there (.there (.there (.there (.there .here))))))))) (.cons (.there (.there (.there (.there (.there (.there (.there (.there (.there .here))))))))) (.cons (.there (.there (.there (.there (.there (.there (.there (.there (.there .here))))))))) .nil))) le
  refine h_back ⟨fun _ => hw, ?_⟩
  refine h_run' S rfl trivial ?_
  have hl2 := S.slotPlt (u := 15) c2 rfl
  replace S := S.slotP (u := 15) c2 rfl
  refine s_nilchk S rfl rfl ?_; clear S a; intro a S
  replace hw := CL.again hw S (.cons (.there (.there (.there (.there (.there (.there (.there (.there (.there .here))))))))) (.cons (.there (.there (.there (.there (.there (.there (.there (.there (.there .here))))))))) (.cons (.there (.there (.there (.there (.there (.there (.there (.there (.there .here))))))))) .nil))) le
  refine h_back ⟨fun _ => hw, ?_⟩
  replace CL := CL.add (t := 16) (d := (.v (.pointer (some ⟨(bAt ch2.2.1 (t2.1.getD 0)), 0, none⟩)))) S rfl rfl
  refine h_fieldAddr S CL hw le (subR rfl) rfl I76_3 T73 (by decide) rfl rfl rfl trivial ?_; clear S CL a; intro a S CL
  refine h_run' S rfl trivial ?_
  replace S := S.famOpen (i := (t2.1.getD 0)) hl2 (.there (.there .here))
  have hS := S.structOpen (T := (YE76 ch2.2.2.1 ch2.2.2.2.1)) (fun _ => .here) (((), (), (), (none, 0), (none, 0)), ((), (), (), (none, 0), (none, 0)), (), (), (), (), ())
  clear S; obtain ⟨ch3, S⟩ := hS
  refine s_loadM S rfl .here T73 (v := (.map (some (bAt ch2.2.2.1 ((atE t2.2.2.1.2.1 (t2.1.getD 0)).2.2.2.1))))) rfl rfl ?_; clear S a; intro a S
  replace S := S.structClose (T := (YE76 ch2.2.2.1 ch2.2.2.2.1)) (e := atE t2.2.2.1.2.1 (t2.1.getD 0)) ((((), (), (), (ch3.1.2.2.2.1.1, ch3.1.2.2.2.1.2), (ch3.1.2.2.2.2.1, ch3.1.2.2.2.2.2)), ((), (), (), (ch3.2.1.2.2.2.1.1, ch3.2.1.2.2.2.1.2), (ch3.2.1.2.2.2.2.1, ch3.2.1.2.2.2.2.2)), (), (), (), (), ()) : ((YE76 ch2.2.2.1 ch2.2.2.2.1)).Ch) rfl .here
  replace S := S.famShut hl2 .here (.there (.there .here))
  replace hw := CL.again hw S (.cons (.there (.there (.there (.there (.there (.there (.there (.there (.there .here))))))))) (.cons (.there (.there (.there (.there (.there (.there (.there (.there (.there .here))))))))) (.cons (.there (.there (.there (.there (.there (.there (.there (.there (.there .here))))))))) .nil))) le
  refine h_back ⟨fun _ => hw, ?_⟩
  refine h_run' S rfl trivial ?_
  have hm1 := S.slotLt (u := 18) rfl
  replace S := S.slotMid (u := 18) rfl
  replace S := S.famOpen (i := ((atE t2.2.2.1.2.1 (t2.1.getD 0)).2.2.2.1)) hm1 (.there (.there (.there .here)))
  refine s_lookO S (z := [0, 0, 0, 0]) (k := x3) rfl .here () rfl (fun h => ⟨(), rfl, h⟩) Try.underlying73 KT35 Z35 ⟨rfl, trivial⟩ rfl ?_; clear S a; intro ch4 a S
  replace S := S.famShut hm1 .here (.there (.there (.there .here)))
  replace S := S.slotMidB (u := 18) hm1 rfl
  refine h_back ⟨fun h => (nomatch h), ?_⟩
  refine p_move S rfl rfl rfl trivial ?_; clear S a; intro a S
  refine p_extract S rfl rfl rfl rfl rfl trivial ?_; clear S a; intro a S
  refine p_extract S rfl rfl rfl rfl rfl trivial ?_; clear S a; intro a S
  refine h_run' S rfl trivial ?_
  refine s_store S rfl rfl rfl (s' := [.ints .u64 ((lk (aget (atE t2.2.2.1.2.2.1 ((atE t2.2.2.1.2.1 (t2.1.getD 0)).2.2.2.1)) x3) [0, 0, 0, 0]).1) 4]) (.there (.there (.there (.there (.there (.there (.there (.there .here)))))))) T35 rfl rfl ?_; clear S; intro w S
  refine h_back ⟨fun h => (nomatch h), ?_⟩
  refine h_run' S rfl trivial ?_
  refine s_assign S rfl rfl ?_; clear S a; intro a S
  refine h_back ⟨fun h => (nomatch h), ?_⟩
  refine h_done ?_; clear CL hw le
  refine x_thenN ?_
  exact j1 _ ((lk (aget (atE t2.2.2.1.2.2.1 ((atE t2.2.2.1.2.1 (t2.1.getD 0)).2.2.2.1)) x3) [0, 0, 0, 0]).2) g10 g3 g2 g1 ch2.1 t2.2.2.1.1 ch2.2.1 ch2.2.2.1 ch2.2.2.2.1 t2.2.2.1.2.1 t2.2.2.1.2.2.1 t2.2.2.1.2.2.2 ch2.2.2.2.2.1 ch2.2.2.2.2.2.1 ch2.2.2.2.2.2.2.1 t2.2.2.2.2.1 ch2.2.2.2.2.2.2.2.1 ch2.2.2.2.2.2.2.2.2.1 ch2.2.2.2.2.2.2.2.2.2.1 t2.2.2.2.2.2.1 ch2.2.2.2.2.2.2.2.2.2.2.1 ch2.2.2.2.2.2.2.2.2.2.2.2.1 ch2.2.2.2.2.2.2.2.2.2.2.2.2 t2.2.2.2.2.2.2 ((lk (aget (atE t2.2.2.1.2.2.1 ((atE t2.2.2.1.2.1 (t2.1.getD 0)).2.2.2.1)) x3) [0, 0, 0, 0]).1) a w (S.sub (subR rfl) (.cons (.there (.there (.there (.there (.there (.there (.there (.there .here)))))))) (.cons .here (.cons .here (.cons .here (.cons .here (.cons .here (.cons .here (.cons .here (.cons .here (.cons .here (.cons .here (.cons .here .nil))))))))))))) h2
 exact h_nil
abbrev smithylaw14_fixed.Ty : Type := Option Bool
def smithylaw14_fixed.Ctr (s : smithylaw14_fixed.Ty) : Prop := ∀ (r : Bool) (h0 : s = some r) (mi : Mem) (w0 : World), okL mi [] → Pre mi [] w0 → Calls Try.prog 6 (([] : List D).map D.val).toArray w0 (RetX mi [] (fun (ch : Unit) => ((.v (.bool r)) : D)) (fun (ch : Unit) => []) w0)
def smithylaw14_fixed.f (k : Nat) : Option Bool := (state_New_0nil.f).bind fun t1 => ((state_State_Set.f k ((t1.1), t1.2.1, t1.2.2.1, t1.2.2.2.1, t1.2.2.2.2.1, t1.2.2.2.2.2) [1, 0, 0, 0, 0, 0, 0, 0, 0, 0, 0, 0, 0, 0, 0, 0, 0, 0, 0, 0] [1, 0, 0, 0] [5, 0, 0, 0]).bind fun t2 => ((state_State_Mark.f ((t1.1), t2.2.1, t1.2.2.1, t2.2.2.2.1, t2.2.2.2.2.1, t2.2.2.2.2.2)).bind fun t3 => ((state_State_Set.f k ((t1.1), t2.2.1, t1.2.2.1, t2.2.2.2.1, t2.2.2.2.2.1, t2.2.2.2.2.2) [1, 0, 0, 0, 0, 0, 0, 0, 0, 0, 0, 0, 0, 0, 0, 0, 0, 0, 0, 0] [1, 0, 0, 0] [7, 0, 0, 0]).bind fun t4 => ((state_State_Back.f k ((t1.1), t4.2.1, t1.2.2.1, t4.2.2.2.1, t4.2.2.2.2.1, t4.2.2.2.2.2) t3).bind fun t5 => ((state_State_Load.f k ((t5.1), t5.2.1, t5.2.2.1, t5.2.2.2.1, t5.2.2.2.2.1, t5.2.2.2.2.2) [1, 0, 0, 0, 0, 0, 0, 0, 0, 0, 0, 0, 0, 0, 0, 0, 0, 0, 0, 0] [1, 0, 0, 0]).bind fun t6 => (some (decide (t6.1 = [5, 0, 0, 0]))))))))
theorem smithylaw14_fixed.ok (k : Nat) : smithylaw14_fixed.Ctr (smithylaw14_fixed.f k) := by
 intro r h0 mi w0 ok hm
 delta smithylaw14_fixed.f at h0
 refine c_enterX (n := 27) [] (l := []) Try.func6 rfl rfl rfl rfl ok hm ?_
 clear ok hm
 intro b0 hb a S
 refine c_region ?_
 refine s_assign S rfl rfl ?_; clear S a; intro a S
 refine c_end ?_
 refine c_region ?_
 obtain ⟨t1, et1, h1⟩ := bind_of h0; clear h0
 refine s_callX S (ds' := [(.v .nilIface)]) (ds := [(.v .nilIface)]) [] [] (fun (ch : W3) => ((.v (.pointer (some ⟨ch.1, 0, none⟩))) : D)) (fun (ch : W3) => [Res.cells ch.1 72 [.rf (.iface 68 (.agg (cellsOf [.sl ch.2.1 (t1.1).length ch.2.2.1 (RdS Y39 ch.2.1 t1.1)]).toArray)) (IfR [.sl ch.2.1 (t1.1).length ch.2.2.1 (RdS Y39 ch.2.1 t1.1)]), .one (.map (some ch.2.2.2.1)), .one (.int .i64 t1.2.2.1), .one (.slice ch.2.2.2.2.2.2.2.1 ch.2.2.2.2.2.2.2.2.1 ch.2.2.2.2.2.2.2.2.2.1), .one (.slice ch.2.2.2.2.2.2.2.2.2.2.1 ch.2.2.2.2.2.2.2.2.2.2.2.1 ch.2.2.2.2.2.2.2.2.2.2.2.2.1), .one (.slice ch.2.2.2.2.2.2.2.2.2.2.2.2.2.1 ch.2.2.2.2.2.2.2.2.2.2.2.2.2.2.1 ch.2.2.2.2.2.2.2.2.2.2.2.2.2.2.2)], Res.map true (Ty.arr .u8 20) false (Ty.pid ch.2.2.2.2.1) ch.2.2.2.1 t1.2.1.1, Res.fam (Res.struct (YE76 ch.2.2.2.2.2.1 ch.2.2.2.2.2.2.1) 76) (one_struct _ _) ch.2.2.2.2.1 [] t1.2.1.2.1, Res.fam (fun g_ kvs_ => Res.map true (Ty.arr .u64 4) true (Ty.arr .u64 4) g_ kvs_) (one_map true (Ty.arr .u64 4) true (Ty.arr .u64 4)) ch.2.2.2.2.2.1 [] t1.2.1.2.2.1, Res.fam (fun g_ kvs_ => Res.map true (Ty.arr .u64 4) false Ty.bool g_ kvs_) (one_map true (Ty.arr .u64 4) false Ty.bool) ch.2.2.2.2.2.2.1 [] t1.2.1.2.2.2, Res.row Y51 51 ch.2.2.2.2.2.2.2.1 ch.2.2.2.2.2.2.2.2.1 ch.2.2.2.2.2.2.2.2.2.1 t1.2.2.2.1, Res.row (YC ch.1 ch.2.2.2.2.1 ch.2.2.2.2.2.1 ch.2.2.2.2.2.2.1) 1 ch.2.2.2.2.2.2.2.2.2.2.1 ch.2.2.2.2.2.2.2.2.2.2.2.1 ch.2.2.2.2.2.2.2.2.2.2.2.2.1 t1.2.2.2.2.1, Res.row (Ty.arr .u8 20) 31 ch.2.2.2.2.2.2.2.2.2.2.2.2.2.1 ch.2.2.2.2.2.2.2.2.2.2.2.2.2.2.1 ch.2.2.2.2.2.2.2.2.2.2.2.2.2.2.2 t1.2.2.2.2.2]) (fun (ch : W3) => [Res.cells ch.1 72 [.rf (.iface 68 (.agg (cellsOf [.sl ch.2.1 (t1.1).length ch.2.2.1 (RdS Y39 ch.2.1 t1.1)]).toArray)) (IfR [.sl ch.2.1 (t1.1).length ch.2.2.1 (RdS Y39 ch.2.1 t1.1)]), .one (.map (some ch.2.2.2.1)), .one (.int .i64 t1.2.2.1), .one (.slice ch.2.2.2.2.2.2.2.1 ch.2.2.2.2.2.2.2.2.1 ch.2.2.2.2.2.2.2.2.2.1), .one (.slice ch.2.2.2.2.2.2.2.2.2.2.1 ch.2.2.2.2.2.2.2.2.2.2.2.1 ch.2.2.2.2.2.2.2.2.2.2.2.2.1), .one (.slice ch.2.2.2.2.2.2.2.2.2.2.2.2.2.1 ch.2.2.2.2.2.2.2.2.2.2.2.2.2.2.1 ch.2.2.2.2.2.2.2.2.2.2.2.2.2.2.2)], Res.map true (Ty.arr .u8 20) false (Ty.pid ch.2.2.2.2.1) ch.2.2.2.1 t1.2.1.1, Res.fam (Res.struct (YE76 ch.2.2.2.2.2.1 ch.2.2.2.2.2.2.1) 76) (one_struct _ _) ch.2.2.2.2.1 [] t1.2.1.2.1, Res.fam (fun g_ kvs_ => Res.map true (Ty.arr .u64 4) true (Ty.arr .u64 4) g_ kvs_) (one_map true (Ty.arr .u64 4) true (Ty.arr .u64 4)) ch.2.2.2.2.2.1 [] t1.2.1.2.2.1, Res.fam (fun g_ kvs_ => Res.map true (Ty.arr .u64 4) false Ty.bool g_ kvs_) (one_map true (Ty.arr .u64 4) false Ty.bool) ch.2.2.2.2.2.2.1 [] t1.2.1.2.2.2, Res.row Y51 51 ch.2.2.2.2.2.2.2.1 ch.2.2.2.2.2.2.2.2.1 ch.2.2.2.2.2.2.2.2.2.1 t1.2.2.2.1, Res.row (YC ch.1 ch.2.2.2.2.1 ch.2.2.2.2.2.1 ch.2.2.2.2.2.2.1) 1 ch.2.2.2.2.2.2.2.2.2.2.1 ch.2.2.2.2.2.2.2.2.2.2.2.1 ch.2.2.2.2.2.2.2.2.2.2.2.2.1 t1.2.2.2.2.1, Res.row (Ty.arr .u8 20) 31 ch.2.2.2.2.2.2.2.2.2.2.2.2.2.1 ch.2.2.2.2.2.2.2.2.2.2.2.2.2.2.1 ch.2.2.2.2.2.2.2.2.2.2.2.2.2.2.2 t1.2.2.2.2.2]) (fun _ => rfl) N7 rfl rfl (fun ok => ok) .nil rfl (state_New_0nil.ok t1 et1 _ _) ?_; clear S a; intro ch1 m le1 a w S
 refine s_assign S rfl rfl ?_; clear S a; intro a S
 refine c_end ?_
 refine wp_seq ?_
 refine c_region ?_
 refine s_move S rfl rfl ?_; clear S a; intro a S
 refine s_eqp S (b := false) rfl rfl Try.underlying26 rfl rfl ?_; clear S a; intro a S
 refine c_end ?_
 refine c_condF S rfl rfl ?_
 refine wp_skip ?_
 refine x_thenN ?_
 refine c_region ?_
 refine s_move S rfl rfl ?_; clear S a; intro a S
 refine s_build S (ds := [(0, (.v (.int .u8 1)))]) (dv := (.agg [.ints .u8 [1, 0, 0, 0, 0, 0, 0, 0, 0, 0, 0, 0, 0, 0, 0, 0, 0, 0, 0, 0] 20])) rfl (fun _ => by kernel_rfl) ⟨rfl, trivial⟩ rfl ?_; clear S a; intro a S
 refine s_build S (ds := [(0, (.v (.int .u64 1)))]) (dv := (.agg [.ints .u64 [1, 0, 0, 0] 4])) rfl (fun _ => by kernel_rfl) ⟨rfl, trivial⟩ rfl ?_; clear S a; intro a S
 refine s_build S (ds := [(0, (.v (.int .u64 5)))]) (dv := (.agg [.ints .u64 [5, 0, 0, 0] 4])) rfl (fun _ => by kernel_rfl) ⟨rfl, trivial⟩ rfl ?_; clear S a; intro a S
 obtain ⟨t2, et2, h2⟩ := bind_of h1; clear h1
 refine s_callX S (ds' := [(.v (.pointer (some ⟨ch1.1, 0, none⟩))), (.agg [.ints .u8 [1, 0, 0, 0, 0, 0, 0, 0, 0, 0, 0, 0, 0, 0, 0, 0, 0, 0, 0, 0] 20]), (.agg [.ints .u64 [1, 0, 0, 0] 4]), (.agg [.ints .u64 [5, 0, 0, 0] 4])]) (ds := [(.v (.pointer (some ⟨ch1.1, 0, none⟩))), (.agg [.ints .u8 [1, 0, 0, 0, 0, 0, 0, 0, 0, 0, 0, 0, 0, 0, 0, 0, 0, 0, 0, 0] 20]), (.agg [.ints .u64 [1, 0, 0, 0] 4]), (.agg [.ints .u64 [5, 0, 0, 0] 4])]) [Res.cells ch1.1 72 [.rf (.iface 68 (.agg (cellsOf [.sl ch1.2.1 (t1.1).length ch1.2.2.1 (RdS Y39 ch1.2.1 t1.1)]).toArray)) (IfR [.sl ch1.2.1 (t1.1).length ch1.2.2.1 (RdS Y39 ch1.2.1 t1.1)]), .one (.map (some ch1.2.2.2.1)), .one (.int .i64 t1.2.2.1), .one (.slice ch1.2.2.2.2.2.2.2.1 ch1.2.2.2.2.2.2.2.2.1 ch1.2.2.2.2.2.2.2.2.2.1), .one (.slice ch1.2.2.2.2.2.2.2.2.2.2.1 ch1.2.2.2.2.2.2.2.2.2.2.2.1 ch1.2.2.2.2.2.2.2.2.2.2.2.2.1), .one (.slice ch1.2.2.2.2.2.2.2.2.2.2.2.2.2.1 ch1.2.2.2.2.2.2.2.2.2.2.2.2.2.2.1 ch1.2.2.2.2.2.2.2.2.2.2.2.2.2.2.2)], Res.map true (Ty.arr .u8 20) false (Ty.pid ch1.2.2.2.2.1) ch1.2.2.2.1 t1.2.1.1, Res.fam (Res.struct (YE76 ch1.2.2.2.2.2.1 ch1.2.2.2.2.2.2.1) 76) (one_struct _ _) ch1.2.2.2.2.1 [] t1.2.1.2.1, Res.fam (fun g_ kvs_ => Res.map true (Ty.arr .u64 4) true (Ty.arr .u64 4) g_ kvs_) (one_map true (Ty.arr .u64 4) true (Ty.arr .u64 4)) ch1.2.2.2.2.2.1 [] t1.2.1.2.2.1, Res.fam (fun g_ kvs_ => Res.map true (Ty.arr .u64 4) false Ty.bool g_ kvs_) (one_map true (Ty.arr .u64 4) false Ty.bool) ch1.2.2.2.2.2.2.1 [] t1.2.1.2.2.2, Res.row Y51 51 ch1.2.2.2.2.2.2.2.1 ch1.2.2.2.2.2.2.2.2.1 ch1.2.2.2.2.2.2.2.2.2.1 t1.2.2.2.1, Res.row (YC ch1.1 ch1.2.2.2.2.1 ch1.2.2.2.2.2.1 ch1.2.2.2.2.2.2.1) 1 ch1.2.2.2.2.2.2.2.2.2.2.1 ch1.2.2.2.2.2.2.2.2.2.2.2.1 ch1.2.2.2.2.2.2.2.2.2.2.2.2.1 t1.2.2.2.2.1, Res.row (Ty.arr .u8 20) 31 ch1.2.2.2.2.2.2.2.2.2.2.2.2.2.1 ch1.2.2.2.2.2.2.2.2.2.2.2.2.2.2.1 ch1.2.2.2.2.2.2.2.2.2.2.2.2.2.2.2 t1.2.2.2.2.2] [] (fun (ch : W7) => ((.tup []) : D)) (fun (ch : W7) => [Res.cells ch1.1 72 [.rf (.iface 68 (.agg (cellsOf [.sl ch1.2.1 (t1.1).length ch1.2.2.1 (RdS Y39 ch1.2.1 t1.1)]).toArray)) (IfR [.sl ch1.2.1 (t1.1).length ch1.2.2.1 (RdS Y39 ch1.2.1 t1.1)]), .one (.map (some ch.1)), .one (.int .i64 t1.2.2.1), .one (.slice ch.2.2.2.2.1 ch.2.2.2.2.2.1 ch.2.2.2.2.2.2.1), .one (.slice ch.2.2.2.2.2.2.2.1 ch.2.2.2.2.2.2.2.2.1 ch.2.2.2.2.2.2.2.2.2.1), .one (.slice ch.2.2.2.2.2.2.2.2.2.2.1 ch.2.2.2.2.2.2.2.2.2.2.2.1 ch.2.2.2.2.2.2.2.2.2.2.2.2)], Res.map true (Ty.arr .u8 20) false (Ty.pid ch.2.1) ch.1 t2.2.1.1, Res.fam (Res.struct (YE76 ch.2.2.1 ch.2.2.2.1) 76) (one_struct _ _) ch.2.1 [] t2.2.1.2.1, Res.fam (fun g_ kvs_ => Res.map true (Ty.arr .u64 4) true (Ty.arr .u64 4) g_ kvs_) (one_map true (Ty.arr .u64 4) true (Ty.arr .u64 4)) ch.2.2.1 [] t2.2.1.2.2.1, Res.fam (fun g_ kvs_ => Res.map true (Ty.arr .u64 4) false Ty.bool g_ kvs_) (one_map true (Ty.arr .u64 4) false Ty.bool) ch.2.2.2.1 [] t2.2.1.2.2.2, Res.row Y51 51 ch.2.2.2.2.1 ch.2.2.2.2.2.1 ch.2.2.2.2.2.2.1 t2.2.2.2.1, Res.row (YC ch1.1 ch.2.1 ch.2.2.1 ch.2.2.2.1) 1 ch.2.2.2.2.2.2.2.1 ch.2.2.2.2.2.2.2.2.1 ch.2.2.2.2.2.2.2.2.2.1 t2.2.2.2.2.1, Res.row (Ty.arr .u8 20) 31 ch.2.2.2.2.2.2.2.2.2.2.1 ch.2.2.2.2.2.2.2.2.2.2.2.1 ch.2.2.2.2.2.2.2.2.2.2.2.2 t2.2.2.2.2.2]) (fun (ch : W7) => [Res.cells ch1.1 72 [.rf (.iface 68 (.agg (cellsOf [.sl ch1.2.1 (t1.1).length ch1.2.2.1 (RdS Y39 ch1.2.1 t1.1)]).toArray)) (IfR [.sl ch1.2.1 (t1.1).length ch1.2.2.1 (RdS Y39 ch1.2.1 t1.1)]), .one (.map (some ch.1)), .one (.int .i64 t1.2.2.1), .one (.slice ch.2.2.2.2.1 ch.2.2.2.2.2.1 ch.2.2.2.2.2.2.1), .one (.slice ch.2.2.2.2.2.2.2.1 ch.2.2.2.2.2.2.2.2.1 ch.2.2.2.2.2.2.2.2.2.1), .one (.slice ch.2.2.2.2.2.2.2.2.2.2.1 ch.2.2.2.2.2.2.2.2.2.2.2.1 ch.2.2.2.2.2.2.2.2.2.2.2.2)], Res.map true (Ty.arr .u8 20) false (Ty.pid ch.2.1) ch.1 t2.2.1.1, Res.fam (Res.struct (YE76 ch.2.2.1 ch.2.2.2.1) 76) (one_struct _ _) ch.2.1 [] t2.2.1.2.1, Res.fam (fun g_ kvs_ => Res.map true (Ty.arr .u64 4) true (Ty.arr .u64 4) g_ kvs_) (one_map true (Ty.arr .u64 4) true (Ty.arr .u64 4)) ch.2.2.1 [] t2.2.1.2.2.1, Res.fam (fun g_ kvs_ => Res.map true (Ty.arr .u64 4) false Ty.bool g_ kvs_) (one_map true (Ty.arr .u64 4) false Ty.bool) ch.2.2.2.1 [] t2.2.1.2.2.2, Res.row Y51 51 ch.2.2.2.2.1 ch.2.2.2.2.2.1 ch.2.2.2.2.2.2.1 t2.2.2.2.1, Res.row (YC ch1.1 ch.2.1 ch.2.2.1 ch.2.2.2.1) 1 ch.2.2.2.2.2.2.2.1 ch.2.2.2.2.2.2.2.2.1 ch.2.2.2.2.2.2.2.2.2.1 t2.2.2.2.2.1, Res.row (Ty.arr .u8 20) 31 ch.2.2.2.2.2.2.2.2.2.2.1 ch.2.2.2.2.2.2.2.2.2.2.2.1 ch.2.2.2.2.2.2.2.2.2.2.2.2 t2.2.2.2.2.2]) (fun _ => rfl) N15 rfl rfl (fun ok => ok) (.cons .here (.cons .here (.cons .here (.cons .here (.cons .here (.cons .here (.cons .here (.cons .here .nil)))))))) rfl (state_State_Set.ok k ((t1.1), t1.2.1, t1.2.2.1, t1.2.2.2.1, t1.2.2.2.2.1, t1.2.2.2.2.2) [1, 0, 0, 0, 0, 0, 0, 0, 0, 0, 0, 0, 0, 0, 0, 0, 0, 0, 0, 0] [1, 0, 0, 0] [5, 0, 0, 0] ch1.1 ch1.2.1 ch1.2.2.1 ch1.2.2.2.1 ch1.2.2.2.2.1 ch1.2.2.2.2.2.1 ch1.2.2.2.2.2.2.1 ch1.2.2.2.2.2.2.2.1 ch1.2.2.2.2.2.2.2.2.1 ch1.2.2.2.2.2.2.2.2.2.1 ch1.2.2.2.2.2.2.2.2.2.2.1 ch1.2.2.2.2.2.2.2.2.2.2.2.1 ch1.2.2.2.2.2.2.2.2.2.2.2.2.1 ch1.2.2.2.2.2.2.2.2.2.2.2.2.2.1 ch1.2.2.2.2.2.2.2.2.2.2.2.2.2.2.1 ch1.2.2.2.2.2.2.2.2.2.2.2.2.2.2.2 t2 et2 _ _) ?_; clear S a w; intro ch2 m le1 a w S
 refine c_end ?_
 refine c_region ?_
 refine s_move S rfl rfl ?_; clear S a; intro a S
 obtain ⟨t3, et3, h3⟩ := bind_of h2; clear h2
 refine s_callX S (ds' := [(.v (.pointer (some ⟨ch1.1, 0, none⟩)))]) (ds := [(.v (.pointer (some ⟨ch1.1, 0, none⟩)))]) [Res.cells ch1.1 72 [.rf (.iface 68 (.agg (cellsOf [.sl ch1.2.1 (t1.1).length ch1.2.2.1 (RdS Y39 ch1.2.1 t1.1)]).toArray)) (IfR [.sl ch1.2.1 (t1.1).length ch1.2.2.1 (RdS Y39 ch1.2.1 t1.1)]), .one (.map (some ch2.1)), .one (.int .i64 t1.2.2.1), .one (.slice ch2.2.2.2.2.1 ch2.2.2.2.2.2.1 ch2.2.2.2.2.2.2.1), .one (.slice ch2.2.2.2.2.2.2.2.1 ch2.2.2.2.2.2.2.2.2.1 ch2.2.2.2.2.2.2.2.2.2.1), .one (.slice ch2.2.2.2.2.2.2.2.2.2.2.1 ch2.2.2.2.2.2.2.2.2.2.2.2.1 ch2.2.2.2.2.2.2.2.2.2.2.2.2)], Res.map true (Ty.arr .u8 20) false (Ty.pid ch2.2.1) ch2.1 t2.2.1.1, Res.fam (Res.struct (YE76 ch2.2.2.1 ch2.2.2.2.1) 76) (one_struct _ _) ch2.2.1 [] t2.2.1.2.1, Res.fam (fun g_ kvs_ => Res.map true (Ty.arr .u64 4) true (Ty.arr .u64 4) g_ kvs_) (one_map true (Ty.arr .u64 4) true (Ty.arr .u64 4)) ch2.2.2.1 [] t2.2.1.2.2.1, Res.fam (fun g_ kvs_ => Res.map true (Ty.arr .u64 4) false Ty.bool g_ kvs_) (one_map true (Ty.arr .u64 4) false Ty.bool) ch2.2.2.2.1 [] t2.2.1.2.2.2, Res.row Y51 51 ch2.2.2.2.2.1 ch2.2.2.2.2.2.1 ch2.2.2.2.2.2.2.1 t2.2.2.2.1, Res.row (YC ch1.1 ch2.2.1 ch2.2.2.1 ch2.2.2.2.1) 1 ch2.2.2.2.2.2.2.2.1 ch2.2.2.2.2.2.2.2.2.1 ch2.2.2.2.2.2.2.2.2.2.1 t2.2.2.2.2.1, Res.row (Ty.arr .u8 20) 31 ch2.2.2.2.2.2.2.2.2.2.2.1 ch2.2.2.2.2.2.2.2.2.2.2.2.1 ch2.2.2.2.2.2.2.2.2.2.2.2.2 t2.2.2.2.2.2] [] (fun (ch : Unit) => ((.v (.int .i64 t3)) : D)) (fun (ch : Unit) => [Res.cells ch1.1 72 [.rf (.iface 68 (.agg (cellsOf [.sl ch1.2.1 (t1.1).length ch1.2.2.1 (RdS Y39 ch1.2.1 t1.1)]).toArray)) (IfR [.sl ch1.2.1 (t1.1).length ch1.2.2.1 (RdS Y39 ch1.2.1 t1.1)]), .one (.map (some ch2.1)), .one (.int .i64 t1.2.2.1), .one (.slice ch2.2.2.2.2.1 ch2.2.2.2.2.2.1 ch2.2.2.2.2.2.2.1), .one (.slice ch2.2.2.2.2.2.2.2.1 ch2.2.2.2.2.2.2.2.2.1 ch2.2.2.2.2.2.2.2.2.2.1), .one (.slice ch2.2.2.2.2.2.2.2.2.2.2.1 ch2.2.2.2.2.2.2.2.2.2.2.2.1 ch2.2.2.2.2.2.2.2.2.2.2.2.2)], Res.map true (Ty.arr .u8 20) false (Ty.pid ch2.2.1) ch2.1 t2.2.1.1, Res.fam (Res.struct (YE76 ch2.2.2.1 ch2.2.2.2.1) 76) (one_struct _ _) ch2.2.1 [] t2.2.1.2.1, Res.fam (fun g_ kvs_ => Res.map true (Ty.arr .u64 4) true (Ty.arr .u64 4) g_ kvs_) (one_map true (Ty.arr .u64 4) true (Ty.arr .u64 4)) ch2.2.2.1 [] t2.2.1.2.2.1, Res.fam (fun g_ kvs_ => Res.map true (Ty.arr .u64 4) false Ty.bool g_ kvs_) (one_map true (Ty.arr .u64 4) false Ty.bool) ch2.2.2.2.1 [] t2.2.1.2.2.2, Res.row Y51 51 ch2.2.2.2.2.1 ch2.2.2.2.2.2.1 ch2.2.2.2.2.2.2.1 t2.2.2.2.1, Res.row (YC ch1.1 ch2.2.1 ch2.2.2.1 ch2.2.2.2.1) 1 ch2.2.2.2.2.2.2.2.1 ch2.2.2.2.2.2.2.2.2.1 ch2.2.2.2.2.2.2.2.2.2.1 t2.2.2.2.2.1, Res.row (Ty.arr .u8 20) 31 ch2.2.2.2.2.2.2.2.2.2.2.1 ch2.2.2.2.2.2.2.2.2.2.2.2.1 ch2.2.2.2.2.2.2.2.2.2.2.2.2 t2.2.2.2.2.2]) (fun (ch : Unit) => [Res.cells ch1.1 72 [.rf (.iface 68 (.agg (cellsOf [.sl ch1.2.1 (t1.1).length ch1.2.2.1 (RdS Y39 ch1.2.1 t1.1)]).toArray)) (IfR [.sl ch1.2.1 (t1.1).length ch1.2.2.1 (RdS Y39 ch1.2.1 t1.1)]), .one (.map (some ch2.1)), .one (.int .i64 t1.2.2.1), .one (.slice ch2.2.2.2.2.1 ch2.2.2.2.2.2.1 ch2.2.2.2.2.2.2.1), .one (.slice ch2.2.2.2.2.2.2.2.1 ch2.2.2.2.2.2.2.2.2.1 ch2.2.2.2.2.2.2.2.2.2.1), .one (.slice ch2.2.2.2.2.2.2.2.2.2.2.1 ch2.2.2.2.2.2.2.2.2.2.2.2.1 ch2.2.2.2.2.2.2.2.2.2.2.2.2)], Res.map true (Ty.arr .u8 20) false (Ty.pid ch2.2.1) ch2.1 t2.2.1.1, Res.fam (Res.struct (YE76 ch2.2.2.1 ch2.2.2.2.1) 76) (one_struct _ _) ch2.2.1 [] t2.2.1.2.1, Res.fam (fun g_ kvs_ => Res.map true (Ty.arr .u64 4) true (Ty.arr .u64 4) g_ kvs_) (one_map true (Ty.arr .u64 4) true (Ty.arr .u64 4)) ch2.2.2.1 [] t2.2.1.2.2.1, Res.fam (fun g_ kvs_ => Res.map true (Ty.arr .u64 4) false Ty.bool g_ kvs_) (one_map true (Ty.arr .u64 4) false Ty.bool) ch2.2.2.2.1 [] t2.2.1.2.2.2, Res.row Y51 51 ch2.2.2.2.2.1 ch2.2.2.2.2.2.1 ch2.2.2.2.2.2.2.1 t2.2.2.2.1, Res.row (YC ch1.1 ch2.2.1 ch2.2.2.1 ch2.2.2.2.1) 1 ch2.2.2.2.2.2.2.2.1 ch2.2.2.2.2.2.2.2.2.1 ch2.2.2.2.2.2.2.2.2.2.1 t2.2.2.2.2.1, Res.row (Ty.arr .u8 20) 31 ch2.2.2.2.2.2.2.2.2.2.2.1 ch2.2.2.2.2.2.2.2.2.2.2.2.1 ch2.2.2.2.2.2.2.2.2.2.2.2.2 t2.2.2.2.2.2]) (fun _ => rfl) N24 rfl rfl (fun ok => ok) (.cons .here (.cons .here (.cons .here (.cons .here (.cons .here (.cons .here (.cons .here (.cons .here .nil)))))))) rfl (state_State_Mark.ok ((t1.1), t2.2.1, t1.2.2.1, t2.2.2.2.1, t2.2.2.2.2.1, t2.2.2.2.2.2) ch1.1 ch1.2.1 ch1.2.2.1 ch2.1 ch2.2.1 ch2.2.2.1 ch2.2.2.2.1 ch2.2.2.2.2.1 ch2.2.2.2.2.2.1 ch2.2.2.2.2.2.2.1 ch2.2.2.2.2.2.2.2.1 ch2.2.2.2.2.2.2.2.2.1 ch2.2.2.2.2.2.2.2.2.2.1 ch2.2.2.2.2.2.2.2.2.2.2.1 ch2.2.2.2.2.2.2.2.2.2.2.2.1 ch2.2.2.2.2.2.2.2.2.2.2.2.2 t3 et3 _ _) ?_; clear S a w; intro ch3 m le1 a w S
 refine s_assign S rfl rfl ?_; clear S a; intro a S
 refine c_end ?_
 refine c_region ?_
 refine s_move S rfl rfl ?_; clear S a; intro a S
 refine s_build S (ds := [(0, (.v (.int .u8 1)))]) (dv := (.agg [.ints .u8 [1, 0, 0, 0, 0, 0, 0, 0, 0, 0, 0, 0, 0, 0, 0, 0, 0, 0, 0, 0] 20])) rfl (fun _ => by kernel_rfl) ⟨rfl, trivial⟩ rfl ?_; clear S a; intro a S
 refine s_build S (ds := [(0, (.v (.int .u64 1)))]) (dv := (.agg [.ints .u64 [1, 0, 0, 0] 4])) rfl (fun _ => by kernel_rfl) ⟨rfl, trivial⟩ rfl ?_; clear S a; intro a S
 refine s_build S (ds := [(0, (.v (.int .u64 7)))]) (dv := (.agg [.ints .u64 [7, 0, 0, 0] 4])) rfl (fun _ => by kernel_rfl) ⟨rfl, trivial⟩ rfl ?_; clear S a; intro a S
 obtain ⟨t4, et4, h4⟩ := bind_of h3; clear h3
 refine s_callX S (ds' := [(.v (.pointer (some ⟨ch1.1, 0, none⟩))), (.agg [.ints .u8 [1, 0, 0, 0, 0, 0, 0, 0, 0, 0, 0, 0, 0, 0, 0, 0, 0, 0, 0, 0] 20]), (.agg [.ints .u64 [1, 0, 0, 0] 4]), (.agg [.ints .u64 [7, 0, 0, 0] 4])]) (ds := [(.v (.pointer (some ⟨ch1.1, 0, none⟩))), (.agg [.ints .u8 [1, 0, 0, 0, 0, 0, 0, 0, 0, 0, 0, 0, 0, 0, 0, 0, 0, 0, 0, 0] 20]), (.agg [.ints .u64 [1, 0, 0, 0] 4]), (.agg [.ints .u64 [7, 0, 0, 0] 4])]) [Res.cells ch1.1 72 [.rf (.iface 68 (.agg (cellsOf [.sl ch1.2.1 (t1.1).length ch1.2.2.1 (RdS Y39 ch1.2.1 t1.1)]).toArray)) (IfR [.sl ch1.2.1 (t1.1).length ch1.2.2.1 (RdS Y39 ch1.2.1 t1.1)]), .one (.map (some ch2.1)), .one (.int .i64 t1.2.2.1), .one (.slice ch2.2.2.2.2.1 ch2.2.2.2.2.2.1 ch2.2.2.2.2.2.2.1), .one (.slice ch2.2.2.2.2.2.2.2.1 ch2.2.2.2.2.2.2.2.2.1 ch2.2.2.2.2.2.2.2.2.2.1), .one (.slice ch2.2.2.2.2.2.2.2.2.2.2.1 ch2.2.2.2.2.2.2.2.2.2.2.2.1 ch2.2.2.2.2.2.2.2.2.2.2.2.2)], Res.map true (Ty.arr .u8 20) false (Ty.pid ch2.2.1) ch2.1 t2.2.1.1, Res.fam (Res.struct (YE76 ch2.2.2.1 ch2.2.2.2.1) 76) (one_struct _ _) ch2.2.1 [] t2.2.1.2.1, Res.fam (fun g_ kvs_ => Res.map true (Ty.arr .u64 4) true (Ty.arr .u64 4) g_ kvs_) (one_map true (Ty.arr .u64 4) true (Ty.arr .u64 4)) ch2.2.2.1 [] t2.2.1.2.2.1, Res.fam (fun g_ kvs_ => Res.map true (Ty.arr .u64 4) false Ty.bool g_ kvs_) (one_map true (Ty.arr .u64 4) false Ty.bool) ch2.2.2.2.1 [] t2.2.1.2.2.2, Res.row Y51 51 ch2.2.2.2.2.1 ch2.2.2.2.2.2.1 ch2.2.2.2.2.2.2.1 t2.2.2.2.1, Res.row (YC ch1.1 ch2.2.1 ch2.2.2.1 ch2.2.2.2.1) 1 ch2.2.2.2.2.2.2.2.1 ch2.2.2.2.2.2.2.2.2.1 ch2.2.2.2.2.2.2.2.2.2.1 t2.2.2.2.2.1, Res.row (Ty.arr .u8 20) 31 ch2.2.2.2.2.2.2.2.2.2.2.1 ch2.2.2.2.2.2.2.2.2.2.2.2.1 ch2.2.2.2.2.2.2.2.2.2.2.2.2 t2.2.2.2.2.2] [] (fun (ch : W7) => ((.tup []) : D)) (fun (ch : W7) => [Res.cells ch1.1 72 [.rf (.iface 68 (.agg (cellsOf [.sl ch1.2.1 (t1.1).length ch1.2.2.1 (RdS Y39 ch1.2.1 t1.1)]).toArray)) (IfR [.sl ch1.2.1 (t1.1).length ch1.2.2.1 (RdS Y39 ch1.2.1 t1.1)]), .one (.map (some ch.1)), .one (.int .i64 t1.2.2.1), .one (.slice ch.2.2.2.2.1 ch.2.2.2.2.2.1 ch.2.2.2.2.2.2.1), .one (.slice ch.2.2.2.2.2.2.2.1 ch.2.2.2.2.2.2.2.2.1 ch.2.2.2.2.2.2.2.2.2.1), .one (.slice ch.2.2.2.2.2.2.2.2.2.2.1 ch.2.2.2.2.2.2.2.2.2.2.2.1 ch.2.2.2.2.2.2.2.2.2.2.2.2)], Res.map true (Ty.arr .u8 20) false (Ty.pid ch.2.1) ch.1 t4.2.1.1, Res.fam (Res.struct (YE76 ch.2.2.1 ch.2.2.2.1) 76) (one_struct _ _) ch.2.1 [] t4.2.1.2.1, Res.fam (fun g_ kvs_ => Res.map true (Ty.arr .u64 4) true (Ty.arr .u64 4) g_ kvs_) (one_map true (Ty.arr .u64 4) true (Ty.arr .u64 4)) ch.2.2.1 [] t4.2.1.2.2.1, Res.fam (fun g_ kvs_ => Res.map true (Ty.arr .u64 4) false Ty.bool g_ kvs_) (one_map true (Ty.arr .u64 4) false Ty.bool) ch.2.2.2.1 [] t4.2.1.2.2.2, Res.row Y51 51 ch.2.2.2.2.1 ch.2.2.2.2.2.1 ch.2.2.2.2.2.2.1 t4.2.2.2.1, Res.row (YC ch1.1 ch.2.1 ch.2.2.1 ch.2.2.2.1) 1 ch.2.2.2.2.2.2.2.1 ch.2.2.2.2.2.2.2.2.1 ch.2.2.2.2.2.2.2.2.2.1 t4.2.2.2.2.1, Res.row (Ty.arr .u8 20) 31 ch.2.2.2.2.2.2.2.2.2.2.1 ch.2.2.2.2.2.2.2.2.2.2.2.1 ch.2.2.2.2.2.2.2.2.2.2.2.2 t4.2.2.2.2.2]) (fun (ch : W7) => [Res.cells ch1.1 72 [.rf (.iface 68 (.agg (cellsOf [.sl ch1.2.1 (t1.1).length ch1.2.2.1 (RdS Y39 ch1.2.1 t1.1)]).toArray)) (IfR [.sl ch1.2.1 (t1.1).length ch1.2.2.1 (RdS Y39 ch1.2.1 t1.1)]), .one (.map (some ch.1)), .one (.int .i64 t1.2.2.1), .one (.slice ch.2.2.2.2.1 ch.2.2.2.2.2.1 ch.2.2.2.2.2.2.1), .one (.slice ch.2.2.2.2.2.2.2.1 ch.2.2.2.2.2.2.2.2.1 ch.2.2.2.2.2.2.2.2.2.1), .one (.slice ch.2.2.2.2.2.2.2.2.2.2.1 ch.2.2.2.2.2.2.2.2.2.2.2.1 ch.2.2.2.2.2.2.2.2.2.2.2.2)], Res.map true (Ty.arr .u8 20) false (Ty.pid ch.2.1) ch.1 t4.2.1.1, Res.fam (Res.struct (YE76 ch.2.2.1 ch.2.2.2.1) 76) (one_struct _ _) ch.2.1 [] t4.2.1.2.1, Res.fam (fun g_ kvs_ => Res.map true (Ty.arr .u64 4) true (Ty.arr .u64 4) g_ kvs_) (one_map true (Ty.arr .u64 4) true (Ty.arr .u64 4)) ch.2.2.1 [] t4.2.1.2.2.1, Res.fam (fun g_ kvs_ => Res.map true (Ty.arr .u64 4) false Ty.bool g_ kvs_) (one_map true (Ty.arr .u64 4) false Ty.bool) ch.2.2.2.1 [] t4.2.1.2.2.2, Res.row Y51 51 ch.2.2.2.2.1 ch.2.2.2.2.2.1 ch.2.2.2.2.2.2.1 t4.2.2.2.1, Res.row (YC ch1.1 ch.2.1 ch.2.2.1 ch.2.2.2.1) 1 ch.2.2.2.2.2.2.2.1 ch.2.2.2.2.2.2.2.2.1 ch.2.2.2.2.2.2.2.2.2.1 t4.2.2.2.2.1, Res.row (Ty.arr .u8 20) 31 ch.2.2.2.2.2.2.2.2.2.2.1 ch.2.2.2.2.2.2.2.2.2.2.2.1 ch.2.2.2.2.2.2.2.2.2.2.2.2 t4.2.2.2.2.2]) (fun _ => rfl) N15 rfl rfl (fun ok => ok) (.cons .here (.cons .here (.cons .here (.cons .here (.cons .here (.cons .here (.cons .here (.cons .here .nil)))))))) rfl (state_State_Set.ok k ((t1.1), t2.2.1, t1.2.2.1, t2.2.2.2.1, t2.2.2.2.2.1, t2.2.2.2.2.2) [1, 0, 0, 0, 0, 0, 0, 0, 0, 0, 0, 0, 0, 0, 0, 0, 0, 0, 0, 0] [1, 0, 0, 0] [7, 0, 0, 0] ch1.1 ch1.2.1 ch1.2.2.1 ch2.1 ch2.2.1 ch2.2.2.1 ch2.2.2.2.1 ch2.2.2.2.2.1 ch2.2.2.2.2.2.1 ch2.2.2.2.2.2.2.1 ch2.2.2.2.2.2.2.2.1 ch2.2.2.2.2.2.2.2.2.1 ch2.2.2.2.2.2.2.2.2.2.1 ch2.2.2.2.2.2.2.2.2.2.2.1 ch2.2.2.2.2.2.2.2.2.2.2.2.1 ch2.2.2.2.2.2.2.2.2.2.2.2.2 t4 et4 _ _) ?_; clear S a w; intro ch4 m le1 a w S
 refine c_end ?_
 refine c_region ?_
 refine s_move S rfl rfl ?_; clear S a; intro a S
 refine s_move S rfl rfl ?_; clear S a; intro a S
 obtain ⟨t5, et5, h5⟩ := bind_of h4; clear h4
 refine s_callX S (ds' := [(.v (.pointer (some ⟨ch1.1, 0, none⟩))), (.v (.int .i64 t3))]) (ds := [(.v (.pointer (some ⟨ch1.1, 0, none⟩))), (.v (.int .i64 t3))]) [Res.cells ch1.1 72 [.rf (.iface 68 (.agg (cellsOf [.sl ch1.2.1 (t1.1).length ch1.2.2.1 (RdS Y39 ch1.2.1 t1.1)]).toArray)) (IfR [.sl ch1.2.1 (t1.1).length ch1.2.2.1 (RdS Y39 ch1.2.1 t1.1)]), .one (.map (some ch4.1)), .one (.int .i64 t1.2.2.1), .one (.slice ch4.2.2.2.2.1 ch4.2.2.2.2.2.1 ch4.2.2.2.2.2.2.1), .one (.slice ch4.2.2.2.2.2.2.2.1 ch4.2.2.2.2.2.2.2.2.1 ch4.2.2.2.2.2.2.2.2.2.1), .one (.slice ch4.2.2.2.2.2.2.2.2.2.2.1 ch4.2.2.2.2.2.2.2.2.2.2.2.1 ch4.2.2.2.2.2.2.2.2.2.2.2.2)], Res.map true (Ty.arr .u8 20) false (Ty.pid ch4.2.1) ch4.1 t4.2.1.1, Res.fam (Res.struct (YE76 ch4.2.2.1 ch4.2.2.2.1) 76) (one_struct _ _) ch4.2.1 [] t4.2.1.2.1, Res.fam (fun g_ kvs_ => Res.map true (Ty.arr .u64 4) true (Ty.arr .u64 4) g_ kvs_) (one_map true (Ty.arr .u64 4) true (Ty.arr .u64 4)) ch4.2.2.1 [] t4.2.1.2.2.1, Res.fam (fun g_ kvs_ => Res.map true (Ty.arr .u64 4) false Ty.bool g_ kvs_) (one_map true (Ty.arr .u64 4) false Ty.bool) ch4.2.2.2.1 [] t4.2.1.2.2.2, Res.row Y51 51 ch4.2.2.2.2.1 ch4.2.2.2.2.2.1 ch4.2.2.2.2.2.2.1 t4.2.2.2.1, Res.row (YC ch1.1 ch4.2.1 ch4.2.2.1 ch4.2.2.2.1) 1 ch4.2.2.2.2.2.2.2.1 ch4.2.2.2.2.2.2.2.2.1 ch4.2.2.2.2.2.2.2.2.2.1 t4.2.2.2.2.1, Res.row (Ty.arr .u8 20) 31 ch4.2.2.2.2.2.2.2.2.2.2.1 ch4.2.2.2.2.2.2.2.2.2.2.2.1 ch4.2.2.2.2.2.2.2.2.2.2.2.2 t4.2.2.2.2.2] [] (fun (ch : W14) => ((.tup []) : D)) (fun (ch : W14) => [Res.cells ch1.1 72 [.rf (.iface 68 (.agg (cellsOf [.sl ch.1 (t5.1).length ch.2.1 (RdS Y39 ch.1 t5.1)]).toArray)) (IfR [.sl ch.1 (t5.1).length ch.2.1 (RdS Y39 ch.1 t5.1)]), .one (.map (some ch.2.2.1)), .one (.int .i64 t5.2.2.1), .one (.slice ch.2.2.2.2.2.2.1 ch.2.2.2.2.2.2.2.1 ch.2.2.2.2.2.2.2.2.1), .one (.slice ch.2.2.2.2.2.2.2.2.2.1 ch.2.2.2.2.2.2.2.2.2.2.1 ch.2.2.2.2.2.2.2.2.2.2.2.1), .one (.slice ch.2.2.2.2.2.2.2.2.2.2.2.2.1 ch.2.2.2.2.2.2.2.2.2.2.2.2.2.1 ch.2.2.2.2.2.2.2.2.2.2.2.2.2.2)], Res.map true (Ty.arr .u8 20) false (Ty.pid ch.2.2.2.1) ch.2.2.1 t5.2.1.1, Res.fam (Res.struct (YE76 ch.2.2.2.2.1 ch.2.2.2.2.2.1) 76) (one_struct _ _) ch.2.2.2.1 [] t5.2.1.2.1, Res.fam (fun g_ kvs_ => Res.map true (Ty.arr .u64 4) true (Ty.arr .u64 4) g_ kvs_) (one_map true (Ty.arr .u64 4) true (Ty.arr .u64 4)) ch.2.2.2.2.1 [] t5.2.1.2.2.1, Res.fam (fun g_ kvs_ => Res.map true (Ty.arr .u64 4) false Ty.bool g_ kvs_) (one_map true (Ty.arr .u64 4) false Ty.bool) ch.2.2.2.2.2.1 [] t5.2.1.2.2.2, Res.row Y51 51 ch.2.2.2.2.2.2.1 ch.2.2.2.2.2.2.2.1 ch.2.2.2.2.2.2.2.2.1 t5.2.2.2.1, Res.row (YC ch1.1 ch.2.2.2.1 ch.2.2.2.2.1 ch.2.2.2.2.2.1) 1 ch.2.2.2.2.2.2.2.2.2.1 ch.2.2.2.2.2.2.2.2.2.2.1 ch.2.2.2.2.2.2.2.2.2.2.2.1 t5.2.2.2.2.1, Res.row (Ty.arr .u8 20) 31 ch.2.2.2.2.2.2.2.2.2.2.2.2.1 ch.2.2.2.2.2.2.2.2.2.2.2.2.2.1 ch.2.2.2.2.2.2.2.2.2.2.2.2.2.2 t5.2.2.2.2.2]) (fun (ch : W14) => [Res.cells ch1.1 72 [.rf (.iface 68 (.agg (cellsOf [.sl ch.1 (t5.1).length ch.2.1 (RdS Y39 ch.1 t5.1)]).toArray)) (IfR [.sl ch.1 (t5.1).length ch.2.1 (RdS Y39 ch.1 t5.1)]), .one (.map (some ch.2.2.1)), .one (.int .i64 t5.2.2.1), .one (.slice ch.2.2.2.2.2.2.1 ch.2.2.2.2.2.2.2.1 ch.2.2.2.2.2.2.2.2.1), .one (.slice ch.2.2.2.2.2.2.2.2.2.1 ch.2.2.2.2.2.2.2.2.2.2.1 ch.2.2.2.2.2.2.2.2.2.2.2.1), .one (.slice ch.2.2.2.2.2.2.2.2.2.2.2.2.1 ch.2.2.2.2.2.2.2.2.2.2.2.2.2.1 ch.2.2.2.2.2.2.2.2.2.2.2.2.2.2)], Res.map true (Ty.arr .u8 20) false (Ty.pid ch.2.2.2.1) ch.2.2.1 t5.2.1.1, Res.fam (Res.struct (YE76 ch.2.2.2.2.1 ch.2.2.2.2.2.1) 76) (one_struct _ _) ch.2.2.2.1 [] t5.2.1.2.1, Res.fam (fun g_ kvs_ => Res.map true (Ty.arr .u64 4) true (Ty.arr .u64 4) g_ kvs_) (one_map true (Ty.arr .u64 4) true (Ty.arr .u64 4)) ch.2.2.2.2.1 [] t5.2.1.2.2.1, Res.fam (fun g_ kvs_ => Res.map true (Ty.arr .u64 4) false Ty.bool g_ kvs_) (one_map true (Ty.arr .u64 4) false Ty.bool) ch.2.2.2.2.2.1 [] t5.2.1.2.2.2, Res.row Y51 51 ch.2.2.2.2.2.2.1 ch.2.2.2.2.2.2.2.1 ch.2.2.2.2.2.2.2.2.1 t5.2.2.2.1, Res.row (YC ch1.1 ch.2.2.2.1 ch.2.2.2.2.1 ch.2.2.2.2.2.1) 1 ch.2.2.2.2.2.2.2.2.2.1 ch.2.2.2.2.2.2.2.2.2.2.1 ch.2.2.2.2.2.2.2.2.2.2.2.1 t5.2.2.2.2.1, Res.row (Ty.arr .u8 20) 31 ch.2.2.2.2.2.2.2.2.2.2.2.2.1 ch.2.2.2.2.2.2.2.2.2.2.2.2.2.1 ch.2.2.2.2.2.2.2.2.2.2.2.2.2.2 t5.2.2.2.2.2]) (fun _ => rfl) N25 rfl rfl (fun ok => ok) (.cons .here (.cons .here (.cons .here (.cons .here (.cons .here (.cons .here (.cons .here (.cons .here .nil)))))))) rfl (state_State_Back.ok k ((t1.1), t4.2.1, t1.2.2.1, t4.2.2.2.1, t4.2.2.2.2.1, t4.2.2.2.2.2) t3 ch1.1 ch1.2.1 ch1.2.2.1 ch4.1 ch4.2.1 ch4.2.2.1 ch4.2.2.2.1 ch4.2.2.2.2.1 ch4.2.2.2.2.2.1 ch4.2.2.2.2.2.2.1 ch4.2.2.2.2.2.2.2.1 ch4.2.2.2.2.2.2.2.2.1 ch4.2.2.2.2.2.2.2.2.2.1 ch4.2.2.2.2.2.2.2.2.2.2.1 ch4.2.2.2.2.2.2.2.2.2.2.2.1 ch4.2.2.2.2.2.2.2.2.2.2.2.2 t5 et5 _ _) ?_; clear S a w; intro ch5 m le1 a w S
 refine c_end ?_
 refine c_region ?_
 refine s_move S rfl rfl ?_; clear S a; intro a S
 refine s_build S (ds := [(0, (.v (.int .u8 1)))]) (dv := (.agg [.ints .u8 [1, 0, 0, 0, 0, 0, 0, 0, 0, 0, 0, 0, 0, 0, 0, 0, 0, 0, 0, 0] 20])) rfl (fun _ => by kernel_rfl) ⟨rfl, trivial⟩ rfl ?_; clear S a; intro a S
 refine s_build S (ds := [(0, (.v (.int .u64 1)))]) (dv := (.agg [.ints .u64 [1, 0, 0, 0] 4])) rfl (fun _ => by kernel_rfl) ⟨rfl, trivial⟩ rfl ?_; clear S a; intro a S
 obtain ⟨t6, et6, h6⟩ := bind_of h5; clear h5
 refine s_callX S (ds' := [(.v (.pointer (some ⟨ch1.1, 0, none⟩))), (.agg [.ints .u8 [1, 0, 0, 0, 0, 0, 0, 0, 0, 0, 0, 0, 0, 0, 0, 0, 0, 0, 0, 0] 20]), (.agg [.ints .u64 [1, 0, 0, 0] 4])]) (ds := [(.v (.pointer (some ⟨ch1.1, 0, none⟩))), (.agg [.ints .u8 [1, 0, 0, 0, 0, 0, 0, 0, 0, 0, 0, 0, 0, 0, 0, 0, 0, 0, 0, 0] 20]), (.agg [.ints .u64 [1, 0, 0, 0] 4])]) [Res.cells ch1.1 72 [.rf (.iface 68 (.agg (cellsOf [.sl ch5.1 (t5.1).length ch5.2.1 (RdS Y39 ch5.1 t5.1)]).toArray)) (IfR [.sl ch5.1 (t5.1).length ch5.2.1 (RdS Y39 ch5.1 t5.1)]), .one (.map (some ch5.2.2.1)), .one (.int .i64 t5.2.2.1), .one (.slice ch5.2.2.2.2.2.2.1 ch5.2.2.2.2.2.2.2.1 ch5.2.2.2.2.2.2.2.2.1), .one (.slice ch5.2.2.2.2.2.2.2.2.2.1 ch5.2.2.2.2.2.2.2.2.2.2.1 ch5.2.2.2.2.2.2.2.2.2.2.2.1), .one (.slice ch5.2.2.2.2.2.2.2.2.2.2.2.2.1 ch5.2.2.2.2.2.2.2.2.2.2.2.2.2.1 ch5.2.2.2.2.2.2.2.2.2.2.2.2.2.2)], Res.map true (Ty.arr .u8 20) false (Ty.pid ch5.2.2.2.1) ch5.2.2.1 t5.2.1.1, Res.fam (Res.struct (YE76 ch5.2.2.2.2.1 ch5.2.2.2.2.2.1) 76) (one_struct _ _) ch5.2.2.2.1 [] t5.2.1.2.1, Res.fam (fun g_ kvs_ => Res.map true (Ty.arr .u64 4) true (Ty.arr .u64 4) g_ kvs_) (one_map true (Ty.arr .u64 4) true (Ty.arr .u64 4)) ch5.2.2.2.2.1 [] t5.2.1.2.2.1, Res.fam (fun g_ kvs_ => Res.map true (Ty.arr .u64 4) false Ty.bool g_ kvs_) (one_map true (Ty.arr .u64 4) false Ty.bool) ch5.2.2.2.2.2.1 [] t5.2.1.2.2.2, Res.row Y51 51 ch5.2.2.2.2.2.2.1 ch5.2.2.2.2.2.2.2.1 ch5.2.2.2.2.2.2.2.2.1 t5.2.2.2.1, Res.row (YC ch1.1 ch5.2.2.2.1 ch5.2.2.2.2.1 ch5.2.2.2.2.2.1) 1 ch5.2.2.2.2.2.2.2.2.2.1 ch5.2.2.2.2.2.2.2.2.2.2.1 ch5.2.2.2.2.2.2.2.2.2.2.2.1 t5.2.2.2.2.1, Res.row (Ty.arr .u8 20) 31 ch5.2.2.2.2.2.2.2.2.2.2.2.2.1 ch5.2.2.2.2.2.2.2.2.2.2.2.2.2.1 ch5.2.2.2.2.2.2.2.2.2.2.2.2.2.2 t5.2.2.2.2.2] [] (fun (ch : W7) => ((.agg [.ints .u64 t6.1 4]) : D)) (fun (ch : W7) => [Res.cells ch1.1 72 [.rf (.iface 68 (.agg (cellsOf [.sl ch5.1 (t5.1).length ch5.2.1 (RdS Y39 ch5.1 t5.1)]).toArray)) (IfR [.sl ch5.1 (t5.1).length ch5.2.1 (RdS Y39 ch5.1 t5.1)]), .one (.map (some ch.1)), .one (.int .i64 t5.2.2.1), .one (.slice ch.2.2.2.2.1 ch.2.2.2.2.2.1 ch.2.2.2.2.2.2.1), .one (.slice ch.2.2.2.2.2.2.2.1 ch.2.2.2.2.2.2.2.2.1 ch.2.2.2.2.2.2.2.2.2.1), .one (.slice ch.2.2.2.2.2.2.2.2.2.2.1 ch.2.2.2.2.2.2.2.2.2.2.2.1 ch.2.2.2.2.2.2.2.2.2.2.2.2)], Res.map true (Ty.arr .u8 20) false (Ty.pid ch.2.1) ch.1 t6.2.2.1.1, Res.fam (Res.struct (YE76 ch.2.2.1 ch.2.2.2.1) 76) (one_struct _ _) ch.2.1 [] t6.2.2.1.2.1, Res.fam (fun g_ kvs_ => Res.map true (Ty.arr .u64 4) true (Ty.arr .u64 4) g_ kvs_) (one_map true (Ty.arr .u64 4) true (Ty.arr .u64 4)) ch.2.2.1 [] t6.2.2.1.2.2.1, Res.fam (fun g_ kvs_ => Res.map true (Ty.arr .u64 4) false Ty.bool g_ kvs_) (one_map true (Ty.arr .u64 4) false Ty.bool) ch.2.2.2.1 [] t6.2.2.1.2.2.2, Res.row Y51 51 ch.2.2.2.2.1 ch.2.2.2.2.2.1 ch.2.2.2.2.2.2.1 t6.2.2.2.2.1, Res.row (YC ch1.1 ch.2.1 ch.2.2.1 ch.2.2.2.1) 1 ch.2.2.2.2.2.2.2.1 ch.2.2.2.2.2.2.2.2.1 ch.2.2.2.2.2.2.2.2.2.1 t6.2.2.2.2.2.1, Res.row (Ty.arr .u8 20) 31 ch.2.2.2.2.2.2.2.2.2.2.1 ch.2.2.2.2.2.2.2.2.2.2.2.1 ch.2.2.2.2.2.2.2.2.2.2.2.2 t6.2.2.2.2.2.2]) (fun (ch : W7) => [Res.cells ch1.1 72 [.rf (.iface 68 (.agg (cellsOf [.sl ch5.1 (t5.1).length ch5.2.1 (RdS Y39 ch5.1 t5.1)]).toArray)) (IfR [.sl ch5.1 (t5.1).length ch5.2.1 (RdS Y39 ch5.1 t5.1)]), .one (.map (some ch.1)), .one (.int .i64 t5.2.2.1), .one (.slice ch.2.2.2.2.1 ch.2.2.2.2.2.1 ch.2.2.2.2.2.2.1), .one (.slice ch.2.2.2.2.2.2.2.1 ch.2.2.2.2.2.2.2.2.1 ch.2.2.2.2.2.2.2.2.2.1), .one (.slice ch.2.2.2.2.2.2.2.2.2.2.1 ch.2.2.2.2.2.2.2.2.2.2.2.1 ch.2.2.2.2.2.2.2.2.2.2.2.2)], Res.map true (Ty.arr .u8 20) false (Ty.pid ch.2.1) ch.1 t6.2.2.1.1, Res.fam (Res.struct (YE76 ch.2.2.1 ch.2.2.2.1) 76) (one_struct _ _) ch.2.1 [] t6.2.2.1.2.1, Res.fam (fun g_ kvs_ => Res.map true (Ty.arr .u64 4) true (Ty.arr .u64 4) g_ kvs_) (one_map true (Ty.arr .u64 4) true (Ty.arr .u64 4)) ch.2.2.1 [] t6.2.2.1.2.2.1, Res.fam (fun g_ kvs_ => Res.map true (Ty.arr .u64 4) false Ty.bool g_ kvs_) (one_map true (Ty.arr .u64 4) false Ty.bool) ch.2.2.2.1 [] t6.2.2.1.2.2.2, Res.row Y51 51 ch.2.2.2.2.1 ch.2.2.2.2.2.1 ch.2.2.2.2.2.2.1 t6.2.2.2.2.1, Res.row (YC ch1.1 ch.2.1 ch.2.2.1 ch.2.2.2.1) 1 ch.2.2.2.2.2.2.2.1 ch.2.2.2.2.2.2.2.2.1 ch.2.2.2.2.2.2.2.2.2.1 t6.2.2.2.2.2.1, Res.row (Ty.arr .u8 20) 31 ch.2.2.2.2.2.2.2.2.2.2.1 ch.2.2.2.2.2.2.2.2.2.2.2.1 ch.2.2.2.2.2.2.2.2.2.2.2.2 t6.2.2.2.2.2.2]) (fun _ => rfl) N20 rfl rfl (fun ok => ok) (.cons .here (.cons .here (.cons .here (.cons .here (.cons .here (.cons .here (.cons .here (.cons .here .nil)))))))) rfl (state_State_Load.ok k ((t5.1), t5.2.1, t5.2.2.1, t5.2.2.2.1, t5.2.2.2.2.1, t5.2.2.2.2.2) [1, 0, 0, 0, 0, 0, 0, 0, 0, 0, 0, 0, 0, 0, 0, 0, 0, 0, 0, 0] [1, 0, 0, 0] ch1.1 ch5.1 ch5.2.1 ch5.2.2.1 ch5.2.2.2.1 ch5.2.2.2.2.1 ch5.2.2.2.2.2.1 ch5.2.2.2.2.2.2.1 ch5.2.2.2.2.2.2.2.1 ch5.2.2.2.2.2.2.2.2.1 ch5.2.2.2.2.2.2.2.2.2.1 ch5.2.2.2.2.2.2.2.2.2.2.1 ch5.2.2.2.2.2.2.2.2.2.2.2.1 ch5.2.2.2.2.2.2.2.2.2.2.2.2.1 ch5.2.2.2.2.2.2.2.2.2.2.2.2.2.1 ch5.2.2.2.2.2.2.2.2.2.2.2.2.2.2 t6 et6 _ _) ?_; clear S a w; intro ch6 m le1 a w S
 refine s_build S (ds := [(0, (.v (.int .u64 5)))]) (dv := (.agg [.ints .u64 [5, 0, 0, 0] 4])) rfl (fun _ => by kernel_rfl) ⟨rfl, trivial⟩ rfl ?_; clear S a; intro a S
 refine s_eqa S rfl rfl Try.underlying35 Try.underlying32 T32 Q35 rfl ?_; clear S a; intro a S
 refine s_assign S rfl rfl ?_; clear S a; intro a S
 refine c_end ?_
 refine wp_ret ?_
 obtain rfl := Option.some.inj h6
 exact b_ret1 (d := (.v (.bool (decide (t6.1 = [5, 0, 0, 0]))))) S rfl rfl fun ok => S.retX (Hx := []) hb _ _ (() : Unit) .nil ok
abbrev state_New_0i29.Ty : Type := ((List L39)) → Option W2
def state_New_0i29.Ctr (s : state_New_0i29.Ty) : Prop := ∀ (x1 : (List L39)) (ch_0_0 : Option Addr) (ch_0_1 : Nat) (r : W2) (h0 : s x1 = some r) (mi : Mem) (w0 : World), okL mi [(.rf (.iface 29 (.agg (cellsOf [.sl ch_0_0 (x1).length ch_0_1 (RdS Y39 ch_0_0 x1)]).toArray)) (IfR [.sl ch_0_0 (x1).length ch_0_1 (RdS Y39 ch_0_0 x1)]))] → Pre mi [] w0 → Calls Try.prog 7 (([(.rf (.iface 29 (.agg (cellsOf [.sl ch_0_0 (x1).length ch_0_1 (RdS Y39 ch_0_0 x1)]).toArray)) (IfR [.sl ch_0_0 (x1).length ch_0_1 (RdS Y39 ch_0_0 x1)]))] : List D).map D.val).toArray w0 (RetX mi [] (fun (ch : W3) => ((.v (.pointer (some ⟨ch.1, 0, none⟩))) : D)) (fun (ch : W3) => [Res.cells ch.1 72 [.rf (.iface 29 (.agg (cellsOf [.sl ch.2.1 (r.1).length ch.2.2.1 (RdS Y39 ch.2.1 r.1)]).toArray)) (IfR [.sl ch.2.1 (r.1).length ch.2.2.1 (RdS Y39 ch.2.1 r.1)]), .one (.map (some ch.2.2.2.1)), .one (.int .i64 r.2.2.1), .one (.slice ch.2.2.2.2.2.2.2.1 ch.2.2.2.2.2.2.2.2.1 ch.2.2.2.2.2.2.2.2.2.1), .one (.slice ch.2.2.2.2.2.2.2.2.2.2.1 ch.2.2.2.2.2.2.2.2.2.2.2.1 ch.2.2.2.2.2.2.2.2.2.2.2.2.1), .one (.slice ch.2.2.2.2.2.2.2.2.2.2.2.2.2.1 ch.2.2.2.2.2.2.2.2.2.2.2.2.2.2.1 ch.2.2.2.2.2.2.2.2.2.2.2.2.2.2.2)], Res.map true (Ty.arr .u8 20) false (Ty.pid ch.2.2.2.2.1) ch.2.2.2.1 r.2.1.1, Res.fam (Res.struct (YE76 ch.2.2.2.2.2.1 ch.2.2.2.2.2.2.1) 76) (one_struct _ _) ch.2.2.2.2.1 [] r.2.1.2.1, Res.fam (fun g_ kvs_ => Res.map true (Ty.arr .u64 4) true (Ty.arr .u64 4) g_ kvs_) (one_map true (Ty.arr .u64 4) true (Ty.arr .u64 4)) ch.2.2.2.2.2.1 [] r.2.1.2.2.1, Res.fam (fun g_ kvs_ => Res.map true (Ty.arr .u64 4) false Ty.bool g_ kvs_) (one_map true (Ty.arr .u64 4) false Ty.bool) ch.2.2.2.2.2.2.1 [] r.2.1.2.2.2, Res.row Y51 51 ch.2.2.2.2.2.2.2.1 ch.2.2.2.2.2.2.2.2.1 ch.2.2.2.2.2.2.2.2.2.1 r.2.2.2.1, Res.row (YC ch.1 ch.2.2.2.2.1 ch.2.2.2.2.2.1 ch.2.2.2.2.2.2.1) 1 ch.2.2.2.2.2.2.2.2.2.2.1 ch.2.2.2.2.2.2.2.2.2.2.2.1 ch.2.2.2.2.2.2.2.2.2.2.2.2.1 r.2.2.2.2.1, Res.row (Ty.arr .u8 20) 31 ch.2.2.2.2.2.2.2.2.2.2.2.2.2.1 ch.2.2.2.2.2.2.2.2.2.2.2.2.2.2.1 ch.2.2.2.2.2.2.2.2.2.2.2.2.2.2.2 r.2.2.2.2.2]) w0)
def state_New_0i29.f (x1 : (List L39)) : Option W2 := some ((x1), (([] : List ((List Int) × Option Nat)), ([] : List L76), ([] : List (List ((List Int) × (List Int)))), ([] : List (List ((List Int) × Bool)))), 0, ([] : List L51), ([] : List Clo), ([] : List (List Int)))
theorem state_New_0i29.ok : state_New_0i29.Ctr (state_New_0i29.f) := by
 intro x1 ch_0_0 ch_0_1 r h0 mi w0 ok hm
 delta state_New_0i29.f at h0
 refine c_enterX (n := 11) [(.rf (.iface 29 (.agg (cellsOf [.sl ch_0_0 (x1).length ch_0_1 (RdS Y39 ch_0_0 x1)]).toArray)) (IfR [.sl ch_0_0 (x1).length ch_0_1 (RdS Y39 ch_0_0 x1)]))] (l := [(0, (.rf (.iface 29 (.agg (cellsOf [.sl ch_0_0 (x1).length ch_0_1 (RdS Y39 ch_0_0 x1)]).toArray)) (IfR [.sl ch_0_0 (x1).length ch_0_1 (RdS Y39 ch_0_0 x1)])))]) Try.func7 rfl rfl rfl rfl ok hm ?_
 clear ok hm
 intro b0 hb a S
 refine c_region ?_
 refine s_assign S rfl rfl ?_; clear S a; intro a S
 refine c_end ?_
 refine wp_seq ?_
 refine c_region ?_
 refine s_move S rfl rfl ?_; clear S a; intro a S
 refine s_eqIN S rfl rfl rfl Try.underlying45 rfl ?_; clear S a; intro a S
 refine c_end ?_
 refine c_condF S rfl rfl ?_
 refine wp_skip ?_
 refine x_thenN ?_
 refine c_region ?_
 refine s_move S rfl rfl ?_; clear S a; intro a S
 refine s_makeMap (α := List Int) (β := Option Nat) S true (Ty.arr .u8 20) false (Ty.pid ([] : List Nat)) rfl ?_; clear S a; intro g1 a w S
 replace S := S.fam0 (fun g_ kvs_ => Res.map true (Ty.arr .u64 4) false Ty.bool g_ kvs_) (one_map true (Ty.arr .u64 4) false Ty.bool)
 replace S := S.fam0 (fun g_ kvs_ => Res.map true (Ty.arr .u64 4) true (Ty.arr .u64 4) g_ kvs_) (one_map true (Ty.arr .u64 4) true (Ty.arr .u64 4))
 replace S := S.fam0 (Res.struct (YE76 ([] : List Nat) ([] : List Nat)) 76) (one_struct _ _)
 refine s_bldS S (ds := [(0, (.rf (.iface 29 (.agg (cellsOf [.sl ch_0_0 (x1).length ch_0_1 (RdS Y39 ch_0_0 x1)]).toArray)) (IfR [.sl ch_0_0 (x1).length ch_0_1 (RdS Y39 ch_0_0 x1)]))), (1, (.v (.map (some g1))))]) (zs := [.one .nilIface, .one (.map none), .one (.int .i64 0), .one (.slice none 0 0), .one (.slice none 0 0), .one (.slice none 0 0)]) (s' := [.rf (.iface 29 (.agg (cellsOf [.sl ch_0_0 (x1).length ch_0_1 (RdS Y39 ch_0_0 x1)]).toArray)) (IfR [.sl ch_0_0 (x1).length ch_0_1 (RdS Y39 ch_0_0 x1)]), .one (.map (some g1)), .one (.int .i64 0), .one (.slice none 0 0), .one (.slice none 0 0), .one (.slice none 0 0)]) rfl Try.underlying72 P72 Z72 ⟨rfl, rfl, rfl, rfl, rfl, rfl, trivial⟩ rfl rfl ?_; clear S a; intro a S
 refine s_box S rfl rfl rfl ?_; clear S a w; intro g2 a w S
 refine s_assign S rfl rfl ?_; clear S a; intro a S
 refine c_end ?_
 refine wp_ret ?_
 replace S := S.nilrow Y51 51
 replace S := S.nilrow (YC g2 ([] : List Nat) ([] : List Nat) ([] : List Nat)) 1
 replace S := S.nilrow (Ty.arr .u8 20) 31
 obtain rfl := Option.some.inj h0
 exact b_ret1 (d := (.v (.pointer (some ⟨g2, 0, none⟩)))) S rfl rfl fun ok => S.retX (Hx := []) hb _ _ ((g2, ch_0_0, ch_0_1, g1, ([] : List Nat), ([] : List Nat), ([] : List Nat), none, 0, 0, none, 0, 0, none, 0, 0) : W3) (.cons (.there (.there (.there .here))) (.cons (.there (.there (.there (.there (.there (.there .here)))))) (.cons (.there (.there (.there .here))) (.cons (.there (.there (.there .here))) (.cons (.there (.there (.there .here))) (.cons (.there (.there .here)) (.cons (.there .here) (.cons .here .nil)))))))) ok
abbrev smithyref13_Find.Ty : Type := (List L39) → (List Int) → Option W4
def smithyref13_Find.Ctr (s : smithyref13_Find.Ty) : Prop := ∀ (x1 : List L39) (x2 : List Int) (ch_0_0 : Option Addr) (ch_0_1 : Nat) (r : W4) (h0 : s x1 x2 = some r) (mi : Mem) (w0 : World), okL mi [(.sl ch_0_0 (x1).length ch_0_1 (RdS Y39 ch_0_0 x1)), (.agg [.ints .u8 x2 20])] → Pre mi [] w0 → Calls Try.prog 9 (([(.sl ch_0_0 (x1).length ch_0_1 (RdS Y39 ch_0_0 x1)), (.agg [.ints .u8 x2 20])] : List D).map D.val).toArray w0 (RetX mi [] (fun (ch : W5) => ((.tup [(true, (Y39.segs r.1 ((), (), (), (ch.1, ch.2.1), (ch.2.2.1, ch.2.2.2)))), (false, [.one (.bool r.2)])]) : D)) (fun (ch : W5) => []) w0)
def smithyref13_Find.j1 : Option W4 := some (([0, 0, 0, 0, 0, 0, 0, 0, 0, 0, 0, 0, 0, 0, 0, 0, 0, 0, 0, 0], 0, [0, 0, 0, 0], ([] : List Int), ([] : List ((List Int) × (List Int)))), false)
def smithyref13_Find.b1 (x1 : List L39) (x2 : List Int) (rec1 : Int → Option W4) (y1 : Int) : Option W4 := if (decide (y1 < ((x1).length : Int))) = true then (if (0 : Int) ≤ y1 ∧ y1 < ((x1).length : Int) then (if (decide ((gt x1 y1).1 = x2)) = true then (some (gt x1 y1, true)) else (rec1 (wr .i64 (y1 + 1)))) else none) else smithyref13_Find.j1
def smithyref13_Find.l1 (x1 : List L39) (x2 : List Int) : Nat → Int → Option W4
  | 0, _ => none
  | q + 1, y1 => smithyref13_Find.b1 x1 x2 (smithyref13_Find.l1 x1 x2 q) y1
def smithyref13_Find.f (k : Nat) (x1 : List L39) (x2 : List Int) : Option W4 := smithyref13_Find.l1 x1 x2 k 0
theorem smithyref13_Find.ok (k : Nat) : smithyref13_Find.Ctr (smithyref13_Find.f k) := by
 intro x1 x2 ch_0_0 ch_0_1 r h0 mi w0 ok hm
 delta smithyref13_Find.f at h0
 refine c_enterX (n := 25) [(.sl ch_0_0 (x1).length ch_0_1 (RdS Y39 ch_0_0 x1)), (.agg [.ints .u8 x2 20])] (l := [(0, (.sl ch_0_0 (x1).length ch_0_1 (RdS Y39 ch_0_0 x1))), (1, (.agg [.ints .u8 x2 20]))]) Try.func9 rfl rfl rfl rfl ok hm ?_
 clear ok hm
 intro b0 hb a S
 refine c_region ?_
 refine s_box S rfl rfl rfl ?_; clear S a; intro g1 a w S
 refine s_alloc S Z39 rfl ⟨rfl, rfl, rfl, rfl, rfl, trivial⟩ rfl ?_; clear S a w; intro g2 a w S
 refine s_assign S rfl rfl ?_; clear S a; intro a S
 refine c_end ?_
 refine wp_seq_k ?_
 intro K1 hK1
 have j1 : ∀ (m : Mem) (g9 : Nat) (a : Act) (w : World), St 25 m b0 [(4, (.v (.pointer (some ⟨g9, 0, none⟩))))] [Res.cells g9 39 [.ints .u8 [0, 0, 0, 0, 0, 0, 0, 0, 0, 0, 0, 0, 0, 0, 0, 0, 0, 0, 0, 0] 20, .one (.int .u64 0), .ints .u64 [0, 0, 0, 0] 4, .one (.slice none 0 0), .one (.slice none 0 0)]] a w → smithyref13_Find.j1 = some r → K1 a w := by
  intro m g9 a w S h0
  delta smithyref13_Find.j1 at h0
  refine hK1 a w ?_
  refine c_region ?_
  refine s_bldS S (ds := []) (zs := [.ints .u8 [0, 0, 0, 0, 0, 0, 0, 0, 0, 0, 0, 0, 0, 0, 0, 0, 0, 0, 0, 0] 20, .one (.int .u64 0), .ints .u64 [0, 0, 0, 0] 4, .one (.slice none 0 0), .one (.slice none 0 0)]) (s' := [.ints .u8 [0, 0, 0, 0, 0, 0, 0, 0, 0, 0, 0, 0, 0, 0, 0, 0, 0, 0, 0, 0] 20, .one (.int .u64 0), .ints .u64 [0, 0, 0, 0] 4, .one (.slice none 0 0), .one (.slice none 0 0)]) rfl Try.underlying39 P39 Z39 ⟨rfl, rfl, rfl, rfl, rfl, trivial⟩ rfl rfl ?_; clear S a; intro a S
  refine s_store S rfl rfl rfl (s' := [.ints .u8 [0, 0, 0, 0, 0, 0, 0, 0, 0, 0, 0, 0, 0, 0, 0, 0, 0, 0, 0, 0] 20, .one (.int .u64 0), .ints .u64 [0, 0, 0, 0] 4, .one (.slice none 0 0), .one (.slice none 0 0)]) .here T39 rfl rfl ?_; clear S w; intro w S
  refine s_assign S rfl rfl ?_; clear S a; intro a S
  refine c_end ?_
  refine wp_ret ?_
  replace S := S.cellro (s' := [.ints .u8 [0, 0, 0, 0, 0, 0, 0, 0, 0, 0, 0, 0, 0, 0, 0, 0, 0, 0, 0, 0] 20, .one (.int .u64 0), .ints .u64 [0, 0, 0, 0] 4, .sl none (([] : List Int)).length 0 (RdS (Ty.int .u8) none ([] : List Int)), .one (.slice none 0 0)]) .here rfl (fun h => ⟨h.1, h.2.1, h.2.2.1, ok_nil, h.2.2.2.2.1, trivial⟩)
  replace S := S.cellro (s' := [.ints .u8 [0, 0, 0, 0, 0, 0, 0, 0, 0, 0, 0, 0, 0, 0, 0, 0, 0, 0, 0, 0] 20, .one (.int .u64 0), .ints .u64 [0, 0, 0, 0] 4, .sl none (([] : List Int)).length 0 (RdS (Ty.int .u8) none ([] : List Int)), .sl none (([] : List ((List Int) × (List Int)))).length 0 (RdS Y82 none ([] : List ((List Int) × (List Int))))]) .here rfl (fun h => ⟨h.1, h.2.1, h.2.2.1, h.2.2.2.1, ok_nil, trivial⟩)
  obtain rfl := Option.some.inj h0
  exact b_ret2 (d1 := (.agg [.ints .u8 [0, 0, 0, 0, 0, 0, 0, 0, 0, 0, 0, 0, 0, 0, 0, 0, 0, 0, 0, 0] 20, .one (.int .u64 0), .ints .u64 [0, 0, 0, 0] 4, .sl none (([] : List Int)).length 0 (RdS (Ty.int .u8) none ([] : List Int)), .sl none (([] : List ((List Int) × (List Int)))).length 0 (RdS Y82 none ([] : List ((List Int) × (List Int))))])) (d2 := (.v (.bool false))) S rfl (resD_cell rfl .here T39 rfl rfl) rfl fun ok1 ok2 => S.retX (Hx := []) hb _ _ ((none, 0, none, 0) : W5) .nil ⟨ok1, ⟨ok2, trivial⟩, trivial⟩
 refine c_region ?_
 refine s_move S rfl rfl ?_; clear S a; intro a S
 refine s_lenS S rfl Try.underlying22 rfl ?_; clear S a; intro a S
 refine s_move S rfl rfl ?_; clear S a; intro a S
 refine c_end ?_
 refine wp_block ?_
 refine c_loop (fun q1 a w => ∃ (m : Mem) (y1 : Int) (g14 : Nat) (g15 : Nat), St 25 m b0 [(9, (.v (.int .i64 y1))), (8, (.v (.int .i64 ((x1).length : Int)))), (4, (.v (.pointer (some ⟨g14, 0, none⟩)))), (3, (.v (.pointer (some ⟨g15, 0, none⟩)))), (0, (.sl ch_0_0 (x1).length ch_0_1 (RdS Y39 ch_0_0 x1)))] [Res.cells g14 39 [.ints .u8 [0, 0, 0, 0, 0, 0, 0, 0, 0, 0, 0, 0, 0, 0, 0, 0, 0, 0, 0, 0] 20, .one (.int .u64 0), .ints .u64 [0, 0, 0, 0] 4, .one (.slice none 0 0), .one (.slice none 0 0)], Res.cells g15 31 [.ints .u8 x2 20]] a w ∧ smithyref13_Find.l1 x1 x2 q1 y1 = some r) ?_ ?_ (k := k) ⟨_, 0, g2, g1, (S.sub (subR rfl) (.cons .here (.cons .here .nil))), h0⟩
 ·rintro a w ⟨m, y1, g14, g15, S, h0⟩
  exact (nomatch (show (none : Option W4) = some r from h0))
 ·clear S h0
  rintro q1 a w ⟨m, y1, g14, g15, S, h0⟩
  replace h0 : smithyref13_Find.b1 x1 x2 (smithyref13_Find.l1 x1 x2 q1) y1 = some r := h0
  delta smithyref13_Find.b1 at h0
  refine c_region ?_
  refine s_bin S rfl rfl rfl rfl ?_; clear S a; intro a S
  refine c_end ?_
  refine wp_seq ?_
  rcases ite_of h0 with ⟨c1, h1⟩ | ⟨c1, h1⟩ <;> clear h0
  ·refine c_condT S rfl c1 ?_
   refine wp_skip ?_
   refine x_thenN ?_
   refine wp_seq ?_
   refine wp_block ?_
   refine c_region ?_
   refine s_move S rfl rfl ?_; clear S a; intro a S
   refine s_assign S rfl rfl ?_; clear S a; intro a S
   refine c_end ?_
   refine wp_seq (c_heldS S (.take 0 (.take 1 (.take 2 (.take 3 (.take 4 (.take 5 (.take 6 .done))))))) 7 [Res.cells g14 39 [.ints .u8 [0, 0, 0, 0, 0, 0, 0, 0, 0, 0, 0, 0, 0, 0, 0, 0, 0, 0, 0, 0] 20, .one (.int .u64 0), .ints .u64 [0, 0, 0, 0] 4, .one (.slice none 0 0), .one (.slice none 0 0)], Res.cells g15 31 [.ints .u8 x2 20]] (.cons .here (.cons .here .nil)) ⟨Res.stay_cells, Res.stay_cells, trivial⟩ [(6, (.v (.int .i64 y1))), (3, (.v (.pointer (some ⟨g15, 0, none⟩)))), (0, (.sl ch_0_0 (x1).length ch_0_1 (RdS Y39 ch_0_0 x1)))] (subR rfl) (by kernel_rfl) (by kernel_rfl) ?_); clear S; intro w S CL hw le
   refine h_move S CL hw le (subR rfl) rfl rfl rfl trivial ?_; clear S CL a; intro a S CL
   refine h_move S CL hw le (subR rfl) rfl rfl rfl trivial ?_; clear S CL a; intro a S CL
   obtain ⟨c2, h2⟩ := chk_of h1; clear h1
   refine h_iaddrS S CL hw le (subR rfl) rfl rfl rfl Try.underlying22 T39 c2.1 c2.2 rfl rfl trivial ?_; clear S CL a; intro p1 a S CL
   refine h_faddrP S CL hw le (subR rfl) (tF := (Ty.arr .u8 20)) (y := (gt x1 y1).1) rfl I39_0 T31 (by decide) (fun m h => (at_fst (at_0 h))) rfl rfl trivial ?_; clear S CL a; intro a S CL
   refine h_ldA S CL hw le (subR rfl) (fun (c : Unit) => [.ints .u8 ((gt x1 y1).1) 20]) rfl T31 (fun _ => rfl) rfl rfl trivial ?_; clear S CL a; intro ch1 a S CL
   refine h_loada S CL hw le (subR rfl) rfl (.there .here) T31 (s' := [.ints .u8 x2 20]) rfl rfl rfl trivial ?_; clear S CL a; intro a S CL
   refine h_eqa S CL hw le (subR rfl) rfl rfl Try.underlying31 Try.underlying5 T5 Q31 rfl rfl trivial ?_; clear S CL a; intro a S CL
   refine h_done ?_; clear CL hw le
   refine x_thenN ?_
   rcases ite_of h2 with ⟨c3, h3⟩ | ⟨c3, h3⟩ <;> clear h2
   ·refine c_condT S rfl c3 ?_
    refine c_region ?_
    refine s_move S rfl rfl ?_; clear S a; intro a S
    refine s_move S rfl rfl ?_; clear S a; intro a S
    refine s_iaddrS S rfl rfl rfl Try.underlying22 T39 c2.1 c2.2 rfl ?_; clear S a; intro p2 a S
    refine s_ldA S (fun (c : Unit × Unit × Unit × (Option Addr × Nat) × (Option Addr × Nat)) => (Y39.segs (gt x1 y1) c)) rfl T39 (fun _ => rfl) rfl ?_; clear S a; intro ch2 a S
    refine s_store S rfl rfl rfl (s' := [.ints .u8 ((gt x1 y1).1) 20, .one (.int .u64 ((gt x1 y1).2.1)), .ints .u64 ((gt x1 y1).2.2.1) 4, .sl ch2.2.2.2.1.1 ((gt x1 y1).2.2.2.1).length ch2.2.2.2.1.2 (RdS (Ty.int .u8) ch2.2.2.2.1.1 ((gt x1 y1).2.2.2.1)), .sl ch2.2.2.2.2.1 ((gt x1 y1).2.2.2.2).length ch2.2.2.2.2.2 (RdS Y82 ch2.2.2.2.2.1 ((gt x1 y1).2.2.2.2))]) .here T39 rfl rfl ?_; clear S w; intro w S
    refine s_assign S rfl rfl ?_; clear S a; intro a S
    refine c_end ?_
    refine wp_ret ?_
    refine x_blockR ?_
    refine x_thenR ?_
    refine x_thenR ?_
    refine x_blockR ?_
    refine x_thenR ?_
    obtain rfl := Option.some.inj h3
    exact b_ret2 (d1 := (.agg (Y39.segs (gt x1 y1) ch2))) (d2 := (.v (.bool true))) S rfl (resD_cell rfl .here T39 rfl rfl) rfl fun ok1 ok2 => S.retX (Hx := []) hb _ _ ((ch2.2.2.2.1.1, ch2.2.2.2.1.2, ch2.2.2.2.2.1, ch2.2.2.2.2.2) : W5) .nil ⟨ok1, ⟨ok2, trivial⟩, trivial⟩
   ·refine c_condF S rfl c3 ?_
    refine wp_skip ?_
    refine x_blockN ?_
    refine x_thenN ?_
    refine c_region' ?_
    refine s_bin S rfl rfl rfl rfl ?_; clear S a; intro a S
    refine s_move S rfl rfl ?_; clear S a; intro a S
    refine c_end' ?_
    refine x_thenN ?_
    exact ⟨_, (wr .i64 (y1 + 1)), g14, g15, (S.sub (subR rfl) (.cons .here (.cons .here .nil))), h3⟩
  ·refine c_condF S rfl c1 ?_
   refine wp_exit ?_
   refine x_thenX ?_
   refine x_thenX ?_
   refine x_blockX ?_
   refine x_thenN ?_
   exact j1 _ g14 a w (S.sub ⟨rfl, trivial⟩ (.cons .here .nil)) h1
abbrev smithylaw14_half_Account.Ty : Type := ((List L39)) → (List Int) → Option W4
def smithylaw14_half_Account.Ctr (s : smithylaw14_half_Account.Ty) : Prop := ∀ (x1 : (List L39)) (x2 : List Int) (ch_0_0 : Option Addr) (ch_0_1 : Nat) (r : W4) (h0 : s x1 x2 = some r) (mi : Mem) (w0 : World), okL mi [(.agg [.sl ch_0_0 (x1).length ch_0_1 (RdS Y39 ch_0_0 x1)]), (.agg [.ints .u8 x2 20])] → Pre mi [] w0 → Calls Try.prog 101 (([(.agg [.sl ch_0_0 (x1).length ch_0_1 (RdS Y39 ch_0_0 x1)]), (.agg [.ints .u8 x2 20])] : List D).map D.val).toArray w0 (RetX mi [] (fun (ch : W5) => ((.tup [(true, (Y39.segs r.1 ((), (), (), (ch.1, ch.2.1), (ch.2.2.1, ch.2.2.2)))), (false, [.one (.bool r.2)])]) : D)) (fun (ch : W5) => []) w0)
def smithylaw14_half_Account.f (k : Nat) (x1 : (List L39)) (x2 : List Int) : Option W4 := (smithyref13_Find.f k x1 x2).bind fun t1 => (some (t1.1, t1.2))
theorem smithylaw14_half_Account.ok (k : Nat) : smithylaw14_half_Account.Ctr (smithylaw14_half_Account.f k) := by
 intro x1 x2 ch_0_0 ch_0_1 r h0 mi w0 ok hm
 delta smithylaw14_half_Account.f at h0
 refine c_enterX (n := 12) [(.agg [.sl ch_0_0 (x1).length ch_0_1 (RdS Y39 ch_0_0 x1)]), (.agg [.ints .u8 x2 20])] (l := [(0, (.agg [.sl ch_0_0 (x1).length ch_0_1 (RdS Y39 ch_0_0 x1)])), (1, (.agg [.ints .u8 x2 20]))]) Try.func101 rfl rfl rfl rfl ok hm ?_
 clear ok hm
 intro b0 hb a S
 refine c_region ?_
 refine s_box S rfl rfl rfl ?_; clear S a; intro g1 a w S
 refine s_box S rfl rfl rfl ?_; clear S a w; intro g2 a w S
 refine s_alloc S Z39 rfl ⟨rfl, rfl, rfl, rfl, rfl, trivial⟩ rfl ?_; clear S a w; intro g3 a w S
 refine s_assign S rfl rfl ?_; clear S a; intro a S
 refine c_end ?_
 refine c_region ?_
 refine s_fieldAddr S rfl I29_0 T22 (by decide) rfl rfl ?_; clear S a; intro a S
 refine s_loadSl S rfl (.there (.there .here)) T22 (A := ch_0_0) (len := (x1).length) (cap := ch_0_1) rfl rfl ?_; clear S a; intro a S
 refine s_loada S rfl (.there .here) T31 (s' := [.ints .u8 x2 20]) rfl rfl ?_; clear S a; intro a S
 obtain ⟨t1, et1, h1⟩ := bind_of h0; clear h0
 refine s_callP S (fun (ch : W5) => ((.tup [(true, (Y39.segs t1.1 ((), (), (), (ch.1, ch.2.1), (ch.2.2.1, ch.2.2.2)))), (false, [.one (.bool t1.2)])]) : D)) N9 rfl rfl (smithyref13_Find.ok k x1 x2 ch_0_0 ch_0_1 t1 et1 _ _) ?_; clear S a w; intro ch1 m le1 a w S
 refine s_extract S rfl rfl rfl rfl ?_; clear S a; intro a S
 refine s_extract S rfl rfl rfl rfl ?_; clear S a; intro a S
 refine s_store S rfl rfl rfl (s' := [.ints .u8 t1.1.1 20, .one (.int .u64 t1.1.2.1), .ints .u64 t1.1.2.2.1 4, .sl ch1.1 (t1.1.2.2.2.1).length ch1.2.1 (RdS (Ty.int .u8) ch1.1 t1.1.2.2.2.1), .sl ch1.2.2.1 (t1.1.2.2.2.2).length ch1.2.2.2 (RdS Y82 ch1.2.2.1 t1.1.2.2.2.2)]) .here T39 rfl rfl ?_; clear S w; intro w S
 refine s_assign S rfl rfl ?_; clear S a; intro a S
 refine c_end ?_
 refine wp_ret ?_
 obtain rfl := Option.some.inj h1
 exact b_ret2 (d1 := (.agg (Y39.segs t1.1 ((), (), (), (ch1.1, ch1.2.1), (ch1.2.2.1, ch1.2.2.2))))) (d2 := (.v (.bool t1.2))) S rfl (resD_cell rfl .here T39 rfl rfl) rfl fun ok1 ok2 => S.retX (Hx := []) hb _ _ ((ch1.1, ch1.2.1, ch1.2.2.1, ch1.2.2.2) : W5) .nil ⟨ok1, ⟨ok2, trivial⟩, trivial⟩
abbrev state_State_at_i2.Ty : Type := W8 → (List Int) → Option W6
def state_State_at_i2.Ctr (s : state_State_at_i2.Ty) : Prop := ∀ (x1 : W8) (x2 : List Int) (ch_0_0 : Nat) (ch_0_1 : Option Addr) (ch_0_2 : Nat) (ch_0_3 : Nat) (ch_0_4 : List Nat) (ch_0_5 : List Nat) (ch_0_6 : List Nat) (ch_0_7 : Option Addr) (ch_0_8 : Nat) (ch_0_9 : Nat) (ch_0_10 : Option Addr) (ch_0_11 : Nat) (ch_0_12 : Nat) (ch_0_13 : Option Addr) (ch_0_14 : Nat) (ch_0_15 : Nat) (r : W6) (h0 : s x1 x2 = some r) (mi : Mem) (w0 : World), okL mi [(.v (.pointer (some ⟨ch_0_0, 0, none⟩))), (.agg [.ints .u8 x2 20])] → Pre mi [Res.cells ch_0_0 72 [.rf (.iface 29 (.agg (cellsOf [.sl ch_0_1 (x1.1).length ch_0_2 (RdS Y39 ch_0_1 x1.1)]).toArray)) (IfR [.sl ch_0_1 (x1.1).length ch_0_2 (RdS Y39 ch_0_1 x1.1)]), .one (.map (some ch_0_3)), .one (.int .i64 x1.2.2.1), .one (.slice ch_0_7 ch_0_8 ch_0_9), .one (.slice ch_0_10 ch_0_11 ch_0_12), .one (.slice ch_0_13 ch_0_14 ch_0_15)], Res.map true (Ty.arr .u8 20) false (Ty.pid ch_0_4) ch_0_3 x1.2.1.1, Res.fam (Res.struct (YE76 ch_0_5 ch_0_6) 76) (one_struct _ _) ch_0_4 [] x1.2.1.2.1, Res.fam (fun g_ kvs_ => Res.map true (Ty.arr .u64 4) true (Ty.arr .u64 4) g_ kvs_) (one_map true (Ty.arr .u64 4) true (Ty.arr .u64 4)) ch_0_5 [] x1.2.1.2.2.1, Res.fam (fun g_ kvs_ => Res.map true (Ty.arr .u64 4) false Ty.bool g_ kvs_) (one_map true (Ty.arr .u64 4) false Ty.bool) ch_0_6 [] x1.2.1.2.2.2, Res.row Y51 51 ch_0_7 ch_0_8 ch_0_9 x1.2.2.2.1, Res.row (YC ch_0_0 ch_0_4 ch_0_5 ch_0_6) 1 ch_0_10 ch_0_11 ch_0_12 x1.2.2.2.2.1, Res.row (Ty.arr .u8 20) 31 ch_0_13 ch_0_14 ch_0_15 x1.2.2.2.2.2] w0 → Calls Try.prog 26 (([(.v (.pointer (some ⟨ch_0_0, 0, none⟩))), (.agg [.ints .u8 x2 20])] : List D).map D.val).toArray w0 (RetX mi [Res.cells ch_0_0 72 [.rf (.iface 29 (.agg (cellsOf [.sl ch_0_1 (x1.1).length ch_0_2 (RdS Y39 ch_0_1 x1.1)]).toArray)) (IfR [.sl ch_0_1 (x1.1).length ch_0_2 (RdS Y39 ch_0_1 x1.1)]), .one (.map (some ch_0_3)), .one (.int .i64 x1.2.2.1), .one (.slice ch_0_7 ch_0_8 ch_0_9), .one (.slice ch_0_10 ch_0_11 ch_0_12), .one (.slice ch_0_13 ch_0_14 ch_0_15)], Res.map true (Ty.arr .u8 20) false (Ty.pid ch_0_4) ch_0_3 x1.2.1.1, Res.fam (Res.struct (YE76 ch_0_5 ch_0_6) 76) (one_struct _ _) ch_0_4 [] x1.2.1.2.1, Res.fam (fun g_ kvs_ => Res.map true (Ty.arr .u64 4) true (Ty.arr .u64 4) g_ kvs_) (one_map true (Ty.arr .u64 4) true (Ty.arr .u64 4)) ch_0_5 [] x1.2.1.2.2.1, Res.fam (fun g_ kvs_ => Res.map true (Ty.arr .u64 4) false Ty.bool g_ kvs_) (one_map true (Ty.arr .u64 4) false Ty.bool) ch_0_6 [] x1.2.1.2.2.2, Res.row Y51 51 ch_0_7 ch_0_8 ch_0_9 x1.2.2.2.1, Res.row (YC ch_0_0 ch_0_4 ch_0_5 ch_0_6) 1 ch_0_10 ch_0_11 ch_0_12 x1.2.2.2.2.1, Res.row (Ty.arr .u8 20) 31 ch_0_13 ch_0_14 ch_0_15 x1.2.2.2.2.2] (fun (ch : W7) => ((.rf (ptrV ch.2.1 r.1) (ptrR ch.2.1 r.1)) : D)) (fun (ch : W7) => [Res.cells ch_0_0 72 [.rf (.iface 29 (.agg (cellsOf [.sl ch_0_1 (x1.1).length ch_0_2 (RdS Y39 ch_0_1 x1.1)]).toArray)) (IfR [.sl ch_0_1 (x1.1).length ch_0_2 (RdS Y39 ch_0_1 x1.1)]), .one (.map (some ch.1)), .one (.int .i64 x1.2.2.1), .one (.slice ch.2.2.2.2.1 ch.2.2.2.2.2.1 ch.2.2.2.2.2.2.1), .one (.slice ch.2.2.2.2.2.2.2.1 ch.2.2.2.2.2.2.2.2.1 ch.2.2.2.2.2.2.2.2.2.1), .one (.slice ch.2.2.2.2.2.2.2.2.2.2.1 ch.2.2.2.2.2.2.2.2.2.2.2.1 ch.2.2.2.2.2.2.2.2.2.2.2.2)], Res.map true (Ty.arr .u8 20) false (Ty.pid ch.2.1) ch.1 r.2.2.1.1, Res.fam (Res.struct (YE76 ch.2.2.1 ch.2.2.2.1) 76) (one_struct _ _) ch.2.1 [] r.2.2.1.2.1, Res.fam (fun g_ kvs_ => Res.map true (Ty.arr .u64 4) true (Ty.arr .u64 4) g_ kvs_) (one_map true (Ty.arr .u64 4) true (Ty.arr .u64 4)) ch.2.2.1 [] r.2.2.1.2.2.1, Res.fam (fun g_ kvs_ => Res.map true (Ty.arr .u64 4) false Ty.bool g_ kvs_) (one_map true (Ty.arr .u64 4) false Ty.bool) ch.2.2.2.1 [] r.2.2.1.2.2.2, Res.row Y51 51 ch.2.2.2.2.1 ch.2.2.2.2.2.1 ch.2.2.2.2.2.2.1 r.2.2.2.2.1, Res.row (YC ch_0_0 ch.2.1 ch.2.2.1 ch.2.2.2.1) 1 ch.2.2.2.2.2.2.2.1 ch.2.2.2.2.2.2.2.2.1 ch.2.2.2.2.2.2.2.2.2.1 r.2.2.2.2.2.1, Res.row (Ty.arr .u8 20) 31 ch.2.2.2.2.2.2.2.2.2.2.1 ch.2.2.2.2.2.2.2.2.2.2.2.1 ch.2.2.2.2.2.2.2.2.2.2.2.2 r.2.2.2.2.2.2]) w0)
def state_State_at_i2.j2 (x1 : W8) (x2 : List Int) (y7 : List (List Int)) (y8 : List Int) (y9 : Int) (y10 : List Int) (y11 : List Int) (y12 : W9) : Option W6 := some ((some x1.2.1.2.1.length), ((), (aput x1.2.1.1 x2 (some x1.2.1.2.1.length), x1.2.1.2.1 ++ [((x2, y9, y10, y11, y12), (x2, y9, y10, y11, y12), false, x1.2.1.2.2.1.length, false, false, x1.2.1.2.2.2.length)], x1.2.1.2.2.1 ++ [([] : List ((List Int) × (List Int)))], x1.2.1.2.2.2 ++ [([] : List ((List Int) × Bool))]), (), x1.2.2.2.1, x1.2.2.2.2.1, y7))
def state_State_at_i2.j1 (x1 : W8) (x2 : List Int) (y1 : Bool) (y2 : List Int) (y3 : Int) (y4 : List Int) (y5 : List Int) (y6 : W9) : Option W6 := if (!y1) = true then (if (((x1.2.2.2.2.2).length : Int) == 0) = true then (state_State_at_i2.j2 x1 x2 [x2] [0, 0, 0, 0, 0, 0, 0, 0, 0, 0, 0, 0, 0, 0, 0, 0, 0, 0, 0, 0] 0 [0, 0, 0, 0] ([] : List Int) ([] : List ((List Int) × (List Int)))) else (state_State_at_i2.j2 x1 x2 x1.2.2.2.2.2 [0, 0, 0, 0, 0, 0, 0, 0, 0, 0, 0, 0, 0, 0, 0, 0, 0, 0, 0, 0] 0 [0, 0, 0, 0] ([] : List Int) ([] : List ((List Int) × (List Int))))) else (state_State_at_i2.j2 x1 x2 x1.2.2.2.2.2 y2 y3 y4 y5 y6)
def state_State_at_i2.f (k : Nat) (x1 : W8) (x2 : List Int) : Option W6 := if ((lk (aget x1.2.1.1 x2) none).2) = true then (some ((lk (aget x1.2.1.1 x2) none).1, ((), x1.2.1, (), x1.2.2.2.1, x1.2.2.2.2.1, x1.2.2.2.2.2))) else ((smithylaw14_half_Account.f k (x1.1) x2).bind fun t1 => (state_State_at_i2.j1 x1 x2 t1.2 t1.1.1 t1.1.2.1 t1.1.2.2.1 t1.1.2.2.2.1 t1.1.2.2.2.2))
theorem state_State_at_i2.ok (k : Nat) : state_State_at_i2.Ctr (state_State_at_i2.f k) := by
 intro x1 x2 ch_0_0 ch_0_1 ch_0_2 ch_0_3 ch_0_4 ch_0_5 ch_0_6 ch_0_7 ch_0_8 ch_0_9 ch_0_10 ch_0_11 ch_0_12 ch_0_13 ch_0_14 ch_0_15 r h0 mi w0 ok hm
 delta state_State_at_i2.f at h0
 refine c_enterX (n := 59) [(.v (.pointer (some ⟨ch_0_0, 0, none⟩))), (.agg [.ints .u8 x2 20])] (l := [(0, (.v (.pointer (some ⟨ch_0_0, 0, none⟩)))), (1, (.agg [.ints .u8 x2 20]))]) Try.func26 rfl rfl rfl rfl ok hm ?_
 clear ok hm
 intro b0 hb a S
 refine c_region ?_
 refine s_box S rfl rfl rfl ?_; clear S a; intro g1 a w S
 refine s_assign S rfl rfl ?_; clear S a; intro a S
 refine c_end ?_
 refine wp_seq ?_
 refine wp_seq (c_heldS S (.take 0 (.take 1 (.take 2 (.take 3 (.take 4 (.alts (.run 5 true (.pure 6 (.pure 7 (.pure 8 (.alts (.run 9 true (.alts (.run 10 true .done .nil)) .nil))))) .nil))))))) 11 [Res.cells g1 31 [.ints .u8 x2 20], Res.cells ch_0_0 72 [.rf (.iface 29 (.agg (cellsOf [.sl ch_0_1 (x1.1).length ch_0_2 (RdS Y39 ch_0_1 x1.1)]).toArray)) (IfR [.sl ch_0_1 (x1.1).length ch_0_2 (RdS Y39 ch_0_1 x1.1)]), .one (.map (some ch_0_3)), .one (.int .i64 x1.2.2.1), .one (.slice ch_0_7 ch_0_8 ch_0_9), .one (.slice ch_0_10 ch_0_11 ch_0_12), .one (.slice ch_0_13 ch_0_14 ch_0_15)], Res.row (Ty.arr .u8 20) 31 ch_0_13 ch_0_14 ch_0_15 x1.2.2.2.2.2] (.cons .here (.cons .here (.cons (.there (.there (.there (.there (.there (.there .here)))))) .nil))) ⟨Res.stay_cells, Res.stay_cells, Res.stay_row flat_arr, trivial⟩ [(3, (.v (.pointer (some ⟨g1, 0, none⟩)))), (0, (.v (.pointer (some ⟨ch_0_0, 0, none⟩))))] (subR rfl) (by kernel_rfl) (by kernel_rfl) ?_); clear S; intro w S CL hw le
 refine h_move S CL hw le (subR rfl) rfl rfl rfl trivial ?_; clear S CL a; intro a S CL
 refine h_nilchk S CL hw le (subR rfl) rfl rfl rfl rfl trivial ?_; clear S CL a; intro a S CL
 refine h_fieldAddr S CL hw le (subR rfl) rfl I72_1 T69 (by decide) rfl rfl rfl trivial ?_; clear S CL a; intro a S CL
 refine h_load1 S CL hw le (subR rfl) rfl (.there .here) T69 (v := (.map (some ch_0_3))) rfl rfl rfl trivial ?_; clear S CL a; intro a S CL
 refine h_loada S CL hw le (subR rfl) rfl .here T31 (s' := [.ints .u8 x2 20]) rfl rfl rfl trivial ?_; clear S CL a; intro a S CL
 refine h_run' S rfl trivial ?_
 refine s_lookO S (z := none) (k := x2) rfl (.there (.there .here)) () rfl (fun h => ⟨(), rfl, h⟩) Try.underlying69 KT31 Z77 ⟨⟨rfl, (fun _ h => by cases h), ptrR.mono _ _⟩, trivial⟩ rfl ?_; clear S a; intro ch1 a S
 replace hw := CL.again hw S (.cons .here (.cons .here (.cons (.there (.there (.there (.there (.there (.there .here)))))) .nil))) le
 refine h_back ⟨fun _ => hw, ?_⟩
 refine p_move S rfl rfl rfl trivial ?_; clear S a; intro a S
 refine p_extract S rfl rfl rfl rfl rfl trivial ?_; clear S a; intro a S
 refine p_extract S rfl rfl rfl rfl rfl trivial ?_; clear S a; intro a S
 refine h_run' S rfl trivial ?_
 refine s_assign S rfl rfl ?_; clear S a; intro a S
 replace hw := CL.again hw S (.cons .here (.cons .here (.cons (.there (.there (.there (.there (.there (.there .here)))))) .nil))) le
 refine h_back ⟨fun _ => hw, ?_⟩
 refine h_run' S rfl trivial ?_
 refine s_assign S rfl rfl ?_; clear S a; intro a S
 replace hw := CL.again hw S (.cons .here (.cons .here (.cons (.there (.there (.there (.there (.there (.there .here)))))) .nil))) le
 refine h_back ⟨fun _ => hw, ?_⟩
 refine h_done ?_; clear CL hw le
 refine x_thenN ?_
 refine c_region ?_
 refine s_move S rfl rfl ?_; clear S a; intro a S
 refine c_end ?_
 rcases ite_of h0 with ⟨c1, h1⟩ | ⟨c1, h1⟩ <;> clear h0
 ·refine c_condT S rfl c1 ?_
  refine c_region ?_
  refine s_move S rfl rfl ?_; clear S a; intro a S
  refine s_assign S rfl rfl ?_; clear S a; intro a S
  refine c_end ?_
  refine wp_ret ?_
  refine x_thenR ?_
  obtain rfl := Option.some.inj h1
  exact b_ret1 (d := (.rf (ptrV ch_0_4 ((lk (aget x1.2.1.1 x2) none).1)) (ptrR ch_0_4 ((lk (aget x1.2.1.1 x2) none).1)))) S rfl rfl fun ok => S.retX (Hx := []) hb _ _ ((ch_0_3, ch_0_4, ch_0_5, ch_0_6, ch_0_7, ch_0_8, ch_0_9, ch_0_10, ch_0_11, ch_0_12, ch_0_13, ch_0_14, ch_0_15) : W7) (.cons (.there .here) (.cons (.there .here) (.cons (.there .here) (.cons (.there .here) (.cons (.there .here) (.cons (.there .here) (.cons (.there .here) (.cons (.there .here) .nil)))))))) ok
 ·refine c_condF S rfl c1 ?_
  refine wp_skip ?_
  refine x_thenN ?_
  refine wp_seq_k ?_
  intro K1 hK1
  have j1 : ∀ (m : Mem) (y1 : Bool) (g3 : Nat) (g4 : Nat) (y2 : List Int) (y3 : Int) (y4 : List Int) (A1 : Option Addr) (cp1 : Nat) (y5 : List Int) (A2 : Option Addr) (cp2 : Nat) (y6 : List ((List Int) × (List Int))) (a : Act) (w : World), St 59 m b0 [(8, (.v (.bool y1))), (7, (.v (.pointer (some ⟨g3, 0, none⟩)))), (3, (.v (.pointer (some ⟨g4, 0, none⟩)))), (0, (.v (.pointer (some ⟨ch_0_0, 0, none⟩))))] [Res.cells g3 39 [.ints .u8 y2 20, .one (.int .u64 y3), .ints .u64 y4 4, .sl A1 (y5).length cp1 (RdS (Ty.int .u8) A1 y5), .sl A2 (y6).length cp2 (RdS Y82 A2 y6)], Res.cells g4 31 [.ints .u8 x2 20], Res.cells ch_0_0 72 [.rf (.iface 29 (.agg (cellsOf [.sl ch_0_1 (x1.1).length ch_0_2 (RdS Y39 ch_0_1 x1.1)]).toArray)) (IfR [.sl ch_0_1 (x1.1).length ch_0_2 (RdS Y39 ch_0_1 x1.1)]), .one (.map (some ch_0_3)), .one (.int .i64 x1.2.2.1), .one (.slice ch_0_7 ch_0_8 ch_0_9), .one (.slice ch_0_10 ch_0_11 ch_0_12), .one (.slice ch_0_13 ch_0_14 ch_0_15)], Res.map true (Ty.arr .u8 20) false (Ty.pid ch_0_4) ch_0_3 x1.2.1.1, Res.fam (Res.struct (YE76 ch_0_5 ch_0_6) 76) (one_struct _ _) ch_0_4 [] x1.2.1.2.1, Res.fam (fun g_ kvs_ => Res.map true (Ty.arr .u64 4) true (Ty.arr .u64 4) g_ kvs_) (one_map true (Ty.arr .u64 4) true (Ty.arr .u64 4)) ch_0_5 [] x1.2.1.2.2.1, Res.fam (fun g_ kvs_ => Res.map true (Ty.arr .u64 4) false Ty.bool g_ kvs_) (one_map true (Ty.arr .u64 4) false Ty.bool) ch_0_6 [] x1.2.1.2.2.2, Res.row Y51 51 ch_0_7 ch_0_8 ch_0_9 x1.2.2.2.1, Res.row (YC ch_0_0 ch_0_4 ch_0_5 ch_0_6) 1 ch_0_10 ch_0_11 ch_0_12 x1.2.2.2.2.1, Res.row (Ty.arr .u8 20) 31 ch_0_13 ch_0_14 ch_0_15 x1.2.2.2.2.2] a w → state_State_at_i2.j1 x1 x2 y1 y2 y3 y4 y5 y6 = some r → K1 a w := by
   intro m y1 g3 g4 y2 y3 y4 A1 cp1 y5 A2 cp2 y6 a w S h0
   delta state_State_at_i2.j1 at h0
   refine hK1 a w ?_
   refine wp_seq_k ?_
   intro K2 hK2
   have j2 : ∀ (m : Mem) (g6 : Nat) (g7 : Nat) (A3 : Option Addr) (nn1 : Nat) (cp3 : Nat) (y7 : List (List Int)) (y8 : List Int) (y9 : Int) (y10 : List Int) (A4 : Option Addr) (cp4 : Nat) (y11 : List Int) (A5 : Option Addr) (cp5 : Nat) (y12 : List ((List Int) × (List Int))) (a : Act) (w : World), St 59 m b0 [(7, (.v (.pointer (some ⟨g6, 0, none⟩)))), (3, (.v (.pointer (some ⟨g7, 0, none⟩)))), (0, (.v (.pointer (some ⟨ch_0_0, 0, none⟩))))] [Res.row (Ty.arr .u8 20) 31 A3 nn1 cp3 y7, Res.cells g6 39 [.ints .u8 y8 20, .one (.int .u64 y9), .ints .u64 y10 4, .sl A4 (y11).length cp4 (RdS (Ty.int .u8) A4 y11), .sl A5 (y12).length cp5 (RdS Y82 A5 y12)], Res.cells g7 31 [.ints .u8 x2 20], Res.cells ch_0_0 72 [.rf (.iface 29 (.agg (cellsOf [.sl ch_0_1 (x1.1).length ch_0_2 (RdS Y39 ch_0_1 x1.1)]).toArray)) (IfR [.sl ch_0_1 (x1.1).length ch_0_2 (RdS Y39 ch_0_1 x1.1)]), .one (.map (some ch_0_3)), .one (.int .i64 x1.2.2.1), .one (.slice ch_0_7 ch_0_8 ch_0_9), .one (.slice ch_0_10 ch_0_11 ch_0_12), .one (.slice A3 nn1 cp3)], Res.map true (Ty.arr .u8 20) false (Ty.pid ch_0_4) ch_0_3 x1.2.1.1, Res.fam (Res.struct (YE76 ch_0_5 ch_0_6) 76) (one_struct _ _) ch_0_4 [] x1.2.1.2.1, Res.fam (fun g_ kvs_ => Res.map true (Ty.arr .u64 4) true (Ty.arr .u64 4) g_ kvs_) (one_map true (Ty.arr .u64 4) true (Ty.arr .u64 4)) ch_0_5 [] x1.2.1.2.2.1, Res.fam (fun g_ kvs_ => Res.map true (Ty.arr .u64 4) false Ty.bool g_ kvs_) (one_map true (Ty.arr .u64 4) false Ty.bool) ch_0_6 [] x1.2.1.2.2.2, Res.row Y51 51 ch_0_7 ch_0_8 ch_0_9 x1.2.2.2.1, Res.row (YC ch_0_0 ch_0_4 ch_0_5 ch_0_6) 1 ch_0_10 ch_0_11 ch_0_12 x1.2.2.2.2.1] a w → state_State_at_i2.j2 x1 x2 y7 y8 y9 y10 y11 y12 = some r → K2 a w := by
    intro m g6 g7 A3 nn1 cp3 y7 y8 y9 y10 A4 cp4 y11 A5 cp5 y12 a w S h0
    delta state_State_at_i2.j2 at h0
    refine hK2 a w ?_
    refine c_region ?_
    refine s_loada S rfl (.there (.there .here)) T31 (s' := [.ints .u8 x2 20]) rfl rfl ?_; clear S a; intro a S
    refine s_fieldAddr S rfl I39_0 T31 (by decide) rfl rfl ?_; clear S a; intro a S
    refine s_store S rfl rfl rfl (s' := [.ints .u8 x2 20, .one (.int .u64 y9), .ints .u64 y10 4, .sl A4 (y11).length cp4 (RdS (Ty.int .u8) A4 y11), .sl A5 (y12).length cp5 (RdS Y82 A5 y12)]) (.there .here) T31 rfl rfl ?_; clear S w; intro w S
    refine c_end ?_
    refine c_region ?_
    refine s_loada S rfl (.there .here) T39 (s' := [.ints .u8 x2 20, .one (.int .u64 y9), .ints .u64 y10 4, .sl A4 (y11).length cp4 (RdS (Ty.int .u8) A4 y11), .sl A5 (y12).length cp5 (RdS Y82 A5 y12)]) rfl rfl ?_; clear S a; intro a S
    refine s_loada S rfl (.there .here) T39 (s' := [.ints .u8 x2 20, .one (.int .u64 y9), .ints .u64 y10 4, .sl A4 (y11).length cp4 (RdS (Ty.int .u8) A4 y11), .sl A5 (y12).length cp5 (RdS Y82 A5 y12)]) rfl rfl ?_; clear S a; intro a S
    refine s_makeMap S true (Ty.arr .u64 4) true (Ty.arr .u64 4) rfl ?_; clear S a w; intro g8 a w S
    refine s_makeMap S true (Ty.arr .u64 4) false Ty.bool rfl ?_; clear S a w; intro g9 a w S
    refine s_bldS S (ds := [(0, (.agg [.ints .u8 x2 20, .one (.int .u64 y9), .ints .u64 y10 4, .sl A4 (y11).length cp4 (RdS (Ty.int .u8) A4 y11), .sl A5 (y12).length cp5 (RdS Y82 A5 y12)])), (1, (.agg [.ints .u8 x2 20, .one (.int .u64 y9), .ints .u64 y10 4, .sl A4 (y11).length cp4 (RdS (Ty.int .u8) A4 y11), .sl A5 (y12).length cp5 (RdS Y82 A5 y12)])), (3, (.v (.map (some g8)))), (6, (.v (.map (some g9))))]) (zs := [.ints .u8 [0, 0, 0, 0, 0, 0, 0, 0, 0, 0, 0, 0, 0, 0, 0, 0, 0, 0, 0, 0] 20, .one (.int .u64 0), .ints .u64 [0, 0, 0, 0] 4, .one (.slice none 0 0), .one (.slice none 0 0), .ints .u8 [0, 0, 0, 0, 0, 0, 0, 0, 0, 0, 0, 0, 0, 0, 0, 0, 0, 0, 0, 0] 20, .one (.int .u64 0), .ints .u64 [0, 0, 0, 0] 4, .one (.slice none 0 0), .one (.slice none 0 0), .one (.bool false), .one (.map none), .one (.bool false), .one (.bool false), .one (.map none)]) (s' := [.ints .u8 x2 20, .one (.int .u64 y9), .ints .u64 y10 4, .sl A4 (y11).length cp4 (RdS (Ty.int .u8) A4 y11), .sl A5 (y12).length cp5 (RdS Y82 A5 y12), .ints .u8 x2 20, .one (.int .u64 y9), .ints .u64 y10 4, .sl A4 (y11).length cp4 (RdS (Ty.int .u8) A4 y11), .sl A5 (y12).length cp5 (RdS Y82 A5 y12), .one (.bool false), .one (.map (some g8)), .one (.bool false), .one (.bool false), .one (.map (some g9))]) rfl Try.underlying76 P76 Z76 ⟨rfl, rfl, rfl, rfl, rfl, rfl, rfl, rfl, rfl, rfl, rfl, rfl, rfl, rfl, rfl, trivial⟩ rfl rfl ?_; clear S a; intro a S
    refine s_box S rfl rfl rfl ?_; clear S a w; intro g10 a w S
    refine s_assign S rfl rfl ?_; clear S a; intro a S
    refine c_end ?_
    refine wp_seq (c_heldS S (.take 0 (.take 1 (.take 2 (.take 3 (.take 4 (.take 5 (.alts (.run 6 true .done .nil)))))))) 7 [Res.row (Ty.arr .u8 20) 31 A3 nn1 cp3 y7, Res.cells g6 39 [.ints .u8 x2 20, .one (.int .u64 y9), .ints .u64 y10 4, .sl A4 (y11).length cp4 (RdS (Ty.int .u8) A4 y11), .sl A5 (y12).length cp5 (RdS Y82 A5 y12)], Res.cells g7 31 [.ints .u8 x2 20], Res.cells ch_0_0 72 [.rf (.iface 29 (.agg (cellsOf [.sl ch_0_1 (x1.1).length ch_0_2 (RdS Y39 ch_0_1 x1.1)]).toArray)) (IfR [.sl ch_0_1 (x1.1).length ch_0_2 (RdS Y39 ch_0_1 x1.1)]), .one (.map (some ch_0_3)), .one (.int .i64 x1.2.2.1), .one (.slice ch_0_7 ch_0_8 ch_0_9), .one (.slice ch_0_10 ch_0_11 ch_0_12), .one (.slice A3 nn1 cp3)]] (.cons (.there (.there (.there .here))) (.cons (.there (.there (.there .here))) (.cons (.there (.there (.there .here))) (.cons (.there (.there (.there .here))) .nil)))) ⟨Res.stay_row flat_arr, Res.stay_cells, Res.stay_cells, Res.stay_cells, trivial⟩ [(9, (.v (.pointer (some ⟨g10, 0, none⟩)))), (3, (.v (.pointer (some ⟨g7, 0, none⟩)))), (0, (.v (.pointer (some ⟨ch_0_0, 0, none⟩))))] (subR rfl) (by kernel_rfl) (by kernel_rfl) ?_); clear S; intro w S CL hw le
    refine h_move S CL hw le (subR rfl) rfl rfl rfl trivial ?_; clear S CL a; intro a S CL
    refine h_nilchk S CL hw le (subR rfl) rfl rfl rfl rfl trivial ?_; clear S CL a; intro a S CL
    refine h_fieldAddr S CL hw le (subR rfl) rfl I72_1 T69 (by decide) rfl rfl rfl trivial ?_; clear S CL a; intro a S CL
    refine h_load1 S CL hw le (subR rfl) rfl (.there (.there (.there .here))) T69 (v := (.map (some ch_0_3))) rfl rfl rfl trivial ?_; clear S CL a; intro a S CL
    refine h_loada S CL hw le (subR rfl) rfl (.there (.there .here)) T31 (s' := [.ints .u8 x2 20]) rfl rfl rfl trivial ?_; clear S CL a; intro a S CL
    refine h_move S CL hw le (subR rfl) rfl rfl rfl trivial ?_; clear S CL a; intro a S CL
    refine h_run' S rfl trivial ?_
    have hS := S.famAdd (.there (.there .here)) (.there (.there (.there (.there (.there (.there (.there (.there .here))))))))
    clear S; obtain ⟨S, hn1⟩ := hS
    replace S := S.cellMid (s1 := [.ints .u8 x2 20, .one (.int .u64 y9), .ints .u64 y10 4, .sl A4 (y11).length cp4 (RdS (Ty.int .u8) A4 y11), .sl A5 (y12).length cp5 (RdS Y82 A5 y12), .ints .u8 x2 20, .one (.int .u64 y9), .ints .u64 y10 4, .sl A4 (y11).length cp4 (RdS (Ty.int .u8) A4 y11), .sl A5 (y12).length cp5 (RdS Y82 A5 y12), .one (.bool false)]) (s2 := [.one (.bool false), .one (.bool false), .one (.map (some g9))]) (bAt_last _ _ hn1) (by rw [hn1]; simp) .here
    replace S := S.famSub (F' := Res.struct (YE76 (ch_0_5 ++ [g8]) ch_0_6) 76) (hF' := one_struct _ _) (fun _ _ _ _ h => struct_sub (YS76_0 ch_0_5 ch_0_6 g8) _ _ _ _ _ h) (.there (.there (.there (.there (.there (.there (.there .here)))))))
    replace S := S.rowSub (YCs_1 ch_0_0 ch_0_4 ch_0_5 ch_0_6 g8) (.there (.there (.there (.there (.there (.there (.there (.there (.there (.there (.there .here)))))))))))
    have hS := S.famAdd (.there .here) (.there (.there (.there (.there (.there (.there (.there (.there .here))))))))
    clear S; obtain ⟨S, hn2⟩ := hS
    replace S := S.cellMid (s1 := [.ints .u8 x2 20, .one (.int .u64 y9), .ints .u64 y10 4, .sl A4 (y11).length cp4 (RdS (Ty.int .u8) A4 y11), .sl A5 (y12).length cp5 (RdS Y82 A5 y12), .ints .u8 x2 20, .one (.int .u64 y9), .ints .u64 y10 4, .sl A4 (y11).length cp4 (RdS (Ty.int .u8) A4 y11), .sl A5 (y12).length cp5 (RdS Y82 A5 y12), .one (.bool false), .rf (.map (some (bAt (ch_0_5 ++ [g8]) x1.2.1.2.2.1.length))) (ltR x1.2.1.2.2.1.length (ch_0_5 ++ [g8])), .one (.bool false), .one (.bool false)]) (s2 := []) (bAt_last _ _ hn2) (by rw [hn2]; simp) .here
    replace S := S.famSub (F' := Res.struct (YE76 (ch_0_5 ++ [g8]) (ch_0_6 ++ [g9])) 76) (hF' := one_struct _ _) (fun _ _ _ _ h => struct_sub (YS76_1 (ch_0_5 ++ [g8]) ch_0_6 g9) _ _ _ _ _ h) (.there (.there (.there (.there (.there (.there .here))))))
    replace S := S.rowSub (YCs_2 ch_0_0 ch_0_4 (ch_0_5 ++ [g8]) ch_0_6 g9) (.there (.there (.there (.there (.there (.there (.there (.there (.there (.there .here))))))))))
    replace S := S.structClose (T := (YE76 (ch_0_5 ++ [g8]) (ch_0_6 ++ [g9]))) (e := ((x2, y9, y10, y11, y12), (x2, y9, y10, y11, y12), false, x1.2.1.2.2.1.length, false, false, x1.2.1.2.2.2.length)) ((((), (), (), (A4, cp4), (A5, cp5)), ((), (), (), (A4, cp4), (A5, cp5)), (), (), (), (), ()) : ((YE76 (ch_0_5 ++ [g8]) (ch_0_6 ++ [g9]))).Ch) rfl .here
    have hS := S.famAdd .here (.there (.there (.there (.there (.there .here)))))
    clear S; obtain ⟨S, hn3⟩ := hS
    replace S := S.mapSub (fun m x v h => vl_pid g10 m x v h) (.there (.there (.there (.there .here))))
    replace S := S.rowSub (YCs_0 ch_0_0 ch_0_4 (ch_0_5 ++ [g8]) (ch_0_6 ++ [g9]) g10) (.there (.there (.there (.there (.there (.there (.there (.there (.there .here)))))))))
    replace S := S.slotPB (u := 57) (i := x1.2.1.2.1.length) (g := g10) (G := (ch_0_4 ++ [g10])) (by rw [hn3]; simp) (bAt_last _ _ hn3) rfl
    replace S := S.slotPB (u := 9) (i := x1.2.1.2.1.length) (g := g10) (G := (ch_0_4 ++ [g10])) (by rw [hn3]; simp) (bAt_last _ _ hn3) rfl
    replace S := S.slotPB (u := 51) (i := x1.2.1.2.1.length) (g := g10) (G := (ch_0_4 ++ [g10])) (by rw [hn3]; simp) (bAt_last _ _ hn3) rfl
    refine s_mapput S (k := x2) (y := (some x1.2.1.2.1.length)) rfl (.there (.there (.there (.there .here)))) rfl (fun h => ⟨(), rfl, h⟩) rfl (fun h => ⟨(), rfl, h, trivial⟩) Try.underlying69 KT31 ?_; clear S; intro w S
    replace hw := CL.again hw S (.cons .here (.cons .here (.cons .here (.cons .here .nil)))) le
    refine h_back ⟨fun _ => hw, ?_⟩
    refine h_done ?_; clear CL hw le
    refine x_thenN ?_
    refine c_region ?_
    refine s_move S rfl rfl ?_; clear S a; intro a S
    refine s_assign S rfl rfl ?_; clear S a; intro a S
    refine c_end ?_
    refine wp_ret ?_
    obtain rfl := Option.some.inj h0
    exact b_ret1 (d := (.rf (ptrV (ch_0_4 ++ [g10]) (some x1.2.1.2.1.length)) (ptrR (ch_0_4 ++ [g10]) (some x1.2.1.2.1.length)))) S rfl rfl fun ok => S.retX (Hx := []) hb _ _ ((ch_0_3, (ch_0_4 ++ [g10]), (ch_0_5 ++ [g8]), (ch_0_6 ++ [g9]), ch_0_7, ch_0_8, ch_0_9, ch_0_10, ch_0_11, ch_0_12, A3, nn1, cp3) : W7) (.cons (.there (.there (.there .here))) (.cons (.there (.there (.there .here))) (.cons (.there (.there (.there .here))) (.cons (.there (.there (.there .here))) (.cons (.there (.there (.there .here))) (.cons (.there (.there (.there .here))) (.cons (.there (.there (.there .here))) (.cons .here .nil)))))))) ok
   refine c_region ?_
   refine s_move S rfl rfl ?_; clear S a; intro a S
   refine s_not S rfl rfl ?_; clear S a; intro a S
   refine c_end ?_
   rcases ite_of h0 with ⟨c2, h1⟩ | ⟨c2, h1⟩ <;> clear h0
   ·refine c_condT S rfl c2 ?_
    refine c_region ?_
    refine s_bldS S (ds := []) (zs := [.ints .u8 [0, 0, 0, 0, 0, 0, 0, 0, 0, 0, 0, 0, 0, 0, 0, 0, 0, 0, 0, 0] 20, .one (.int .u64 0), .ints .u64 [0, 0, 0, 0] 4, .one (.slice none 0 0), .one (.slice none 0 0)]) (s' := [.ints .u8 [0, 0, 0, 0, 0, 0, 0, 0, 0, 0, 0, 0, 0, 0, 0, 0, 0, 0, 0, 0] 20, .one (.int .u64 0), .ints .u64 [0, 0, 0, 0] 4, .one (.slice none 0 0), .one (.slice none 0 0)]) rfl Try.underlying39 P39 Z39 ⟨rfl, rfl, rfl, rfl, rfl, trivial⟩ rfl rfl ?_; clear S a; intro a S
    refine s_store S rfl rfl rfl (s' := [.ints .u8 [0, 0, 0, 0, 0, 0, 0, 0, 0, 0, 0, 0, 0, 0, 0, 0, 0, 0, 0, 0] 20, .one (.int .u64 0), .ints .u64 [0, 0, 0, 0] 4, .one (.slice none 0 0), .one (.slice none 0 0)]) .here T39 rfl rfl ?_; clear S w; intro w S
    refine c_end ?_
    refine c_region ?_
    refine s_move S rfl rfl ?_; clear S a; intro a S
    refine s_nilchk S rfl rfl ?_; clear S a; intro a S
    refine s_fieldAddr S rfl I72_5 T23 (by decide) rfl rfl ?_; clear S a; intro a S
    refine s_load1 S rfl (.there (.there .here)) T23 (v := (.slice ch_0_13 ch_0_14 ch_0_15)) rfl rfl ?_; clear S a; intro a S
    refine s_lenO S rfl (.there (.there (.there (.there (.there (.there (.there (.there (.there .here))))))))) Try.underlying23 rfl ?_; clear S a; intro a S
    refine s_bin S rfl rfl rfl rfl ?_; clear S a; intro a S
    refine c_end ?_
    rcases ite_of h1 with ⟨c3, h2⟩ | ⟨c3, h2⟩ <;> clear h1
    ·refine c_condT S rfl c3 ?_
     refine c_region' ?_
     refine s_move S rfl rfl ?_; clear S a; intro a S
     refine s_loada S rfl (.there .here) T31 (s' := [.ints .u8 x2 20]) rfl rfl ?_; clear S a; intro a S
     refine s_bldSl S (ty' := (Ty.arr .u8 20)) (ds := [(0, (.agg [.ints .u8 x2 20]))]) (z := [0, 0, 0, 0, 0, 0, 0, 0, 0, 0, 0, 0, 0, 0, 0, 0, 0, 0, 0, 0]) (c0 := ()) (ys := [x2]) (cs := [()]) rfl Try.underlying23 J31 Z31 rfl ⟨rfl, trivial⟩ rfl rfl rfl rfl rfl rfl ?_; clear S a w; intro g11 a w S
     refine s_nilchk S rfl rfl ?_; clear S a; intro a S
     refine s_fieldAddr S rfl I72_5 T23 (by decide) rfl rfl ?_; clear S a; intro a S
     refine s_store S rfl rfl rfl (s' := [.rf (.iface 29 (.agg (cellsOf [.sl ch_0_1 (x1.1).length ch_0_2 (RdS Y39 ch_0_1 x1.1)]).toArray)) (IfR [.sl ch_0_1 (x1.1).length ch_0_2 (RdS Y39 ch_0_1 x1.1)]), .one (.map (some ch_0_3)), .one (.int .i64 x1.2.2.1), .one (.slice ch_0_7 ch_0_8 ch_0_9), .one (.slice ch_0_10 ch_0_11 ch_0_12), .one (.slice (some ⟨g11, 0, none⟩) 1 1)]) (.there (.there (.there .here))) T23 rfl rfl ?_; clear S w; intro w S
     refine c_end' ?_
     refine x_thenN ?_
     replace S := S.cellro (s' := [.ints .u8 [0, 0, 0, 0, 0, 0, 0, 0, 0, 0, 0, 0, 0, 0, 0, 0, 0, 0, 0, 0] 20, .one (.int .u64 0), .ints .u64 [0, 0, 0, 0] 4, .sl none (([] : List Int)).length 0 (RdS (Ty.int .u8) none ([] : List Int)), .one (.slice none 0 0)]) (.there .here) rfl (fun h => ⟨h.1, h.2.1, h.2.2.1, ok_nil, h.2.2.2.2.1, trivial⟩)
     replace S := S.cellro (s' := [.ints .u8 [0, 0, 0, 0, 0, 0, 0, 0, 0, 0, 0, 0, 0, 0, 0, 0, 0, 0, 0, 0] 20, .one (.int .u64 0), .ints .u64 [0, 0, 0, 0] 4, .sl none (([] : List Int)).length 0 (RdS (Ty.int .u8) none ([] : List Int)), .sl none (([] : List ((List Int) × (List Int)))).length 0 (RdS Y82 none ([] : List ((List Int) × (List Int))))]) (.there .here) rfl (fun h => ⟨h.1, h.2.1, h.2.2.1, h.2.2.2.1, ok_nil, trivial⟩)
     exact j2 _ g3 g4 (some ⟨g11, 0, none⟩) 1 1 [x2] [0, 0, 0, 0, 0, 0, 0, 0, 0, 0, 0, 0, 0, 0, 0, 0, 0, 0, 0, 0] 0 [0, 0, 0, 0] none 0 ([] : List Int) none 0 ([] : List ((List Int) × (List Int))) a w (S.sub (subR rfl) (.cons .here (.cons .here (.cons .here (.cons .here (.cons .here (.cons .here (.cons .here (.cons .here (.cons .here (.cons .here .nil))))))))))) h2
    ·refine c_condF S rfl c3 ?_
     refine wp_skip ?_
     refine x_thenN ?_
     replace S := S.cellro (s' := [.ints .u8 [0, 0, 0, 0, 0, 0, 0, 0, 0, 0, 0, 0, 0, 0, 0, 0, 0, 0, 0, 0] 20, .one (.int .u64 0), .ints .u64 [0, 0, 0, 0] 4, .sl none (([] : List Int)).length 0 (RdS (Ty.int .u8) none ([] : List Int)), .one (.slice none 0 0)]) .here rfl (fun h => ⟨h.1, h.2.1, h.2.2.1, ok_nil, h.2.2.2.2.1, trivial⟩)
     replace S := S.cellro (s' := [.ints .u8 [0, 0, 0, 0, 0, 0, 0, 0, 0, 0, 0, 0, 0, 0, 0, 0, 0, 0, 0, 0] 20, .one (.int .u64 0), .ints .u64 [0, 0, 0, 0] 4, .sl none (([] : List Int)).length 0 (RdS (Ty.int .u8) none ([] : List Int)), .sl none (([] : List ((List Int) × (List Int)))).length 0 (RdS Y82 none ([] : List ((List Int) × (List Int))))]) .here rfl (fun h => ⟨h.1, h.2.1, h.2.2.1, h.2.2.2.1, ok_nil, trivial⟩)
     exact j2 _ g3 g4 ch_0_13 ch_0_14 ch_0_15 x1.2.2.2.2.2 [0, 0, 0, 0, 0, 0, 0, 0, 0, 0, 0, 0, 0, 0, 0, 0, 0, 0, 0, 0] 0 [0, 0, 0, 0] none 0 ([] : List Int) none 0 ([] : List ((List Int) × (List Int))) a w (S.sub (subR rfl) (.cons (.there (.there (.there (.there (.there (.there (.there (.there (.there .here))))))))) (.cons .here (.cons .here (.cons .here (.cons .here (.cons .here (.cons .here (.cons .here (.cons .here (.cons .here .nil))))))))))) h2
   ·refine c_condF S rfl c2 ?_
    refine wp_skip ?_
    refine x_thenN ?_
    exact j2 _ g3 g4 ch_0_13 ch_0_14 ch_0_15 x1.2.2.2.2.2 y2 y3 y4 A1 cp1 y5 A2 cp2 y6 a w (S.sub (subR rfl) (.cons (.there (.there (.there (.there (.there (.there (.there (.there (.there .here))))))))) (.cons .here (.cons .here (.cons .here (.cons .here (.cons .here (.cons .here (.cons .here (.cons .here (.cons .here .nil))))))))))) h1
  refine c_heldS S (.take 0 (.take 1 (.take 2 (.take 3 (.take 4 (.alts (.run 5 false (.pure 6 (.pure 7 (.pure 8 (.alts (.run 9 false (.alts (.run 10 false (.alts (.run 11 false .done .nil)) .nil)) .nil))))) (.run 9 true (.alts (.run 5 false (.pure 6 (.pure 7 (.pure 8 (.alts (.run 10 false (.alts (.run 11 false .done .nil)) .nil))))) .nil)) .nil)))))))) 5 [Res.cells g1 31 [.ints .u8 x2 20], Res.cells ch_0_0 72 [.rf (.iface 29 (.agg (cellsOf [.sl ch_0_1 (x1.1).length ch_0_2 (RdS Y39 ch_0_1 x1.1)]).toArray)) (IfR [.sl ch_0_1 (x1.1).length ch_0_2 (RdS Y39 ch_0_1 x1.1)]), .one (.map (some ch_0_3)), .one (.int .i64 x1.2.2.1), .one (.slice ch_0_7 ch_0_8 ch_0_9), .one (.slice ch_0_10 ch_0_11 ch_0_12), .one (.slice ch_0_13 ch_0_14 ch_0_15)], Res.row (Ty.arr .u8 20) 31 ch_0_13 ch_0_14 ch_0_15 x1.2.2.2.2.2] (.cons .here (.cons .here (.cons (.there (.there (.there (.there (.there (.there .here)))))) .nil))) ⟨Res.stay_cells, Res.stay_cells, Res.stay_row flat_arr, trivial⟩ [(3, (.v (.pointer (some ⟨g1, 0, none⟩)))), (0, (.v (.pointer (some ⟨ch_0_0, 0, none⟩))))] (subR rfl) (by kernel_rfl) (by kernel_rfl) ?_; clear S; intro w S CL hw le
  refine h_move S CL hw le (subR rfl) rfl rfl rfl trivial ?_; clear S CL a; intro a S CL
  refine h_nilchk S CL hw le (subR rfl) rfl rfl rfl rfl trivial ?_; clear S CL a; intro a S CL
  refine h_fieldAddr S CL hw le (subR rfl) rfl I72_0 T45 (by decide) rfl rfl rfl trivial ?_; clear S CL a; intro a S CL
  refine h_loadM S CL hw le (subR rfl) rfl (.there .here) T45 (v := (.iface 29 (.agg (cellsOf [.sl ch_0_1 (x1.1).length ch_0_2 (RdS Y39 ch_0_1 x1.1)]).toArray))) rfl rfl rfl trivial ?_; clear S CL a; intro a S CL
  refine h_loada S CL hw le (subR rfl) rfl .here T31 (s' := [.ints .u8 x2 20]) rfl rfl rfl trivial ?_; clear S CL a; intro a S CL
  obtain ⟨t1, et1, h2⟩ := bind_of h1; clear h1
  refine h_alts ?_
  refine h_runO S rfl trivial ?_ ?_
  ·refine s_callI S (d0 := (.agg [.sl ch_0_1 (x1.1).length ch_0_2 (RdS Y39 ch_0_1 x1.1)])) (ds' := [(.agg [.ints .u8 x2 20])]) (ds := [(.agg [.ints .u8 x2 20])]) [] [Res.cells g1 31 [.ints .u8 x2 20], Res.cells ch_0_0 72 [.rf (.iface 29 (.agg (cellsOf [.sl ch_0_1 (x1.1).length ch_0_2 (RdS Y39 ch_0_1 x1.1)]).toArray)) (IfR [.sl ch_0_1 (x1.1).length ch_0_2 (RdS Y39 ch_0_1 x1.1)]), .one (.map (some ch_0_3)), .one (.int .i64 x1.2.2.1), .one (.slice ch_0_7 ch_0_8 ch_0_9), .one (.slice ch_0_10 ch_0_11 ch_0_12), .one (.slice ch_0_13 ch_0_14 ch_0_15)], Res.map true (Ty.arr .u8 20) false (Ty.pid ch_0_4) ch_0_3 x1.2.1.1, Res.fam (Res.struct (YE76 ch_0_5 ch_0_6) 76) (one_struct _ _) ch_0_4 [] x1.2.1.2.1, Res.fam (fun g_ kvs_ => Res.map true (Ty.arr .u64 4) true (Ty.arr .u64 4) g_ kvs_) (one_map true (Ty.arr .u64 4) true (Ty.arr .u64 4)) ch_0_5 [] x1.2.1.2.2.1, Res.fam (fun g_ kvs_ => Res.map true (Ty.arr .u64 4) false Ty.bool g_ kvs_) (one_map true (Ty.arr .u64 4) false Ty.bool) ch_0_6 [] x1.2.1.2.2.2, Res.row Y51 51 ch_0_7 ch_0_8 ch_0_9 x1.2.2.2.1, Res.row (YC ch_0_0 ch_0_4 ch_0_5 ch_0_6) 1 ch_0_10 ch_0_11 ch_0_12 x1.2.2.2.2.1, Res.row (Ty.arr .u8 20) 31 ch_0_13 ch_0_14 ch_0_15 x1.2.2.2.2.2] (fun (ch : W5) => ((.tup [(true, (Y39.segs t1.1 ((), (), (), (ch.1, ch.2.1), (ch.2.2.1, ch.2.2.2)))), (false, [.one (.bool t1.2)])]) : D)) (fun (ch : W5) => []) (fun (ch : W5) => [Res.cells g1 31 [.ints .u8 x2 20], Res.cells ch_0_0 72 [.rf (.iface 29 (.agg (cellsOf [.sl ch_0_1 (x1.1).length ch_0_2 (RdS Y39 ch_0_1 x1.1)]).toArray)) (IfR [.sl ch_0_1 (x1.1).length ch_0_2 (RdS Y39 ch_0_1 x1.1)]), .one (.map (some ch_0_3)), .one (.int .i64 x1.2.2.1), .one (.slice ch_0_7 ch_0_8 ch_0_9), .one (.slice ch_0_10 ch_0_11 ch_0_12), .one (.slice ch_0_13 ch_0_14 ch_0_15)], Res.map true (Ty.arr .u8 20) false (Ty.pid ch_0_4) ch_0_3 x1.2.1.1, Res.fam (Res.struct (YE76 ch_0_5 ch_0_6) 76) (one_struct _ _) ch_0_4 [] x1.2.1.2.1, Res.fam (fun g_ kvs_ => Res.map true (Ty.arr .u64 4) true (Ty.arr .u64 4) g_ kvs_) (one_map true (Ty.arr .u64 4) true (Ty.arr .u64 4)) ch_0_5 [] x1.2.1.2.2.1, Res.fam (fun g_ kvs_ => Res.map true (Ty.arr .u64 4) false Ty.bool g_ kvs_) (one_map true (Ty.arr .u64 4) false Ty.bool) ch_0_6 [] x1.2.1.2.2.2, Res.row Y51 51 ch_0_7 ch_0_8 ch_0_9 x1.2.2.2.1, Res.row (YC ch_0_0 ch_0_4 ch_0_5 ch_0_6) 1 ch_0_10 ch_0_11 ch_0_12 x1.2.2.2.2.1, Res.row (Ty.arr .u8 20) 31 ch_0_13 ch_0_14 ch_0_15 x1.2.2.2.2.2]) (fun _ => rfl) N101 M29_Account rfl rfl (fun h => h) rfl rfl (fun ok => ok) (.cons .here (.cons .here (.cons .here (.cons .here (.cons .here (.cons .here (.cons .here (.cons .here (.cons .here .nil))))))))) rfl (smithylaw14_half_Account.ok k (x1.1) x2 ch_0_1 ch_0_2 t1 et1 _ _) ?_; clear S a; intro ch3 m le1 a w S
   replace le := le.trans le1
   refine h_back ⟨fun h => (nomatch h), ?_⟩
   refine p_move S rfl rfl rfl trivial ?_; clear S a; intro a S
   refine p_extract S rfl rfl rfl rfl rfl trivial ?_; clear S a; intro a S
   refine p_extract S rfl rfl rfl rfl rfl trivial ?_; clear S a; intro a S
   refine h_run' S rfl trivial ?_
   refine s_alloc S Z39 rfl ⟨rfl, rfl, rfl, rfl, rfl, trivial⟩ rfl ?_; clear S a; intro g12 a w S
   refine h_back ⟨fun h => (nomatch h), ?_⟩
   refine h_run' S rfl trivial ?_
   refine s_store S rfl rfl rfl (s' := [.ints .u8 t1.1.1 20, .one (.int .u64 t1.1.2.1), .ints .u64 t1.1.2.2.1 4, .sl ch3.1 (t1.1.2.2.2.1).length ch3.2.1 (RdS (Ty.int .u8) ch3.1 t1.1.2.2.2.1), .sl ch3.2.2.1 (t1.1.2.2.2.2).length ch3.2.2.2 (RdS Y82 ch3.2.2.1 t1.1.2.2.2.2)]) .here T39 rfl rfl ?_; clear S; intro w S
   refine h_back ⟨fun h => (nomatch h), ?_⟩
   refine h_run' S rfl trivial ?_
   refine s_assign S rfl rfl ?_; clear S a; intro a S
   refine h_back ⟨fun h => (nomatch h), ?_⟩
   refine h_done ?_; clear CL hw le
   refine x_thenN ?_
   exact j1 _ t1.2 g12 g1 t1.1.1 t1.1.2.1 t1.1.2.2.1 ch3.1 ch3.2.1 t1.1.2.2.2.1 ch3.2.2.1 ch3.2.2.2 t1.1.2.2.2.2 a w (S.sub (subR rfl) (.cons .here (.cons .here (.cons .here (.cons .here (.cons .here (.cons .here (.cons .here (.cons .here (.cons .here (.cons .here .nil))))))))))) h2
  refine h_runO S rfl trivial ?_ ?_
  ·refine s_alloc S Z39 rfl ⟨rfl, rfl, rfl, rfl, rfl, trivial⟩ rfl ?_; clear S a; intro g12 a w S
   replace hw := CL.again hw S (.cons (.there .here) (.cons (.there .here) (.cons (.there (.there (.there (.there (.there (.there (.there .here))))))) .nil))) le
   refine h_back ⟨fun _ => hw, ?_⟩
   refine h_run' S rfl trivial ?_
   refine s_callI S (d0 := (.agg [.sl ch_0_1 (x1.1).length ch_0_2 (RdS Y39 ch_0_1 x1.1)])) (ds' := [(.agg [.ints .u8 x2 20])]) (ds := [(.agg [.ints .u8 x2 20])]) [] [Res.cells g12 39 [.ints .u8 [0, 0, 0, 0, 0, 0, 0, 0, 0, 0, 0, 0, 0, 0, 0, 0, 0, 0, 0, 0] 20, .one (.int .u64 0), .ints .u64 [0, 0, 0, 0] 4, .one (.slice none 0 0), .one (.slice none 0 0)], Res.cells g1 31 [.ints .u8 x2 20], Res.cells ch_0_0 72 [.rf (.iface 29 (.agg (cellsOf [.sl ch_0_1 (x1.1).length ch_0_2 (RdS Y39 ch_0_1 x1.1)]).toArray)) (IfR [.sl ch_0_1 (x1.1).length ch_0_2 (RdS Y39 ch_0_1 x1.1)]), .one (.map (some ch_0_3)), .one (.int .i64 x1.2.2.1), .one (.slice ch_0_7 ch_0_8 ch_0_9), .one (.slice ch_0_10 ch_0_11 ch_0_12), .one (.slice ch_0_13 ch_0_14 ch_0_15)], Res.map true (Ty.arr .u8 20) false (Ty.pid ch_0_4) ch_0_3 x1.2.1.1, Res.fam (Res.struct (YE76 ch_0_5 ch_0_6) 76) (one_struct _ _) ch_0_4 [] x1.2.1.2.1, Res.fam (fun g_ kvs_ => Res.map true (Ty.arr .u64 4) true (Ty.arr .u64 4) g_ kvs_) (one_map true (Ty.arr .u64 4) true (Ty.arr .u64 4)) ch_0_5 [] x1.2.1.2.2.1, Res.fam (fun g_ kvs_ => Res.map true (Ty.arr .u64 4) false Ty.bool g_ kvs_) (one_map true (Ty.arr .u64 4) false Ty.bool) ch_0_6 [] x1.2.1.2.2.2, Res.row Y51 51 ch_0_7 ch_0_8 ch_0_9 x1.2.2.2.1, Res.row (YC ch_0_0 ch_0_4 ch_0_5 ch_0_6) 1 ch_0_10 ch_0_11 ch_0_12 x1.2.2.2.2.1, Res.row (Ty.arr .u8 20) 31 ch_0_13 ch_0_14 ch_0_15 x1.2.2.2.2.2] (fun (ch : W5) => ((.tup [(true, (Y39.segs t1.1 ((), (), (), (ch.1, ch.2.1), (ch.2.2.1, ch.2.2.2)))), (false, [.one (.bool t1.2)])]) : D)) (fun (ch : W5) => []) (fun (ch : W5) => [Res.cells g12 39 [.ints .u8 [0, 0, 0, 0, 0, 0, 0, 0, 0, 0, 0, 0, 0, 0, 0, 0, 0, 0, 0, 0] 20, .one (.int .u64 0), .ints .u64 [0, 0, 0, 0] 4, .one (.slice none 0 0), .one (.slice none 0 0)], Res.cells g1 31 [.ints .u8 x2 20], Res.cells ch_0_0 72 [.rf (.iface 29 (.agg (cellsOf [.sl ch_0_1 (x1.1).length ch_0_2 (RdS Y39 ch_0_1 x1.1)]).toArray)) (IfR [.sl ch_0_1 (x1.1).length ch_0_2 (RdS Y39 ch_0_1 x1.1)]), .one (.map (some ch_0_3)), .one (.int .i64 x1.2.2.1), .one (.slice ch_0_7 ch_0_8 ch_0_9), .one (.slice ch_0_10 ch_0_11 ch_0_12), .one (.slice ch_0_13 ch_0_14 ch_0_15)], Res.map true (Ty.arr .u8 20) false (Ty.pid ch_0_4) ch_0_3 x1.2.1.1, Res.fam (Res.struct (YE76 ch_0_5 ch_0_6) 76) (one_struct _ _) ch_0_4 [] x1.2.1.2.1, Res.fam (fun g_ kvs_ => Res.map true (Ty.arr .u64 4) true (Ty.arr .u64 4) g_ kvs_) (one_map true (Ty.arr .u64 4) true (Ty.arr .u64 4)) ch_0_5 [] x1.2.1.2.2.1, Res.fam (fun g_ kvs_ => Res.map true (Ty.arr .u64 4) false Ty.bool g_ kvs_) (one_map true (Ty.arr .u64 4) false Ty.bool) ch_0_6 [] x1.2.1.2.2.2, Res.row Y51 51 ch_0_7 ch_0_8 ch_0_9 x1.2.2.2.1, Res.row (YC ch_0_0 ch_0_4 ch_0_5 ch_0_6) 1 ch_0_10 ch_0_11 ch_0_12 x1.2.2.2.2.1, Res.row (Ty.arr .u8 20) 31 ch_0_13 ch_0_14 ch_0_15 x1.2.2.2.2.2]) (fun _ => rfl) N101 M29_Account rfl rfl (fun h => h) rfl rfl (fun ok => ok) (.cons .here (.cons .here (.cons .here (.cons .here (.cons .here (.cons .here (.cons .here (.cons .here (.cons .here (.cons .here .nil)))))))))) rfl (smithylaw14_half_Account.ok k (x1.1) x2 ch_0_1 ch_0_2 t1 et1 _ _) ?_; clear S a; intro ch3 m le1 a w S
   replace le := le.trans le1
   refine h_back ⟨fun h => (nomatch h), ?_⟩
   refine p_move S rfl rfl rfl trivial ?_; clear S a; intro a S
   refine p_extract S rfl rfl rfl rfl rfl trivial ?_; clear S a; intro a S
   refine p_extract S rfl rfl rfl rfl rfl trivial ?_; clear S a; intro a S
   refine h_run' S rfl trivial ?_
   refine s_store S rfl rfl rfl (s' := [.ints .u8 t1.1.1 20, .one (.int .u64 t1.1.2.1), .ints .u64 t1.1.2.2.1 4, .sl ch3.1 (t1.1.2.2.2.1).length ch3.2.1 (RdS (Ty.int .u8) ch3.1 t1.1.2.2.2.1), .sl ch3.2.2.1 (t1.1.2.2.2.2).length ch3.2.2.2 (RdS Y82 ch3.2.2.1 t1.1.2.2.2.2)]) .here T39 rfl rfl ?_; clear S; intro w S
   refine h_back ⟨fun h => (nomatch h), ?_⟩
   refine h_run' S rfl trivial ?_
   refine s_assign S rfl rfl ?_; clear S a; intro a S
   refine h_back ⟨fun h => (nomatch h), ?_⟩
   refine h_done ?_; clear CL hw le
   refine x_thenN ?_
   exact j1 _ t1.2 g12 g1 t1.1.1 t1.1.2.1 t1.1.2.2.1 ch3.1 ch3.2.1 t1.1.2.2.2.1 ch3.2.2.1 ch3.2.2.2 t1.1.2.2.2.2 a w (S.sub (subR rfl) (.cons .here (.cons .here (.cons .here (.cons .here (.cons .here (.cons .here (.cons .here (.cons .here (.cons .here (.cons .here .nil))))))))))) h2
  exact h_nil
abbrev state_State_Nonce.Ty : Type := W8 → (List Int) → Option W19
def state_State_Nonce.Ctr (s : state_State_Nonce.Ty) : Prop := ∀ (x1 : W8) (x2 : List Int) (ch_0_0 : Nat) (ch_0_1 : Option Addr) (ch_0_2 : Nat) (ch_0_3 : Nat) (ch_0_4 : List Nat) (ch_0_5 : List Nat) (ch_0_6 : List Nat) (ch_0_7 : Option Addr) (ch_0_8 : Nat) (ch_0_9 : Nat) (ch_0_10 : Option Addr) (ch_0_11 : Nat) (ch_0_12 : Nat) (ch_0_13 : Option Addr) (ch_0_14 : Nat) (ch_0_15 : Nat) (r : W19) (h0 : s x1 x2 = some r) (mi : Mem) (w0 : World), okL mi [(.v (.pointer (some ⟨ch_0_0, 0, none⟩))), (.agg [.ints .u8 x2 20])] → Pre mi [Res.cells ch_0_0 72 [.rf (.iface 29 (.agg (cellsOf [.sl ch_0_1 (x1.1).length ch_0_2 (RdS Y39 ch_0_1 x1.1)]).toArray)) (IfR [.sl ch_0_1 (x1.1).length ch_0_2 (RdS Y39 ch_0_1 x1.1)]), .one (.map (some ch_0_3)), .one (.int .i64 x1.2.2.1), .one (.slice ch_0_7 ch_0_8 ch_0_9), .one (.slice ch_0_10 ch_0_11 ch_0_12), .one (.slice ch_0_13 ch_0_14 ch_0_15)], Res.map true (Ty.arr .u8 20) false (Ty.pid ch_0_4) ch_0_3 x1.2.1.1, Res.fam (Res.struct (YE76 ch_0_5 ch_0_6) 76) (one_struct _ _) ch_0_4 [] x1.2.1.2.1, Res.fam (fun g_ kvs_ => Res.map true (Ty.arr .u64 4) true (Ty.arr .u64 4) g_ kvs_) (one_map true (Ty.arr .u64 4) true (Ty.arr .u64 4)) ch_0_5 [] x1.2.1.2.2.1, Res.fam (fun g_ kvs_ => Res.map true (Ty.arr .u64 4) false Ty.bool g_ kvs_) (one_map true (Ty.arr .u64 4) false Ty.bool) ch_0_6 [] x1.2.1.2.2.2, Res.row Y51 51 ch_0_7 ch_0_8 ch_0_9 x1.2.2.2.1, Res.row (YC ch_0_0 ch_0_4 ch_0_5 ch_0_6) 1 ch_0_10 ch_0_11 ch_0_12 x1.2.2.2.2.1, Res.row (Ty.arr .u8 20) 31 ch_0_13 ch_0_14 ch_0_15 x1.2.2.2.2.2] w0 → Calls Try.prog 8 (([(.v (.pointer (some ⟨ch_0_0, 0, none⟩))), (.agg [.ints .u8 x2 20])] : List D).map D.val).toArray w0 (RetX mi [Res.cells ch_0_0 72 [.rf (.iface 29 (.agg (cellsOf [.sl ch_0_1 (x1.1).length ch_0_2 (RdS Y39 ch_0_1 x1.1)]).toArray)) (IfR [.sl ch_0_1 (x1.1).length ch_0_2 (RdS Y39 ch_0_1 x1.1)]), .one (.map (some ch_0_3)), .one (.int .i64 x1.2.2.1), .one (.slice ch_0_7 ch_0_8 ch_0_9), .one (.slice ch_0_10 ch_0_11 ch_0_12), .one (.slice ch_0_13 ch_0_14 ch_0_15)], Res.map true (Ty.arr .u8 20) false (Ty.pid ch_0_4) ch_0_3 x1.2.1.1, Res.fam (Res.struct (YE76 ch_0_5 ch_0_6) 76) (one_struct _ _) ch_0_4 [] x1.2.1.2.1, Res.fam (fun g_ kvs_ => Res.map true (Ty.arr .u64 4) true (Ty.arr .u64 4) g_ kvs_) (one_map true (Ty.arr .u64 4) true (Ty.arr .u64 4)) ch_0_5 [] x1.2.1.2.2.1, Res.fam (fun g_ kvs_ => Res.map true (Ty.arr .u64 4) false Ty.bool g_ kvs_) (one_map true (Ty.arr .u64 4) false Ty.bool) ch_0_6 [] x1.2.1.2.2.2, Res.row Y51 51 ch_0_7 ch_0_8 ch_0_9 x1.2.2.2.1, Res.row (YC ch_0_0 ch_0_4 ch_0_5 ch_0_6) 1 ch_0_10 ch_0_11 ch_0_12 x1.2.2.2.2.1, Res.row (Ty.arr .u8 20) 31 ch_0_13 ch_0_14 ch_0_15 x1.2.2.2.2.2] (fun (ch : W7) => ((.v (.int .u64 r.1)) : D)) (fun (ch : W7) => [Res.cells ch_0_0 72 [.rf (.iface 29 (.agg (cellsOf [.sl ch_0_1 (x1.1).length ch_0_2 (RdS Y39 ch_0_1 x1.1)]).toArray)) (IfR [.sl ch_0_1 (x1.1).length ch_0_2 (RdS Y39 ch_0_1 x1.1)]), .one (.map (some ch.1)), .one (.int .i64 x1.2.2.1), .one (.slice ch.2.2.2.2.1 ch.2.2.2.2.2.1 ch.2.2.2.2.2.2.1), .one (.slice ch.2.2.2.2.2.2.2.1 ch.2.2.2.2.2.2.2.2.1 ch.2.2.2.2.2.2.2.2.2.1), .one (.slice ch.2.2.2.2.2.2.2.2.2.2.1 ch.2.2.2.2.2.2.2.2.2.2.2.1 ch.2.2.2.2.2.2.2.2.2.2.2.2)], Res.map true (Ty.arr .u8 20) false (Ty.pid ch.2.1) ch.1 r.2.2.1.1, Res.fam (Res.struct (YE76 ch.2.2.1 ch.2.2.2.1) 76) (one_struct _ _) ch.2.1 [] r.2.2.1.2.1, Res.fam (fun g_ kvs_ => Res.map true (Ty.arr .u64 4) true (Ty.arr .u64 4) g_ kvs_) (one_map true (Ty.arr .u64 4) true (Ty.arr .u64 4)) ch.2.2.1 [] r.2.2.1.2.2.1, Res.fam (fun g_ kvs_ => Res.map true (Ty.arr .u64 4) false Ty.bool g_ kvs_) (one_map true (Ty.arr .u64 4) false Ty.bool) ch.2.2.2.1 [] r.2.2.1.2.2.2, Res.row Y51 51 ch.2.2.2.2.1 ch.2.2.2.2.2.1 ch.2.2.2.2.2.2.1 r.2.2.2.2.1, Res.row (YC ch_0_0 ch.2.1 ch.2.2.1 ch.2.2.2.1) 1 ch.2.2.2.2.2.2.2.1 ch.2.2.2.2.2.2.2.2.1 ch.2.2.2.2.2.2.2.2.2.1 r.2.2.2.2.2.1, Res.row (Ty.arr .u8 20) 31 ch.2.2.2.2.2.2.2.2.2.2.1 ch.2.2.2.2.2.2.2.2.2.2.2.1 ch.2.2.2.2.2.2.2.2.2.2.2.2 r.2.2.2.2.2.2]) w0)
def state_State_Nonce.f (k : Nat) (x1 : W8) (x2 : List Int) : Option W19 := (state_State_at_i2.f k ((x1.1), x1.2.1, x1.2.2.1, x1.2.2.2.1, x1.2.2.2.2.1, x1.2.2.2.2.2) x2).bind fun t1 => (if t1.1.isSome = true then (some (((atE t1.2.2.1.2.1 (t1.1.getD 0)).2.1).2.1, ((), t1.2.2.1, (), t1.2.2.2.2.1, t1.2.2.2.2.2.1, t1.2.2.2.2.2.2))) else none)
theorem state_State_Nonce.ok (k : Nat) : state_State_Nonce.Ctr (state_State_Nonce.f k) := by
 intro x1 x2 ch_0_0 ch_0_1 ch_0_2 ch_0_3 ch_0_4 ch_0_5 ch_0_6 ch_0_7 ch_0_8 ch_0_9 ch_0_10 ch_0_11 ch_0_12 ch_0_13 ch_0_14 ch_0_15 r h0 mi w0 ok hm
 delta state_State_Nonce.f at h0
 refine c_enterX (n := 14) [(.v (.pointer (some ⟨ch_0_0, 0, none⟩))), (.agg [.ints .u8 x2 20])] (l := [(0, (.v (.pointer (some ⟨ch_0_0, 0, none⟩)))), (1, (.agg [.ints .u8 x2 20]))]) Try.func8 rfl rfl rfl rfl ok hm ?_
 clear ok hm
 intro b0 hb a S
 refine c_region ?_
 refine s_box S rfl rfl rfl ?_; clear S a; intro g1 a w S
 refine s_assign S rfl rfl ?_; clear S a; intro a S
 refine c_end ?_
 refine wp_seq ?_
 refine c_region ?_
 refine s_move S rfl rfl ?_; clear S a; intro a S
 refine s_eqp S (b := false) rfl rfl Try.underlying26 rfl rfl ?_; clear S a; intro a S
 refine c_end ?_
 refine c_condF S rfl rfl ?_
 refine wp_skip ?_
 refine x_thenN ?_
 refine c_region ?_
 refine s_move S rfl rfl ?_; clear S a; intro a S
 refine s_loada S rfl .here T31 (s' := [.ints .u8 x2 20]) rfl rfl ?_; clear S a; intro a S
 obtain ⟨t1, et1, h1⟩ := bind_of h0; clear h0
 refine s_callX S (ds' := [(.v (.pointer (some ⟨ch_0_0, 0, none⟩))), (.agg [.ints .u8 x2 20])]) (ds := [(.v (.pointer (some ⟨ch_0_0, 0, none⟩))), (.agg [.ints .u8 x2 20])]) [Res.cells ch_0_0 72 [.rf (.iface 29 (.agg (cellsOf [.sl ch_0_1 (x1.1).length ch_0_2 (RdS Y39 ch_0_1 x1.1)]).toArray)) (IfR [.sl ch_0_1 (x1.1).length ch_0_2 (RdS Y39 ch_0_1 x1.1)]), .one (.map (some ch_0_3)), .one (.int .i64 x1.2.2.1), .one (.slice ch_0_7 ch_0_8 ch_0_9), .one (.slice ch_0_10 ch_0_11 ch_0_12), .one (.slice ch_0_13 ch_0_14 ch_0_15)], Res.map true (Ty.arr .u8 20) false (Ty.pid ch_0_4) ch_0_3 x1.2.1.1, Res.fam (Res.struct (YE76 ch_0_5 ch_0_6) 76) (one_struct _ _) ch_0_4 [] x1.2.1.2.1, Res.fam (fun g_ kvs_ => Res.map true (Ty.arr .u64 4) true (Ty.arr .u64 4) g_ kvs_) (one_map true (Ty.arr .u64 4) true (Ty.arr .u64 4)) ch_0_5 [] x1.2.1.2.2.1, Res.fam (fun g_ kvs_ => Res.map true (Ty.arr .u64 4) false Ty.bool g_ kvs_) (one_map true (Ty.arr .u64 4) false Ty.bool) ch_0_6 [] x1.2.1.2.2.2, Res.row Y51 51 ch_0_7 ch_0_8 ch_0_9 x1.2.2.2.1, Res.row (YC ch_0_0 ch_0_4 ch_0_5 ch_0_6) 1 ch_0_10 ch_0_11 ch_0_12 x1.2.2.2.2.1, Res.row (Ty.arr .u8 20) 31 ch_0_13 ch_0_14 ch_0_15 x1.2.2.2.2.2] [Res.cells g1 31 [.ints .u8 x2 20]] (fun (ch : W7) => ((.rf (ptrV ch.2.1 t1.1) (ptrR ch.2.1 t1.1)) : D)) (fun (ch : W7) => [Res.cells ch_0_0 72 [.rf (.iface 29 (.agg (cellsOf [.sl ch_0_1 (x1.1).length ch_0_2 (RdS Y39 ch_0_1 x1.1)]).toArray)) (IfR [.sl ch_0_1 (x1.1).length ch_0_2 (RdS Y39 ch_0_1 x1.1)]), .one (.map (some ch.1)), .one (.int .i64 x1.2.2.1), .one (.slice ch.2.2.2.2.1 ch.2.2.2.2.2.1 ch.2.2.2.2.2.2.1), .one (.slice ch.2.2.2.2.2.2.2.1 ch.2.2.2.2.2.2.2.2.1 ch.2.2.2.2.2.2.2.2.2.1), .one (.slice ch.2.2.2.2.2.2.2.2.2.2.1 ch.2.2.2.2.2.2.2.2.2.2.2.1 ch.2.2.2.2.2.2.2.2.2.2.2.2)], Res.map true (Ty.arr .u8 20) false (Ty.pid ch.2.1) ch.1 t1.2.2.1.1, Res.fam (Res.struct (YE76 ch.2.2.1 ch.2.2.2.1) 76) (one_struct _ _) ch.2.1 [] t1.2.2.1.2.1, Res.fam (fun g_ kvs_ => Res.map true (Ty.arr .u64 4) true (Ty.arr .u64 4) g_ kvs_) (one_map true (Ty.arr .u64 4) true (Ty.arr .u64 4)) ch.2.2.1 [] t1.2.2.1.2.2.1, Res.fam (fun g_ kvs_ => Res.map true (Ty.arr .u64 4) false Ty.bool g_ kvs_) (one_map true (Ty.arr .u64 4) false Ty.bool) ch.2.2.2.1 [] t1.2.2.1.2.2.2, Res.row Y51 51 ch.2.2.2.2.1 ch.2.2.2.2.2.1 ch.2.2.2.2.2.2.1 t1.2.2.2.2.1, Res.row (YC ch_0_0 ch.2.1 ch.2.2.1 ch.2.2.2.1) 1 ch.2.2.2.2.2.2.2.1 ch.2.2.2.2.2.2.2.2.1 ch.2.2.2.2.2.2.2.2.2.1 t1.2.2.2.2.2.1, Res.row (Ty.arr .u8 20) 31 ch.2.2.2.2.2.2.2.2.2.2.1 ch.2.2.2.2.2.2.2.2.2.2.2.1 ch.2.2.2.2.2.2.2.2.2.2.2.2 t1.2.2.2.2.2.2]) (fun (ch : W7) => [Res.cells ch_0_0 72 [.rf (.iface 29 (.agg (cellsOf [.sl ch_0_1 (x1.1).length ch_0_2 (RdS Y39 ch_0_1 x1.1)]).toArray)) (IfR [.sl ch_0_1 (x1.1).length ch_0_2 (RdS Y39 ch_0_1 x1.1)]), .one (.map (some ch.1)), .one (.int .i64 x1.2.2.1), .one (.slice ch.2.2.2.2.1 ch.2.2.2.2.2.1 ch.2.2.2.2.2.2.1), .one (.slice ch.2.2.2.2.2.2.2.1 ch.2.2.2.2.2.2.2.2.1 ch.2.2.2.2.2.2.2.2.2.1), .one (.slice ch.2.2.2.2.2.2.2.2.2.2.1 ch.2.2.2.2.2.2.2.2.2.2.2.1 ch.2.2.2.2.2.2.2.2.2.2.2.2)], Res.map true (Ty.arr .u8 20) false (Ty.pid ch.2.1) ch.1 t1.2.2.1.1, Res.fam (Res.struct (YE76 ch.2.2.1 ch.2.2.2.1) 76) (one_struct _ _) ch.2.1 [] t1.2.2.1.2.1, Res.fam (fun g_ kvs_ => Res.map true (Ty.arr .u64 4) true (Ty.arr .u64 4) g_ kvs_) (one_map true (Ty.arr .u64 4) true (Ty.arr .u64 4)) ch.2.2.1 [] t1.2.2.1.2.2.1, Res.fam (fun g_ kvs_ => Res.map true (Ty.arr .u64 4) false Ty.bool g_ kvs_) (one_map true (Ty.arr .u64 4) false Ty.bool) ch.2.2.2.1 [] t1.2.2.1.2.2.2, Res.row Y51 51 ch.2.2.2.2.1 ch.2.2.2.2.2.1 ch.2.2.2.2.2.2.1 t1.2.2.2.2.1, Res.row (YC ch_0_0 ch.2.1 ch.2.2.1 ch.2.2.2.1) 1 ch.2.2.2.2.2.2.2.1 ch.2.2.2.2.2.2.2.2.1 ch.2.2.2.2.2.2.2.2.2.1 t1.2.2.2.2.2.1, Res.row (Ty.arr .u8 20) 31 ch.2.2.2.2.2.2.2.2.2.2.1 ch.2.2.2.2.2.2.2.2.2.2.2.1 ch.2.2.2.2.2.2.2.2.2.2.2.2 t1.2.2.2.2.2.2, Res.cells g1 31 [.ints .u8 x2 20]]) (fun _ => rfl) N26 rfl rfl (fun ok => ok) (.cons (.there .here) (.cons (.there .here) (.cons (.there .here) (.cons (.there .here) (.cons (.there .here) (.cons (.there .here) (.cons (.there .here) (.cons (.there .here) (.cons .here .nil))))))))) rfl (state_State_at_i2.ok k ((x1.1), x1.2.1, x1.2.2.1, x1.2.2.2.1, x1.2.2.2.2.1, x1.2.2.2.2.2) x2 ch_0_0 ch_0_1 ch_0_2 ch_0_3 ch_0_4 ch_0_5 ch_0_6 ch_0_7 ch_0_8 ch_0_9 ch_0_10 ch_0_11 ch_0_12 ch_0_13 ch_0_14 ch_0_15 t1 et1 _ _) ?_; clear S a w; intro ch1 m le1 a w S
 obtain ⟨c1, h2⟩ := chk_of h1; clear h1
 have hl1 := S.slotPlt (u := 9) c1 rfl
 replace S := S.slotP (u := 9) c1 rfl
 refine s_nilchk S rfl rfl ?_; clear S a; intro a S
 refine s_fieldAddr S rfl I76_1 T39 (by decide) rfl rfl ?_; clear S a; intro a S
 refine s_fieldAddr S rfl I39_1 T32 (by decide) rfl rfl ?_; clear S a; intro a S
 replace S := S.famOpen (i := (t1.1.getD 0)) hl1 (.there (.there .here))
 have hS := S.structOpen (T := (YE76 ch1.2.2.1 ch1.2.2.2.1)) (fun _ => .here) (((), (), (), (none, 0), (none, 0)), ((), (), (), (none, 0), (none, 0)), (), (), (), (), ())
 clear S; obtain ⟨ch2, S⟩ := hS
 refine s_load1 S rfl .here T32 (v := (.int .u64 (((atE t1.2.2.1.2.1 (t1.1.getD 0)).2.1).2.1))) rfl rfl ?_; clear S a; intro a S
 replace S := S.structClose (T := (YE76 ch1.2.2.1 ch1.2.2.2.1)) (e := atE t1.2.2.1.2.1 (t1.1.getD 0)) ((((), (), (), (ch2.1.2.2.2.1.1, ch2.1.2.2.2.1.2), (ch2.1.2.2.2.2.1, ch2.1.2.2.2.2.2)), ((), (), (), (ch2.2.1.2.2.2.1.1, ch2.2.1.2.2.2.1.2), (ch2.2.1.2.2.2.2.1, ch2.2.1.2.2.2.2.2)), (), (), (), (), ()) : ((YE76 ch1.2.2.1 ch1.2.2.2.1)).Ch) rfl .here
 replace S := S.famShut hl1 .here (.there (.there .here))
 refine s_assign S rfl rfl ?_; clear S a; intro a S
 refine c_end ?_
 refine wp_ret ?_
 obtain rfl := Option.some.inj h2
 exact b_ret1 (d := (.v (.int .u64 (((atE t1.2.2.1.2.1 (t1.1.getD 0)).2.1).2.1)))) S rfl rfl fun ok => S.retX (Hx := []) hb _ _ ((ch1.1, ch1.2.1, ch1.2.2.1, ch1.2.2.2.1, ch1.2.2.2.2.1, ch1.2.2.2.2.2.1, ch1.2.2.2.2.2.2.1, ch1.2.2.2.2.2.2.2.1, ch1.2.2.2.2.2.2.2.2.1, ch1.2.2.2.2.2.2.2.2.2.1, ch1.2.2.2.2.2.2.2.2.2.2.1, ch1.2.2.2.2.2.2.2.2.2.2.2.1, ch1.2.2.2.2.2.2.2.2.2.2.2.2) : W7) (.cons .here (.cons .here (.cons .here (.cons .here (.cons .here (.cons .here (.cons .here (.cons .here .nil)))))))) ok
abbrev state_State_Missing.Ty : Type := W8 → Option ((List Int) × Bool)
def state_State_Missing.Ctr (s : state_State_Missing.Ty) : Prop := ∀ (x1 : W8) (ch_0_0 : Nat) (ch_0_1 : Option Addr) (ch_0_2 : Nat) (ch_0_3 : Nat) (ch_0_4 : List Nat) (ch_0_5 : List Nat) (ch_0_6 : List Nat) (ch_0_7 : Option Addr) (ch_0_8 : Nat) (ch_0_9 : Nat) (ch_0_10 : Option Addr) (ch_0_11 : Nat) (ch_0_12 : Nat) (ch_0_13 : Option Addr) (ch_0_14 : Nat) (ch_0_15 : Nat) (r : (List Int) × Bool) (h0 : s x1 = some r) (mi : Mem) (w0 : World), okL mi [(.v (.pointer (some ⟨ch_0_0, 0, none⟩)))] → Pre mi [Res.cells ch_0_0 72 [.rf (.iface 29 (.agg (cellsOf [.sl ch_0_1 (x1.1).length ch_0_2 (RdS Y39 ch_0_1 x1.1)]).toArray)) (IfR [.sl ch_0_1 (x1.1).length ch_0_2 (RdS Y39 ch_0_1 x1.1)]), .one (.map (some ch_0_3)), .one (.int .i64 x1.2.2.1), .one (.slice ch_0_7 ch_0_8 ch_0_9), .one (.slice ch_0_10 ch_0_11 ch_0_12), .one (.slice ch_0_13 ch_0_14 ch_0_15)], Res.map true (Ty.arr .u8 20) false (Ty.pid ch_0_4) ch_0_3 x1.2.1.1, Res.fam (Res.struct (YE76 ch_0_5 ch_0_6) 76) (one_struct _ _) ch_0_4 [] x1.2.1.2.1, Res.fam (fun g_ kvs_ => Res.map true (Ty.arr .u64 4) true (Ty.arr .u64 4) g_ kvs_) (one_map true (Ty.arr .u64 4) true (Ty.arr .u64 4)) ch_0_5 [] x1.2.1.2.2.1, Res.fam (fun g_ kvs_ => Res.map true (Ty.arr .u64 4) false Ty.bool g_ kvs_) (one_map true (Ty.arr .u64 4) false Ty.bool) ch_0_6 [] x1.2.1.2.2.2, Res.row Y51 51 ch_0_7 ch_0_8 ch_0_9 x1.2.2.2.1, Res.row (YC ch_0_0 ch_0_4 ch_0_5 ch_0_6) 1 ch_0_10 ch_0_11 ch_0_12 x1.2.2.2.2.1, Res.row (Ty.arr .u8 20) 31 ch_0_13 ch_0_14 ch_0_15 x1.2.2.2.2.2] w0 → Calls Try.prog 10 (([(.v (.pointer (some ⟨ch_0_0, 0, none⟩)))] : List D).map D.val).toArray w0 (RetX mi [Res.cells ch_0_0 72 [.rf (.iface 29 (.agg (cellsOf [.sl ch_0_1 (x1.1).length ch_0_2 (RdS Y39 ch_0_1 x1.1)]).toArray)) (IfR [.sl ch_0_1 (x1.1).length ch_0_2 (RdS Y39 ch_0_1 x1.1)]), .one (.map (some ch_0_3)), .one (.int .i64 x1.2.2.1), .one (.slice ch_0_7 ch_0_8 ch_0_9), .one (.slice ch_0_10 ch_0_11 ch_0_12), .one (.slice ch_0_13 ch_0_14 ch_0_15)], Res.map true (Ty.arr .u8 20) false (Ty.pid ch_0_4) ch_0_3 x1.2.1.1, Res.fam (Res.struct (YE76 ch_0_5 ch_0_6) 76) (one_struct _ _) ch_0_4 [] x1.2.1.2.1, Res.fam (fun g_ kvs_ => Res.map true (Ty.arr .u64 4) true (Ty.arr .u64 4) g_ kvs_) (one_map true (Ty.arr .u64 4) true (Ty.arr .u64 4)) ch_0_5 [] x1.2.1.2.2.1, Res.fam (fun g_ kvs_ => Res.map true (Ty.arr .u64 4) false Ty.bool g_ kvs_) (one_map true (Ty.arr .u64 4) false Ty.bool) ch_0_6 [] x1.2.1.2.2.2, Res.row Y51 51 ch_0_7 ch_0_8 ch_0_9 x1.2.2.2.1, Res.row (YC ch_0_0 ch_0_4 ch_0_5 ch_0_6) 1 ch_0_10 ch_0_11 ch_0_12 x1.2.2.2.2.1, Res.row (Ty.arr .u8 20) 31 ch_0_13 ch_0_14 ch_0_15 x1.2.2.2.2.2] (fun (ch : Unit) => ((.tup [(true, [.ints .u8 r.1 20]), (false, [.one (.bool r.2)])]) : D)) (fun (ch : Unit) => [Res.cells ch_0_0 72 [.rf (.iface 29 (.agg (cellsOf [.sl ch_0_1 (x1.1).length ch_0_2 (RdS Y39 ch_0_1 x1.1)]).toArray)) (IfR [.sl ch_0_1 (x1.1).length ch_0_2 (RdS Y39 ch_0_1 x1.1)]), .one (.map (some ch_0_3)), .one (.int .i64 x1.2.2.1), .one (.slice ch_0_7 ch_0_8 ch_0_9), .one (.slice ch_0_10 ch_0_11 ch_0_12), .one (.slice ch_0_13 ch_0_14 ch_0_15)], Res.map true (Ty.arr .u8 20) false (Ty.pid ch_0_4) ch_0_3 x1.2.1.1, Res.fam (Res.struct (YE76 ch_0_5 ch_0_6) 76) (one_struct _ _) ch_0_4 [] x1.2.1.2.1, Res.fam (fun g_ kvs_ => Res.map true (Ty.arr .u64 4) true (Ty.arr .u64 4) g_ kvs_) (one_map true (Ty.arr .u64 4) true (Ty.arr .u64 4)) ch_0_5 [] x1.2.1.2.2.1, Res.fam (fun g_ kvs_ => Res.map true (Ty.arr .u64 4) false Ty.bool g_ kvs_) (one_map true (Ty.arr .u64 4) false Ty.bool) ch_0_6 [] x1.2.1.2.2.2, Res.row Y51 51 ch_0_7 ch_0_8 ch_0_9 x1.2.2.2.1, Res.row (YC ch_0_0 ch_0_4 ch_0_5 ch_0_6) 1 ch_0_10 ch_0_11 ch_0_12 x1.2.2.2.2.1, Res.row (Ty.arr .u8 20) 31 ch_0_13 ch_0_14 ch_0_15 x1.2.2.2.2.2]) w0)
def state_State_Missing.f (x1 : W8) : Option ((List Int) × Bool) := if (((x1.2.2.2.2.2).length : Int) == 0) = true then (some ([0, 0, 0, 0, 0, 0, 0, 0, 0, 0, 0, 0, 0, 0, 0, 0, 0, 0, 0, 0], false)) else (if (0 : Int) ≤ 0 ∧ 0 < ((x1.2.2.2.2.2).length : Int) then (some (gt x1.2.2.2.2.2 0, true)) else none)
theorem state_State_Missing.ok : state_State_Missing.Ctr (state_State_Missing.f) := by
 intro x1 ch_0_0 ch_0_1 ch_0_2 ch_0_3 ch_0_4 ch_0_5 ch_0_6 ch_0_7 ch_0_8 ch_0_9 ch_0_10 ch_0_11 ch_0_12 ch_0_13 ch_0_14 ch_0_15 r h0 mi w0 ok hm
 delta state_State_Missing.f at h0
 refine c_enterX (n := 21) [(.v (.pointer (some ⟨ch_0_0, 0, none⟩)))] (l := [(0, (.v (.pointer (some ⟨ch_0_0, 0, none⟩))))]) Try.func10 rfl rfl rfl rfl ok hm ?_
 clear ok hm
 intro b0 hb a S
 refine c_region ?_
 refine s_alloc S Z31 rfl ⟨rfl, trivial⟩ rfl ?_; clear S a; intro g1 a w S
 refine s_assign S rfl rfl ?_; clear S a; intro a S
 refine c_end ?_
 refine wp_seq ?_
 refine c_region ?_
 refine s_move S rfl rfl ?_; clear S a; intro a S
 refine s_eqp S (b := false) rfl rfl Try.underlying26 rfl rfl ?_; clear S a; intro a S
 refine s_move S rfl rfl ?_; clear S a; intro a S
 refine s_gT S (b := false) rfl rfl rfl ?_
 refine s_move S rfl rfl ?_; clear S a; intro a S
 refine s_gT S (b := false) rfl rfl rfl ?_
 refine s_nilchk S rfl rfl ?_; clear S a; intro a S
 refine s_gT S (b := false) rfl rfl rfl ?_
 refine s_fieldAddr S rfl I72_5 T23 (by decide) rfl rfl ?_; clear S a; intro a S
 refine s_gT S (b := false) rfl rfl rfl ?_
 refine s_load1 S rfl (.there .here) T23 (v := (.slice ch_0_13 ch_0_14 ch_0_15)) rfl rfl ?_; clear S a; intro a S
 refine s_gT S (b := false) rfl rfl rfl ?_
 refine s_lenO S rfl (.there (.there (.there (.there (.there (.there (.there (.there .here)))))))) Try.underlying23 rfl ?_; clear S a; intro a S
 refine s_gT S (b := false) rfl rfl rfl ?_
 refine s_bin S rfl rfl rfl rfl ?_; clear S a; intro a S
 refine s_pick S (b := false) (hc_of rfl rfl) rfl rfl ?_; clear S a; intro a S
 refine c_end ?_
 rcases ite_of h0 with ⟨c1, h1⟩ | ⟨c1, h1⟩ <;> clear h0
 ·refine c_condT S rfl c1 ?_
  refine c_region ?_
  refine s_build S (ds := []) (dv := (.agg [.ints .u8 [0, 0, 0, 0, 0, 0, 0, 0, 0, 0, 0, 0, 0, 0, 0, 0, 0, 0, 0, 0] 20])) rfl (fun _ => by kernel_rfl) ⟨rfl, trivial⟩ rfl ?_; clear S a; intro a S
  refine s_store S rfl rfl rfl (s' := [.ints .u8 [0, 0, 0, 0, 0, 0, 0, 0, 0, 0, 0, 0, 0, 0, 0, 0, 0, 0, 0, 0] 20]) .here T31 rfl rfl ?_; clear S w; intro w S
  refine s_assign S rfl rfl ?_; clear S a; intro a S
  refine c_end ?_
  refine wp_ret ?_
  refine x_thenR ?_
  obtain rfl := Option.some.inj h1
  exact b_ret2 (d1 := (.agg [.ints .u8 [0, 0, 0, 0, 0, 0, 0, 0, 0, 0, 0, 0, 0, 0, 0, 0, 0, 0, 0, 0] 20])) (d2 := (.v (.bool false))) S rfl (resD_cell rfl .here T31 rfl rfl) rfl fun ok1 ok2 => S.retX (Hx := []) hb _ _ (() : Unit) (.cons (.there .here) (.cons (.there .here) (.cons (.there .here) (.cons (.there .here) (.cons (.there .here) (.cons (.there .here) (.cons (.there .here) (.cons (.there .here) .nil)))))))) ⟨ok1, ⟨ok2, trivial⟩, trivial⟩
 ·refine c_condF S rfl c1 ?_
  refine wp_skip ?_
  refine x_thenN ?_
  refine c_region ?_
  refine s_move S rfl rfl ?_; clear S a; intro a S
  refine s_nilchk S rfl rfl ?_; clear S a; intro a S
  refine s_fieldAddr S rfl I72_5 T23 (by decide) rfl rfl ?_; clear S a; intro a S
  refine s_load1 S rfl (.there .here) T23 (v := (.slice ch_0_13 ch_0_14 ch_0_15)) rfl rfl ?_; clear S a; intro a S
  obtain ⟨c2, h2⟩ := chk_of h1; clear h1
  refine s_iaddrO S (ty' := (Ty.arr .u8 20)) rfl (.there (.there (.there (.there (.there (.there (.there (.there .here)))))))) rfl Try.underlying23 T31 c2.1 c2.2 rfl ?_; clear S a; intro g2 a hA1 S
  refine s_ldRA S (ty' := (Ty.arr .u8 20)) (i := 0) (off := 0) (fun c => [.ints .u8 (gt x1.2.2.2.2.2 0) 20]) rfl hA1 (.there (.there (.there (.there (.there (.there (.there (.there .here)))))))) T31 c2.1 c2.2 rfl (fun _ => rfl) rfl ?_; clear S a; intro ch1 a S
  refine s_store S rfl rfl rfl (s' := [.ints .u8 (gt x1.2.2.2.2.2 0) 20]) .here T31 rfl rfl ?_; clear S w; intro w S
  refine s_assign S rfl rfl ?_; clear S a; intro a S
  refine c_end ?_
  refine wp_ret ?_
  obtain rfl := Option.some.inj h2
  exact b_ret2 (d1 := (.agg [.ints .u8 (gt x1.2.2.2.2.2 0) 20])) (d2 := (.v (.bool true))) S rfl (resD_cell rfl .here T31 rfl rfl) rfl fun ok1 ok2 => S.retX (Hx := []) hb _ _ (() : Unit) (.cons (.there .here) (.cons (.there .here) (.cons (.there .here) (.cons (.there .here) (.cons (.there .here) (.cons (.there .here) (.cons (.there .here) (.cons (.there .here) .nil)))))))) ⟨ok1, ⟨ok2, trivial⟩, trivial⟩
abbrev slices_Clone_byte_byte.Ty : Type := (List Int) → Option ((List Int))
def slices_Clone_byte_byte.Ctr (s : slices_Clone_byte_byte.Ty) : Prop := ∀ (x1 : List Int) (ch_0_0 : Option Addr) (ch_0_1 : Nat) (r : (List Int)) (h0 : s x1 = some r) (mi : Mem) (w0 : World), okL mi [(.sl ch_0_0 (x1).length ch_0_1 (RdS (Ty.int .u8) ch_0_0 x1))] → Pre mi [] w0 → Calls Try.prog 27 (([(.sl ch_0_0 (x1).length ch_0_1 (RdS (Ty.int .u8) ch_0_0 x1))] : List D).map D.val).toArray w0 (RetX mi [] (fun (ch : (Option Addr) × Nat × Nat) => ((.v (.slice ch.1 ch.2.1 ch.2.2)) : D)) (fun (ch : (Option Addr) × Nat × Nat) => [Res.row (Ty.int .u8) 5 ch.1 ch.2.1 ch.2.2 r]) w0)
def slices_Clone_byte_byte.f (x1 : List Int) : Option ((List Int)) := if ((([] : List Int)).length + (x1).length) * 1 ≤ 140737488355328 then (some (([] : List Int) ++ x1)) else none
theorem slices_Clone_byte_byte.ok : slices_Clone_byte_byte.Ctr (slices_Clone_byte_byte.f) := by
 intro x1 ch_0_0 ch_0_1 r h0 mi w0 ok hm
 delta slices_Clone_byte_byte.f at h0
 refine c_enterX (n := 8) [(.sl ch_0_0 (x1).length ch_0_1 (RdS (Ty.int .u8) ch_0_0 x1))] (l := [(0, (.sl ch_0_0 (x1).length ch_0_1 (RdS (Ty.int .u8) ch_0_0 x1)))]) Try.func27 rfl rfl rfl rfl ok hm ?_
 clear ok hm
 intro b0 hb a S
 refine c_region ?_
 refine s_assign S rfl rfl ?_; clear S a; intro a S
 refine c_end ?_
 refine wp_seq ?_
 refine c_region ?_
 refine s_move S rfl rfl ?_; clear S a; intro a S
 refine s_eqnil S (b := (ch_0_0).isNone) (d := (.sl ch_0_0 (x1).length ch_0_1 (RdS (Ty.int .u8) ch_0_0 x1))) rfl rfl Try.underlying36 rfl rfl rfl ?_; clear S a; intro a S
 refine c_end ?_
 cases hc : (ch_0_0).isNone
 ·refine c_condF S rfl hc ?_
  refine wp_skip ?_
  refine x_thenN ?_
  refine c_region ?_
  refine s_bldSl S (ty' := (Ty.int .u8)) (ds := []) (z := 0) (c0 := ()) (ys := ([] : List Int)) (cs := []) rfl Try.underlying36 J5 Z5 rfl ⟨rfl, trivial⟩ rfl rfl rfl rfl rfl rfl ?_; clear S a; intro g1 a w S
  refine s_move S rfl rfl ?_; clear S a; intro a S
  obtain ⟨c1, h1⟩ := chk_of h0; clear h0
  refine s_app S (k2 := ((x1).length)) (ys := x1) rfl (fun _ _ => .here) rfl rfl rfl (RdS.src (S.get 6 (.sl ch_0_0 (x1).length ch_0_1 (RdS (Ty.int .u8) ch_0_0 x1)) rfl).2.2.2.1 (by decide) S.frz) Try.underlying36 J5 c1 rfl ?_; clear S a w; intro A1 cp1 a w S
  refine s_assign S rfl rfl ?_; clear S a; intro a S
  refine c_end ?_
  refine wp_ret ?_
  obtain rfl := Option.some.inj h1
  exact b_ret1 (d := (.v (.slice A1 (0 + ((x1).length)) cp1))) S rfl rfl fun ok => S.retX (Hx := []) hb _ _ ((A1, 0 + ((x1).length), cp1) : (Option Addr) × Nat × Nat) (.cons .here .nil) ok
 ·have hxs : x1 = [] := rd_nil hc (S.get 3 (.sl ch_0_0 (x1).length ch_0_1 (RdS (Ty.int .u8) ch_0_0 x1)) rfl).2.2.2.1
  have h1 : (some ([] : List Int)) = some r := by simpa [hxs] using h0
  clear h0
  refine c_condT S rfl hc ?_
  refine c_region ?_
  refine s_assign S rfl rfl ?_; clear S a; intro a S
  refine c_end ?_
  refine wp_ret ?_
  refine x_thenR ?_
  replace S := S.nilrow (Ty.int .u8) 5
  replace S := S.slot (u := 2) (d' := (.v (.slice none 0 0))) rfl rfl (S.get 2 (.v (.slice none 0 0)) rfl).2
  obtain rfl := Option.some.inj h1
  exact b_ret1 (d := (.v (.slice none 0 0))) S rfl rfl fun ok => S.retX (Hx := []) hb _ _ ((none, 0, 0) : (Option Addr) × Nat × Nat) (.cons .here .nil) ok
abbrev api_Slot_n28.Ty : Type := W9 → Option W20
def api_Slot_n28.Ctr (s : api_Slot_n28.Ty) : Prop := ∀ (x1 : W9) (ch_0_0 : Option Addr) (ch_0_1 : Nat) (r : W20) (h0 : s x1 = some r) (mi : Mem) (w0 : World), okL mi [(.sl ch_0_0 (x1).length ch_0_1 (RdS Y82 ch_0_0 x1))] → Pre mi [] w0 → Calls Try.prog 28 (([(.sl ch_0_0 (x1).length ch_0_1 (RdS Y82 ch_0_0 x1))] : List D).map D.val).toArray w0 (RetX mi [] (fun (ch : (Option Addr) × Nat × Nat) => ((.v (.slice ch.1 ch.2.1 ch.2.2)) : D)) (fun (ch : (Option Addr) × Nat × Nat) => [Res.row Y82 82 ch.1 ch.2.1 ch.2.2 r]) w0)
def api_Slot_n28.f (x1 : W9) : Option W20 := if ((([] : List ((List Int) × (List Int)))).length + (x1).length) * 64 ≤ 140737488355328 then (some (([] : List ((List Int) × (List Int))) ++ x1)) else none
theorem api_Slot_n28.ok : api_Slot_n28.Ctr (api_Slot_n28.f) := by
 intro x1 ch_0_0 ch_0_1 r h0 mi w0 ok hm
 delta api_Slot_n28.f at h0
 refine c_enterX (n := 8) [(.sl ch_0_0 (x1).length ch_0_1 (RdS Y82 ch_0_0 x1))] (l := [(0, (.sl ch_0_0 (x1).length ch_0_1 (RdS Y82 ch_0_0 x1)))]) Try.func28 rfl rfl rfl rfl ok hm ?_
 clear ok hm
 intro b0 hb a S
 refine c_region ?_
 refine s_assign S rfl rfl ?_; clear S a; intro a S
 refine c_end ?_
 refine wp_seq ?_
 refine c_region ?_
 refine s_move S rfl rfl ?_; clear S a; intro a S
 refine s_eqnil S (b := (ch_0_0).isNone) (d := (.sl ch_0_0 (x1).length ch_0_1 (RdS Y82 ch_0_0 x1))) rfl rfl Try.underlying37 rfl rfl rfl ?_; clear S a; intro a S
 refine c_end ?_
 cases hc : (ch_0_0).isNone
 ·refine c_condF S rfl hc ?_
  refine wp_skip ?_
  refine x_thenN ?_
  refine c_region ?_
  refine s_bldSl S (ty' := Y82) (ds := []) (z := ([0, 0, 0, 0], [0, 0, 0, 0])) (c0 := ((), ())) (ys := ([] : List ((List Int) × (List Int)))) (cs := []) rfl Try.underlying37 J82 Z82 rfl ⟨rfl, rfl, trivial⟩ rfl rfl rfl rfl rfl rfl ?_; clear S a; intro g1 a w S
  refine s_move S rfl rfl ?_; clear S a; intro a S
  obtain ⟨c1, h1⟩ := chk_of h0; clear h0
  refine s_app S (k2 := ((x1).length)) (ys := x1) rfl (fun _ _ => .here) rfl rfl rfl (RdS.src (S.get 6 (.sl ch_0_0 (x1).length ch_0_1 (RdS Y82 ch_0_0 x1)) rfl).2.2.2.1 (by decide) S.frz) Try.underlying37 J82 c1 rfl ?_; clear S a w; intro A1 cp1 a w S
  refine s_assign S rfl rfl ?_; clear S a; intro a S
  refine c_end ?_
  refine wp_ret ?_
  obtain rfl := Option.some.inj h1
  exact b_ret1 (d := (.v (.slice A1 (0 + ((x1).length)) cp1))) S rfl rfl fun ok => S.retX (Hx := []) hb _ _ ((A1, 0 + ((x1).length), cp1) : (Option Addr) × Nat × Nat) (.cons .here .nil) ok
 ·have hxs : x1 = [] := rd_nil hc (S.get 3 (.sl ch_0_0 (x1).length ch_0_1 (RdS Y82 ch_0_0 x1)) rfl).2.2.2.1
  have h1 : (some ([] : List ((List Int) × (List Int)))) = some r := by simpa [hxs] using h0
  clear h0
  refine c_condT S rfl hc ?_
  refine c_region ?_
  refine s_assign S rfl rfl ?_; clear S a; intro a S
  refine c_end ?_
  refine wp_ret ?_
  refine x_thenR ?_
  replace S := S.nilrow Y82 82
  replace S := S.slot (u := 2) (d' := (.v (.slice none 0 0))) rfl rfl (S.get 2 (.v (.slice none 0 0)) rfl).2
  obtain rfl := Option.some.inj h1
  exact b_ret1 (d := (.v (.slice none 0 0))) S rfl rfl fun ok => S.retX (Hx := []) hb _ _ ((none, 0, 0) : (Option Addr) × Nat × Nat) (.cons .here .nil) ok
end
end GW
