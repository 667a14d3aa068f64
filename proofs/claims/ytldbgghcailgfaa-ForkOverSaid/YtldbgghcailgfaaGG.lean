import Derived.Test.YtldbgghcailgfaaProg
import Derived.Test.YtldbgghcailgfaaGF
set_option linter.unusedVariables false
set_option linter.unusedSimpArgs false
set_option maxRecDepth 10000
set_option maxHeartbeats 4000000
namespace GW
open Go Go.RowKit Go.Proofs Go.Proofs.Try
noncomputable section
abbrev api_Address_n47_0o_4f39.Ty : Type := (List (List Int)) → Int → Int → Int → Option ((List (List Int)))
def api_Address_n47_0o_4f39.Ctr (s : api_Address_n47_0o_4f39.Ty) : Prop := ∀ (x1 : List (List Int)) (x2 : Int) (x3 : Int) (x4 : Int) (ch_0_0 : Option Addr) (ch_0_1 : Nat) (ch_0_2 : Nat) (r : (List (List Int))), Ct (C := Unit) Try.prog 47 (s x1 x2 x3 x4 = some r) [Res.row (Ty.arr .u8 20) 28 ch_0_0 ch_0_1 ch_0_2 x1] [(.s ch_0_0 ch_0_1 ch_0_2), (.i x2), (.i x3), (.i x4), (.v (.func (.func 39) #[] #[]))] (fun _ => (.tup [])) fun _ => [Res.row (Ty.arr .u8 20) 28 ch_0_0 ch_0_1 ch_0_2 r]
def api_Address_n47_0o_4f39.j4 (k : Nat) (self0 : api_Address_n47_0o_4f39.Ty) (y2 : Bool) (y3 : Bool) (y4 : Int) (y5 : Int) (rec1 : (List (List Int)) → Bool → Bool → Int → Int → Int → Option ((List (List Int)))) (y8 : Int) (y11 : Int) (y13 : List (List Int)) (y14 : Bool) : Option ((List (List Int))) := if y14 = true then ((api_Address_n56_0o_4f39.f k y13 y4 y5 y11).bind fun t8 => (rec1 t8.2 y2 y3 t8.1 y5 y8)) else ((api_Address_n57_0o_4f39.f k y13 y4 y5 y11).bind fun t9 => (if (decide ((wr .i64 (t9.1 - y4)) < (wr .i64 (y5 - t9.1)))) = true then ((self0 t9.2.2 y4 t9.1 y8).bind fun t10 => (rec1 t10 t9.2.1 (decide ((wr .i64 (Int.tdiv (wr .i64 (y5 - y4)) 8)) ≤ (wr .i64 (t9.1 - y4)))) (wr .i64 (t9.1 + 1)) y5 y8)) else ((self0 t9.2.2 (wr .i64 (t9.1 + 1)) y5 y8).bind fun t11 => (rec1 t11 t9.2.1 (decide ((wr .i64 (Int.tdiv (wr .i64 (y5 - y4)) 8)) ≤ (wr .i64 (y5 - t9.1)))) y4 t9.1 y8))))
def api_Address_n47_0o_4f39.j3 (k : Nat) (self0 : api_Address_n47_0o_4f39.Ty) (y2 : Bool) (y3 : Bool) (y4 : Int) (y5 : Int) (rec1 : (List (List Int)) → Bool → Bool → Int → Int → Int → Option ((List (List Int)))) (y8 : Int) (y11 : Int) (y13 : List (List Int)) : Option ((List (List Int))) := if (decide (0 < y4)) = true then (if (0 : Int) ≤ (wr .i64 (y4 - 1)) ∧ (wr .i64 (y4 - 1)) < ((y13).length : Int) then (if (0 : Int) ≤ y11 ∧ y11 < ((y13).length : Int) then ((addr_Compare.f (gt y13 (wr .i64 (y4 - 1))) (gt y13 y11)).bind fun t12 => (api_Address_n47_0o_4f39.j4 k self0 y2 y3 y4 y5 rec1 y8 y11 y13 (!(decide (t12 < 0))))) else none) else none) else (api_Address_n47_0o_4f39.j4 k self0 y2 y3 y4 y5 rec1 y8 y11 y13 false)
def api_Address_n47_0o_4f39.j5 (k : Nat) (self0 : api_Address_n47_0o_4f39.Ty) (y2 : Bool) (y3 : Bool) (y4 : Int) (y5 : Int) (rec1 : (List (List Int)) → Bool → Bool → Int → Int → Int → Option ((List (List Int)))) (y8 : Int) (y9 : List (List Int)) (y11 : Int) (y15 : Bool) : Option ((List (List Int))) := if y15 = true then ((api_Address_n55_0o_3f39.f k y9 y4 y5).bind fun t13 => (if t13.1 = true then (some t13.2) else (api_Address_n47_0o_4f39.j3 k self0 y2 y3 y4 y5 rec1 y8 y11 t13.2))) else (api_Address_n47_0o_4f39.j3 k self0 y2 y3 y4 y5 rec1 y8 y11 y9)
def api_Address_n47_0o_4f39.j2 (k : Nat) (self0 : api_Address_n47_0o_4f39.Ty) (y2 : Bool) (y3 : Bool) (y4 : Int) (y5 : Int) (rec1 : (List (List Int)) → Bool → Bool → Int → Int → Int → Option ((List (List Int)))) (y8 : Int) (y9 : List (List Int)) (y10 : Int) (y11 : Int) : Option ((List (List Int))) := if y3 = true then (if y2 = true then (api_Address_n47_0o_4f39.j5 k self0 y2 y3 y4 y5 rec1 y8 y9 y11 (y10 == 1)) else (api_Address_n47_0o_4f39.j5 k self0 y2 y3 y4 y5 rec1 y8 y9 y11 false)) else (api_Address_n47_0o_4f39.j5 k self0 y2 y3 y4 y5 rec1 y8 y9 y11 false)
def api_Address_n47_0o_4f39.j1 (k : Nat) (self0 : api_Address_n47_0o_4f39.Ty) (y2 : Bool) (y3 : Bool) (y4 : Int) (y5 : Int) (rec1 : (List (List Int)) → Bool → Bool → Int → Int → Int → Option ((List (List Int)))) (y7 : List (List Int)) (y8 : Int) : Option ((List (List Int))) := (api_Address_n53_0o_3f39.f y7 y4 y5).bind fun t4 => (if (t4.2 == 2) = true then ((api_Address_n54_0o_3f39.f k y7 y4 y5).bind fun t14 => (api_Address_n47_0o_4f39.j2 k self0 y2 y3 y4 y5 rec1 y8 t14 1 (wr .i64 ((wr .i64 (y5 - 1)) - (wr .i64 (t4.1 - y4)))))) else (api_Address_n47_0o_4f39.j2 k self0 y2 y3 y4 y5 rec1 y8 y7 t4.2 t4.1))
def api_Address_n47_0o_4f39.b1 (k : Nat) (self0 : api_Address_n47_0o_4f39.Ty) (rec1 : (List (List Int)) → Bool → Bool → Int → Int → Int → Option ((List (List Int)))) (y1 : List (List Int)) (y2 : Bool) (y3 : Bool) (y4 : Int) (y5 : Int) (y6 : Int) : Option ((List (List Int))) := if (decide ((wr .i64 (y5 - y4)) ≤ 12)) = true then ((api_Address_n50_0o_3f39.f k y1 y4 y5).bind fun t1 => (some t1)) else (if (y6 == 0) = true then ((api_Address_n51_0o_3f39.f k y1 y4 y5).bind fun t2 => (some t2)) else (if (!y3) = true then ((api_Address_n52_0o_3f39.f k y1 y4 y5).bind fun t15 => (api_Address_n47_0o_4f39.j1 k self0 y2 y3 y4 y5 rec1 t15 (wr .i64 (y6 - 1)))) else (api_Address_n47_0o_4f39.j1 k self0 y2 y3 y4 y5 rec1 y1 y6)))
def api_Address_n47_0o_4f39.l1 (k : Nat) (self0 : api_Address_n47_0o_4f39.Ty) : Nat → (List (List Int)) → Bool → Bool → Int → Int → Int → Option ((List (List Int)))
  | 0, _, _, _, _, _, _ => none
  | q + 1, y1, y2, y3, y4, y5, y6 => api_Address_n47_0o_4f39.b1 k self0 (api_Address_n47_0o_4f39.l1 k self0 q) y1 y2 y3 y4 y5 y6
def api_Address_n47_0o_4f39.body (self0 : api_Address_n47_0o_4f39.Ty) (k : Nat) (x1 : List (List Int)) (x2 : Int) (x3 : Int) (x4 : Int) : Option ((List (List Int))) := api_Address_n47_0o_4f39.l1 k self0 k x1 true true x2 x3 x4
theorem api_Address_n47_0o_4f39.okb (self0 : api_Address_n47_0o_4f39.Ty) (c_0 : api_Address_n47_0o_4f39.Ctr self0) (k : Nat) : api_Address_n47_0o_4f39.Ctr (api_Address_n47_0o_4f39.body self0 k) := by
 intro x1 x2 x3 x4 ch_0_0 ch_0_1 ch_0_2 r h0 mi w0 ok hm
 delta api_Address_n47_0o_4f39.body at h0
 refine c_enterZ (n := 148) ok hm func47 rfl rfl rfl fun b0 hb a S => c_region (s_assign S rfl rfl fun a S => c_end (c_region (s_assign S rfl rfl fun a S => c_end (wp_block ?_))))
 refine c_loop (fun q1 a w => ∃ m y1 y2 y3 y4 y5 y6, St 148 m b0 [(11, (.b y2)), (10, (.b y3)), (0, (.s ch_0_0 ch_0_1 ch_0_2)), (1, (.i y4)), (2, (.i y5)), (3, (.i y6)), (4, (.v (.func (.func 39) #[] #[])))] [Res.row (Ty.arr .u8 20) 28 ch_0_0 ch_0_1 ch_0_2 y1] a w ∧ api_Address_n47_0o_4f39.l1 k self0 q1 y1 y2 y3 y4 y5 y6 = some r) ?_ ?_ (k := k) ⟨_, x1, true, true, x2, x3, x4, (S.sb rfl (.c0 .n)), h0⟩
 ·rintro a w ⟨m, y1, y2, y3, y4, y5, y6, S, h0⟩
  exact (nomatch (show (none : Option ((List (List Int)))) = some r from h0))
 ·clear S h0
  rintro q1 a w ⟨m, y1, y2, y3, y4, y5, y6, S, h0⟩
  replace h0 : api_Address_n47_0o_4f39.b1 k self0 (api_Address_n47_0o_4f39.l1 k self0 q1) y1 y2 y3 y4 y5 y6 = some r := h0
  delta api_Address_n47_0o_4f39.b1 at h0
  refine wp_block (c_region (s_move S rfl rfl fun a S => s_move S rfl rfl fun a S => s_bin S rfl rfl rfl rfl fun a S => s_assign S rfl rfl fun a S => c_end (wp_seq (c_region (s_move S rfl rfl fun a S => s_bin S rfl rfl rfl rfl fun a S => c_end ?_)))))
  rcases ite_of h0 with ⟨c1, h1⟩ | ⟨c1, h1⟩
  ·refine c_condT S rfl c1 (c_region (s_move S rfl rfl fun a S => s_move S rfl rfl fun a S => s_move S rfl rfl fun a S => s_move S rfl rfl fun a S => bindX h1 fun t1 et1 h2 => s_callX S (ds' := [(.s ch_0_0 ch_0_1 ch_0_2), (.i y4), (.i y5), (.v (.func (.func 39) #[] #[]))]) (ds := [(.s ch_0_0 ch_0_1 ch_0_2), (.i y4), (.i y5), (.v (.func (.func 39) #[] #[]))]) [Res.row (Ty.arr .u8 20) 28 ch_0_0 ch_0_1 ch_0_2 y1] [] (fun (ch : Unit) => ((.tup []) : D)) (fun (ch : Unit) => [Res.row (Ty.arr .u8 20) 28 ch_0_0 ch_0_1 ch_0_2 t1]) (fun (ch : Unit) => [Res.row (Ty.arr .u8 20) 28 ch_0_0 ch_0_1 ch_0_2 t1]) (fun _ => rfl) N50 rfl rfl (fun ok => ok) (.c0 .n) rfl (api_Address_n50_0o_3f39.ok k y1 y4 y5 ch_0_0 ch_0_1 ch_0_2 t1 et1 _ _) fun ch1 m le1 a w S => c_end (wp_ret (x_thenR (x_blockR (x_thenR (x_blockR ?_)))))))
   obtain rfl := Option.some.inj h2
   exact b_ret0 S rfl (S.retX (Hx := []) hb _ _ (() : Unit) (.c0 .n) trivial)
  ·refine c_condF S rfl c1 (wp_skip (x_thenN (wp_seq (c_region (s_move S rfl rfl fun a S => s_bin S rfl rfl rfl rfl fun a S => c_end ?_)))))
   rcases ite_of h1 with ⟨c2, h2⟩ | ⟨c2, h2⟩
   ·refine c_condT S rfl c2 (c_region (s_move S rfl rfl fun a S => s_move S rfl rfl fun a S => s_move S rfl rfl fun a S => s_move S rfl rfl fun a S => bindX h2 fun t2 et2 h3 => s_callX S (ds' := [(.s ch_0_0 ch_0_1 ch_0_2), (.i y4), (.i y5), (.v (.func (.func 39) #[] #[]))]) (ds := [(.s ch_0_0 ch_0_1 ch_0_2), (.i y4), (.i y5), (.v (.func (.func 39) #[] #[]))]) [Res.row (Ty.arr .u8 20) 28 ch_0_0 ch_0_1 ch_0_2 y1] [] (fun (ch : Unit) => ((.tup []) : D)) (fun (ch : Unit) => [Res.row (Ty.arr .u8 20) 28 ch_0_0 ch_0_1 ch_0_2 t2]) (fun (ch : Unit) => [Res.row (Ty.arr .u8 20) 28 ch_0_0 ch_0_1 ch_0_2 t2]) (fun _ => rfl) N51 rfl rfl (fun ok => ok) (.c0 .n) rfl (api_Address_n51_0o_3f39.ok k y1 y4 y5 ch_0_0 ch_0_1 ch_0_2 t2 et2 _ _) fun ch2 m le1 a w S => c_end (wp_ret (x_thenR (x_blockR (x_thenR (x_blockR ?_)))))))
    obtain rfl := Option.some.inj h3
    exact b_ret0 S rfl (S.retX (Hx := []) hb _ _ (() : Unit) (.c0 .n) trivial)
   ·refine c_condF S rfl c2 (wp_skip (x_thenN (wp_seq_k fun K1 hK1 => ?_)))
    have j1 : ∀ m y7 y8 a w, St 148 m b0 [(3, (.i y8)), (12, (.i (wr .i64 (y5 - y4)))), (11, (.b y2)), (10, (.b y3)), (0, (.s ch_0_0 ch_0_1 ch_0_2)), (1, (.i y4)), (2, (.i y5)), (4, (.v (.func (.func 39) #[] #[])))] [Res.row (Ty.arr .u8 20) 28 ch_0_0 ch_0_1 ch_0_2 y7] a w → api_Address_n47_0o_4f39.j1 k self0 y2 y3 y4 y5 (api_Address_n47_0o_4f39.l1 k self0 q1) y7 y8 = some r → K1 a w := by
     intro m y7 y8 a w S h0
     delta api_Address_n47_0o_4f39.j1 at h0
     refine hK1 a w (c_region (s_move S rfl rfl fun a S => s_move S rfl rfl fun a S => s_move S rfl rfl fun a S => s_move S rfl rfl fun a S => bindX h0 fun t4 et4 h1 => s_callX S (ds' := [(.s ch_0_0 ch_0_1 ch_0_2), (.i y4), (.i y5), (.v (.func (.func 39) #[] #[]))]) (ds := [(.s ch_0_0 ch_0_1 ch_0_2), (.i y4), (.i y5), (.v (.func (.func 39) #[] #[]))]) [Res.row (Ty.arr .u8 20) 28 ch_0_0 ch_0_1 ch_0_2 y7] [] (fun (ch : Unit) => ((.tup [(false, [.i t4.1]), (false, [.i t4.2])]) : D)) (fun (ch : Unit) => [Res.row (Ty.arr .u8 20) 28 ch_0_0 ch_0_1 ch_0_2 y7]) (fun (ch : Unit) => [Res.row (Ty.arr .u8 20) 28 ch_0_0 ch_0_1 ch_0_2 y7]) (fun _ => rfl) N53 rfl rfl (fun ok => ok) (.c0 .n) rfl (api_Address_n53_0o_3f39.ok y7 y4 y5 ch_0_0 ch_0_1 ch_0_2 t4 et4 _ _) fun ch3 m le1 a w S => s_move S rfl rfl fun a S => s_extract S rfl rfl rfl rfl fun a S => s_extract S rfl rfl rfl rfl fun a S => s_assign S rfl rfl fun a S => s_assign S rfl rfl fun a S => c_end (wp_seq_k fun K2 hK2 => ?_)))
     have j2 : ∀ m y9 y10 y11 a w, St 148 m b0 [(14, (.i y10)), (13, (.i y11)), (3, (.i y8)), (12, (.i (wr .i64 (y5 - y4)))), (11, (.b y2)), (10, (.b y3)), (0, (.s ch_0_0 ch_0_1 ch_0_2)), (1, (.i y4)), (2, (.i y5)), (4, (.v (.func (.func 39) #[] #[])))] [Res.row (Ty.arr .u8 20) 28 ch_0_0 ch_0_1 ch_0_2 y9] a w → api_Address_n47_0o_4f39.j2 k self0 y2 y3 y4 y5 (api_Address_n47_0o_4f39.l1 k self0 q1) y8 y9 y10 y11 = some r → K2 a w := by
      intro m y9 y10 y11 a w S h0
      delta api_Address_n47_0o_4f39.j2 at h0
      refine hK2 a w (wp_seq_k fun K3 hK3 => ?_)
      have j3 : ∀ m y13 a w, St 148 m b0 [(13, (.i y11)), (3, (.i y8)), (12, (.i (wr .i64 (y5 - y4)))), (11, (.b y2)), (10, (.b y3)), (0, (.s ch_0_0 ch_0_1 ch_0_2)), (1, (.i y4)), (2, (.i y5)), (4, (.v (.func (.func 39) #[] #[])))] [Res.row (Ty.arr .u8 20) 28 ch_0_0 ch_0_1 ch_0_2 y13] a w → api_Address_n47_0o_4f39.j3 k self0 y2 y3 y4 y5 (api_Address_n47_0o_4f39.l1 k self0 q1) y8 y11 y13 = some r → K3 a w := by
       intro m y13 a w S h0
       delta api_Address_n47_0o_4f39.j3 at h0
       refine hK3 a w (wp_seq (wp_seq_k fun K4 hK4 => ?_))
       have j4 : ∀ m y14 a w, St 148 m b0 [(97, (.b y14)), (13, (.i y11)), (3, (.i y8)), (12, (.i (wr .i64 (y5 - y4)))), (11, (.b y2)), (10, (.b y3)), (0, (.s ch_0_0 ch_0_1 ch_0_2)), (1, (.i y4)), (2, (.i y5)), (4, (.v (.func (.func 39) #[] #[])))] [Res.row (Ty.arr .u8 20) 28 ch_0_0 ch_0_1 ch_0_2 y13] a w → api_Address_n47_0o_4f39.j4 k self0 y2 y3 y4 y5 (api_Address_n47_0o_4f39.l1 k self0 q1) y8 y11 y13 y14 = some r → K4 a w := by
        intro m y14 a w S h0
        delta api_Address_n47_0o_4f39.j4 at h0
        refine hK4 a w ?_
        rcases ite_of h0 with ⟨c3, h1⟩ | ⟨c3, h1⟩
        ·refine c_condT S rfl c3 (c_region (s_move S rfl rfl fun a S => s_move S rfl rfl fun a S => s_move S rfl rfl fun a S => s_move S rfl rfl fun a S => s_move S rfl rfl fun a S => bindX h1 fun t8 et8 h2 => s_callX S (ds' := [(.s ch_0_0 ch_0_1 ch_0_2), (.i y4), (.i y5), (.i y11), (.v (.func (.func 39) #[] #[]))]) (ds := [(.s ch_0_0 ch_0_1 ch_0_2), (.i y4), (.i y5), (.i y11), (.v (.func (.func 39) #[] #[]))]) [Res.row (Ty.arr .u8 20) 28 ch_0_0 ch_0_1 ch_0_2 y13] [] (fun (ch : Unit) => ((.i t8.1) : D)) (fun (ch : Unit) => [Res.row (Ty.arr .u8 20) 28 ch_0_0 ch_0_1 ch_0_2 t8.2]) (fun (ch : Unit) => [Res.row (Ty.arr .u8 20) 28 ch_0_0 ch_0_1 ch_0_2 t8.2]) (fun _ => rfl) N56 rfl rfl (fun ok => ok) (.c0 .n) rfl (api_Address_n56_0o_4f39.ok k y13 y4 y5 y11 ch_0_0 ch_0_1 ch_0_2 t8 et8 _ _) fun ch4 m le1 a w S => s_assign S rfl rfl fun a S => c_end (c_region (s_move S rfl rfl fun a S => s_assign S rfl rfl fun a S => c_end (wp_exit (x_thenX (x_blockX (x_thenN ?_))))))))
         exact ⟨_, t8.2, y2, y3, t8.1, y5, y8, (S.sb rfl (.c0 .n)), h2⟩
        ·refine c_condF S rfl c3 (wp_skip (x_thenN (c_region (s_move S rfl rfl fun a S => s_move S rfl rfl fun a S => s_move S rfl rfl fun a S => s_move S rfl rfl fun a S => s_move S rfl rfl fun a S => bindX h1 fun t9 et9 h2 => s_callX S (ds' := [(.s ch_0_0 ch_0_1 ch_0_2), (.i y4), (.i y5), (.i y11), (.v (.func (.func 39) #[] #[]))]) (ds := [(.s ch_0_0 ch_0_1 ch_0_2), (.i y4), (.i y5), (.i y11), (.v (.func (.func 39) #[] #[]))]) [Res.row (Ty.arr .u8 20) 28 ch_0_0 ch_0_1 ch_0_2 y13] [] (fun (ch : Unit) => ((.tup [(false, [.i t9.1]), (false, [.b t9.2.1])]) : D)) (fun (ch : Unit) => [Res.row (Ty.arr .u8 20) 28 ch_0_0 ch_0_1 ch_0_2 t9.2.2]) (fun (ch : Unit) => [Res.row (Ty.arr .u8 20) 28 ch_0_0 ch_0_1 ch_0_2 t9.2.2]) (fun _ => rfl) N57 rfl rfl (fun ok => ok) (.c0 .n) rfl (api_Address_n57_0o_4f39.ok k y13 y4 y5 y11 ch_0_0 ch_0_1 ch_0_2 t9 et9 _ _) fun ch5 m le1 a w S => s_move S rfl rfl fun a S => s_extract S rfl rfl rfl rfl fun a S => s_extract S rfl rfl rfl rfl fun a S => s_assign S rfl rfl fun a S => s_assign S rfl rfl fun a S => c_end (c_region (s_move S rfl rfl fun a S => s_assign S rfl rfl fun a S => c_end (c_region (s_move S rfl rfl fun a S => s_move S rfl rfl fun a S => s_bin S rfl rfl rfl rfl fun a S => s_move S rfl rfl fun a S => s_move S rfl rfl fun a S => s_bin S rfl rfl rfl rfl fun a S => s_assign S rfl rfl fun a S => s_assign S rfl rfl fun a S => c_end (c_region (s_move S rfl rfl fun a S => s_quo S rfl rfl (by decide) rfl fun a S => s_assign S rfl rfl fun a S => c_end (c_region (s_move S rfl rfl fun a S => s_move S rfl rfl fun a S => s_bin S rfl rfl rfl rfl fun a S => c_end ?_))))))))))))
         rcases ite_of h2 with ⟨c4, h3⟩ | ⟨c4, h3⟩
         ·refine c_condT S rfl c4 (c_region (s_move S rfl rfl fun a S => s_move S rfl rfl fun a S => s_bin S rfl rfl rfl rfl fun a S => s_assign S rfl rfl fun a S => c_end (c_region (s_move S rfl rfl fun a S => s_move S rfl rfl fun a S => s_move S rfl rfl fun a S => s_move S rfl rfl fun a S => s_move S rfl rfl fun a S => bindX h3 fun t10 et10 h4 => s_callX S (ds' := [(.s ch_0_0 ch_0_1 ch_0_2), (.i y4), (.i t9.1), (.i y8), (.v (.func (.func 39) #[] #[]))]) (ds := [(.s ch_0_0 ch_0_1 ch_0_2), (.i y4), (.i t9.1), (.i y8), (.v (.func (.func 39) #[] #[]))]) [Res.row (Ty.arr .u8 20) 28 ch_0_0 ch_0_1 ch_0_2 t9.2.2] [] (fun (ch : Unit) => ((.tup []) : D)) (fun (ch : Unit) => [Res.row (Ty.arr .u8 20) 28 ch_0_0 ch_0_1 ch_0_2 t10]) (fun (ch : Unit) => [Res.row (Ty.arr .u8 20) 28 ch_0_0 ch_0_1 ch_0_2 t10]) (fun _ => rfl) N47 rfl rfl (fun ok => ok) (.c0 .n) rfl (c_0 t9.2.2 y4 t9.1 y8 ch_0_0 ch_0_1 ch_0_2 t10 et10 _ _) fun ch6 m le1 a w S => c_end (c_region' (s_move S rfl rfl fun a S => s_bin S rfl rfl rfl rfl fun a S => s_assign S rfl rfl fun a S => c_end' (x_blockN (x_thenN ?_))))))))
          exact ⟨_, t10, t9.2.1, (decide ((wr .i64 (Int.tdiv (wr .i64 (y5 - y4)) 8)) ≤ (wr .i64 (t9.1 - y4)))), (wr .i64 (t9.1 + 1)), y5, y8, (S.sb rfl (.c0 .n)), h4⟩
         ·refine c_condF S rfl c4 (c_region (s_move S rfl rfl fun a S => s_move S rfl rfl fun a S => s_bin S rfl rfl rfl rfl fun a S => s_assign S rfl rfl fun a S => c_end (c_region (s_move S rfl rfl fun a S => s_move S rfl rfl fun a S => s_bin S rfl rfl rfl rfl fun a S => s_move S rfl rfl fun a S => s_move S rfl rfl fun a S => s_move S rfl rfl fun a S => bindX h3 fun t11 et11 h4 => s_callX S (ds' := [(.s ch_0_0 ch_0_1 ch_0_2), (.i (wr .i64 (t9.1 + 1))), (.i y5), (.i y8), (.v (.func (.func 39) #[] #[]))]) (ds := [(.s ch_0_0 ch_0_1 ch_0_2), (.i (wr .i64 (t9.1 + 1))), (.i y5), (.i y8), (.v (.func (.func 39) #[] #[]))]) [Res.row (Ty.arr .u8 20) 28 ch_0_0 ch_0_1 ch_0_2 t9.2.2] [] (fun (ch : Unit) => ((.tup []) : D)) (fun (ch : Unit) => [Res.row (Ty.arr .u8 20) 28 ch_0_0 ch_0_1 ch_0_2 t11]) (fun (ch : Unit) => [Res.row (Ty.arr .u8 20) 28 ch_0_0 ch_0_1 ch_0_2 t11]) (fun _ => rfl) N47 rfl rfl (fun ok => ok) (.c0 .n) rfl (c_0 t9.2.2 (wr .i64 (t9.1 + 1)) y5 y8 ch_0_0 ch_0_1 ch_0_2 t11 et11 _ _) fun ch7 m le1 a w S => c_end (c_region' (s_move S rfl rfl fun a S => s_assign S rfl rfl fun a S => c_end' (x_blockN (x_thenN ?_))))))))
          exact ⟨_, t11, t9.2.1, (decide ((wr .i64 (Int.tdiv (wr .i64 (y5 - y4)) 8)) ≤ (wr .i64 (y5 - t9.1)))), y4, t9.1, y8, (S.sb rfl (.c0 .n)), h4⟩
       refine c_heldS S (.take 0 (.take 1 (.take 2 (.take 3 (.take 4 (.take 5 (.take 6 (.take 7 (.take 9 (.take 10 (.take 11 (.alts (.run 8 true (.alts (.run 12 true (.alts (.run 13 true (.take 14 (.take 15 (.take 16 .done))) .nil)) .nil)) (.run 12 true (.alts (.run 8 true (.alts (.run 13 true (.take 14 (.take 15 (.take 16 .done))) .nil)) .nil)) .nil)))))))))))))) 17 [Res.row (Ty.arr .u8 20) 28 ch_0_0 ch_0_1 ch_0_2 y13] (.c0 .n) ⟨Res.stay_row flat_arr, trivial⟩ [(13, (.i y11)), (0, (.s ch_0_0 ch_0_1 ch_0_2)), (1, (.i y4)), (4, (.v (.func (.func 39) #[] #[])))] (subR rfl) (by kernel_rfl) (by kernel_rfl) fun w S CL hw le => ?_
       refine h_move S CL hw le (subR rfl) rfl rfl rfl trivial fun a S CL => h_bin S CL hw le (subR rfl) rfl rfl rfl rfl rfl trivial fun a S CL => h_move S CL hw le (subR rfl) rfl rfl rfl trivial fun a S CL => ?_
       rcases ite_of h0 with ⟨c5, h1⟩ | ⟨c5, h1⟩
       ·refine h_move S CL hw le (subR rfl) rfl rfl rfl ⟨_, _, rfl, rfl, c5⟩ fun a S CL => h_move S CL hw le (subR rfl) rfl rfl rfl ⟨_, _, rfl, rfl, c5⟩ fun a S CL => h_move S CL hw le (subR rfl) rfl rfl rfl ⟨_, _, rfl, rfl, c5⟩ fun a S CL => h_bin S CL hw le (subR rfl) rfl rfl rfl rfl rfl ⟨_, _, rfl, rfl, c5⟩ fun a S CL => ?_
        obtain ⟨c6, h2⟩ := chk_of h1; clear h1
        refine h_iaddrO S CL hw le (subR rfl) (ty' := (Ty.arr .u8 20)) rfl .h rfl underlying23 T28 c6.1 c6.2 rfl rfl ⟨_, _, rfl, rfl, c5⟩ fun g1 a hA1 S CL => h_move S CL hw le (subR rfl) rfl rfl rfl ⟨_, _, rfl, rfl, c5⟩ fun a S CL => h_move S CL hw le (subR rfl) rfl rfl rfl ⟨_, _, rfl, rfl, c5⟩ fun a S CL => ?_
        obtain ⟨c7, h3⟩ := chk_of h2; clear h2
        refine h_iaddrO S CL hw le (subR rfl) (ty' := (Ty.arr .u8 20)) rfl .h rfl underlying23 T28 c7.1 c7.2 rfl rfl ⟨_, _, rfl, rfl, c5⟩ fun g2 a hA2 S CL => bindX h3 fun t12 et12 h4 => h_alts ?_
        refine h_runO S rfl ⟨_, _, rfl, rfl, c5⟩ ?_ ?_
        ·refine s_ldRA S (ty' := (Ty.arr .u8 20)) (i := (wr .i64 (y4 - 1))) (off := 0) (fun (c : Unit) => [.b20 (gt y13 (wr .i64 (y4 - 1)))]) rfl hA1 .h T28 c6.1 c6.2 rfl (fun _ => rfl) rfl fun ch8 a S => ?_
         refine CL.bk hw S (.c0 .n) le fun hw => h_run' S rfl ⟨_, _, rfl, rfl, c5⟩ (s_ldRA S (ty' := (Ty.arr .u8 20)) (i := y11) (off := 0) (fun (c : Unit) => [.b20 (gt y13 y11)]) rfl hA2 .h T28 c7.1 c7.2 rfl (fun _ => rfl) rfl fun ch9 a S => ?_)
         refine CL.bk hw S (.c0 .n) le fun hw => h_run' S rfl ⟨_, _, rfl, rfl, c5⟩ (s_callP S _ N39 rfl rfl (addr_Compare.ok (gt y13 (wr .i64 (y4 - 1))) (gt y13 y11) t12 et12 _ _) fun ch10 m le1 a w S => ?_)
         replace le := le.trans le1
         refine CL.bk hw S (.c0 .n) le fun hw => ?_
         replace CL := CL.add (t := 94) (d := (.i t12)) S rfl rfl
         refine h_bin S CL hw le (subR rfl) rfl rfl rfl rfl rfl ⟨_, _, rfl, rfl, c5⟩ fun a S CL => h_not S CL hw le (subR rfl) rfl rfl rfl ⟨_, _, rfl, rfl, c5⟩ fun a S CL => h_pick S CL hw le (subR rfl) (b := true) (hc_of rfl c5) rfl rfl rfl trivial fun a S CL => ?_
         refine h_done ?_; clear CL hw le
         refine x_thenN ?_
         exact j4 _ (!(decide (t12 < 0))) a w (S.sb rfl (.c0 .n)) h4
        refine h_runO S rfl ⟨_, _, rfl, rfl, c5⟩ ?_ ?_
        ·refine s_ldRA S (ty' := (Ty.arr .u8 20)) (i := y11) (off := 0) (fun (c : Unit) => [.b20 (gt y13 y11)]) rfl hA2 .h T28 c7.1 c7.2 rfl (fun _ => rfl) rfl fun ch8 a S => ?_
         refine CL.bk hw S (.c0 .n) le fun hw => h_run' S rfl ⟨_, _, rfl, rfl, c5⟩ (s_ldRA S (ty' := (Ty.arr .u8 20)) (i := (wr .i64 (y4 - 1))) (off := 0) (fun (c : Unit) => [.b20 (gt y13 (wr .i64 (y4 - 1)))]) rfl hA1 .h T28 c6.1 c6.2 rfl (fun _ => rfl) rfl fun ch9 a S => ?_)
         refine CL.bk hw S (.c0 .n) le fun hw => h_run' S rfl ⟨_, _, rfl, rfl, c5⟩ (s_callP S _ N39 rfl rfl (addr_Compare.ok (gt y13 (wr .i64 (y4 - 1))) (gt y13 y11) t12 et12 _ _) fun ch10 m le1 a w S => ?_)
         replace le := le.trans le1
         refine CL.bk hw S (.c0 .n) le fun hw => ?_
         replace CL := CL.add (t := 94) (d := (.i t12)) S rfl rfl
         refine h_bin S CL hw le (subR rfl) rfl rfl rfl rfl rfl ⟨_, _, rfl, rfl, c5⟩ fun a S CL => h_not S CL hw le (subR rfl) rfl rfl rfl ⟨_, _, rfl, rfl, c5⟩ fun a S CL => h_pick S CL hw le (subR rfl) (b := true) (hc_of rfl c5) rfl rfl rfl trivial fun a S CL => ?_
         refine h_done ?_; clear CL hw le
         refine x_thenN ?_
         exact j4 _ (!(decide (t12 < 0))) a w (S.sb rfl (.c0 .n)) h4
        exact h_nil
       ·refine h_skip S CL rfl rfl rfl (ne_bool c5) rfl fun a S CL => h_skip S CL rfl rfl rfl (ne_bool c5) rfl fun a S CL => h_skip S CL rfl rfl rfl (ne_bool c5) rfl fun a S CL => h_skip S CL rfl rfl rfl (ne_bool c5) rfl fun a S CL => h_skip S CL rfl rfl rfl (ne_bool c5) rfl fun a S CL => h_skip S CL rfl rfl rfl (ne_bool c5) rfl fun a S CL => h_skip S CL rfl rfl rfl (ne_bool c5) rfl fun a S CL => h_skip S CL rfl rfl rfl (ne_bool c5) rfl fun a S CL => h_alts ?_
        refine h_skipOt S rfl rfl rfl (ne_bool c5) rfl ?_ ?_
        ·clear S a; intro a S
         refine CL.bk hw S (.c0 .n) le fun hw => h_skipRt S rfl rfl rfl (ne_bool c5) rfl fun a S => CL.bk hw S (.c0 .n) le fun hw => h_skipRt S rfl rfl rfl (ne_bool c5) rfl fun a S => CL.bk hw S (.c0 .n) le fun hw => ?_
         replace CL := CL.add (t := 94) (d := .u) S rfl rfl
         refine h_skip S CL rfl rfl rfl (ne_bool c5) rfl fun a S CL => h_skip S CL rfl rfl rfl (ne_bool c5) rfl fun a S CL => h_pick S CL hw le (subR rfl) (b := false) (hc_of rfl c5) rfl rfl rfl trivial fun a S CL => ?_
         refine h_done ?_; clear CL hw le
         refine x_thenN ?_
         exact j4 _ false a w (S.sb rfl (.c0 .n)) h1
        refine h_skipOt S rfl rfl rfl (ne_bool c5) rfl ?_ ?_
        ·clear S a; intro a S
         refine CL.bk hw S (.c0 .n) le fun hw => h_skipRt S rfl rfl rfl (ne_bool c5) rfl fun a S => CL.bk hw S (.c0 .n) le fun hw => h_skipRt S rfl rfl rfl (ne_bool c5) rfl fun a S => CL.bk hw S (.c0 .n) le fun hw => ?_
         replace CL := CL.add (t := 94) (d := .u) S rfl rfl
         refine h_skip S CL rfl rfl rfl (ne_bool c5) rfl fun a S CL => h_skip S CL rfl rfl rfl (ne_bool c5) rfl fun a S CL => h_pick S CL hw le (subR rfl) (b := false) (hc_of rfl c5) rfl rfl rfl trivial fun a S CL => ?_
         refine h_done ?_; clear CL hw le
         refine x_thenN ?_
         exact j4 _ false a w (S.sb rfl (.c0 .n)) h1
        exact h_nil
      refine wp_seq_k fun K5 hK5 => ?_
      have j5 : ∀ m y15 a w, St 148 m b0 [(75, (.b y15)), (13, (.i y11)), (3, (.i y8)), (12, (.i (wr .i64 (y5 - y4)))), (11, (.b y2)), (10, (.b y3)), (0, (.s ch_0_0 ch_0_1 ch_0_2)), (1, (.i y4)), (2, (.i y5)), (4, (.v (.func (.func 39) #[] #[])))] [Res.row (Ty.arr .u8 20) 28 ch_0_0 ch_0_1 ch_0_2 y9] a w → api_Address_n47_0o_4f39.j5 k self0 y2 y3 y4 y5 (api_Address_n47_0o_4f39.l1 k self0 q1) y8 y9 y11 y15 = some r → K5 a w := by
       intro m y15 a w S h0
       delta api_Address_n47_0o_4f39.j5 at h0
       refine hK5 a w ?_
       rcases ite_of h0 with ⟨c8, h1⟩ | ⟨c8, h1⟩
       ·refine c_condT S rfl c8 (c_region (s_move S rfl rfl fun a S => s_move S rfl rfl fun a S => s_move S rfl rfl fun a S => s_move S rfl rfl fun a S => bindX h1 fun t13 et13 h2 => s_callX S (ds' := [(.s ch_0_0 ch_0_1 ch_0_2), (.i y4), (.i y5), (.v (.func (.func 39) #[] #[]))]) (ds := [(.s ch_0_0 ch_0_1 ch_0_2), (.i y4), (.i y5), (.v (.func (.func 39) #[] #[]))]) [Res.row (Ty.arr .u8 20) 28 ch_0_0 ch_0_1 ch_0_2 y9] [] (fun (ch : Unit) => ((.b t13.1) : D)) (fun (ch : Unit) => [Res.row (Ty.arr .u8 20) 28 ch_0_0 ch_0_1 ch_0_2 t13.2]) (fun (ch : Unit) => [Res.row (Ty.arr .u8 20) 28 ch_0_0 ch_0_1 ch_0_2 t13.2]) (fun _ => rfl) N55 rfl rfl (fun ok => ok) (.c0 .n) rfl (api_Address_n55_0o_3f39.ok k y9 y4 y5 ch_0_0 ch_0_1 ch_0_2 t13 et13 _ _) fun ch11 m le1 a w S => c_end ?_))
        rcases ite_of h2 with ⟨c9, h3⟩ | ⟨c9, h3⟩
        ·refine c_condT S rfl c9 (wp_ret (x_thenR (x_blockR (x_thenR (x_blockR ?_)))))
         obtain rfl := Option.some.inj h3
         exact b_ret0 S rfl (S.retX (Hx := []) hb _ _ (() : Unit) (.c0 .n) trivial)
        ·refine c_condF S rfl c9 (wp_skip (x_thenN ?_))
         exact j3 _ t13.2 a w (S.sb rfl (.c0 .n)) h3
       ·refine c_condF S rfl c8 (wp_skip (x_thenN ?_))
        exact j3 _ y9 a w (S.sb rfl (.c0 .n)) h1
      refine c_region' (s_move S rfl rfl fun a S => s_move S rfl rfl fun a S => ?_)
      rcases ite_of h0 with ⟨c10, h1⟩ | ⟨c10, h1⟩
      ·refine s_gT S (b := y3) rfl rfl c10 (s_move S rfl rfl fun a S => s_pick S (b := true) (hc_of rfl c10) rfl rfl fun a S => s_move S rfl rfl fun a S => ?_)
       rcases ite_of h1 with ⟨c11, h2⟩ | ⟨c11, h2⟩
       ·refine s_gT S (b := y2) rfl rfl c11 (s_move S rfl rfl fun a S => s_gT S (b := y2) rfl rfl c11 (s_bin S rfl rfl rfl rfl fun a S => s_pick S (b := true) (hc_of rfl c11) rfl rfl fun a S => c_end' (x_thenN ?_)))
        exact j5 _ (y10 == 1) a w (S.sb rfl (.c0 .n)) h2
       ·refine s_gF S (b := y2) rfl rfl c11 rfl fun a S => s_gF S (b := y2) rfl rfl c11 rfl fun a S => s_pick S (b := false) (hc_of rfl c11) rfl rfl fun a S => c_end' (x_thenN ?_)
        exact j5 _ false a w (S.sb rfl (.c0 .n)) h2
      ·refine s_gF S (b := y3) rfl rfl c10 rfl fun a S => s_pick S (b := false) (hc_of rfl c10) rfl rfl fun a S => s_move S rfl rfl fun a S => s_gF S (b := false) rfl rfl rfl rfl fun a S => s_gF S (b := false) rfl rfl rfl rfl fun a S => s_pick S (b := false) (hc_of rfl rfl) rfl rfl fun a S => c_end' (x_thenN ?_)
       exact j5 _ false a w (S.sb rfl (.c0 .n)) h1
     refine c_region (s_move S rfl rfl fun a S => s_bin S rfl rfl rfl rfl fun a S => c_end ?_)
     rcases ite_of h1 with ⟨c12, h2⟩ | ⟨c12, h2⟩
     ·refine c_condT S rfl c12 (c_region (s_move S rfl rfl fun a S => s_move S rfl rfl fun a S => s_move S rfl rfl fun a S => s_move S rfl rfl fun a S => bindX h2 fun t14 et14 h3 => s_callX S (ds' := [(.s ch_0_0 ch_0_1 ch_0_2), (.i y4), (.i y5), (.v (.func (.func 39) #[] #[]))]) (ds := [(.s ch_0_0 ch_0_1 ch_0_2), (.i y4), (.i y5), (.v (.func (.func 39) #[] #[]))]) [Res.row (Ty.arr .u8 20) 28 ch_0_0 ch_0_1 ch_0_2 y7] [] (fun (ch : Unit) => ((.tup []) : D)) (fun (ch : Unit) => [Res.row (Ty.arr .u8 20) 28 ch_0_0 ch_0_1 ch_0_2 t14]) (fun (ch : Unit) => [Res.row (Ty.arr .u8 20) 28 ch_0_0 ch_0_1 ch_0_2 t14]) (fun _ => rfl) N54 rfl rfl (fun ok => ok) (.c0 .n) rfl (api_Address_n54_0o_3f39.ok k y7 y4 y5 ch_0_0 ch_0_1 ch_0_2 t14 et14 _ _) fun ch12 m le1 a w S => c_end (c_region (s_move S rfl rfl fun a S => s_bin S rfl rfl rfl rfl fun a S => s_move S rfl rfl fun a S => s_move S rfl rfl fun a S => s_bin S rfl rfl rfl rfl fun a S => s_bin S rfl rfl rfl rfl fun a S => s_assign S rfl rfl fun a S => c_end (c_region' (s_assign S rfl rfl fun a S => c_end' (x_thenN ?_)))))))
      exact j2 _ t14 1 (wr .i64 ((wr .i64 (y5 - 1)) - (wr .i64 (t4.1 - y4)))) a w (S.sb rfl (.c0 .n)) h3
     ·refine c_condF S rfl c12 (wp_skip (x_thenN ?_))
      exact j2 _ y7 t4.2 t4.1 a w (S.sb rfl (.c0 .n)) h2
    refine c_region (s_move S rfl rfl fun a S => s_not S rfl rfl fun a S => c_end ?_)
    rcases ite_of h2 with ⟨c13, h3⟩ | ⟨c13, h3⟩
    ·refine c_condT S rfl c13 (c_region (s_move S rfl rfl fun a S => s_move S rfl rfl fun a S => s_move S rfl rfl fun a S => s_move S rfl rfl fun a S => bindX h3 fun t15 et15 h4 => s_callX S (ds' := [(.s ch_0_0 ch_0_1 ch_0_2), (.i y4), (.i y5), (.v (.func (.func 39) #[] #[]))]) (ds := [(.s ch_0_0 ch_0_1 ch_0_2), (.i y4), (.i y5), (.v (.func (.func 39) #[] #[]))]) [Res.row (Ty.arr .u8 20) 28 ch_0_0 ch_0_1 ch_0_2 y1] [] (fun (ch : Unit) => ((.tup []) : D)) (fun (ch : Unit) => [Res.row (Ty.arr .u8 20) 28 ch_0_0 ch_0_1 ch_0_2 t15]) (fun (ch : Unit) => [Res.row (Ty.arr .u8 20) 28 ch_0_0 ch_0_1 ch_0_2 t15]) (fun _ => rfl) N52 rfl rfl (fun ok => ok) (.c0 .n) rfl (api_Address_n52_0o_3f39.ok k y1 y4 y5 ch_0_0 ch_0_1 ch_0_2 t15 et15 _ _) fun ch13 m le1 a w S => c_end (c_region' (s_move S rfl rfl fun a S => s_bin S rfl rfl rfl rfl fun a S => s_assign S rfl rfl fun a S => c_end' (x_thenN ?_)))))
     exact j1 _ t15 (wr .i64 (y6 - 1)) a w (S.sb rfl (.c0 .n)) h4
    ·refine c_condF S rfl c13 (wp_skip (x_thenN ?_))
     exact j1 _ y1 y6 a w (S.sb rfl (.c0 .n)) h3
def api_Address_n47_0o_4f39.f : Nat → api_Address_n47_0o_4f39.Ty
  | 0 => fun _ _ _ _ => none
  | k + 1 => api_Address_n47_0o_4f39.body (api_Address_n47_0o_4f39.f k) k
theorem api_Address_n47_0o_4f39.oks : ∀ k : Nat, api_Address_n47_0o_4f39.Ctr (api_Address_n47_0o_4f39.f k)
  | 0 => fun _ _ _ _ _ _ _ r h0 => (nomatch (show (none : Option ((List (List Int)))) = some r from h0))
  | k + 1 => by
    have ih := api_Address_n47_0o_4f39.oks k
    exact api_Address_n47_0o_4f39.okb (api_Address_n47_0o_4f39.f k) ih k
theorem api_Address_n47_0o_4f39.ok (k : Nat) : api_Address_n47_0o_4f39.Ctr (api_Address_n47_0o_4f39.f k) := (api_Address_n47_0o_4f39.oks k)
abbrev store_New.Ty : Type := Option L81
def store_New.Ctr (s : store_New.Ty) : Prop := ∀ (r : L81), Ct (C := (Nat × (Option Addr) × Nat × Nat)) Try.prog 17 (s = some r) [] [] (fun ch => (.v (.pointer (some ⟨ch.1, 0, none⟩)))) fun ch => [Res.cells ch.1 83 [.s ch.2.1 ch.2.2.1 ch.2.2.2], Res.row (Ty.prod yi Y73) 80 ch.2.1 ch.2.2.1 ch.2.2.2 r]
def store_New.f : Option L81 := some ([((-1), ([] : List ((List Int) × L34)))])
theorem store_New.ok : store_New.Ctr (store_New.f) := by
 intro r h0 mi w0 ok hm
 delta store_New.f at h0
 refine c_enterZ (n := 5) ok hm func17 rfl rfl rfl fun b0 hb a S => c_region (s_assign S rfl rfl fun a S => c_end (c_region (s_bldS S (ds := [(0, (.i (-1)))]) (zs := [.i 0, .one (.map none)]) (s' := [.i (-1), .one (.map none)]) rfl underlying80 P80 Z80 ⟨rfl, rfl, trivial⟩ rfl rfl fun a S => ?_)))
 replace S := S.slot (u := 1) (d' := (.agg [.i (-1), .rf (.map none) (RdM true (Ty.arr .u8 20) true Y34 none ([] : List ((List Int) × L34)))])) rfl rfl (by have h := (S.get 1 (.agg [.i (-1), .one (.map none)]) rfl).2; exact ⟨h.1, okm_nil, trivial⟩)
 refine s_bldSl S (ty' := (Ty.prod yi Y73)) (ds := [(0, (.agg [.i (-1), .rf (.map none) (RdM true (Ty.arr .u8 20) true Y34 none ([] : List ((List Int) × L34)))]))]) (z := (0, ([] : List ((List Int) × L34)))) (c0 := ((), none)) (ys := [((-1), ([] : List ((List Int) × L34)))]) (cs := [((), none)]) rfl underlying81 J80 Z80 rfl ⟨rfl, okm_nil, trivial⟩ rfl rfl rfl rfl rfl rfl fun g1 a w S => s_bldS S (ds := [(0, (.s (ad g1) 1 1))]) (zs := [.s none 0 0]) (s' := [.s (ad g1) 1 1]) rfl underlying83 P83 Z83 ⟨rfl, trivial⟩ rfl rfl fun a S => s_box S rfl rfl rfl fun g2 a w S => s_assign S rfl rfl fun a S => c_end (wp_ret ?_)
 obtain rfl := Option.some.inj h0
 exact b_ret1 (d := (.p g2)) S rfl rfl fun ok => S.retX (Hx := []) hb _ _ ((g2, (ad g1), 1, 1) : Nat × (Option Addr) × Nat × Nat) (.c0 (.c0 .n)) ok
abbrev store_Store_has.Ty : Type := L81 → Int → Option Bool
def store_Store_has.Ctr (s : store_Store_has.Ty) : Prop := ∀ (x1 : L81) (x2 : Int) (ch_0_0 : Nat) (ch_0_1 : Option Addr) (ch_0_2 : Nat) (ch_0_3 : Nat) (r : Bool), Ct (C := Unit) Try.prog 32 (s x1 x2 = some r) [Res.cells ch_0_0 83 [.s ch_0_1 ch_0_2 ch_0_3], Res.row (Ty.prod yi Y73) 80 ch_0_1 ch_0_2 ch_0_3 x1] [(.p ch_0_0), (.i x2)] (fun _ => (.b r)) fun _ => [Res.cells ch_0_0 83 [.s ch_0_1 ch_0_2 ch_0_3], Res.row (Ty.prod yi Y73) 80 ch_0_1 ch_0_2 ch_0_3 x1]
def store_Store_has.f (x1 : L81) (x2 : Int) : Option Bool := if (decide (0 ≤ x2)) = true then (some (decide (x2 < ((x1).length : Int)))) else (some false)
theorem store_Store_has.ok : store_Store_has.Ctr (store_Store_has.f) := by
 intro x1 x2 ch_0_0 ch_0_1 ch_0_2 ch_0_3 r h0 mi w0 ok hm
 delta store_Store_has.f at h0
 refine c_enterZ (n := 20) ok hm func32 rfl rfl rfl fun b0 hb a S => c_region (s_assign S rfl rfl fun a S => c_end (c_region (s_move S rfl rfl fun a S => s_nep S (b := true) rfl rfl underlying44 rfl rfl fun a S => s_move S rfl rfl fun a S => s_gT S (b := true) rfl rfl rfl (s_move S rfl rfl fun a S => s_gT S (b := true) rfl rfl rfl (s_bin S rfl rfl rfl rfl fun a S => s_pick S (b := true) (hc_of rfl rfl) rfl rfl fun a S => s_move S rfl rfl fun a S => ?_)))))
 rcases ite_of h0 with ⟨c1, h1⟩ | ⟨c1, h1⟩
 ·refine s_gT S (b := (decide (0 ≤ x2))) rfl rfl c1 (s_move S rfl rfl fun a S => s_gT S (b := (decide (0 ≤ x2))) rfl rfl c1 (s_move S rfl rfl fun a S => s_gT S (b := (decide (0 ≤ x2))) rfl rfl c1 (s_nilchk S rfl rfl fun a S => s_gT S (b := (decide (0 ≤ x2))) rfl rfl c1 (s_fieldAddr S rfl I83_0 T81 (by decide) rfl rfl fun a S => s_gT S (b := (decide (0 ≤ x2))) rfl rfl c1 (s_load1 S rfl .h T81 (v := (.slice ch_0_1 ch_0_2 ch_0_3)) rfl rfl fun a S => s_gT S (b := (decide (0 ≤ x2))) rfl rfl c1 (s_lenO S rfl .h1 underlying81 rfl fun a S => s_gT S (b := (decide (0 ≤ x2))) rfl rfl c1 (s_bin S rfl rfl rfl rfl fun a S => s_pick S (b := true) (hc_of rfl c1) rfl rfl fun a S => s_assign S rfl rfl fun a S => c_end (wp_ret ?_))))))))
  obtain rfl := Option.some.inj h1
  exact b_ret1 (d := (.b (decide (x2 < ((x1).length : Int))))) S rfl rfl fun ok => S.retX (Hx := []) hb _ _ (() : Unit) (.c0 (.c0 .n)) ok
 ·refine s_gF S (b := (decide (0 ≤ x2))) rfl rfl c1 rfl fun a S => s_gF S (b := (decide (0 ≤ x2))) rfl rfl c1 rfl fun a S => s_gF S (b := (decide (0 ≤ x2))) rfl rfl c1 rfl fun a S => s_gF S (b := (decide (0 ≤ x2))) rfl rfl c1 rfl fun a S => s_gF S (b := (decide (0 ≤ x2))) rfl rfl c1 rfl fun a S => s_gF S (b := (decide (0 ≤ x2))) rfl rfl c1 rfl fun a S => s_gF S (b := (decide (0 ≤ x2))) rfl rfl c1 rfl fun a S => s_pick S (b := false) (hc_of rfl c1) rfl rfl fun a S => s_assign S rfl rfl fun a S => c_end (wp_ret ?_)
  obtain rfl := Option.some.inj h1
  exact b_ret1 (d := (.b false)) S rfl rfl fun ok => S.retX (Hx := []) hb _ _ (() : Unit) (.c0 (.c0 .n)) ok
abbrev store_Store_Commit_1.Ty : Type := (L34) → Option Bool
def store_Store_Commit_1.Ctr (s : store_Store_Commit_1.Ty) : Prop := ∀ (x1 : L34) (ch_0_0 : Option Addr) (ch_0_1 : Nat) (ch_0_2 : Option Addr) (ch_0_3 : Nat) (r : Bool), Ct (C := Unit) Try.prog 34 (s x1 = some r) [] [(.agg [.b20 x1.1, .w x1.2.1, .w4 x1.2.2.1, .q yb ch_0_0 ch_0_1 x1.2.2.2.1, .q Y71 ch_0_2 ch_0_3 x1.2.2.2.2])] (fun _ => (.b r)) fun _ => []
def store_Store_Commit_1.f (k : Nat) (x1 : L34) : Option Bool := (store_Right.f k x1).bind fun t1 => (some (!t1))
theorem store_Store_Commit_1.ok (k : Nat) : store_Store_Commit_1.Ctr (store_Store_Commit_1.f k) := by
 intro x1 ch_0_0 ch_0_1 ch_0_2 ch_0_3 r h0 mi w0 ok hm
 delta store_Store_Commit_1.f at h0
 refine c_enterZ (n := 6) ok hm func34 rfl rfl rfl fun b0 hb a S => c_region (s_box S rfl rfl rfl fun g1 a w S => s_assign S rfl rfl fun a S => c_end (c_region (s_loada S rfl .h T34 (s' := [.b20 x1.1, .w x1.2.1, .w4 x1.2.2.1, .q yb ch_0_0 ch_0_1 x1.2.2.2.1, .q Y71 ch_0_2 ch_0_3 x1.2.2.2.2]) rfl rfl fun a S => bindX h0 fun t1 et1 h1 => s_callP S _ N30 rfl rfl (store_Right.ok k x1 ch_0_0 ch_0_1 ch_0_2 ch_0_3 t1 et1 _ _) fun ch1 m le1 a w S => s_not S rfl rfl fun a S => s_assign S rfl rfl fun a S => c_end (wp_ret ?_))))
 obtain rfl := Option.some.inj h1
 exact b_ret1 (d := (.b (!t1))) S rfl rfl (S.rt hb)
abbrev api_Account_n45_1f34.Ty : Type := (List L34) → Option Int
def api_Account_n45_1f34.Ctr (s : api_Account_n45_1f34.Ty) : Prop := ∀ (x1 : List L34) (ch_0_0 : Option Addr) (ch_0_1 : Nat) (r : Int), Ct (C := Unit) Try.prog 45 (s x1 = some r) [] [(.q Y34 ch_0_0 ch_0_1 x1), (.v (.func (.func 34) #[] #[]))] (fun _ => (.i r)) fun _ => []
def api_Account_n45_1f34.j1 : Option Int := some (-1)
def api_Account_n45_1f34.b1 (k : Nat) (x1 : List L34) (rec1 : Int → Option Int) (y1 : Int) : Option Int := if (decide (y1 < ((x1).length : Int))) = true then (if (0 : Int) ≤ y1 ∧ y1 < ((x1).length : Int) then ((store_Store_Commit_1.f k (gt x1 y1)).bind fun t1 => (if t1 = true then (some y1) else (rec1 (wr .i64 (y1 + 1))))) else none) else api_Account_n45_1f34.j1
def api_Account_n45_1f34.l1 (k : Nat) (x1 : List L34) : Nat → Int → Option Int
  | 0, _ => none
  | q + 1, y1 => api_Account_n45_1f34.b1 k x1 (api_Account_n45_1f34.l1 k x1 q) y1
def api_Account_n45_1f34.f (k : Nat) (x1 : List L34) : Option Int := api_Account_n45_1f34.l1 k x1 k 0
theorem api_Account_n45_1f34.ok (k : Nat) : api_Account_n45_1f34.Ctr (api_Account_n45_1f34.f k) := by
 intro x1 ch_0_0 ch_0_1 r h0 mi w0 ok hm
 delta api_Account_n45_1f34.f at h0
 refine c_enterZ (n := 19) ok hm func45 rfl rfl rfl fun b0 hb a S => c_region (s_assign S rfl rfl fun a S => c_end (wp_seq_k fun K1 hK1 => ?_))
 have j1 : ∀ m a w, St 19 m b0 [] [] a w → api_Account_n45_1f34.j1 = some r → K1 a w := by
  intro m a w S h0
  delta api_Account_n45_1f34.j1 at h0
  refine hK1 a w (c_region (s_assign S rfl rfl fun a S => c_end (wp_ret ?_)))
  obtain rfl := Option.some.inj h0
  exact b_ret1 (d := (.i (-1))) S rfl rfl (S.rt hb)
 refine c_region (s_move S rfl rfl fun a S => s_lenS S rfl underlying22 rfl fun a S => s_move S rfl rfl fun a S => c_end (wp_block ?_))
 refine c_loop (fun q1 a w => ∃ m y1, St 19 m b0 [(8, (.i y1)), (7, (.i ((x1).length : Int))), (0, (.q Y34 ch_0_0 ch_0_1 x1)), (1, (.v (.func (.func 34) #[] #[])))] [] a w ∧ api_Account_n45_1f34.l1 k x1 q1 y1 = some r) ?_ ?_ (k := k) ⟨_, 0, (S.sb rfl .nil), h0⟩
 ·rintro a w ⟨m, y1, S, h0⟩
  exact (nomatch (show (none : Option Int) = some r from h0))
 ·clear S h0
  rintro q1 a w ⟨m, y1, S, h0⟩
  replace h0 : api_Account_n45_1f34.b1 k x1 (api_Account_n45_1f34.l1 k x1 q1) y1 = some r := h0
  delta api_Account_n45_1f34.b1 at h0
  refine c_region (s_bin S rfl rfl rfl rfl fun a S => c_end (wp_seq ?_))
  rcases ite_of h0 with ⟨c1, h1⟩ | ⟨c1, h1⟩
  ·refine c_condT S rfl c1 (wp_skip (x_thenN (wp_seq (wp_block (c_region (s_move S rfl rfl fun a S => s_assign S rfl rfl fun a S => c_end (c_region (s_move S rfl rfl fun a S => s_move S rfl rfl fun a S => s_move S rfl rfl fun a S => ?_))))))))
   obtain ⟨c2, h2⟩ := chk_of h1; clear h1
   refine s_iaddrS S rfl rfl rfl underlying22 T34 c2.1 c2.2 rfl fun p1 a S => s_ldA S (fun (c : Unit × Unit × Unit × (Option Addr × Nat) × (Option Addr × Nat)) => [.b20 ((gt x1 y1).1), .w ((gt x1 y1).2.1), .w4 ((gt x1 y1).2.2.1), .q yb c.2.2.2.1.1 c.2.2.2.1.2 ((gt x1 y1).2.2.2.1), .q Y71 c.2.2.2.2.1 c.2.2.2.2.2 ((gt x1 y1).2.2.2.2)]) rfl T34 (fun _ => rfl) rfl fun ch1 a S => ?_
   refine bindX h2 fun t1 et1 h3 => s_callP S _ N34 rfl rfl (store_Store_Commit_1.ok k (gt x1 y1) ch1.2.2.2.1.1 ch1.2.2.2.1.2 ch1.2.2.2.2.1 ch1.2.2.2.2.2 t1 et1 _ _) fun ch2 m le1 a w S => c_end ?_
   rcases ite_of h3 with ⟨c3, h4⟩ | ⟨c3, h4⟩
   ·refine c_condT S rfl c3 (c_region (s_move S rfl rfl fun a S => s_assign S rfl rfl fun a S => c_end (wp_ret (x_blockR (x_thenR (x_thenR (x_blockR (x_thenR ?_))))))))
    obtain rfl := Option.some.inj h4
    exact b_ret1 (d := (.i y1)) S rfl rfl (S.rt hb)
   ·refine c_condF S rfl c3 (wp_skip (x_blockN (x_thenN (c_region' (s_bin S rfl rfl rfl rfl fun a S => s_move S rfl rfl fun a S => c_end' (x_thenN ?_))))))
    exact ⟨_, (wr .i64 (y1 + 1)), (S.sb rfl .nil), h4⟩
  ·refine c_condF S rfl c1 (wp_exit (x_thenX (x_thenX (x_blockX (x_thenN ?_)))))
   exact j1 _ a w (S.sub trivial .nil) h1
abbrev api_Account_n33_1f34.Ty : Type := (List L34) → Option Bool
def api_Account_n33_1f34.Ctr (s : api_Account_n33_1f34.Ty) : Prop := ∀ (x1 : List L34) (ch_0_0 : Option Addr) (ch_0_1 : Nat) (r : Bool), Ct (C := Unit) Try.prog 33 (s x1 = some r) [] [(.q Y34 ch_0_0 ch_0_1 x1), (.v (.func (.func 34) #[] #[]))] (fun _ => (.b r)) fun _ => []
def api_Account_n33_1f34.f (k : Nat) (x1 : List L34) : Option Bool := (api_Account_n45_1f34.f k x1).bind fun t1 => (some (decide (0 ≤ t1)))
theorem api_Account_n33_1f34.ok (k : Nat) : api_Account_n33_1f34.Ctr (api_Account_n33_1f34.f k) := by
 intro x1 ch_0_0 ch_0_1 r h0 mi w0 ok hm
 delta api_Account_n33_1f34.f at h0
 refine c_enterZ (n := 9) ok hm func33 rfl rfl rfl fun b0 hb a S => c_region (s_assign S rfl rfl fun a S => c_end (c_region (s_move S rfl rfl fun a S => s_move S rfl rfl fun a S => bindX h0 fun t1 et1 h1 => s_callP S _ N45 rfl rfl (api_Account_n45_1f34.ok k x1 ch_0_0 ch_0_1 t1 et1 _ _) fun ch1 m le1 a w S => s_bin S rfl rfl rfl rfl fun a S => s_assign S rfl rfl fun a S => c_end (wp_ret ?_))))
 obtain rfl := Option.some.inj h1
 exact b_ret1 (d := (.b (decide (0 ≤ t1)))) S rfl rfl (S.rt hb)
abbrev store_own.Ty : Type := (L34) → Option ((L34))
def store_own.Ctr (s : store_own.Ty) : Prop := ∀ (x1 : L34) (ch_0_0 : Option Addr) (ch_0_1 : Nat) (ch_0_2 : Option Addr) (ch_0_3 : Nat) (r : (L34)), Ct (C := ((Option Addr) × Nat × Nat × (Option Addr) × Nat × Nat)) Try.prog 35 (s x1 = some r) [] [(.agg [.b20 x1.1, .w x1.2.1, .w4 x1.2.2.1, .q yb ch_0_0 ch_0_1 x1.2.2.2.1, .q Y71 ch_0_2 ch_0_3 x1.2.2.2.2])] (fun ch => (.agg [.b20 r.1, .w r.2.1, .w4 r.2.2.1, .s ch.1 ch.2.1 ch.2.2.1, .s ch.2.2.2.1 ch.2.2.2.2.1 ch.2.2.2.2.2])) fun ch => [Res.row yb 5 ch.1 ch.2.1 ch.2.2.1 r.2.2.2.1, Res.row Y71 71 ch.2.2.2.1 ch.2.2.2.2.1 ch.2.2.2.2.2 r.2.2.2.2]
def store_own.f (x1 : L34) : Option ((L34)) := (slices_Clone_byte_byte.f x1.2.2.2.1).bind fun t1 => ((api_Slot.f x1.2.2.2.2).bind fun t2 => (some (x1.1, x1.2.1, x1.2.2.1, t1, t2)))
theorem store_own.ok : store_own.Ctr (store_own.f) := by
 intro x1 ch_0_0 ch_0_1 ch_0_2 ch_0_3 r h0 mi w0 ok hm
 delta store_own.f at h0
 refine c_enterZ (n := 12) ok hm func35 rfl rfl rfl fun b0 hb a S => c_region (s_box S rfl rfl rfl fun g1 a w S => s_alloc S Z34 rfl ⟨rfl, rfl, rfl, rfl, rfl, trivial⟩ rfl fun g2 a w S => c_end (c_region (s_fieldAddr S rfl I34_3 T24 (by decide) rfl rfl fun a S => s_loadSl S rfl .h1 T24 (A := ch_0_0) (len := (x1.2.2.2.1).length) (cap := ch_0_1) rfl rfl fun a S => bindX h0 fun t1 et1 h1 => s_callR S (fun (ch : (Option Addr) × Nat × Nat) => ((.s ch.1 ch.2.1 ch.2.2) : D)) (fun (ch : (Option Addr) × Nat × Nat) => Res.row yb 5 ch.1 ch.2.1 ch.2.2 t1) N43 rfl rfl (slices_Clone_byte_byte.ok x1.2.2.2.1 ch_0_0 ch_0_1 t1 et1 _ _) fun ch1 m le1 a w S => s_fieldAddr S rfl I34_3 T24 (by decide) rfl rfl fun a S => s_store S rfl rfl rfl (s' := [.b20 x1.1, .w x1.2.1, .w4 x1.2.2.1, .s ch1.1 ch1.2.1 ch1.2.2, .q Y71 ch_0_2 ch_0_3 x1.2.2.2.2]) .h2 T24 rfl rfl fun w S => c_end (c_region (s_fieldAddr S rfl I34_4 T32 (by decide) rfl rfl fun a S => s_loadSl S rfl .h2 T32 (A := ch_0_2) (len := (x1.2.2.2.2).length) (cap := ch_0_3) rfl rfl fun a S => bindX h1 fun t2 et2 h2 => s_callR S (fun (ch : (Option Addr) × Nat × Nat) => ((.s ch.1 ch.2.1 ch.2.2) : D)) (fun (ch : (Option Addr) × Nat × Nat) => Res.row Y71 71 ch.1 ch.2.1 ch.2.2 t2) N44 rfl rfl (api_Slot.ok x1.2.2.2.2 ch_0_2 ch_0_3 t2 et2 _ _) fun ch2 m le1 a w S => s_fieldAddr S rfl I34_4 T32 (by decide) rfl rfl fun a S => s_store S rfl rfl rfl (s' := [.b20 x1.1, .w x1.2.1, .w4 x1.2.2.1, .s ch1.1 ch1.2.1 ch1.2.2, .s ch2.1 ch2.2.1 ch2.2.2]) .h3 T32 rfl rfl fun w S => c_end (c_region (s_loada S rfl .h3 T34 (s' := [.b20 x1.1, .w x1.2.1, .w4 x1.2.2.1, .s ch1.1 ch1.2.1 ch1.2.2, .s ch2.1 ch2.2.1 ch2.2.2]) rfl rfl fun a S => s_store S rfl rfl rfl (s' := [.b20 x1.1, .w x1.2.1, .w4 x1.2.2.1, .s ch1.1 ch1.2.1 ch1.2.2, .s ch2.1 ch2.2.1 ch2.2.2]) .h2 T34 rfl rfl fun w S => c_end (wp_ret ?_))))))))
 obtain rfl := Option.some.inj h2
 exact b_ret1 (d := (.agg [.b20 x1.1, .w x1.2.1, .w4 x1.2.2.1, .s ch1.1 ch1.2.1 ch1.2.2, .s ch2.1 ch2.2.1 ch2.2.2])) S rfl (resD_cell rfl .h2 T34 rfl rfl) fun ok => S.retX (Hx := []) hb _ _ ((ch1.1, ch1.2.1, ch1.2.2, ch2.1, ch2.2.1, ch2.2.2) : (Option Addr) × Nat × Nat × (Option Addr) × Nat × Nat) (.c1 (.c0 .n)) ok
end
end GW
