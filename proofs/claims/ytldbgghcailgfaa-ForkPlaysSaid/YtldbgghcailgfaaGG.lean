import Derived.Test.YtldbgghcailgfaaProg
import Derived.Test.YtldbgghcailgfaaGF
set_option linter.unusedVariables false
set_option linter.unusedSimpArgs false
set_option maxRecDepth 10000
set_option maxHeartbeats 4000000
namespace GW
open Go Go.RowKit Go.Proofs Go.Proofs.Try
noncomputable section
abbrev api_Address_n47_0o_4f39.Ty : Type := (List (List Int)) → Int → Int → Int → Option ((List (List Int)))
def api_Address_n47_0o_4f39.Ctr (s : api_Address_n47_0o_4f39.Ty) : Prop := ∀ (x1 : List (List Int)) (x2 : Int) (x3 : Int) (x4 : Int) (ch_0_0 : Option Addr) (ch_0_1 : Nat) (ch_0_2 : Nat) (r : (List (List Int))), Ct (C := Unit) Try.prog 47 (s x1 x2 x3 x4 = some r) [Res.row (Ty.arr .u8 20) 28 ch_0_0 ch_0_1 ch_0_2 x1] [(.s ch_0_0 ch_0_1 ch_0_2), (.i x2), (.i x3), (.i x4), (.v (.func (.func 39) #[] #[]))] (fun _ => (.tup [])) fun _ => [Res.row (Ty.arr .u8 20) 28 ch_0_0 ch_0_1 ch_0_2 r]
def api_Address_n47_0o_4f39.j4 (k : Nat) (self0 : api_Address_n47_0o_4f39.Ty) (y2 : Bool) (y3 : Bool) (y4 : Int) (y5 : Int) (rec1 : (List (List Int)) → Bool → Bool → Int → Int → Int → Option ((List (List Int)))) (y8 : Int) (y11 : Int) (y13 : List (List Int)) (y14 : Bool) : Option ((List (List Int))) := if y14 = true then ((api_Address_n56_0o_4f39.f k y13 y4 y5 y11).bind fun t8 => (rec1 t8.2 y2 y3 t8.1 y5 y8)) else ((api_Address_n57_0o_4f39.f k y13 y4 y5 y11).bind fun t9 => (if (decide ((wr .i64 (t9.1 - y4)) < (wr .i64 (y5 - t9.1)))) = true then ((self0 t9.2.2 y4 t9.1 y8).bind fun t10 => (rec1 t10 t9.2.1 (decide ((wr .i64 (Int.tdiv (wr .i64 (y5 - y4)) 8)) ≤ (wr .i64 (t9.1 - y4)))) (wr .i64 (t9.1 + 1)) y5 y8)) else ((self0 t9.2.2 (wr .i64 (t9.1 + 1)) y5 y8).bind fun t11 => (rec1 t11 t9.2.1 (decide ((wr .i64 (Int.tdiv (wr .i64 (y5 - y4)) 8)) ≤ (wr .i64 (y5 - t9.1)))) y4 t9.1 y8))))
def api_Address_n47_0o_4f39.j3 (k : Nat) (self0 : api_Address_n47_0o_4f39.Ty) (y2 : Bool) (y3 : Bool) (y4 : Int) (y5 : Int) (rec1 : (List (List Int)) → Bool → Bool → Int → Int → Int → Option ((List (List Int)))) (y8 : Int) (y11 : Int) (y13 : List (List Int)) : Option ((List (List Int))) := if (decide (0 < y4)) = true then (if (0 : Int) ≤ (wr .i64 (y4 - 1)) ∧ (wr .i64 (y4 - 1)) < ((y13).length : Int) then (if (0 : Int) ≤ y11 ∧ y11 < ((y13).length : Int) then ((addr_Compare.f (gt y13 (wr .i64 (y4 - 1))) (gt y13 y11)).bind fun t12 => (api_Address_n47_0o_4f39.j4 k self0 y2 y3 y4 y5 rec1 y8 y11 y13 (!(decide (t12 < 0))))) else none) else none) else (api_Address_n47_0o_4f39.j4 k self0 y2 y3 y4 y5 rec1 y8 y11 y13 false)
def api_Address_n47_0o_4f39.j5 (k : Nat) (self0 : api_Address_n47_0o_4f39.Ty) (y2 : Bool) (y3 : Bool) (y4 : Int) (y5 : Int) (rec1 : (List (List Int)) → Bool → Bool → Int → Int → Int → Option ((List (List Int)))) (y8 : Int) (y9 : List (List Int)) (y11 : Int) (y15 : Bool) : Option ((List (List Int))) := if y15 = true then ((api_Address_n55_0o_3f39.f k y9 y4 y5).bind fun t13 => (if t13.1 = true then (some t13.2) else (api_Address_n47_0o_4f39.j3 k self0 y2 y3 y4 y5 rec1 y8 y11 t13.2))) else (api_Address_n47_0o_4f39.j3 k self0 y2 y3 y4 y5 rec1 y8 y11 y9)
def api_Address_n47_0o_4f39.j2 (k : Nat) (self0 : api_Address_n47_0o_4f39.Ty) (y2 : Bool) (y3 : Bool) (y4 : Int) (y5 : Int) (rec1 : (List (List Int)) → Bool → Bool → Int → Int → Int → Option ((List (List Int)))) (y8 : Int) (y9 : List (List Int)) (y10 : Int) (y11 : Int) : Option ((List (List Int))) := if y3 = true then (if y2 = true then (api_Address_n47_0o_4f39.j5 k self0 y2 y3 y4 y5 rec1 y8 y9 y11 (y10 == 1)) else (api_Address_n47_0o_4f39.j5 k self0 y2 y3 y4 y5 rec1 y8 y9 y11 false)) else (api_Address_n47_0o_4f39.j5 k self0 y2 y3 y4 y5 rec1 y8 y9 y11 false)
def api_Address_n47_0o_4f39.j1 (k : Nat) (self0 : api_Address_n47_0o_4f39.Ty) (y2 : Bool) (y3 : Bool) (y4 : Int) (y5 : Int) (rec1 : (List (List Int)) → Bool → Bool → Int → Int → Int → Option ((List (List Int)))) (y7 : List (List Int)) (y8 : Int) : Option ((List (List Int))) := (api_Address_n53_0o_3f39.f y7 y4 y5).bind fun t4 => (if (t4.2 == 2) = true then ((api_Address_n54_0o_3f39.f k y7 y4 y5).bind fun t14 => (api_Address_n47_0o_4f39.j2 k self0 y2 y3 y4 y5 rec1 y8 t14 1 (wr .i64 ((wr .i64 (y5 - 1)) - (wr .i64 (t4.1 - y4)))))) else (api_Address_n47_0o_4f39.j2 k self0 y2 y3 y4 y5 rec1 y8 y7 t4.2 t4.1))
def api_Address_n47_0o_4f39.b1 (k : Nat) (self0 : api_Address_n47_0o_4f39.Ty) (rec1 : (List (List Int)) → Bool → Bool → Int → Int → Int → Option ((List (List Int)))) (y1 : List (List Int)) (y2 : Bool) (y3 : Bool) (y4 : Int) (y5 : Int) (y6 : Int) : Option ((List (List Int))) := if (decide ((wr .i64 (y5 - y4)) ≤ 12)) = true then ((api_Address_n50_0o_3f39.f k y1 y4 y5).bind fun t1 => (some t1)) else (if (y6 == 0) = true then ((api_Address_n51_0o_3f39.f k y1 y4 y5).bind fun t2 => (some t2)) else (if (!y3) = true then ((api_Address_n52_0o_3f39.f k y1 y4 y5).bind fun t15 => (api_Address_n47_0o_4f39.j1 k self0 y2 y3 y4 y5 rec1 t15 (wr .i64 (y6 - 1)))) else (api_Address_n47_0o_4f39.j1 k self0 y2 y3 y4 y5 rec1 y1 y6)))
def api_Address_n47_0o_4f39.l1 (k : Nat) (self0 : api_Address_n47_0o_4f39.Ty) : Nat → (List (List Int)) → Bool → Bool → Int → Int → Int → Option ((List (List Int)))
  | 0, _, _, _, _, _, _ => none
  | q + 1, y1, y2, y3, y4, y5, y6 => api_Address_n47_0o_4f39.b1 k self0 (api_Address_n47_0o_4f39.l1 k self0 q) y1 y2 y3 y4 y5 y6
def api_Address_n47_0o_4f39.body (self0 : api_Address_n47_0o_4f39.Ty) (k : Nat) (x1 : List (List Int)) (x2 : Int) (x3 : Int) (x4 : Int) : Option ((List (List Int))) := api_Address_n47_0o_4f39.l1 k self0 k x1 true true x2 x3 x4
theorem api_Address_n47_0o_4f39.okb (self0 : api_Address_n47_0o_4f39.Ty) (c_0 : api_Address_n47_0o_4f39.Ctr self0) (k : Nat) : api_Address_n47_0o_4f39.Ctr (api_Address_n47_0o_4f39.body self0 k) := by
 intro x1 x2 x3 x4 ch_0_0 ch_0_1 ch_0_2 r h0 mi w0 ok hm
 delta api_Address_n47_0o_4f39.body at h0
 refine c_enterZ (n := 148) ok hm func47 rfl rfl rfl fun b0 hb a S => c_region (s_assign S rfl rfl fun a S => c_end (c_region (s_assign S rfl rfl fun a S => c_end (wp_block ?_))))
 refine c_loop (fun q1 a w => ∃ m y1 y2 y3 y4 y5 y6, St 148 m b0 [(11, (.b y2)), (10, (.b y3)), (0, (.s ch_0_0 ch_0_1 ch_0_2)), (1, (.i y4)), (2, (.i y5)), (3, (.i y6)), (4, (.v (.func (.func 39) #[] #[])))] [Res.row (Ty.arr .u8 20) 28 ch_0_0 ch_0_1 ch_0_2 y1] a w ∧ api_Address_n47_0o_4f39.l1 k self0 q1 y1 y2 y3 y4 y5 y6 = some r) ?_ ?_ (k := k) ⟨_, x1, true, true, x2, x3, x4, (S.sb rfl (.c0 .n)), h0⟩
 ·rintro a w ⟨m, y1, y2, y3, y4, y5, y6, S, h0⟩
  exact (nomatch (show (none : Option ((List (List Int)))) = some r from h0))
 ·clear S h0
  rintro q1 a w ⟨m, y1, y2, y3, y4, y5, y6, S, h0⟩
  replace h0 : api_Address_n47_0o_4f39.b1 k self0 (api_Address_n47_0o_4f39.l1 k self0 q1) y1 y2 y3 y4 y5 y6 = some r := h0
  delta api_Address_n47_0o_4f39.b1 at h0
  refine wp_block (c_region (s_move S rfl rfl fun a S => s_move S rfl rfl fun a S => s_bin S rfl rfl rfl rfl fun a S => s_assign S rfl rfl fun a S => c_end (wp_seq (c_region (s_move S rfl rfl fun a S => s_bin S rfl rfl rfl rfl fun a S => c_end ?_)))))
  rcases ite_of h0 with ⟨c1, h1⟩ | ⟨c1, h1⟩
  ·refine c_condT S rfl c1 (c_region (s_move S rfl rfl fun a S => s_move S rfl rfl fun a S => s_move S rfl rfl fun a S => s_move S rfl rfl fun a S => bindX h1 fun t1 et1 h2 => s_callX S (ds' := [(.s ch_0_0 ch_0_1 ch_0_2), (.i y4), (.i y5), (.v (.func (.func 39) #[] #[]))]) (ds := [(.s ch_0_0 ch_0_1 ch_0_2), (.i y4), (.i y5), (.v (.func (.func 39) #[] #[]))]) [Res.row (Ty.arr .u8 20) 28 ch_0_0 ch_0_1 ch_0_2 y1] [] (fun (ch : Unit) => ((.tup []) : D)) (fun (ch : Unit) => [Res.row (Ty.arr .u8 20) 28 ch_0_0 ch_0_1 ch_0_2 t1]) (fun (ch : Unit) => [Res.row (Ty.arr .u8 20) 28 ch_0_0 ch_0_1 ch_0_2 t1]) (fun _ => rfl) N50 rfl rfl (fun ok => ok) (.c0 .n) rfl (api_Address_n50_0o_3f39.ok k y1 y4 y5 ch_0_0 ch_0_1 ch_0_2 t1 et1 _ _) fun ch1 m le1 a w S => c_end (wp_ret (x_thenR (x_blockR (x_thenR (x_blockR ?_)))))))
   obtain rfl := Option.some.inj h2
   exact b_ret0 S rfl (S.retX (Hx := []) hb _ _ (() : Unit) (.c0 .n) trivial)
  ·refine c_condF S rfl c1 (wp_skip (x_thenN (wp_seq (c_region (s_move S rfl rfl fun a S => s_bin S rfl rfl rfl rfl fun a S => c_end ?_)))))
   rcases ite_of h1 with ⟨c2, h2⟩ | ⟨c2, h2⟩
   ·refine c_condT S rfl c2 (c_region (s_move S rfl rfl fun a S => s_move S rfl rfl fun a S => s_move S rfl rfl fun a S => s_move S rfl rfl fun a S => bindX h2 fun t2 et2 h3 => s_callX S (ds' := [(.s ch_0_0 ch_0_1 ch_0_2), (.i y4), (.i y5), (.v (.func (.func 39) #[] #[]))]) (ds := [(.s ch_0_0 ch_0_1 ch_0_2), (.i y4), (.i y5), (.v (.func (.func 39) #[] #[]))]) [Res.row (Ty.arr .u8 20) 28 ch_0_0 ch_0_1 ch_0_2 y1] [] (fun (ch : Unit) => ((.tup []) : D)) (fun (ch : Unit) => [Res.row (Ty.arr .u8 20) 28 ch_0_0 ch_0_1 ch_0_2 t2]) (fun (ch : Unit) => [Res.row (Ty.arr .u8 20) 28 ch_0_0 ch_0_1 ch_0_2 t2]) (fun _ => rfl) N51 rfl rfl (fun ok => ok) (.c0 .n) rfl (api_Address_n51_0o_3f39.ok k y1 y4 y5 ch_0_0 ch_0_1 ch_0_2 t2 et2 _ _) fun ch2 m le1 a w S => c_end (wp_ret (x_thenR (x_blockR (x_thenR (x_blockR ?_)))))))
    obtain rfl := Option.some.inj h3
    exact b_ret0 S rfl (S.retX (Hx := []) hb _ _ (() : Unit) (.c0 .n) trivial)
   ·refine c_condF S rfl c2 (wp_skip (x_thenN (wp_seq_k fun K1 hK1 => ?_)))
    have j1 : ∀ m y7 y8 a w, St 148 m b0 [(3, (.i y8)), (12, (.i (wr .i64 (y5 - y4)))), (11, (.b y2)), (10, (.b y3)), (0, (.s ch_0_0 ch_0_1 ch_0_2)), (1, (.i y4)), (2, (.i y5)), (4, (.v (.func (.func 39) #[] #[])))] [Res.row (Ty.arr .u8 20) 28 ch_0_0 ch_0_1 ch_0_2 y7] a w → api_Address_n47_0o_4f39.j1 k self0 y2 y3 y4 y5 (api_Address_n47_0o_4f39.l1 k self0 q1) y7 y8 = some r → K1 a w := by
     intro m y7 y8 a w S h0
     delta api_Address_n47_0o_4f39.j1 at h0
     refine hK1 a w (c_region (s_move S rfl rfl fun a S => s_move S rfl rfl fun a S => s_move S rfl rfl fun a S => s_move S rfl rfl fun a S => bindX h0 fun t4 et4 h1 => s_callX S (ds' := [(.s ch_0_0 ch_0_1 ch_0_2), (.i y4), (.i y5), (.v (.func (.func 39) #[] #[]))]) (ds := [(.s ch_0_0 ch_0_1 ch_0_2), (.i y4), (.i y5), (.v (.func (.func 39) #[] #[]))]) [Res.row (Ty.arr .u8 20) 28 ch_0_0 ch_0_1 ch_0_2 y7] [] (fun (ch : Unit) => ((.tup [(false, [.i t4.1]), (false, [.i t4.2])]) : D)) (fun (ch : Unit) => [Res.row (Ty.arr .u8 20) 28 ch_0_0 ch_0_1 ch_0_2 y7]) (fun (ch : Unit) => [Res.row (Ty.arr .u8 20) 28 ch_0_0 ch_0_1 ch_0_2 y7]) (fun _ => rfl) N53 rfl rfl (fun ok => ok) (.c0 .n) rfl (api_Address_n53_0o_3f39.ok y7 y4 y5 ch_0_0 ch_0_1 ch_0_2 t4 et4 _ _) fun ch3 m le1 a w S => s_move S rfl rfl fun a S => s_extract S rfl rfl rfl rfl fun a S => s_extract S rfl rfl rfl rfl fun a S => s_assign S rfl rfl fun a S => s_assign S rfl rfl fun a S => c_end (wp_seq_k fun K2 hK2 => ?_)))
     have j2 : ∀ m y9 y10 y11 a w, St 148 m b0 [(14, (.i y10)), (13, (.i y11)), (3, (.i y8)), (12, (.i (wr .i64 (y5 - y4)))), (11, (.b y2)), (10, (.b y3)), (0, (.s ch_0_0 ch_0_1 ch_0_2)), (1, (.i y4)), (2, (.i y5)), (4, (.v (.func (.func 39) #[] #[])))] [Res.row (Ty.arr .u8 20) 28 ch_0_0 ch_0_1 ch_0_2 y9] a w → api_Address_n47_0o_4f39.j2 k self0 y2 y3 y4 y5 (api_Address_n47_0o_4f39.l1 k self0 q1) y8 y9 y10 y11 = some r → K2 a w := by
      intro m y9 y10 y11 a w S h0
      delta api_Address_n47_0o_4f39.j2 at h0
      refine hK2 a w (wp_seq_k fun K3 hK3 => ?_)
      have j3 : ∀ m y13 a w, St 148 m b0 [(13, (.i y11)), (3, (.i y8)), (12, (.i (wr .i64 (y5 - y4)))), (11, (.b y2)), (10, (.b y3)), (0, (.s ch_0_0 ch_0_1 ch_0_2)), (1, (.i y4)), (2, (.i y5)), (4, (.v (.func (.func 39) #[] #[])))] [Res.row (Ty.arr .u8 20) 28 ch_0_0 ch_0_1 ch_0_2 y13] a w → api_Address_n47_0o_4f39.j3 k self0 y2 y3 y4 y5 (api_Address_n47_0o_4f39.l1 k self0 q1) y8 y11 y13 = some r → K3 a w := by
       intro m y13 a w S h0
       delta api_Address_n47_0o_4f39.j3 at h0
       refine hK3 a w (wp_seq (wp_seq_k fun K4 hK4 => ?_))
       have j4 : ∀ m y14 a w, St 148 m b0 [(97, (.b y14)), (13, (.i y11)), (3, (.i y8)), (12, (.i (wr .i64 (y5 - y4)))), (11, (.b y2)), (10, (.b y3)), (0, (.s ch_0_0 ch_0_1 ch_0_2)), (1, (.i y4)), (2, (.i y5)), (4, (.v (.func (.func 39) #[] #[])))] [Res.row (Ty.arr .u8 20) 28 ch_0_0 ch_0_1 ch_0_2 y13] a w → api_Address_n47_0o_4f39.j4 k self0 y2 y3 y4 y5 (api_Address_n47_0o_4f39.l1 k self0 q1) y8 y11 y13 y14 = some r → K4 a w := by
        intro m y14 a w S h0
        delta api_Address_n47_0o_4f39.j4 at h0
        refine hK4 a w ?_
        rcases ite_of h0 with ⟨c3, h1⟩ | ⟨c3, h1⟩
        ·refine c_condT S rfl c3 (c_region (s_move S rfl rfl fun a S => s_move S rfl rfl fun a S => s_move S rfl rfl fun a S => s_move S rfl rfl fun a S => s_move S rfl rfl fun a S => bindX h1 fun t8 et8 h2 => s_callX S (ds' := [(.s ch_0_0 ch_0_1 ch_0_2), (.i y4), (.i y5), (.i y11), (.v (.func (.func 39) #[] #[]))]) (ds := [(.s ch_0_0 ch_0_1 ch_0_2), (.i y4), (.i y5), (.i y11), (.v (.func (.func 39) #[] #[]))]) [Res.row (Ty.arr .u8 20) 28 ch_0_0 ch_0_1 ch_0_2 y13] [] (fun (ch : Unit) => ((.i t8.1) : D)) (fun (ch : Unit) => [Res.row (Ty.arr .u8 20) 28 ch_0_0 ch_0_1 ch_0_2 t8.2]) (fun (ch : Unit) => [Res.row (Ty.arr .u8 20) 28 ch_0_0 ch_0_1 ch_0_2 t8.2]) (fun _ => rfl) N56 rfl rfl (fun ok => ok) (.c0 .n) rfl (api_Address_n56_0o_4f39.ok k y13 y4 y5 y11 ch_0_0 ch_0_1 ch_0_2 t8 et8 _ _) fun ch4 m le1 a w S => s_assign S rfl rfl fun a S => c_end (c_region (s_move S rfl rfl fun a S => s_assign S rfl rfl fun a S => c_end (wp_exit (x_thenX (x_blockX (x_thenN ?_))))))))
         exact ⟨_, t8.2, y2, y3, t8.1, y5, y8, (S.sb rfl (.c0 .n)), h2⟩
        ·refine c_condF S rfl c3 (wp_skip (x_thenN (c_region (s_move S rfl rfl fun a S => s_move S rfl rfl fun a S => s_move S rfl rfl fun a S => s_move S rfl rfl fun a S => s_move S rfl rfl fun a S => bindX h1 fun t9 et9 h2 => s_callX S (ds' := [(.s ch_0_0 ch_0_1 ch_0_2), (.i y4), (.i y5), (.i y11), (.v (.func (.func 39) #[] #[]))]) (ds := [(.s ch_0_0 ch_0_1 ch_0_2), (.i y4), (.i y5), (.i y11), (.v (.func (.func 39) #[] #[]))]) [Res.row (Ty.arr .u8 20) 28 ch_0_0 ch_0_1 ch_0_2 y13] [] (fun (ch : Unit) => ((.tup [(false, [.i t9.1]), (false, [.b t9.2.1])]) : D)) (fun (ch : Unit) => [Res.row (Ty.arr .u8 20) 28 ch_0_0 ch_0_1 ch_0_2 t9.2.2]) (fun (ch : Unit) => [Res.row (Ty.arr .u8 20) 28 ch_0_0 ch_0_1 ch_0_2 t9.2.2]) (fun _ => rfl) N57 rfl rfl (fun ok => ok) (.c0 .n) rfl (api_Address_n57_0o_4f39.ok k y13 y4 y5 y11 ch_0_0 ch_0_1 ch_0_2 t9 et9 _ _) fun ch5 m le1 a w S => s_move S rfl rfl fun a S => s_extract S rfl rfl rfl rfl fun a S => s_extract S rfl rfl rfl rfl fun a S => s_assign S rfl rfl fun a S => s_assign S rfl rfl fun a S => c_end (c_region (s_move S rfl rfl fun a S => s_assign S rfl rfl fun a S => c_end (c_region (s_move S rfl rfl fun a S => s_move S rfl rfl fun a S => s_bin S rfl rfl rfl rfl fun a S => s_move S rfl rfl fun a S => s_move S rfl rfl fun a S => s_bin S rfl rfl rfl rfl fun a S => s_assign S rfl rfl fun a S => s_assign S rfl rfl fun a S => c_end (c_region (s_move S rfl rfl fun a S => s_quo S rfl rfl (by decide) rfl fun a S => s_assign S rfl rfl fun a S => c_end (c_region (s_move S rfl rfl fun a S => s_move S rfl rfl fun a S => s_bin S rfl rfl rfl rfl fun a S => c_end ?_))))))))))))
         rcases ite_of h2 with ⟨c4, h3⟩ | ⟨c4, h3⟩
         ·refine c_condT S rfl c4 (c_region (s_move S rfl rfl fun a S => s_move S rfl rfl fun a S => s_bin S rfl rfl rfl rfl fun a S => s_assign S rfl rfl fun a S => c_end (c_region (s_move S rfl rfl fun a S => s_move S rfl rfl fun a S => s_move S rfl rfl fun a S => s_move S rfl rfl fun a S => s_move S rfl rfl fun a S => bindX h3 fun t10 et10 h4 => s_callX S (ds' := [(.s ch_0_0 ch_0_1 ch_0_2), (.i y4), (.i t9.1), (.i y8), (.v (.func (.func 39) #[] #[]))]) (ds := [(.s ch_0_0 ch_0_1 ch_0_2), (.i y4), (.i t9.1), (.i y8), (.v (.func (.func 39) #[] #[]))]) [Res.row (Ty.arr .u8 20) 28 ch_0_0 ch_0_1 ch_0_2 t9.2.2] [] (fun (ch : Unit) => ((.tup []) : D)) (fun (ch : Unit) => [Res.row (Ty.arr .u8 20) 28 ch_0_0 ch_0_1 ch_0_2 t10]) (fun (ch : Unit) => [Res.row (Ty.arr .u8 20) 28 ch_0_0 ch_0_1 ch_0_2 t10]) (fun _ => rfl) N47 rfl rfl (fun ok => ok) (.c0 .n) rfl (c_0 t9.2.2 y4 t9.1 y8 ch_0_0 ch_0_1 ch_0_2 t10 et10 _ _) fun ch6 m le1 a w S => c_end (c_region' (s_move S rfl rfl fun a S => s_bin S rfl rfl rfl rfl fun a S => s_assign S rfl rfl fun a S => c_end' (x_blockN (x_thenN ?_))))))))
          exact ⟨_, t10, t9.2.1, (decide ((wr .i64 (Int.tdiv (wr .i64 (y5 - y4)) 8)) ≤ (wr .i64 (t9.1 - y4)))), (wr .i64 (t9.1 + 1)), y5, y8, (S.sb rfl (.c0 .n)), h4⟩
         ·refine c_condF S rfl c4 (c_region (s_move S rfl rfl fun a S => s_move S rfl rfl fun a S => s_bin S rfl rfl rfl rfl fun a S => s_assign S rfl rfl fun a S => c_end (c_region (s_move S rfl rfl fun a S => s_move S rfl rfl fun a S => s_bin S rfl rfl rfl rfl fun a S => s_move S rfl rfl fun a S => s_move S rfl rfl fun a S => s_move S rfl rfl fun a S => bindX h3 fun t11 et11 h4 => s_callX S (ds' := [(.s ch_0_0 ch_0_1 ch_0_2), (.i (wr .i64 (t9.1 + 1))), (.i y5), (.i y8), (.v (.func (.func 39) #[] #[]))]) (ds := [(.s ch_0_0 ch_0_1 ch_0_2), (.i (wr .i64 (t9.1 + 1))), (.i y5), (.i y8), (.v (.func (.func 39) #[] #[]))]) [Res.row (Ty.arr .u8 20) 28 ch_0_0 ch_0_1 ch_0_2 t9.2.2] [] (fun (ch : Unit) => ((.tup []) : D)) (fun (ch : Unit) => [Res.row (Ty.arr .u8 20) 28 ch_0_0 ch_0_1 ch_0_2 t11]) (fun (ch : Unit) => [Res.row (Ty.arr .u8 20) 28 ch_0_0 ch_0_1 ch_0_2 t11]) (fun _ => rfl) N47 rfl rfl (fun ok => ok) (.c0 .n) rfl (c_0 t9.2.2 (wr .i64 (t9.1 + 1)) y5 y8 ch_0_0 ch_0_1 ch_0_2 t11 et11 _ _) fun ch7 m le1 a w S => c_end (c_region' (s_move S rfl rfl fun a S => s_assign S rfl rfl fun a S => c_end' (x_blockN (x_thenN ?_))))))))
          exact ⟨_, t11, t9.2.1, (decide ((wr .i64 (Int.tdiv (wr .i64 (y5 - y4)) 8)) ≤ (wr .i64 (y5 - t9.1)))), y4, t9.1, y8, (S.sb rfl (.c0 .n)), h4⟩
       refine c_heldS S (.take 0 (.take 1 (.take 2 (.take 3 (.take 4 (.take 5 (.take 6 (.take 7 (.take 9 (.take 10 (.take 11 (.alts (.run 8 true (.alts (.run 12 true (.alts (.run 13 true (.take 14 (.take 15 (.take 16 .done))) .nil)) .nil)) (.run 12 true (.alts (.run 8 true (.alts (.run 13 true (.take 14 (.take 15 (.take 16 .done))) .nil)) .nil)) .nil)))))))))))))) 17 [Res.row (Ty.arr .u8 20) 28 ch_0_0 ch_0_1 ch_0_2 y13] (.c0 .n) ⟨Res.stay_row flat_arr, trivial⟩ [(13, (.i y11)), (0, (.s ch_0_0 ch_0_1 ch_0_2)), (1, (.i y4)), (4, (.v (.func (.func 39) #[] #[])))] (subR rfl) (by kernel_rfl) (by kernel_rfl) fun w S CL hw le => ?_
       refine h_move S CL hw le (subR rfl) rfl rfl rfl trivial fun a S CL => h_bin S CL hw le (subR rfl) rfl rfl rfl rfl rfl trivial fun a S CL => h_move S CL hw le (subR rfl) rfl rfl rfl trivial fun a S CL => ?_
       rcases ite_of h0 with ⟨c5, h1⟩ | ⟨c5, h1⟩
       ·refine h_move S CL hw le (subR rfl) rfl rfl rfl ⟨_, _, rfl, rfl, c5⟩ fun a S CL => h_move S CL hw le (subR rfl) rfl rfl rfl ⟨_, _, rfl, rfl, c5⟩ fun a S CL => h_move S CL hw le (subR rfl) rfl rfl rfl ⟨_, _, rfl, rfl, c5⟩ fun a S CL => h_bin S CL hw le (subR rfl) rfl rfl rfl rfl rfl ⟨_, _, rfl, rfl, c5⟩ fun a S CL => ?_
        obtain ⟨c6, h2⟩ := chk_of h1; clear h1
        refine h_iaddrO S CL hw le (subR rfl) (ty' := (Ty.arr .u8 20)) rfl .h rfl underlying23 T28 c6.1 c6.2 rfl rfl ⟨_, _, rfl, rfl, c5⟩ fun g1 a hA1 S CL => h_move S CL hw le (subR rfl) rfl rfl rfl ⟨_, _, rfl, rfl, c5⟩ fun a S CL => h_move S CL hw le (subR rfl) rfl rfl rfl ⟨_, _, rfl, rfl, c5⟩ fun a S CL => ?_
        obtain ⟨c7, h3⟩ := chk_of h2; clear h2
        refine h_iaddrO S CL hw le (subR rfl) (ty' := (Ty.arr .u8 20)) rfl .h rfl underlying23 T28 c7.1 c7.2 rfl rfl ⟨_, _, rfl, rfl, c5⟩ fun g2 a hA2 S CL => bindX h3 fun t12 et12 h4 => h_alts ?_
        refine h_runO S rfl ⟨_, _, rfl, rfl, c5⟩ ?_ ?_
        ·refine s_ldRA S (ty' := (Ty.arr .u8 20)) (i := (wr .i64 (y4 - 1))) (off := 0) (fun (c : Unit) => [.b20 (gt y13 (wr .i64 (y4 - 1)))]) rfl hA1 .h T28 c6.1 c6.2 rfl (fun _ => rfl) rfl fun ch8 a S => ?_
         refine CL.bk hw S (.c0 .n) le fun hw => h_run' S rfl ⟨_, _, rfl, rfl, c5⟩ (s_ldRA S (ty' := (Ty.arr .u8 20)) (i := y11) (off := 0) (fun (c : Unit) => [.b20 (gt y13 y11)]) rfl hA2 .h T28 c7.1 c7.2 rfl (fun _ => rfl) rfl fun ch9 a S => ?_)
         refine CL.bk hw S (.c0 .n) le fun hw => h_run' S rfl ⟨_, _, rfl, rfl, c5⟩ (s_callP S _ N39 rfl rfl (addr_Compare.ok (gt y13 (wr .i64 (y4 - 1))) (gt y13 y11) t12 et12 _ _) fun ch10 m le1 a w S => ?_)
         replace le := le.trans le1
         refine CL.bk hw S (.c0 .n) le fun hw => ?_
         replace CL := CL.add (t := 94) (d := (.i t12)) S rfl rfl
         refine h_bin S CL hw le (subR rfl) rfl rfl rfl rfl rfl ⟨_, _, rfl, rfl, c5⟩ fun a S CL => h_not S CL hw le (subR rfl) rfl rfl rfl ⟨_, _, rfl, rfl, c5⟩ fun a S CL => h_pick S CL hw le (subR rfl) (b := true) (hc_of rfl c5) rfl rfl rfl trivial fun a S CL => ?_
         refine h_done ?_; clear CL hw le
         refine x_thenN ?_
         exact j4 _ (!(decide (t12 < 0))) a w (S.sb rfl (.c0 .n)) h4
        refine h_runO S rfl ⟨_, _, rfl, rfl, c5⟩ ?_ ?_
        ·refine s_ldRA S (ty' := (Ty.arr .u8 20)) (i := y11) (off := 0) (fun (c : Unit) => [.b20 (gt y13 y11)]) rfl hA2 .h T28 c7.1 c7.2 rfl (fun _ => rfl) rfl fun ch8 a S => ?_
         refine CL.bk hw S (.c0 .n) le fun hw => h_run' S rfl ⟨_, _, rfl, rfl, c5⟩ (s_ldRA S (ty' := (Ty.arr .u8 20)) (i := (wr .i64 (y4 - 1))) (off := 0) (fun (c : Unit) => [.b20 (gt y13 (wr .i64 (y4 - 1)))]) rfl hA1 .h T28 c6.1 c6.2 rfl (fun _ => rfl) rfl fun ch9 a S => ?_)
         refine CL.bk hw S (.c0 .n) le fun hw => h_run' S rfl ⟨_, _, rfl, rfl, c5⟩ (s_callP S _ N39 rfl rfl (addr_Compare.ok (gt y13 (wr .i64 (y4 - 1))) (gt y13 y11) t12 et12 _ _) fun ch10 m le1 a w S => ?_)
         replace le := le.trans le1
         refine CL.bk hw S (.c0 .n) le fun hw => ?_
         replace CL := CL.add (t := 94) (d := (.i t12)) S rfl rfl
         refine h_bin S CL hw le (subR rfl) rfl rfl rfl rfl rfl ⟨_, _, rfl, rfl, c5⟩ fun a S CL => h_not S CL hw le (subR rfl) rfl rfl rfl ⟨_, _, rfl, rfl, c5⟩ fun a S CL => h_pick S CL hw le (subR rfl) (b := true) (hc_of rfl c5) rfl rfl rfl trivial fun a S CL => ?_
         refine h_done ?_; clear CL hw le
         refine x_thenN ?_
         exact j4 _ (!(decide (t12 < 0))) a w (S.sb rfl (.c0 .n)) h4
        exact h_nil
       ·refine h_skip S CL rfl rfl rfl (ne_bool c5) rfl fun a S CL => h_skip S CL rfl rfl rfl (ne_bool c5) rfl fun a S CL => h_skip S CL rfl rfl rfl (ne_bool c5) rfl fun a S CL => h_skip S CL rfl rfl rfl (ne_bool c5) rfl fun a S CL => h_skip S CL rfl rfl rfl (ne_bool c5) rfl fun a S CL => h_skip S CL rfl rfl rfl (ne_bool c5) rfl fun a S CL => h_skip S CL rfl rfl rfl (ne_bool c5) rfl fun a S CL => h_skip S CL rfl rfl rfl (ne_bool c5) rfl fun a S CL => h_alts ?_
        refine h_skipOt S rfl rfl rfl (ne_bool c5) rfl ?_ ?_
        ·clear S a; intro a S
         refine CL.bk hw S (.c0 .n) le fun hw => h_skipRt S rfl rfl rfl (ne_bool c5) rfl fun a S => CL.bk hw S (.c0 .n) le fun hw => h_skipRt S rfl rfl rfl (ne_bool c5) rfl fun a S => CL.bk hw S (.c0 .n) le fun hw => ?_
         replace CL := CL.add (t := 94) (d := .u) S rfl rfl
         refine h_skip S CL rfl rfl rfl (ne_bool c5) rfl fun a S CL => h_skip S CL rfl rfl rfl (ne_bool c5) rfl fun a S CL => h_pick S CL hw le (subR rfl) (b := false) (hc_of rfl c5) rfl rfl rfl trivial fun a S CL => ?_
         refine h_done ?_; clear CL hw le
         refine x_thenN ?_
         exact j4 _ false a w (S.sb rfl (.c0 .n)) h1
        refine h_skipOt S rfl rfl rfl (ne_bool c5) rfl ?_ ?_
        ·clear S a; intro a S
         refine CL.bk hw S (.c0 .n) le fun hw => h_skipRt S rfl rfl rfl (ne_bool c5) rfl fun a S => CL.bk hw S (.c0 .n) le fun hw => h_skipRt S rfl rfl rfl (ne_bool c5) rfl fun a S => CL.bk hw S (.c0 .n) le fun hw => ?_
         replace CL := CL.add (t := 94) (d := .u) S rfl rfl
         refine h_skip S CL rfl rfl rfl (ne_bool c5) rfl fun a S CL => h_skip S CL rfl rfl rfl (ne_bool c5) rfl fun a S CL => h_pick S CL hw le (subR rfl) (b := false) (hc_of rfl c5) rfl rfl rfl trivial fun a S CL => ?_
         refine h_done ?_; clear CL hw le
         refine x_thenN ?_
         exact j4 _ false a w (S.sb rfl (.c0 .n)) h1
        exact h_nil
      refine wp_seq_k fun K5 hK5 => ?_
      have j5 : ∀ m y15 a w, St 148 m b0 [(75, (.b y15)), (13, (.i y11)), (3, (.i y8)), (12, (.i (wr .i64 (y5 - y4)))), (11, (.b y2)), (10, (.b y3)), (0, (.s ch_0_0 ch_0_1 ch_0_2)), (1, (.i y4)), (2, (.i y5)), (4, (.v (.func (.func 39) #[] #[])))] [Res.row (Ty.arr .u8 20) 28 ch_0_0 ch_0_1 ch_0_2 y9] a w → api_Address_n47_0o_4f39.j5 k self0 y2 y3 y4 y5 (api_Address_n47_0o_4f39.l1 k self0 q1) y8 y9 y11 y15 = some r → K5 a w := by
       intro m y15 a w S h0
       delta api_Address_n47_0o_4f39.j5 at h0
       refine hK5 a w ?_
       rcases ite_of h0 with ⟨c8, h1⟩ | ⟨c8, h1⟩
       ·refine c_condT S rfl c8 (c_region (s_move S rfl rfl fun a S => s_move S rfl rfl fun a S => s_move S rfl rfl fun a S => s_move S rfl rfl fun a S => bindX h1 fun t13 et13 h2 => s_callX S (ds' := [(.s ch_0_0 ch_0_1 ch_0_2), (.i y4), (.i y5), (.v (.func (.func 39) #[] #[]))]) (ds := [(.s ch_0_0 ch_0_1 ch_0_2), (.i y4), (.i y5), (.v (.func (.func 39) #[] #[]))]) [Res.row (Ty.arr .u8 20) 28 ch_0_0 ch_0_1 ch_0_2 y9] [] (fun (ch : Unit) => ((.b t13.1) : D)) (fun (ch : Unit) => [Res.row (Ty.arr .u8 20) 28 ch_0_0 ch_0_1 ch_0_2 t13.2]) (fun (ch : Unit) => [Res.row (Ty.arr .u8 20) 28 ch_0_0 ch_0_1 ch_0_2 t13.2]) (fun _ => rfl) N55 rfl rfl (fun ok => ok) (.c0 .n) rfl (api_Address_n55_0o_3f39.ok k y9 y4 y5 ch_0_0 ch_0_1 ch_0_2 t13 et13 _ _) fun ch11 m le1 a w S => c_end ?_))
        rcases ite_of h2 with ⟨c9, h3⟩ | ⟨c9, h3⟩
        ·refine c_condT S rfl c9 (wp_ret (x_thenR (x_blockR (x_thenR (x_blockR ?_)))))
         obtain rfl := Option.some.inj h3
         exact b_ret0 S rfl (S.retX (Hx := []) hb _ _ (() : Unit) (.c0 .n) trivial)
        ·refine c_condF S rfl c9 (wp_skip (x_thenN ?_))
         exact j3 _ t13.2 a w (S.sb rfl (.c0 .n)) h3
       ·refine c_condF S rfl c8 (wp_skip (x_thenN ?_))
        exact j3 _ y9 a w (S.sb rfl (.c0 .n)) h1
      refine c_region' (s_move S rfl rfl fun a S => s_move S rfl rfl fun a S => ?_)
      rcases ite_of h0 with ⟨c10, h1⟩ | ⟨c10, h1⟩
      ·refine s_gT S (b := y3) rfl rfl c10 (s_move S rfl rfl fun a S => s_pick S (b := true) (hc_of rfl c10) rfl rfl fun a S => s_move S rfl rfl fun a S => ?_)
       rcases ite_of h1 with ⟨c11, h2⟩ | ⟨c11, h2⟩
       ·refine s_gT S (b := y2) rfl rfl c11 (s_move S rfl rfl fun a S => s_gT S (b := y2) rfl rfl c11 (s_bin S rfl rfl rfl rfl fun a S => s_pick S (b := true) (hc_of rfl c11) rfl rfl fun a S => c_end' (x_thenN ?_)))
        exact j5 _ (y10 == 1) a w (S.sb rfl (.c0 .n)) h2
       ·refine s_gF S (b := y2) rfl rfl c11 rfl fun a S => s_gF S (b := y2) rfl rfl c11 rfl fun a S => s_pick S (b := false) (hc_of rfl c11) rfl rfl fun a S => c_end' (x_thenN ?_)
        exact j5 _ false a w (S.sb rfl (.c0 .n)) h2
      ·refine s_gF S (b := y3) rfl rfl c10 rfl fun a S => s_pick S (b := false) (hc_of rfl c10) rfl rfl fun a S => s_move S rfl rfl fun a S => s_gF S (b := false) rfl rfl rfl rfl fun a S => s_gF S (b := false) rfl rfl rfl rfl fun a S => s_pick S (b := false) (hc_of rfl rfl) rfl rfl fun a S => c_end' (x_thenN ?_)
       exact j5 _ false a w (S.sb rfl (.c0 .n)) h1
     refine c_region (s_move S rfl rfl fun a S => s_bin S rfl rfl rfl rfl fun a S => c_end ?_)
     rcases ite_of h1 with ⟨c12, h2⟩ | ⟨c12, h2⟩
     ·refine c_condT S rfl c12 (c_region (s_move S rfl rfl fun a S => s_move S rfl rfl fun a S => s_move S rfl rfl fun a S => s_move S rfl rfl fun a S => bindX h2 fun t14 et14 h3 => s_callX S (ds' := [(.s ch_0_0 ch_0_1 ch_0_2), (.i y4), (.i y5), (.v (.func (.func 39) #[] #[]))]) (ds := [(.s ch_0_0 ch_0_1 ch_0_2), (.i y4), (.i y5), (.v (.func (.func 39) #[] #[]))]) [Res.row (Ty.arr .u8 20) 28 ch_0_0 ch_0_1 ch_0_2 y7] [] (fun (ch : Unit) => ((.tup []) : D)) (fun (ch : Unit) => [Res.row (Ty.arr .u8 20) 28 ch_0_0 ch_0_1 ch_0_2 t14]) (fun (ch : Unit) => [Res.row (Ty.arr .u8 20) 28 ch_0_0 ch_0_1 ch_0_2 t14]) (fun _ => rfl) N54 rfl rfl (fun ok => ok) (.c0 .n) rfl (api_Address_n54_0o_3f39.ok k y7 y4 y5 ch_0_0 ch_0_1 ch_0_2 t14 et14 _ _) fun ch12 m le1 a w S => c_end (c_region (s_move S rfl rfl fun a S => s_bin S rfl rfl rfl rfl fun a S => s_move S rfl rfl fun a S => s_move S rfl rfl fun a S => s_bin S rfl rfl rfl rfl fun a S => s_bin S rfl rfl rfl rfl fun a S => s_assign S rfl rfl fun a S => c_end (c_region' (s_assign S rfl rfl fun a S => c_end' (x_thenN ?_)))))))
      exact j2 _ t14 1 (wr .i64 ((wr .i64 (y5 - 1)) - (wr .i64 (t4.1 - y4)))) a w (S.sb rfl (.c0 .n)) h3
     ·refine c_condF S rfl c12 (wp_skip (x_thenN ?_))
      exact j2 _ y7 t4.2 t4.1 a w (S.sb rfl (.c0 .n)) h2
    refine c_region (s_move S rfl rfl fun a S => s_not S rfl rfl fun a S => c_end ?_)
    rcases ite_of h2 with ⟨c13, h3⟩ | ⟨c13, h3⟩
    ·refine c_condT S rfl c13 (c_region (s_move S rfl rfl fun a S => s_move S rfl rfl fun a S => s_move S rfl rfl fun a S => s_move S rfl rfl fun a S => bindX h3 fun t15 et15 h4 => s_callX S (ds' := [(.s ch_0_0 ch_0_1 ch_0_2), (.i y4), (.i y5), (.v (.func (.func 39) #[] #[]))]) (ds := [(.s ch_0_0 ch_0_1 ch_0_2), (.i y4), (.i y5), (.v (.func (.func 39) #[] #[]))]) [Res.row (Ty.arr .u8 20) 28 ch_0_0 ch_0_1 ch_0_2 y1] [] (fun (ch : Unit) => ((.tup []) : D)) (fun (ch : Unit) => [Res.row (Ty.arr .u8 20) 28 ch_0_0 ch_0_1 ch_0_2 t15]) (fun (ch : Unit) => [Res.row (Ty.arr .u8 20) 28 ch_0_0 ch_0_1 ch_0_2 t15]) (fun _ => rfl) N52 rfl rfl (fun ok => ok) (.c0 .n) rfl (api_Address_n52_0o_3f39.ok k y1 y4 y5 ch_0_0 ch_0_1 ch_0_2 t15 et15 _ _) fun ch13 m le1 a w S => c_end (c_region' (s_move S rfl rfl fun a S => s_bin S rfl rfl rfl rfl fun a S => s_assign S rfl rfl fun a S => c_end' (x_thenN ?_)))))
     exact j1 _ t15 (wr .i64 (y6 - 1)) a w (S.sb rfl (.c0 .n)) h4
    ·refine c_condF S rfl c13 (wp_skip (x_thenN ?_))
     exact j1 _ y1 y6 a w (S.sb rfl (.c0 .n)) h3
def api_Address_n47_0o_4f39.f : Nat → api_Address_n47_0o_4f39.Ty
  | 0 => fun _ _ _ _ => none
  | k + 1 => api_Address_n47_0o_4f39.body (api_Address_n47_0o_4f39.f k) k
theorem api_Address_n47_0o_4f39.oks : ∀ k : Nat, api_Address_n47_0o_4f39.Ctr (api_Address_n47_0o_4f39.f k)
  | 0 => fun _ _ _ _ _ _ _ r h0 => (nomatch (show (none : Option ((List (List Int)))) = some r from h0))
  | k + 1 => by
    have ih := api_Address_n47_0o_4f39.oks k
    exact api_Address_n47_0o_4f39.okb (api_Address_n47_0o_4f39.f k) ih k
theorem api_Address_n47_0o_4f39.ok (k : Nat) : api_Address_n47_0o_4f39.Ctr (api_Address_n47_0o_4f39.f k) := (api_Address_n47_0o_4f39.oks k)
abbrev api_Address_n38_0o_1f39.Ty : Type := (List (List Int)) → Option ((List (List Int)))
def api_Address_n38_0o_1f39.Ctr (s : api_Address_n38_0o_1f39.Ty) : Prop := ∀ (x1 : List (List Int)) (ch_0_0 : Option Addr) (ch_0_1 : Nat) (ch_0_2 : Nat) (r : (List (List Int))), Ct (C := Unit) Try.prog 38 (s x1 = some r) [Res.row (Ty.arr .u8 20) 28 ch_0_0 ch_0_1 ch_0_2 x1] [(.s ch_0_0 ch_0_1 ch_0_2), (.v (.func (.func 39) #[] #[]))] (fun _ => (.tup [])) fun _ => [Res.row (Ty.arr .u8 20) 28 ch_0_0 ch_0_1 ch_0_2 r]
def api_Address_n38_0o_1f39.f (k : Nat) (x1 : List (List Int)) : Option ((List (List Int))) := (bits_Len.f (wr .u64 ((x1).length : Int))).bind fun t1 => ((api_Address_n47_0o_4f39.f k x1 0 ((x1).length : Int) t1).bind fun t2 => (some t2))
theorem api_Address_n38_0o_1f39.ok (k : Nat) : api_Address_n38_0o_1f39.Ctr (api_Address_n38_0o_1f39.f k) := by
 intro x1 ch_0_0 ch_0_1 ch_0_2 r h0 mi w0 ok hm
 delta api_Address_n38_0o_1f39.f at h0
 refine c_enterZ (n := 14) ok hm func38 rfl rfl rfl fun b0 hb a S => c_region (s_move S rfl rfl fun a S => s_lenO S rfl .h underlying23 rfl fun a S => s_assign S rfl rfl fun a S => c_end (c_region' (s_move S rfl rfl fun a S => s_move S rfl rfl fun a S => s_move S rfl rfl fun a S => s_conv S rfl rfl underlying103 rfl fun a S => bindX h0 fun t1 et1 h1 => s_callP S _ N48 rfl rfl (bits_Len.ok (wr .u64 ((x1).length : Int)) t1 et1 _ _) fun ch1 m le1 a w S => s_move S rfl rfl fun a S => bindX h1 fun t2 et2 h2 => s_callX S (ds' := [(.s ch_0_0 ch_0_1 ch_0_2), (.i 0), (.i ((x1).length : Int)), (.i t1), (.v (.func (.func 39) #[] #[]))]) (ds := [(.s ch_0_0 ch_0_1 ch_0_2), (.i 0), (.i ((x1).length : Int)), (.i t1), (.v (.func (.func 39) #[] #[]))]) [Res.row (Ty.arr .u8 20) 28 ch_0_0 ch_0_1 ch_0_2 x1] [] (fun (ch : Unit) => ((.tup []) : D)) (fun (ch : Unit) => [Res.row (Ty.arr .u8 20) 28 ch_0_0 ch_0_1 ch_0_2 t2]) (fun (ch : Unit) => [Res.row (Ty.arr .u8 20) 28 ch_0_0 ch_0_1 ch_0_2 t2]) (fun _ => rfl) N47 rfl rfl (fun ok => ok) (.c0 .n) rfl (api_Address_n47_0o_4f39.ok k x1 0 ((x1).length : Int) t1 ch_0_0 ch_0_1 ch_0_2 t2 et2 _ _) fun ch2 m le1 a w S => c_end' (b_end ?_))))
 obtain rfl := Option.some.inj h2
 exact b_ret0 S rfl (S.retX (Hx := []) hb _ _ (() : Unit) (.c0 .n) trivial)
abbrev fork_Cache_Known.Ty : Type := ((List ((List Int) × L34)) × (List ((List Int) × Int))) → Option ((List (List Int)))
def fork_Cache_Known.Ctr (s : fork_Cache_Known.Ty) : Prop := ∀ (x1 : (List ((List Int) × L34)) × (List ((List Int) × Int))) (ch_0_0 : Nat) (ch_0_1 : Nat) (ch_0_2 : Nat) (r : (List (List Int))), Ct (C := ((Option Addr) × Nat × Nat)) Try.prog 26 (s x1 = some r) [Res.cells ch_0_0 76 [.one (.map (some ch_0_1)), .one (.map (some ch_0_2))], Res.map true (Ty.arr .u8 20) true Y34 ch_0_1 x1.1, Res.map true (Ty.arr .u8 20) false yi ch_0_2 x1.2] [(.p ch_0_0)] (fun ch => (.s ch.1 ch.2.1 ch.2.2)) fun ch => [Res.row (Ty.arr .u8 20) 28 ch.1 ch.2.1 ch.2.2 r, Res.cells ch_0_0 76 [.one (.map (some ch_0_1)), .one (.map (some ch_0_2))], Res.map true (Ty.arr .u8 20) true Y34 ch_0_1 x1.1, Res.map true (Ty.arr .u8 20) false yi ch_0_2 x1.2]
def fork_Cache_Known.j1 (k : Nat) (y1 : List (List Int)) : Option ((List (List Int))) := (api_Address_n38_0o_1f39.f k y1).bind fun t1 => (some t1)
def fork_Cache_Known.b1 (k : Nat) (rec1 : (List (List Int)) → (List ((List Int) × L34)) → Option ((List (List Int)))) (y4 : List (List Int)) (y5 : List ((List Int) × L34)) : Option ((List (List Int))) := rngL y5 (fork_Cache_Known.j1 k y4) fun e1 => if ((y4).length + ([e1.1]).length) * 20 ≤ 140737488355328 then (rec1 (y4 ++ [e1.1]) (adel y5 e1.1)) else none
def fork_Cache_Known.l1 (k : Nat) : Nat → (List (List Int)) → (List ((List Int) × L34)) → Option ((List (List Int)))
  | 0, _, _ => none
  | q + 1, y4, y5 => fork_Cache_Known.b1 k (fork_Cache_Known.l1 k q) y4 y5
def fork_Cache_Known.f (k : Nat) (x1 : (List ((List Int) × L34)) × (List ((List Int) × Int))) : Option ((List (List Int))) := fork_Cache_Known.l1 k k ([] : List (List Int)) x1.1
theorem fork_Cache_Known.ok (k : Nat) : fork_Cache_Known.Ctr (fork_Cache_Known.f k) := by
 intro x1 ch_0_0 ch_0_1 ch_0_2 r h0 mi w0 ok hm
 delta fork_Cache_Known.f at h0
 refine c_enterZ (n := 24) ok hm func26 rfl rfl rfl fun b0 hb a S => c_region (s_assign S rfl rfl fun a S => c_end (c_region (s_assign S rfl rfl fun a S => c_end (wp_seq (c_region (s_move S rfl rfl fun a S => s_eqp S (b := false) rfl rfl underlying36 rfl rfl fun a S => c_end (c_condF S rfl rfl (wp_skip (x_thenN (wp_seq_k fun K1 hK1 => ?_))))))))))
 have j1 : ∀ m A1 nn1 cp1 y1 a w, St 24 m b0 [(3, (.s A1 nn1 cp1))] [Res.row (Ty.arr .u8 20) 28 A1 nn1 cp1 y1, Res.cells ch_0_0 76 [.one (.map (some ch_0_1)), .one (.map (some ch_0_2))], Res.map true (Ty.arr .u8 20) true Y34 ch_0_1 x1.1, Res.map true (Ty.arr .u8 20) false yi ch_0_2 x1.2] a w → fork_Cache_Known.j1 k y1 = some r → K1 a w := by
  intro m A1 nn1 cp1 y1 a w S h0
  delta fork_Cache_Known.j1 at h0
  refine hK1 a w (c_region (s_move S rfl rfl fun a S => bindX h0 fun t1 et1 h1 => s_callX S (ds' := [(.s A1 nn1 cp1), (.v (.func (.func 39) #[] #[]))]) (ds := [(.s A1 nn1 cp1), (.v (.func (.func 39) #[] #[]))]) [Res.row (Ty.arr .u8 20) 28 A1 nn1 cp1 y1] [Res.cells ch_0_0 76 [.one (.map (some ch_0_1)), .one (.map (some ch_0_2))], Res.map true (Ty.arr .u8 20) true Y34 ch_0_1 x1.1, Res.map true (Ty.arr .u8 20) false yi ch_0_2 x1.2] (fun (ch : Unit) => ((.tup []) : D)) (fun (ch : Unit) => [Res.row (Ty.arr .u8 20) 28 A1 nn1 cp1 t1]) (fun (ch : Unit) => [Res.row (Ty.arr .u8 20) 28 A1 nn1 cp1 t1, Res.cells ch_0_0 76 [.one (.map (some ch_0_1)), .one (.map (some ch_0_2))], Res.map true (Ty.arr .u8 20) true Y34 ch_0_1 x1.1, Res.map true (Ty.arr .u8 20) false yi ch_0_2 x1.2]) (fun _ => rfl) N38 rfl rfl (fun ok => ok) (.c0 (.c0 (.c0 (.c0 .n)))) rfl (api_Address_n38_0o_1f39.ok k y1 A1 nn1 cp1 t1 et1 _ _) fun ch1 m le1 a w S => c_end (c_region (s_move S rfl rfl fun a S => s_assign S rfl rfl fun a S => c_end (wp_ret ?_)))))
  obtain rfl := Option.some.inj h1
  exact b_ret1 (d := (.s A1 nn1 cp1)) S rfl rfl fun ok => S.retX (Hx := []) hb _ _ ((A1, nn1, cp1) : (Option Addr) × Nat × Nat) (.c0 (.c0 (.c0 (.c0 .n)))) ok
 refine c_region (s_move S rfl rfl fun a S => s_nilchk S rfl rfl fun a S => s_fieldAddr S rfl I76_0 T73 (by decide) rfl rfl fun a S => s_load1 S rfl .h T73 (v := (.map (some ch_0_1))) rfl rfl fun a S => s_rangeO S rfl (fun _ _ => .h1) underlying73 rfl fun g1 es1 ck1 a w S => c_end (wp_block ?_))
 replace S := S.nilrow (Ty.arr .u8 20) 28
 refine c_loop (fun q1 a w => ∃ m A2 nn3 cp5 y4 g8 y5 cu1, St 24 m b0 [(3, (.s A2 nn3 cp5)), (12, (.p g8))] [Res.row (Ty.arr .u8 20) 28 A2 nn3 cp5 y4, Res.iterx true (Ty.arr .u8 20) true Y34 g8 ch_0_1 es1 ck1 x1.1 y5 cu1, Res.cells ch_0_0 76 [.one (.map (some ch_0_1)), .one (.map (some ch_0_2))], Res.mapx true (Ty.arr .u8 20) true Y34 ch_0_1 es1 ck1 x1.1, Res.map true (Ty.arr .u8 20) false yi ch_0_2 x1.2] a w ∧ fork_Cache_Known.l1 k q1 y4 y5 = some r) ?_ ?_ (k := k) ⟨_, none, 0, 0, ([] : List (List Int)), g1, x1.1, none, (S.sb rfl (.c0 (.c0 (.c0 (.c0 (.c0 .n)))))), h0⟩
 ·rintro a w ⟨m, A2, nn3, cp5, y4, g8, y5, cu1, S, h0⟩
  exact (nomatch (show (none : Option ((List (List Int)))) = some r from h0))
 ·clear S h0
  rintro q1 a w ⟨m, A2, nn3, cp5, y4, g8, y5, cu1, S, h0⟩
  replace h0 : fork_Cache_Known.b1 k (fork_Cache_Known.l1 k q1) y4 y5 = some r := h0
  delta fork_Cache_Known.b1 at h0
  refine c_region ?_
  refine s_nextO S rfl (fun _ _ => .h1) .h3 rfl ?_ ?_
  ·clear S a; intro hR a S
   have h1 := (rng_of h0).1 hR; clear h0
   refine s_extract S rfl rfl rfl rfl fun a S => c_end (wp_seq (c_condF S rfl rfl (wp_exit (x_thenX (x_thenX (x_blockX (x_thenN ?_)))))))
   exact j1 _ A2 nn3 cp5 y4 a w (S.sub ⟨rfl, trivial⟩ (.c0 (.c1 (.c1 (.c1 .n))))) h1
  ·clear S a w; intro e1 hee1 ch10 ch11 a w S
   have h1 := (rng_of h0).2 e1 hee1; clear h0
   refine s_extract S rfl rfl rfl rfl fun a S => c_end (wp_seq (c_condT S rfl rfl (wp_skip (x_thenN (wp_block (c_region (s_entryO S rfl .h1 .h3 rfl fun ch12 ch13 a S => s_extract S rfl rfl rfl rfl fun a S => s_alloc S Z28 rfl ⟨rfl, trivial⟩ rfl fun g9 a w S => s_store S rfl rfl rfl (s' := [.b20 e1.1]) .h T28 rfl rfl fun w S => c_end (c_region' (s_move S rfl rfl fun a S => s_loada S rfl .h T28 (s' := [.b20 e1.1]) rfl rfl fun a S => s_bldSl S (ty' := (Ty.arr .u8 20)) (ds := [(0, (.agg [.b20 e1.1]))]) (z := z20) (c0 := ()) (ys := [e1.1]) (cs := [()]) rfl underlying23 J28 Z28 rfl ⟨rfl, trivial⟩ rfl rfl rfl rfl rfl rfl fun g10 a w S => ?_)))))))))
   obtain ⟨c1, h2⟩ := chk_of h1; clear h1
   refine s_app S (k2 := 1) (ys := [e1.1]) rfl (fun _ _ => .h2) rfl rfl (S.holds _ (Pull.mem .h).1).1 (Res.row.src (S.holds _ (Pull.mem .h).1)) underlying23 J28 c1 rfl fun A3 cp6 a w S => s_assign S rfl rfl fun a S => c_end' (x_blockN (x_thenN ?_))
   exact ⟨_, A3, (nn3 + 1), cp6, (y4 ++ [e1.1]), g8, (adel y5 e1.1), (some e1), (S.sb rfl (.c2 (.c2 (.c2 (.c2 (.c2 .n)))))), h2⟩
abbrev fork_Cache_Fetched.Ty : Type := ((List ((List Int) × L34)) × (List ((List Int) × Int))) → Option ((List (List Int)))
def fork_Cache_Fetched.Ctr (s : fork_Cache_Fetched.Ty) : Prop := ∀ (x1 : (List ((List Int) × L34)) × (List ((List Int) × Int))) (ch_0_0 : Nat) (ch_0_1 : Nat) (ch_0_2 : Nat) (r : (List (List Int))), Ct (C := ((Option Addr) × Nat × Nat)) Try.prog 27 (s x1 = some r) [Res.cells ch_0_0 76 [.one (.map (some ch_0_1)), .one (.map (some ch_0_2))], Res.map true (Ty.arr .u8 20) true Y34 ch_0_1 x1.1, Res.map true (Ty.arr .u8 20) false yi ch_0_2 x1.2] [(.p ch_0_0)] (fun ch => (.s ch.1 ch.2.1 ch.2.2)) fun ch => [Res.row (Ty.arr .u8 20) 28 ch.1 ch.2.1 ch.2.2 r, Res.cells ch_0_0 76 [.one (.map (some ch_0_1)), .one (.map (some ch_0_2))], Res.map true (Ty.arr .u8 20) true Y34 ch_0_1 x1.1, Res.map true (Ty.arr .u8 20) false yi ch_0_2 x1.2]
def fork_Cache_Fetched.j1 (k : Nat) (y1 : List (List Int)) : Option ((List (List Int))) := (api_Address_n38_0o_1f39.f k y1).bind fun t1 => (some t1)
def fork_Cache_Fetched.b1 (k : Nat) (rec1 : (List (List Int)) → (List ((List Int) × Int)) → Option ((List (List Int)))) (y4 : List (List Int)) (y5 : List ((List Int) × Int)) : Option ((List (List Int))) := rngL y5 (fork_Cache_Fetched.j1 k y4) fun e1 => if ((y4).length + ([e1.1]).length) * 20 ≤ 140737488355328 then (rec1 (y4 ++ [e1.1]) (adel y5 e1.1)) else none
def fork_Cache_Fetched.l1 (k : Nat) : Nat → (List (List Int)) → (List ((List Int) × Int)) → Option ((List (List Int)))
  | 0, _, _ => none
  | q + 1, y4, y5 => fork_Cache_Fetched.b1 k (fork_Cache_Fetched.l1 k q) y4 y5
def fork_Cache_Fetched.f (k : Nat) (x1 : (List ((List Int) × L34)) × (List ((List Int) × Int))) : Option ((List (List Int))) := fork_Cache_Fetched.l1 k k ([] : List (List Int)) x1.2
theorem fork_Cache_Fetched.ok (k : Nat) : fork_Cache_Fetched.Ctr (fork_Cache_Fetched.f k) := by
 intro x1 ch_0_0 ch_0_1 ch_0_2 r h0 mi w0 ok hm
 delta fork_Cache_Fetched.f at h0
 refine c_enterZ (n := 24) ok hm func27 rfl rfl rfl fun b0 hb a S => c_region (s_assign S rfl rfl fun a S => c_end (c_region (s_assign S rfl rfl fun a S => c_end (wp_seq (c_region (s_move S rfl rfl fun a S => s_eqp S (b := false) rfl rfl underlying36 rfl rfl fun a S => c_end (c_condF S rfl rfl (wp_skip (x_thenN (wp_seq_k fun K1 hK1 => ?_))))))))))
 have j1 : ∀ m A1 nn1 cp1 y1 a w, St 24 m b0 [(3, (.s A1 nn1 cp1))] [Res.row (Ty.arr .u8 20) 28 A1 nn1 cp1 y1, Res.cells ch_0_0 76 [.one (.map (some ch_0_1)), .one (.map (some ch_0_2))], Res.map true (Ty.arr .u8 20) true Y34 ch_0_1 x1.1, Res.map true (Ty.arr .u8 20) false yi ch_0_2 x1.2] a w → fork_Cache_Fetched.j1 k y1 = some r → K1 a w := by
  intro m A1 nn1 cp1 y1 a w S h0
  delta fork_Cache_Fetched.j1 at h0
  refine hK1 a w (c_region (s_move S rfl rfl fun a S => bindX h0 fun t1 et1 h1 => s_callX S (ds' := [(.s A1 nn1 cp1), (.v (.func (.func 39) #[] #[]))]) (ds := [(.s A1 nn1 cp1), (.v (.func (.func 39) #[] #[]))]) [Res.row (Ty.arr .u8 20) 28 A1 nn1 cp1 y1] [Res.cells ch_0_0 76 [.one (.map (some ch_0_1)), .one (.map (some ch_0_2))], Res.map true (Ty.arr .u8 20) true Y34 ch_0_1 x1.1, Res.map true (Ty.arr .u8 20) false yi ch_0_2 x1.2] (fun (ch : Unit) => ((.tup []) : D)) (fun (ch : Unit) => [Res.row (Ty.arr .u8 20) 28 A1 nn1 cp1 t1]) (fun (ch : Unit) => [Res.row (Ty.arr .u8 20) 28 A1 nn1 cp1 t1, Res.cells ch_0_0 76 [.one (.map (some ch_0_1)), .one (.map (some ch_0_2))], Res.map true (Ty.arr .u8 20) true Y34 ch_0_1 x1.1, Res.map true (Ty.arr .u8 20) false yi ch_0_2 x1.2]) (fun _ => rfl) N38 rfl rfl (fun ok => ok) (.c0 (.c0 (.c0 (.c0 .n)))) rfl (api_Address_n38_0o_1f39.ok k y1 A1 nn1 cp1 t1 et1 _ _) fun ch1 m le1 a w S => c_end (c_region (s_move S rfl rfl fun a S => s_assign S rfl rfl fun a S => c_end (wp_ret ?_)))))
  obtain rfl := Option.some.inj h1
  exact b_ret1 (d := (.s A1 nn1 cp1)) S rfl rfl fun ok => S.retX (Hx := []) hb _ _ ((A1, nn1, cp1) : (Option Addr) × Nat × Nat) (.c0 (.c0 (.c0 (.c0 .n)))) ok
 refine c_region (s_move S rfl rfl fun a S => s_nilchk S rfl rfl fun a S => s_fieldAddr S rfl I76_1 T74 (by decide) rfl rfl fun a S => s_load1 S rfl .h T74 (v := (.map (some ch_0_2))) rfl rfl fun a S => s_rangeO S rfl (fun _ _ => .h2) underlying74 rfl fun g1 es1 ck1 a w S => c_end (wp_block ?_))
 replace S := S.nilrow (Ty.arr .u8 20) 28
 refine c_loop (fun q1 a w => ∃ m A2 nn3 cp5 y4 g8 y5 cu1, St 24 m b0 [(3, (.s A2 nn3 cp5)), (12, (.p g8))] [Res.row (Ty.arr .u8 20) 28 A2 nn3 cp5 y4, Res.iterx true (Ty.arr .u8 20) false yi g8 ch_0_2 es1 ck1 x1.2 y5 cu1, Res.cells ch_0_0 76 [.one (.map (some ch_0_1)), .one (.map (some ch_0_2))], Res.map true (Ty.arr .u8 20) true Y34 ch_0_1 x1.1, Res.mapx true (Ty.arr .u8 20) false yi ch_0_2 es1 ck1 x1.2] a w ∧ fork_Cache_Fetched.l1 k q1 y4 y5 = some r) ?_ ?_ (k := k) ⟨_, none, 0, 0, ([] : List (List Int)), g1, x1.2, none, (S.sb rfl (.c0 (.c0 (.c0 (.c0 (.c0 .n)))))), h0⟩
 ·rintro a w ⟨m, A2, nn3, cp5, y4, g8, y5, cu1, S, h0⟩
  exact (nomatch (show (none : Option ((List (List Int)))) = some r from h0))
 ·clear S h0
  rintro q1 a w ⟨m, A2, nn3, cp5, y4, g8, y5, cu1, S, h0⟩
  replace h0 : fork_Cache_Fetched.b1 k (fork_Cache_Fetched.l1 k q1) y4 y5 = some r := h0
  delta fork_Cache_Fetched.b1 at h0
  refine c_region ?_
  refine s_nextO S rfl (fun _ _ => .h1) .h4 rfl ?_ ?_
  ·clear S a; intro hR a S
   have h1 := (rng_of h0).1 hR; clear h0
   refine s_extract S rfl rfl rfl rfl fun a S => c_end (wp_seq (c_condF S rfl rfl (wp_exit (x_thenX (x_thenX (x_blockX (x_thenN ?_)))))))
   exact j1 _ A2 nn3 cp5 y4 a w (S.sub ⟨rfl, trivial⟩ (.c0 (.c1 (.c1 (.c1 .n))))) h1
  ·clear S a w; intro e1 hee1 ch2 ch3 a w S
   have h1 := (rng_of h0).2 e1 hee1; clear h0
   refine s_extract S rfl rfl rfl rfl fun a S => c_end (wp_seq (c_condT S rfl rfl (wp_skip (x_thenN (wp_block (c_region (s_entryO S rfl .h1 .h4 rfl fun ch4 ch5 a S => s_extract S rfl rfl rfl rfl fun a S => s_alloc S Z28 rfl ⟨rfl, trivial⟩ rfl fun g9 a w S => s_store S rfl rfl rfl (s' := [.b20 e1.1]) .h T28 rfl rfl fun w S => c_end (c_region' (s_move S rfl rfl fun a S => s_loada S rfl .h T28 (s' := [.b20 e1.1]) rfl rfl fun a S => s_bldSl S (ty' := (Ty.arr .u8 20)) (ds := [(0, (.agg [.b20 e1.1]))]) (z := z20) (c0 := ()) (ys := [e1.1]) (cs := [()]) rfl underlying23 J28 Z28 rfl ⟨rfl, trivial⟩ rfl rfl rfl rfl rfl rfl fun g10 a w S => ?_)))))))))
   obtain ⟨c1, h2⟩ := chk_of h1; clear h1
   refine s_app S (k2 := 1) (ys := [e1.1]) rfl (fun _ _ => .h2) rfl rfl (S.holds _ (Pull.mem .h).1).1 (Res.row.src (S.holds _ (Pull.mem .h).1)) underlying23 J28 c1 rfl fun A3 cp6 a w S => s_assign S rfl rfl fun a S => c_end' (x_blockN (x_thenN ?_))
   exact ⟨_, A3, (nn3 + 1), cp6, (y4 ++ [e1.1]), g8, (adel y5 e1.1), (some e1), (S.sb rfl (.c2 (.c2 (.c2 (.c2 (.c2 .n)))))), h2⟩
abbrev smithylaw15_rising.Ty : Type := (List (List Int)) → Option Bool
def smithylaw15_rising.Ctr (s : smithylaw15_rising.Ty) : Prop := ∀ (x1 : List (List Int)) (ch_0_0 : Option Addr) (ch_0_1 : Nat) (r : Bool), Ct (C := Unit) Try.prog 28 (s x1 = some r) [] [(.q (Ty.arr .u8 20) ch_0_0 ch_0_1 x1)] (fun _ => (.b r)) fun _ => []
def smithylaw15_rising.j1 : Option Bool := some true
def smithylaw15_rising.b1 (x1 : List (List Int)) (rec1 : Int → Option Bool) (y1 : Int) : Option Bool := if (decide (y1 < ((x1).length : Int))) = true then (if (0 : Int) ≤ (wr .i64 (y1 - 1)) ∧ (wr .i64 (y1 - 1)) < ((x1).length : Int) then (if (0 : Int) ≤ y1 ∧ y1 < ((x1).length : Int) then ((addr_Compare.f (gt x1 (wr .i64 (y1 - 1))) (gt x1 y1)).bind fun t1 => (if (decide (0 ≤ t1)) = true then (some false) else (rec1 (wr .i64 (y1 + 1))))) else none) else none) else smithylaw15_rising.j1
def smithylaw15_rising.l1 (x1 : List (List Int)) : Nat → Int → Option Bool
  | 0, _ => none
  | q + 1, y1 => smithylaw15_rising.b1 x1 (smithylaw15_rising.l1 x1 q) y1
def smithylaw15_rising.f (k : Nat) (x1 : List (List Int)) : Option Bool := smithylaw15_rising.l1 x1 k 1
theorem smithylaw15_rising.ok (k : Nat) : smithylaw15_rising.Ctr (smithylaw15_rising.f k) := by
 intro x1 ch_0_0 ch_0_1 r h0 mi w0 ok hm
 delta smithylaw15_rising.f at h0
 refine c_enterZ (n := 21) ok hm func28 rfl rfl rfl fun b0 hb a S => c_region (s_assign S rfl rfl fun a S => c_end (wp_seq_k fun K1 hK1 => ?_))
 have j1 : ∀ m a w, St 21 m b0 [] [] a w → smithylaw15_rising.j1 = some r → K1 a w := by
  intro m a w S h0
  delta smithylaw15_rising.j1 at h0
  refine hK1 a w (c_region (s_assign S rfl rfl fun a S => c_end (wp_ret ?_)))
  obtain rfl := Option.some.inj h0
  exact b_ret1 (d := (.b true)) S rfl rfl (S.rt hb)
 refine c_region (s_assign S rfl rfl fun a S => c_end (wp_block ?_))
 refine c_loop (fun q1 a w => ∃ m y1, St 21 m b0 [(3, (.i y1)), (0, (.q (Ty.arr .u8 20) ch_0_0 ch_0_1 x1))] [] a w ∧ smithylaw15_rising.l1 x1 q1 y1 = some r) ?_ ?_ (k := k) ⟨_, 1, (S.sb rfl .nil), h0⟩
 ·rintro a w ⟨m, y1, S, h0⟩
  exact (nomatch (show (none : Option Bool) = some r from h0))
 ·clear S h0
  rintro q1 a w ⟨m, y1, S, h0⟩
  replace h0 : smithylaw15_rising.b1 x1 (smithylaw15_rising.l1 x1 q1) y1 = some r := h0
  delta smithylaw15_rising.b1 at h0
  refine wp_seq (c_region (s_move S rfl rfl fun a S => s_move S rfl rfl fun a S => s_lenS S rfl underlying23 rfl fun a S => s_bin S rfl rfl rfl rfl fun a S => c_end ?_))
  rcases ite_of h0 with ⟨c1, h1⟩ | ⟨c1, h1⟩
  ·refine c_condT S rfl c1 (wp_skip (x_thenN (wp_seq (wp_block ?_))))
   refine wp_seq (c_heldS S (.take 0 (.take 1 (.take 2 (.take 3 (.take 4 (.take 5 (.take 6 (.take 7 (.take 8 (.alts (.run 9 true (.take 10 .done) .nil))))))))))) 11 [] .nil trivial [(3, (.i y1)), (0, (.q (Ty.arr .u8 20) ch_0_0 ch_0_1 x1))] (subR rfl) (by kernel_rfl) (by kernel_rfl) ?_); clear S; intro w S CL hw le
   refine h_move S CL hw le (subR rfl) rfl rfl rfl trivial fun a S CL => h_move S CL hw le (subR rfl) rfl rfl rfl trivial fun a S CL => h_bin S CL hw le (subR rfl) rfl rfl rfl rfl rfl trivial fun a S CL => ?_
   obtain ⟨c2, h2⟩ := chk_of h1; clear h1
   refine h_iaddrS S CL hw le (subR rfl) rfl rfl rfl underlying23 T28 c2.1 c2.2 rfl rfl trivial fun p1 a S CL => h_ldA S CL hw le (subR rfl) (fun (c : Unit) => [.b20 (gt x1 (wr .i64 (y1 - 1)))]) rfl T28 (fun _ => rfl) rfl rfl trivial fun ch1 a S CL => ?_
   refine h_move S CL hw le (subR rfl) rfl rfl rfl trivial fun a S CL => h_move S CL hw le (subR rfl) rfl rfl rfl trivial fun a S CL => ?_
   obtain ⟨c3, h3⟩ := chk_of h2; clear h2
   refine h_iaddrS S CL hw le (subR rfl) rfl rfl rfl underlying23 T28 c3.1 c3.2 rfl rfl trivial fun p2 a S CL => h_ldA S CL hw le (subR rfl) (fun (c : Unit) => [.b20 (gt x1 y1)]) rfl T28 (fun _ => rfl) rfl rfl trivial fun ch2 a S CL => ?_
   refine h_run' S rfl trivial (bindX h3 fun t1 et1 h4 => s_callP S _ N39 rfl rfl (addr_Compare.ok (gt x1 (wr .i64 (y1 - 1))) (gt x1 y1) t1 et1 _ _) fun ch3 m le1 a w S => ?_)
   replace le := le.trans le1
   refine CL.bk hw S .nil le fun hw => ?_
   replace CL := CL.add (t := 19) (d := (.i t1)) S rfl rfl
   refine h_bin S CL hw le (subR rfl) rfl rfl rfl rfl rfl trivial fun a S CL => ?_
   refine h_done ?_; clear CL hw le
   refine x_thenN ?_
   rcases ite_of h4 with ⟨c4, h5⟩ | ⟨c4, h5⟩
   ·refine c_condT S rfl c4 (c_region (s_assign S rfl rfl fun a S => c_end (wp_ret (x_blockR (x_thenR (x_thenR (x_blockR (x_thenR ?_))))))))
    obtain rfl := Option.some.inj h5
    exact b_ret1 (d := (.b false)) S rfl rfl (S.rt hb)
   ·refine c_condF S rfl c4 (wp_skip (x_blockN (x_thenN (c_region' (s_move S rfl rfl fun a S => s_bin S rfl rfl rfl rfl fun a S => s_assign S rfl rfl fun a S => c_end' (x_thenN ?_))))))
    exact ⟨_, (wr .i64 (y1 + 1)), (S.sb rfl .nil), h5⟩
  ·refine c_condF S rfl c1 (wp_exit (x_thenX (x_thenX (x_blockX (x_thenN ?_)))))
   exact j1 _ a w (S.sub trivial .nil) h1
abbrev smithylaw15_ForkPlays.Ty : Type := (List (Int × L34)) → Option Bool
def smithylaw15_ForkPlays.Ctr (s : smithylaw15_ForkPlays.Ty) : Prop := ∀ (x1 : List (Int × L34)) (ch_0_0 : Option Addr) (ch_0_1 : Nat) (r : Bool), Ct (C := Unit) Try.prog 5 (s x1 = some r) [] [(.q (Ty.prod yi Y34) ch_0_0 ch_0_1 x1)] (fun _ => (.b r)) fun _ => []
def smithylaw15_ForkPlays.j4 : Option Bool := some true
def smithylaw15_ForkPlays.b1 (k : Nat) (y1 : List L34) (y2 : List ((List Int) × Int)) (t5 : (List (List Int))) (rec1 : Int → Option Bool) (y11 : Int) : Option Bool := if (decide (y11 < ((t5).length : Int))) = true then (if (0 : Int) ≤ y11 ∧ y11 < ((t5).length : Int) then ((smithyref15_Cache_At.f k (y1, y2) (gt t5 y11)).bind fun t10 => (if (decide (t10 < 0)) = true then (some false) else (rec1 (wr .i64 (y11 + 1))))) else none) else smithylaw15_ForkPlays.j4
def smithylaw15_ForkPlays.l1 (k : Nat) (y1 : List L34) (y2 : List ((List Int) × Int)) (t5 : (List (List Int))) : Nat → Int → Option Bool
  | 0, _ => none
  | q + 1, y11 => smithylaw15_ForkPlays.b1 k y1 y2 t5 (smithylaw15_ForkPlays.l1 k y1 y2 t5 q) y11
def smithylaw15_ForkPlays.j3 (k : Nat) (y1 : List L34) (y2 : List ((List Int) × Int)) (t5 : (List (List Int))) : Option Bool := smithylaw15_ForkPlays.l1 k y1 y2 t5 k 0
def smithylaw15_ForkPlays.b2 (k : Nat) (y1 : List L34) (y2 : List ((List Int) × Int)) (t4 : (List (List Int))) (t5 : (List (List Int))) (rec2 : Int → Option Bool) (y13 : Int) : Option Bool := if (decide (y13 < ((t4).length : Int))) = true then (if (0 : Int) ≤ y13 ∧ y13 < ((t4).length : Int) then (if (0 : Int) ≤ y13 ∧ y13 < ((y1).length : Int) then (if (!(decide ((gt y1 y13).1 = gt t4 y13))) = true then (some false) else (rec2 (wr .i64 (y13 + 1)))) else none) else none) else (smithylaw15_ForkPlays.j3 k y1 y2 t5)
def smithylaw15_ForkPlays.l2 (k : Nat) (y1 : List L34) (y2 : List ((List Int) × Int)) (t4 : (List (List Int))) (t5 : (List (List Int))) : Nat → Int → Option Bool
  | 0, _ => none
  | q + 1, y13 => smithylaw15_ForkPlays.b2 k y1 y2 t4 t5 (smithylaw15_ForkPlays.l2 k y1 y2 t4 t5 q) y13
def smithylaw15_ForkPlays.j2 (k : Nat) (y1 : List L34) (y2 : List ((List Int) × Int)) (t4 : (List (List Int))) (t5 : (List (List Int))) (y5 : Bool) : Option Bool := if y5 = true then (some false) else (smithylaw15_ForkPlays.l2 k y1 y2 t4 t5 k 0)
def smithylaw15_ForkPlays.j1 (k : Nat) (y1 : List L34) (y2 : List ((List Int) × Int)) (y3 : List ((List Int) × L34)) (y4 : List ((List Int) × Int)) : Option Bool := (fork_Cache_Known.f k (y3, y4)).bind fun t4 => ((fork_Cache_Fetched.f k (y3, y4)).bind fun t5 => (if (((t4).length : Int) != ((y1).length : Int)) = true then (smithylaw15_ForkPlays.j2 k y1 y2 t4 t5 true) else (if (((t5).length : Int) != ((y2).length : Int)) = true then (smithylaw15_ForkPlays.j2 k y1 y2 t4 t5 true) else ((smithylaw15_rising.f k t4).bind fun t11 => (if (!t11) = true then (smithylaw15_ForkPlays.j2 k y1 y2 t4 t5 true) else ((smithylaw15_rising.f k t5).bind fun t12 => (smithylaw15_ForkPlays.j2 k y1 y2 t4 t5 (!t12))))))))
def smithylaw15_ForkPlays.j8 (y41 : Int) (rec3 : Int → (List L34) → (List ((List Int) × Int)) → (List ((List Int) × L34)) → (List ((List Int) × Int)) → Option Bool) (y46 : List L34) (y47 : List ((List Int) × Int)) (y48 : List ((List Int) × L34)) (y49 : List ((List Int) × Int)) (y56 : Bool) : Option Bool := if y56 = true then (some false) else (rec3 (wr .i64 (y41 + 1)) y46 y47 y48 y49)
def smithylaw15_ForkPlays.j7 (k : Nat) (t13 : (List (Int × L34))) (y41 : Int) (rec3 : Int → (List L34) → (List ((List Int) × Int)) → (List ((List Int) × L34)) → (List ((List Int) × Int)) → Option Bool) (y46 : List L34) (y47 : List ((List Int) × Int)) (y48 : List ((List Int) × L34)) (y49 : List ((List Int) × Int)) (t20 : (L34) × Bool) (t21 : (L34) × Bool) (y50 : List Int) (y51 : Int) (y52 : List Int) (y53 : List Int) (y54 : List ((List Int) × (List Int))) (y55 : Int) : Option Bool := if (!(t20.2 == t21.2)) = true then (smithylaw15_ForkPlays.j8 y41 rec3 y46 y47 y48 y49 true) else ((smithyref13_Same.f k t20.1 (y50, y51, y52, y53, y54)).bind fun t25 => (if (!t25) = true then (smithylaw15_ForkPlays.j8 y41 rec3 y46 y47 y48 y49 true) else ((fork_Cache_Tries.f (y48, y49) (((gt t13 y41).2).1)).bind fun t26 => (smithylaw15_ForkPlays.j8 y41 rec3 y46 y47 y48 y49 (t26 != y55)))))
def smithylaw15_ForkPlays.j6 (k : Nat) (t13 : (List (Int × L34))) (y41 : Int) (rec3 : Int → (List L34) → (List ((List Int) × Int)) → (List ((List Int) × L34)) → (List ((List Int) × Int)) → Option Bool) (y46 : List L34) (y47 : List ((List Int) × Int)) (y48 : List ((List Int) × L34)) (y49 : List ((List Int) × Int)) (t20 : (L34) × Bool) (t21 : (L34) × Bool) (y50 : List Int) (y51 : Int) (y52 : List Int) (y53 : List Int) (y54 : List ((List Int) × (List Int))) : Option Bool := (smithyref15_Cache_At.f k (y46, y47) (((gt t13 y41).2).1)).bind fun t27 => (if (decide (0 ≤ t27)) = true then (if (0 : Int) ≤ t27 ∧ t27 < ((y47).length : Int) then (smithylaw15_ForkPlays.j7 k t13 y41 rec3 y46 y47 y48 y49 t20 t21 y50 y51 y52 y53 y54 ((gt y47 t27).2)) else none) else (smithylaw15_ForkPlays.j7 k t13 y41 rec3 y46 y47 y48 y49 t20 t21 y50 y51 y52 y53 y54 0))
def smithylaw15_ForkPlays.j5 (k : Nat) (t13 : (List (Int × L34))) (y41 : Int) (rec3 : Int → (List L34) → (List ((List Int) × Int)) → (List ((List Int) × L34)) → (List ((List Int) × Int)) → Option Bool) (y46 : List L34) (y47 : List ((List Int) × Int)) (y48 : List ((List Int) × L34)) (y49 : List ((List Int) × Int)) : Option Bool := (fork_Cache_Account.f (y48, y49) (((gt t13 y41).2).1)).bind fun t20 => ((smithyref13_Find.f k y46 (((gt t13 y41).2).1)).bind fun t21 => (if (!t21.2) = true then (smithylaw15_ForkPlays.j6 k t13 y41 rec3 y46 y47 y48 y49 t20 t21 (((gt t13 y41).2).1) 0 [0, 0, 0, 0] ([] : List Int) ([] : List ((List Int) × (List Int)))) else (smithylaw15_ForkPlays.j6 k t13 y41 rec3 y46 y47 y48 y49 t20 t21 t21.1.1 t21.1.2.1 t21.1.2.2.1 t21.1.2.2.2.1 t21.1.2.2.2.2)))
def smithylaw15_ForkPlays.b3 (k : Nat) (t13 : (List (Int × L34))) (rec3 : Int → (List L34) → (List ((List Int) × Int)) → (List ((List Int) × L34)) → (List ((List Int) × Int)) → Option Bool) (y41 : Int) (y42 : List L34) (y43 : List ((List Int) × Int)) (y44 : List ((List Int) × L34)) (y45 : List ((List Int) × Int)) : Option Bool := if (decide (y41 < ((t13).length : Int))) = true then (if (0 : Int) ≤ y41 ∧ y41 < ((t13).length : Int) then (if (((gt t13 y41).1) == 0) = true then ((smithyref15_Cache_Want.f k (y42, y43) (((gt t13 y41).2).1)).bind fun t28 => ((fork_Cache_Want.f (y44, y45) (((gt t13 y41).2).1)).bind fun t29 => (if (t29.1 != t28.1) = true then (some false) else (smithylaw15_ForkPlays.j5 k t13 y41 rec3 t28.2.1 t28.2.2 t29.2.1 t29.2.2)))) else (if (((gt t13 y41).1) == 1) = true then ((smithyref15_Cache_Fill.f k (y42, y43) ((gt t13 y41).2)).bind fun t30 => ((fork_Cache_Fill.f k (y44, y45) ((gt t13 y41).2)).bind fun t31 => (if (!(t31.1 == t30.1)) = true then (some false) else (smithylaw15_ForkPlays.j5 k t13 y41 rec3 t30.2.1 t30.2.2 t31.2.1 t31.2.2)))) else ((smithyref15_Cache_Fail.f k (y42, y43) (((gt t13 y41).2).1)).bind fun t32 => ((fork_Cache_Fail.f (y44, y45) (((gt t13 y41).2).1)).bind fun t33 => (if (t33.1 != t32.1) = true then (some false) else (smithylaw15_ForkPlays.j5 k t13 y41 rec3 t32.2.1 t32.2.2 t33.2.1 t33.2.2)))))) else none) else (smithylaw15_ForkPlays.j1 k y42 y43 y44 y45)
def smithylaw15_ForkPlays.l3 (k : Nat) (t13 : (List (Int × L34))) : Nat → Int → (List L34) → (List ((List Int) × Int)) → (List ((List Int) × L34)) → (List ((List Int) × Int)) → Option Bool
  | 0, _, _, _, _, _ => none
  | q + 1, y41, y42, y43, y44, y45 => smithylaw15_ForkPlays.b3 k t13 (smithylaw15_ForkPlays.l3 k t13 q) y41 y42 y43 y44 y45
def smithylaw15_ForkPlays.f (k : Nat) (x1 : List (Int × L34)) : Option Bool := (fork_New.f).bind fun t1 => ((smithylaw15_fixed.f k).bind fun t2 => (if (!t2) = true then (some false) else ((smithylaw15_cut.f k x1).bind fun t13 => (smithylaw15_ForkPlays.l3 k t13 k 0 ([] : List L34) ([] : List ((List Int) × Int)) t1.1 t1.2))))
theorem smithylaw15_ForkPlays.ok (k : Nat) : smithylaw15_ForkPlays.Ctr (smithylaw15_ForkPlays.f k) := by
 intro x1 ch_0_0 ch_0_1 r h0 mi w0 ok hm
 delta smithylaw15_ForkPlays.f at h0
 refine c_enterZ (n := 182) ok hm func5 rfl rfl rfl fun b0 hb a S => c_region (s_assign S rfl rfl fun a S => c_end (c_region (bindX h0 fun t1 et1 h1 => s_callX S (ds' := []) (ds := []) [] [] (fun (ch : Nat × Nat × Nat) => ((.v (.pointer (some ⟨ch.1, 0, none⟩))) : D)) (fun (ch : Nat × Nat × Nat) => [Res.cells ch.1 76 [.one (.map (some ch.2.1)), .one (.map (some ch.2.2))], Res.map true (Ty.arr .u8 20) true Y34 ch.2.1 t1.1, Res.map true (Ty.arr .u8 20) false yi ch.2.2 t1.2]) (fun (ch : Nat × Nat × Nat) => [Res.cells ch.1 76 [.one (.map (some ch.2.1)), .one (.map (some ch.2.2))], Res.map true (Ty.arr .u8 20) true Y34 ch.2.1 t1.1, Res.map true (Ty.arr .u8 20) false yi ch.2.2 t1.2]) (fun _ => rfl) N10 rfl rfl (fun ok => ok) .nil rfl (fork_New.ok t1 et1 _ _) fun ch1 m le1 a w S => s_assign S rfl rfl fun a S => c_end (c_region (s_bldS S (ds := []) (zs := [.s none 0 0, .s none 0 0]) (s' := [.s none 0 0, .s none 0 0]) rfl underlying51 P51 Z51 ⟨rfl, rfl, trivial⟩ rfl rfl fun a S => s_alloc S Z51 rfl ⟨rfl, rfl, trivial⟩ rfl fun g1 a w S => s_store S rfl rfl rfl (s' := [.s none 0 0, .s none 0 0]) .h T51 rfl rfl fun w S => c_end (wp_seq (c_region (s_move S rfl rfl fun a S => s_eqp S (b := false) rfl rfl underlying36 rfl rfl fun a S => s_move S rfl rfl fun a S => s_gT S (b := false) rfl rfl rfl (bindX h1 fun t2 et2 h2 => s_callP S _ N8 rfl rfl (smithylaw15_fixed.ok k t2 et2 _ _) fun ch2 m le1 a w S => s_gT S (b := false) rfl rfl rfl (s_not S rfl rfl fun a S => s_pick S (b := false) (hc_of rfl rfl) rfl rfl fun a S => c_end ?_))))))))))
 rcases ite_of h2 with ⟨c1, h3⟩ | ⟨c1, h3⟩
 ·refine c_condT S rfl c1 (c_region (s_assign S rfl rfl fun a S => c_end (wp_ret (x_thenR ?_))))
  obtain rfl := Option.some.inj h3
  exact b_ret1 (d := (.b false)) S rfl rfl (S.rt hb)
 ·refine c_condF S rfl c1 (wp_skip (x_thenN (wp_seq_k fun K1 hK1 => ?_)))
  have j1 : ∀ m g68 g69 A1 cp1 y1 A2 cp2 y2 g70 y3 g71 y4 a w, St 182 m b0 [(4, (.p g68)), (3, (.p g69))] [Res.cells g68 51 [.q Y34 A1 cp1 y1, .q Y66 A2 cp2 y2], Res.cells g69 76 [.one (.map (some g70)), .one (.map (some g71))], Res.map true (Ty.arr .u8 20) true Y34 g70 y3, Res.map true (Ty.arr .u8 20) false yi g71 y4] a w → smithylaw15_ForkPlays.j1 k y1 y2 y3 y4 = some r → K1 a w := by
   intro m g68 g69 A1 cp1 y1 A2 cp2 y2 g70 y3 g71 y4 a w S h0
   delta smithylaw15_ForkPlays.j1 at h0
   refine hK1 a w (c_region (s_move S rfl rfl fun a S => bindX h0 fun t4 et4 h1 => s_callX S (ds' := [(.p g69)]) (ds := [(.p g69)]) [Res.cells g69 76 [.one (.map (some g70)), .one (.map (some g71))], Res.map true (Ty.arr .u8 20) true Y34 g70 y3, Res.map true (Ty.arr .u8 20) false yi g71 y4] [Res.cells g68 51 [.q Y34 A1 cp1 y1, .q Y66 A2 cp2 y2]] (fun (ch : (Option Addr) × Nat × Nat) => ((.s ch.1 ch.2.1 ch.2.2) : D)) (fun (ch : (Option Addr) × Nat × Nat) => [Res.row (Ty.arr .u8 20) 28 ch.1 ch.2.1 ch.2.2 t4, Res.cells g69 76 [.one (.map (some g70)), .one (.map (some g71))], Res.map true (Ty.arr .u8 20) true Y34 g70 y3, Res.map true (Ty.arr .u8 20) false yi g71 y4]) (fun (ch : (Option Addr) × Nat × Nat) => [Res.row (Ty.arr .u8 20) 28 ch.1 ch.2.1 ch.2.2 t4, Res.cells g69 76 [.one (.map (some g70)), .one (.map (some g71))], Res.map true (Ty.arr .u8 20) true Y34 g70 y3, Res.map true (Ty.arr .u8 20) false yi g71 y4, Res.cells g68 51 [.q Y34 A1 cp1 y1, .q Y66 A2 cp2 y2]]) (fun _ => rfl) N26 rfl rfl (fun ok => ok) (.c1 (.c1 (.c1 (.c0 .n)))) rfl (fork_Cache_Known.ok k (y3, y4) g69 g70 g71 t4 et4 _ _) fun ch3 m le1 a w S => s_move S rfl rfl fun a S => bindX h1 fun t5 et5 h2 => s_callX S (ds' := [(.p g69)]) (ds := [(.p g69)]) [Res.cells g69 76 [.one (.map (some g70)), .one (.map (some g71))], Res.map true (Ty.arr .u8 20) true Y34 g70 y3, Res.map true (Ty.arr .u8 20) false yi g71 y4] [Res.row (Ty.arr .u8 20) 28 ch3.1 ch3.2.1 ch3.2.2 t4, Res.cells g68 51 [.q Y34 A1 cp1 y1, .q Y66 A2 cp2 y2]] (fun (ch : (Option Addr) × Nat × Nat) => ((.s ch.1 ch.2.1 ch.2.2) : D)) (fun (ch : (Option Addr) × Nat × Nat) => [Res.row (Ty.arr .u8 20) 28 ch.1 ch.2.1 ch.2.2 t5, Res.cells g69 76 [.one (.map (some g70)), .one (.map (some g71))], Res.map true (Ty.arr .u8 20) true Y34 g70 y3, Res.map true (Ty.arr .u8 20) false yi g71 y4]) (fun (ch : (Option Addr) × Nat × Nat) => [Res.row (Ty.arr .u8 20) 28 ch.1 ch.2.1 ch.2.2 t5, Res.cells g69 76 [.one (.map (some g70)), .one (.map (some g71))], Res.map true (Ty.arr .u8 20) true Y34 g70 y3, Res.map true (Ty.arr .u8 20) false yi g71 y4, Res.row (Ty.arr .u8 20) 28 ch3.1 ch3.2.1 ch3.2.2 t4, Res.cells g68 51 [.q Y34 A1 cp1 y1, .q Y66 A2 cp2 y2]]) (fun _ => rfl) N27 rfl rfl (fun ok => ok) (.c1 (.c1 (.c1 (.c0 (.c0 .n))))) rfl (fork_Cache_Fetched.ok k (y3, y4) g69 g70 g71 t5 et5 _ _) fun ch4 m le1 a w S => s_assign S rfl rfl fun a S => s_assign S rfl rfl fun a S => c_end (wp_seq (wp_seq_k fun K2 hK2 => ?_))))
   have j2 : ∀ m A3 cp3 A4 cp4 y5 g72 a w, St 182 m b0 [(17, (.q (Ty.arr .u8 20) A3 cp3 t4)), (18, (.q (Ty.arr .u8 20) A4 cp4 t5)), (154, (.b y5)), (4, (.p g72))] [Res.cells g72 51 [.q Y34 A1 cp1 y1, .q Y66 A2 cp2 y2]] a w → smithylaw15_ForkPlays.j2 k y1 y2 t4 t5 y5 = some r → K2 a w := by
    intro m A3 cp3 A4 cp4 y5 g72 a w S h0
    delta smithylaw15_ForkPlays.j2 at h0
    refine hK2 a w ?_
    rcases ite_of h0 with ⟨c2, h1⟩ | ⟨c2, h1⟩
    ·refine c_condT S rfl c2 (c_region (s_assign S rfl rfl fun a S => c_end (wp_ret (x_thenR ?_))))
     obtain rfl := Option.some.inj h1
     exact b_ret1 (d := (.b false)) S rfl rfl (S.rt hb)
    ·refine c_condF S rfl c2 (wp_skip (x_thenN (wp_seq_k fun K3 hK3 => ?_)))
     have j3 : ∀ m g78 a w, St 182 m b0 [(18, (.q (Ty.arr .u8 20) A4 cp4 t5)), (4, (.p g78))] [Res.cells g78 51 [.q Y34 A1 cp1 y1, .q Y66 A2 cp2 y2]] a w → smithylaw15_ForkPlays.j3 k y1 y2 t5 = some r → K3 a w := by
      intro m g78 a w S h0
      delta smithylaw15_ForkPlays.j3 at h0
      refine hK3 a w (wp_seq_k fun K4 hK4 => ?_)
      have j4 : ∀ m a w, St 182 m b0 [] [] a w → smithylaw15_ForkPlays.j4 = some r → K4 a w := by
       intro m a w S h0
       delta smithylaw15_ForkPlays.j4 at h0
       refine hK4 a w (c_region (s_assign S rfl rfl fun a S => c_end (wp_ret ?_)))
       obtain rfl := Option.some.inj h0
       exact b_ret1 (d := (.b true)) S rfl rfl (S.rt hb)
      refine c_region (s_move S rfl rfl fun a S => s_lenS S rfl underlying23 rfl fun a S => s_move S rfl rfl fun a S => c_end (wp_block ?_))
      refine c_loop (fun q1 a w => ∃ m y11 g88, St 182 m b0 [(173, (.i y11)), (172, (.i ((t5).length : Int))), (171, (.q (Ty.arr .u8 20) A4 cp4 t5)), (4, (.p g88))] [Res.cells g88 51 [.q Y34 A1 cp1 y1, .q Y66 A2 cp2 y2]] a w ∧ smithylaw15_ForkPlays.l1 k y1 y2 t5 q1 y11 = some r) ?_ ?_ (k := k) ⟨_, 0, g78, (S.sb rfl (.c0 .n)), h0⟩
      ·rintro a w ⟨m, y11, g88, S, h0⟩
       exact (nomatch (show (none : Option Bool) = some r from h0))
      ·clear S h0
       rintro q1 a w ⟨m, y11, g88, S, h0⟩
       replace h0 : smithylaw15_ForkPlays.b1 k y1 y2 t5 (smithylaw15_ForkPlays.l1 k y1 y2 t5 q1) y11 = some r := h0
       delta smithylaw15_ForkPlays.b1 at h0
       refine c_region (s_bin S rfl rfl rfl rfl fun a S => c_end (wp_seq ?_))
       rcases ite_of h0 with ⟨c3, h1⟩ | ⟨c3, h1⟩
       ·refine c_condT S rfl c3 (wp_skip (x_thenN (wp_seq (wp_block (c_region ?_)))))
        obtain ⟨c4, h2⟩ := chk_of h1; clear h1
        refine s_iaddrS S rfl rfl rfl underlying23 T28 c4.1 c4.2 rfl fun p1 a S => s_ldA S (fun (c : Unit) => [.b20 (gt t5 y11)]) rfl T28 (fun _ => rfl) rfl fun ch5 a S => ?_
        refine s_alloc S Z28 rfl ⟨rfl, trivial⟩ rfl fun g89 a w S => s_store S rfl rfl rfl (s' := [.b20 (gt t5 y11)]) .h T28 rfl rfl fun w S => c_end (c_region (s_loada S rfl .h1 T51 (s' := [.q Y34 A1 cp1 y1, .q Y66 A2 cp2 y2]) rfl rfl fun a S => s_loada S rfl .h T28 (s' := [.b20 (gt t5 y11)]) rfl rfl fun a S => bindX h2 fun t10 et10 h3 => s_callP S _ N24 rfl rfl (smithyref15_Cache_At.ok k (y1, y2) (gt t5 y11) A1 cp1 A2 cp2 t10 et10 _ _) fun ch6 m le1 a w S => s_bin S rfl rfl rfl rfl fun a S => c_end ?_))
        rcases ite_of h3 with ⟨c5, h4⟩ | ⟨c5, h4⟩
        ·refine c_condT S rfl c5 (c_region (s_assign S rfl rfl fun a S => c_end (wp_ret (x_blockR (x_thenR (x_thenR (x_blockR (x_thenR ?_))))))))
         obtain rfl := Option.some.inj h4
         exact b_ret1 (d := (.b false)) S rfl rfl (S.rt hb)
        ·refine c_condF S rfl c5 (wp_skip (x_blockN (x_thenN (c_region' (s_bin S rfl rfl rfl rfl fun a S => s_move S rfl rfl fun a S => c_end' (x_thenN ?_))))))
         exact ⟨_, (wr .i64 (y11 + 1)), g88, (S.sb rfl (.c1 .n)), h4⟩
       ·refine c_condF S rfl c3 (wp_exit (x_thenX (x_thenX (x_blockX (x_thenN ?_)))))
        exact j4 _ a w (S.sub trivial .nil) h1
     refine c_region (s_move S rfl rfl fun a S => s_lenS S rfl underlying23 rfl fun a S => s_move S rfl rfl fun a S => c_end (wp_block ?_))
     refine c_loop (fun q2 a w => ∃ m y13 g94, St 182 m b0 [(157, (.i y13)), (156, (.i ((t4).length : Int))), (155, (.q (Ty.arr .u8 20) A3 cp3 t4)), (18, (.q (Ty.arr .u8 20) A4 cp4 t5)), (4, (.p g94))] [Res.cells g94 51 [.q Y34 A1 cp1 y1, .q Y66 A2 cp2 y2]] a w ∧ smithylaw15_ForkPlays.l2 k y1 y2 t4 t5 q2 y13 = some r) ?_ ?_ (k := k) ⟨_, 0, g72, (S.sb rfl (.c0 .n)), h1⟩
     ·rintro a w ⟨m, y13, g94, S, h0⟩
      exact (nomatch (show (none : Option Bool) = some r from h0))
     ·clear S h1
      rintro q2 a w ⟨m, y13, g94, S, h0⟩
      replace h0 : smithylaw15_ForkPlays.b2 k y1 y2 t4 t5 (smithylaw15_ForkPlays.l2 k y1 y2 t4 t5 q2) y13 = some r := h0
      delta smithylaw15_ForkPlays.b2 at h0
      refine c_region (s_bin S rfl rfl rfl rfl fun a S => c_end (wp_seq ?_))
      rcases ite_of h0 with ⟨c6, h1⟩ | ⟨c6, h1⟩
      ·refine c_condT S rfl c6 (wp_skip (x_thenN (wp_seq (wp_block (c_region (s_move S rfl rfl fun a S => ?_))))))
       obtain ⟨c7, h2⟩ := chk_of h1; clear h1
       refine s_iaddrS S rfl rfl rfl underlying23 T28 c7.1 c7.2 rfl fun p6 a S => s_ldA S (fun (c : Unit) => [.b20 (gt t4 y13)]) rfl T28 (fun _ => rfl) rfl fun ch7 a S => ?_
       refine s_alloc S Z28 rfl ⟨rfl, trivial⟩ rfl fun g95 a w S => s_assign S rfl rfl fun a S => s_store S rfl rfl rfl (s' := [.b20 (gt t4 y13)]) .h T28 rfl rfl fun w S => c_end ?_
       refine wp_seq (c_heldS S (.take 0 (.take 1 (.take 2 (.take 3 (.take 4 (.take 5 (.take 6 (.take 7 .done)))))))) 8 [Res.cells g95 28 [.b20 (gt t4 y13)], Res.cells g94 51 [.q Y34 A1 cp1 y1, .q Y66 A2 cp2 y2]] (.c0 (.c0 .n)) ⟨Res.stay_cells, Res.stay_cells, trivial⟩ [(19, (.i y13)), (20, (.p g95)), (4, (.p g94))] (subR rfl) (by kernel_rfl) (by kernel_rfl) ?_); clear S; intro w S CL hw le
       refine h_fieldAddr S CL hw le (subR rfl) rfl I51_0 T22 (by decide) rfl rfl rfl trivial fun a S CL => h_loadSl S CL hw le (subR rfl) rfl .h1 T22 (A := A1) (len := (y1).length) (cap := cp1) rfl rfl rfl trivial fun a S CL => h_move S CL hw le (subR rfl) rfl rfl rfl trivial fun a S CL => ?_
       obtain ⟨c8, h3⟩ := chk_of h2; clear h2
       refine h_iaddrS S CL hw le (subR rfl) rfl rfl rfl underlying22 T34 c8.1 c8.2 rfl rfl trivial fun p7 a S CL => h_faddrP S CL hw le (subR rfl) (tF := (Ty.arr .u8 20)) (y := (gt y1 y13).1) rfl I34_0 T28 (by decide) (fun m h => (at_fst (at_0 h))) rfl rfl trivial fun a S CL => h_ldA S CL hw le (subR rfl) (fun (c : Unit) => [.b20 ((gt y1 y13).1)]) rfl T28 (fun _ => rfl) rfl rfl trivial fun ch8 a S CL => ?_
       refine h_loada S CL hw le (subR rfl) rfl .h T28 (s' := [.b20 (gt t4 y13)]) rfl rfl rfl trivial fun a S CL => h_nea S CL hw le (subR rfl) rfl rfl underlying28 underlying5 T5 Q28 rfl rfl trivial fun a S CL => ?_
       refine h_done ?_; clear CL hw le
       refine x_thenN ?_
       rcases ite_of h3 with ⟨c9, h4⟩ | ⟨c9, h4⟩
       ·refine c_condT S rfl c9 (c_region (s_assign S rfl rfl fun a S => c_end (wp_ret (x_blockR (x_thenR (x_thenR (x_blockR (x_thenR ?_))))))))
        obtain rfl := Option.some.inj h4
        exact b_ret1 (d := (.b false)) S rfl rfl (S.rt hb)
       ·refine c_condF S rfl c9 (wp_skip (x_blockN (x_thenN (c_region' (s_bin S rfl rfl rfl rfl fun a S => s_move S rfl rfl fun a S => c_end' (x_thenN ?_))))))
        exact ⟨_, (wr .i64 (y13 + 1)), g94, (S.sb rfl (.c1 .n)), h4⟩
      ·refine c_condF S rfl c6 (wp_exit (x_thenX (x_thenX (x_blockX (x_thenN ?_)))))
       exact j3 _ g94 a w (S.sb rfl (.c0 .n)) h1
   refine c_region' (s_move S rfl rfl fun a S => s_lenO S rfl .h4 underlying23 rfl fun a S => s_fieldAddr S rfl I51_0 T22 (by decide) rfl rfl fun a S => s_loadSl S rfl .h5 T22 (A := A1) (len := (y1).length) (cap := cp1) rfl rfl fun a S => s_lenS S rfl underlying22 rfl fun a S => s_bin S rfl rfl rfl rfl fun a S => s_move S rfl rfl fun a S => ?_)
   rcases ite_of h2 with ⟨c10, h3⟩ | ⟨c10, h3⟩
   ·refine s_gF S (b := (((t4).length : Int) != ((y1).length : Int))) rfl rfl c10 rfl fun a S => s_gF S (b := (((t4).length : Int) != ((y1).length : Int))) rfl rfl c10 rfl fun a S => s_gF S (b := (((t4).length : Int) != ((y1).length : Int))) rfl rfl c10 rfl fun a S => s_gF S (b := (((t4).length : Int) != ((y1).length : Int))) rfl rfl c10 rfl fun a S => s_gF S (b := (((t4).length : Int) != ((y1).length : Int))) rfl rfl c10 rfl fun a S => s_gF S (b := (((t4).length : Int) != ((y1).length : Int))) rfl rfl c10 rfl fun a S => s_pick S (b := true) (hc_of rfl c10) rfl rfl fun a S => s_move S rfl rfl fun a S => s_gF S (b := true) rfl rfl rfl rfl fun a S => s_gF S (b := true) rfl rfl rfl rfl fun a S => s_gF S (b := true) rfl rfl rfl rfl fun a S => s_pick S (b := true) (hc_of rfl rfl) rfl rfl fun a S => s_move S rfl rfl fun a S => s_gF S (b := true) rfl rfl rfl rfl fun a S => s_gF S (b := true) rfl rfl rfl rfl fun a S => s_gF S (b := true) rfl rfl rfl rfl fun a S => s_pick S (b := true) (hc_of rfl rfl) rfl rfl fun a S => c_end' (x_thenN ?_)
    replace S := S.rowfro .h4
    obtain ⟨m, le1, S, hro⟩ := S
    replace S := S.slotro (u := 131) rfl hro
    replace S := S.slotro (u := 17) rfl hro
    replace S := S.slotro (u := 128) rfl hro
    replace S := S.rowfro .h
    obtain ⟨m, le1, S, hro⟩ := S
    replace S := S.slotro (u := 18) rfl hro
    replace S := S.slotro (u := 130) rfl hro
    exact j2 _ ch3.1 ch3.2.2 ch4.1 ch4.2.2 true g68 a w (S.sb rfl (.c3 .n)) h3
   ·refine s_gT S (b := (((t4).length : Int) != ((y1).length : Int))) rfl rfl c10 (s_move S rfl rfl fun a S => s_gT S (b := (((t4).length : Int) != ((y1).length : Int))) rfl rfl c10 (s_lenO S rfl .h underlying23 rfl fun a S => s_gT S (b := (((t4).length : Int) != ((y1).length : Int))) rfl rfl c10 (s_fieldAddr S rfl I51_1 T49 (by decide) rfl rfl fun a S => s_gT S (b := (((t4).length : Int) != ((y1).length : Int))) rfl rfl c10 (s_loadSl S rfl .h5 T49 (A := A2) (len := (y2).length) (cap := cp2) rfl rfl fun a S => s_gT S (b := (((t4).length : Int) != ((y1).length : Int))) rfl rfl c10 (s_lenS S rfl underlying49 rfl fun a S => s_gT S (b := (((t4).length : Int) != ((y1).length : Int))) rfl rfl c10 (s_bin S rfl rfl rfl rfl fun a S => s_pick S (b := false) (hc_of rfl c10) rfl rfl fun a S => s_move S rfl rfl fun a S => ?_))))))
    rcases ite_of h3 with ⟨c11, h4⟩ | ⟨c11, h4⟩
    ·refine s_gF S (b := (((t5).length : Int) != ((y2).length : Int))) rfl rfl c11 rfl fun a S => s_gF S (b := (((t5).length : Int) != ((y2).length : Int))) rfl rfl c11 rfl fun a S => s_gF S (b := (((t5).length : Int) != ((y2).length : Int))) rfl rfl c11 rfl fun a S => s_pick S (b := true) (hc_of rfl c11) rfl rfl fun a S => s_move S rfl rfl fun a S => s_gF S (b := true) rfl rfl rfl rfl fun a S => s_gF S (b := true) rfl rfl rfl rfl fun a S => s_gF S (b := true) rfl rfl rfl rfl fun a S => s_pick S (b := true) (hc_of rfl rfl) rfl rfl fun a S => c_end' (x_thenN ?_)
     replace S := S.rowfro .h4
     obtain ⟨m, le1, S, hro⟩ := S
     replace S := S.slotro (u := 131) rfl hro
     replace S := S.slotro (u := 17) rfl hro
     replace S := S.slotro (u := 128) rfl hro
     replace S := S.rowfro .h
     obtain ⟨m, le1, S, hro⟩ := S
     replace S := S.slotro (u := 138) rfl hro
     replace S := S.slotro (u := 18) rfl hro
     replace S := S.slotro (u := 130) rfl hro
     exact j2 _ ch3.1 ch3.2.2 ch4.1 ch4.2.2 true g68 a w (S.sb rfl (.c3 .n)) h4
    ·refine s_gT S (b := (((t5).length : Int) != ((y2).length : Int))) rfl rfl c11 (s_move S rfl rfl fun a S => s_gT S (b := (((t5).length : Int) != ((y2).length : Int))) rfl rfl c11 ?_)
     replace S := S.rowfro .h4
     obtain ⟨m, le1, S, hro⟩ := S
     replace S := S.slotro (u := 146) rfl hro
     replace S := S.slotro (u := 131) rfl hro
     replace S := S.slotro (u := 17) rfl hro
     replace S := S.slotro (u := 128) rfl hro
     refine bindX h4 fun t11 et11 h5 => s_callP S _ N28 rfl rfl (smithylaw15_rising.ok k t4 ch3.1 ch3.2.2 t11 et11 _ _) fun ch9 m le1 a w S => s_gT S (b := (((t5).length : Int) != ((y2).length : Int))) rfl rfl c11 (s_not S rfl rfl fun a S => s_pick S (b := false) (hc_of rfl c11) rfl rfl fun a S => s_move S rfl rfl fun a S => ?_)
     rcases ite_of h5 with ⟨c12, h6⟩ | ⟨c12, h6⟩
     ·refine s_gF S (b := (!t11)) rfl rfl c12 rfl fun a S => s_gF S (b := (!t11)) rfl rfl c12 rfl fun a S => s_gF S (b := (!t11)) rfl rfl c12 rfl fun a S => s_pick S (b := true) (hc_of rfl c12) rfl rfl fun a S => c_end' (x_thenN ?_)
      replace S := S.rowfro .h
      obtain ⟨m, le1, S, hro⟩ := S
      replace S := S.slotro (u := 138) rfl hro
      replace S := S.slotro (u := 18) rfl hro
      replace S := S.slotro (u := 130) rfl hro
      exact j2 _ ch3.1 ch3.2.2 ch4.1 ch4.2.2 true g68 a w (S.sb rfl (.c3 .n)) h6
     ·refine s_gT S (b := (!t11)) rfl rfl c12 (s_move S rfl rfl fun a S => s_gT S (b := (!t11)) rfl rfl c12 ?_)
      replace S := S.rowfro .h
      obtain ⟨m, le1, S, hro⟩ := S
      replace S := S.slotro (u := 151) rfl hro
      replace S := S.slotro (u := 138) rfl hro
      replace S := S.slotro (u := 18) rfl hro
      replace S := S.slotro (u := 130) rfl hro
      refine bindX h6 fun t12 et12 h7 => s_callP S _ N28 rfl rfl (smithylaw15_rising.ok k t5 ch4.1 ch4.2.2 t12 et12 _ _) fun ch10 m le1 a w S => s_gT S (b := (!t11)) rfl rfl c12 (s_not S rfl rfl fun a S => s_pick S (b := false) (hc_of rfl c12) rfl rfl fun a S => c_end' (x_thenN ?_))
      exact j2 _ ch3.1 ch3.2.2 ch4.1 ch4.2.2 (!t12) g68 a w (S.sb rfl (.c3 .n)) h7
  refine c_region (s_move S rfl rfl fun a S => bindX h3 fun t13 et13 h4 => s_callP S _ N22 rfl rfl (smithylaw15_cut.ok k x1 ch_0_0 ch_0_1 t13 et13 _ _) fun ch11 m le1 a w S => s_lenS S rfl underlying60 rfl fun a S => s_move S rfl rfl fun a S => c_end (wp_block ?_))
  replace S := S.cellro (s' := [.q Y34 none 0 ([] : List L34), .s none 0 0]) .h rfl (fun h => ⟨ok_nil, h.2.1, trivial⟩)
  replace S := S.cellro (s' := [.q Y34 none 0 ([] : List L34), .q Y66 none 0 ([] : List ((List Int) × Int))]) .h rfl (fun h => ⟨h.1, ok_nil, trivial⟩)
  refine c_loop (fun q3 a w => ∃ m y41 A5 cp13 g158 g159 A6 cp14 y42 A7 cp15 y43 g160 y44 g161 y45, St 182 m b0 [(34, (.i y41)), (33, (.i ((t13).length : Int))), (32, (.q (Ty.prod yi Y34) A5 cp13 t13)), (4, (.p g158)), (3, (.p g159))] [Res.cells g158 51 [.q Y34 A6 cp14 y42, .q Y66 A7 cp15 y43], Res.cells g159 76 [.one (.map (some g160)), .one (.map (some g161))], Res.map true (Ty.arr .u8 20) true Y34 g160 y44, Res.map true (Ty.arr .u8 20) false yi g161 y45] a w ∧ smithylaw15_ForkPlays.l3 k t13 q3 y41 y42 y43 y44 y45 = some r) ?_ ?_ (k := k) ⟨_, 0, ch11.1, ch11.2, g1, ch1.1, none, 0, ([] : List L34), none, 0, ([] : List ((List Int) × Int)), ch1.2.1, t1.1, ch1.2.2, t1.2, (S.sb rfl (.c0 (.c0 (.c0 (.c0 .n))))), h4⟩
  ·rintro a w ⟨m, y41, A5, cp13, g158, g159, A6, cp14, y42, A7, cp15, y43, g160, y44, g161, y45, S, h0⟩
   exact (nomatch (show (none : Option Bool) = some r from h0))
  ·clear S h4
   rintro q3 a w ⟨m, y41, A5, cp13, g158, g159, A6, cp14, y42, A7, cp15, y43, g160, y44, g161, y45, S, h0⟩
   replace h0 : smithylaw15_ForkPlays.b3 k t13 (smithylaw15_ForkPlays.l3 k t13 q3) y41 y42 y43 y44 y45 = some r := h0
   delta smithylaw15_ForkPlays.b3 at h0
   refine c_region (s_bin S rfl rfl rfl rfl fun a S => c_end (wp_seq ?_))
   rcases ite_of h0 with ⟨c13, h1⟩ | ⟨c13, h1⟩
   ·refine c_condT S rfl c13 (wp_skip (x_thenN (wp_seq (wp_block (c_region ?_)))))
    obtain ⟨c14, h2⟩ := chk_of h1; clear h1
    refine s_iaddrS S rfl rfl rfl underlying60 T63 c14.1 c14.2 rfl fun p8 a S => s_ldA S (fun (c : Unit × (Unit × Unit × Unit × (Option Addr × Nat) × (Option Addr × Nat))) => [.i ((gt t13 y41).1), .b20 (((gt t13 y41).2).1), .w (((gt t13 y41).2).2.1), .w4 (((gt t13 y41).2).2.2.1), .q yb c.2.2.2.2.1.1 c.2.2.2.2.1.2 (((gt t13 y41).2).2.2.2.1), .q Y71 c.2.2.2.2.2.1 c.2.2.2.2.2.2 (((gt t13 y41).2).2.2.2.2)]) rfl T63 (fun _ => rfl) rfl fun ch12 a S => ?_
    refine s_alloc S Z63 rfl ⟨rfl, rfl, rfl, rfl, rfl, rfl, trivial⟩ rfl fun g162 a w S => s_store S rfl rfl rfl (s' := [.i ((gt t13 y41).1), .b20 (((gt t13 y41).2).1), .w (((gt t13 y41).2).2.1), .w4 (((gt t13 y41).2).2.2.1), .q yb ch12.2.2.2.2.1.1 ch12.2.2.2.2.1.2 (((gt t13 y41).2).2.2.2.1), .q Y71 ch12.2.2.2.2.2.1 ch12.2.2.2.2.2.2 (((gt t13 y41).2).2.2.2.2)]) .h T63 rfl rfl fun w S => c_end (c_region (s_fieldAddr S rfl I63_1 T34 (by decide) rfl rfl fun a S => s_fieldAddr S rfl I34_0 T28 (by decide) rfl rfl fun a S => s_loada S rfl .h T28 (s' := [.b20 (((gt t13 y41).2).1)]) rfl rfl fun a S => s_alloc S Z28 rfl ⟨rfl, trivial⟩ rfl fun g163 a w S => s_store S rfl rfl rfl (s' := [.b20 (((gt t13 y41).2).1)]) .h T28 rfl rfl fun w S => c_end (wp_seq_k fun K5 hK5 => ?_)))
    have j5 : ∀ m g164 g165 g166 A8 cp16 y46 A9 cp17 y47 g167 y48 g168 y49 a w, St 182 m b0 [(7, (.p g164)), (34, (.i y41)), (33, (.i ((t13).length : Int))), (32, (.q (Ty.prod yi Y34) A5 cp13 t13)), (4, (.p g165)), (3, (.p g166))] [Res.cells g166 76 [.one (.map (some g167)), .one (.map (some g168))], Res.map true (Ty.arr .u8 20) true Y34 g167 y48, Res.map true (Ty.arr .u8 20) false yi g168 y49, Res.cells g164 28 [.b20 (((gt t13 y41).2).1)], Res.cells g165 51 [.q Y34 A8 cp16 y46, .q Y66 A9 cp17 y47]] a w → smithylaw15_ForkPlays.j5 k t13 y41 (smithylaw15_ForkPlays.l3 k t13 q3) y46 y47 y48 y49 = some r → K5 a w := by
     intro m g164 g165 g166 A8 cp16 y46 A9 cp17 y47 g167 y48 g168 y49 a w S h0
     delta smithylaw15_ForkPlays.j5 at h0
     refine hK5 a w (c_region (s_move S rfl rfl fun a S => s_loada S rfl .h3 T28 (s' := [.b20 (((gt t13 y41).2).1)]) rfl rfl fun a S => bindX h0 fun t20 et20 h1 => s_callX S (ds' := [(.p g166), (.agg [.b20 (((gt t13 y41).2).1)])]) (ds := [(.p g166), (.agg [.b20 (((gt t13 y41).2).1)])]) [Res.cells g166 76 [.one (.map (some g167)), .one (.map (some g168))], Res.map true (Ty.arr .u8 20) true Y34 g167 y48, Res.map true (Ty.arr .u8 20) false yi g168 y49] [Res.cells g164 28 [.b20 (((gt t13 y41).2).1)], Res.cells g165 51 [.q Y34 A8 cp16 y46, .q Y66 A9 cp17 y47]] (fun (ch : (Option Addr) × Nat × Nat × (Option Addr) × Nat × Nat) => ((.tup [(true, [.b20 t20.1.1, .w t20.1.2.1, .w4 t20.1.2.2.1, .s ch.1 ch.2.1 ch.2.2.1, .s ch.2.2.2.1 ch.2.2.2.2.1 ch.2.2.2.2.2]), (false, [.b t20.2])]) : D)) (fun (ch : (Option Addr) × Nat × Nat × (Option Addr) × Nat × Nat) => [Res.row yb 5 ch.1 ch.2.1 ch.2.2.1 t20.1.2.2.2.1, Res.row Y71 71 ch.2.2.2.1 ch.2.2.2.2.1 ch.2.2.2.2.2 t20.1.2.2.2.2, Res.cells g166 76 [.one (.map (some g167)), .one (.map (some g168))], Res.map true (Ty.arr .u8 20) true Y34 g167 y48, Res.map true (Ty.arr .u8 20) false yi g168 y49]) (fun (ch : (Option Addr) × Nat × Nat × (Option Addr) × Nat × Nat) => [Res.row yb 5 ch.1 ch.2.1 ch.2.2.1 t20.1.2.2.2.1, Res.row Y71 71 ch.2.2.2.1 ch.2.2.2.2.1 ch.2.2.2.2.2 t20.1.2.2.2.2, Res.cells g166 76 [.one (.map (some g167)), .one (.map (some g168))], Res.map true (Ty.arr .u8 20) true Y34 g167 y48, Res.map true (Ty.arr .u8 20) false yi g168 y49, Res.cells g164 28 [.b20 (((gt t13 y41).2).1)], Res.cells g165 51 [.q Y34 A8 cp16 y46, .q Y66 A9 cp17 y47]]) (fun _ => rfl) N15 rfl rfl (fun ok => ok) (.c0 (.c0 (.c0 (.c0 (.c0 .n))))) rfl (fork_Cache_Account.ok (y48, y49) (((gt t13 y41).2).1) g166 g167 g168 t20 et20 _ _) fun ch19 m le1 a w S => s_move S rfl rfl fun a S => s_extract S rfl rfl rfl rfl fun a S => s_extract S rfl rfl rfl rfl fun a S => s_alloc S Z34 rfl ⟨rfl, rfl, rfl, rfl, rfl, trivial⟩ rfl fun g169 a w S => s_store S rfl rfl rfl (s' := [.b20 t20.1.1, .w t20.1.2.1, .w4 t20.1.2.2.1, .s ch19.1 ch19.2.1 ch19.2.2.1, .s ch19.2.2.2.1 ch19.2.2.2.2.1 ch19.2.2.2.2.2]) .h T34 rfl rfl fun w S => s_assign S rfl rfl fun a S => c_end (c_region (s_fieldAddr S rfl I51_0 T22 (by decide) rfl rfl fun a S => s_loadSl S rfl .h7 T22 (A := A8) (len := (y46).length) (cap := cp16) rfl rfl fun a S => s_loada S rfl .h6 T28 (s' := [.b20 (((gt t13 y41).2).1)]) rfl rfl fun a S => bindX h1 fun t21 et21 h2 => s_callP S _ N11 rfl rfl (smithyref13_Find.ok k y46 (((gt t13 y41).2).1) A8 cp16 t21 et21 _ _) fun ch20 m le1 a w S => s_move S rfl rfl fun a S => s_extract S rfl rfl rfl rfl fun a S => s_extract S rfl rfl rfl rfl fun a S => s_alloc S Z34 rfl ⟨rfl, rfl, rfl, rfl, rfl, trivial⟩ rfl fun g170 a w S => s_store S rfl rfl rfl (s' := [.b20 t21.1.1, .w t21.1.2.1, .w4 t21.1.2.2.1, .q yb ch20.1 ch20.2.1 t21.1.2.2.2.1, .q Y71 ch20.2.2.1 ch20.2.2.2 t21.1.2.2.2.2]) .h T34 rfl rfl fun w S => s_assign S rfl rfl fun a S => c_end (wp_seq_k fun K6 hK6 => ?_)))))
     have j6 : ∀ m g171 g172 g173 g174 g175 y50 y51 y52 A10 cp18 y53 A11 cp19 y54 A12 nn1 cp20 A13 nn2 cp21 g176 g177 a w, St 182 m b0 [(14, (.b t21.2)), (13, (.p g171)), (12, (.b t20.2)), (11, (.p g172)), (7, (.p g173)), (34, (.i y41)), (33, (.i ((t13).length : Int))), (32, (.q (Ty.prod yi Y34) A5 cp13 t13)), (4, (.p g174)), (3, (.p g175))] [Res.cells g171 34 [.b20 y50, .w y51, .w4 y52, .q yb A10 cp18 y53, .q Y71 A11 cp19 y54], Res.cells g172 34 [.b20 t20.1.1, .w t20.1.2.1, .w4 t20.1.2.2.1, .s A12 nn1 cp20, .s A13 nn2 cp21], Res.row yb 5 A12 nn1 cp20 t20.1.2.2.2.1, Res.row Y71 71 A13 nn2 cp21 t20.1.2.2.2.2, Res.cells g175 76 [.one (.map (some g176)), .one (.map (some g177))], Res.map true (Ty.arr .u8 20) true Y34 g176 y48, Res.map true (Ty.arr .u8 20) false yi g177 y49, Res.cells g173 28 [.b20 (((gt t13 y41).2).1)], Res.cells g174 51 [.q Y34 A8 cp16 y46, .q Y66 A9 cp17 y47]] a w → smithylaw15_ForkPlays.j6 k t13 y41 (smithylaw15_ForkPlays.l3 k t13 q3) y46 y47 y48 y49 t20 t21 y50 y51 y52 y53 y54 = some r → K6 a w := by
      intro m g171 g172 g173 g174 g175 y50 y51 y52 A10 cp18 y53 A11 cp19 y54 A12 nn1 cp20 A13 nn2 cp21 g176 g177 a w S h0
      delta smithylaw15_ForkPlays.j6 at h0
      refine hK6 a w (c_region (s_assign S rfl rfl fun a S => c_end (wp_seq_k fun K7 hK7 => ?_)))
      have j7 : ∀ m y55 g178 g179 g180 g181 g182 g183 g184 a w, St 182 m b0 [(15, (.i y55)), (14, (.b t21.2)), (13, (.p g178)), (12, (.b t20.2)), (11, (.p g179)), (7, (.p g180)), (34, (.i y41)), (33, (.i ((t13).length : Int))), (32, (.q (Ty.prod yi Y34) A5 cp13 t13)), (4, (.p g181)), (3, (.p g182))] [Res.cells g178 34 [.b20 y50, .w y51, .w4 y52, .q yb A10 cp18 y53, .q Y71 A11 cp19 y54], Res.cells g179 34 [.b20 t20.1.1, .w t20.1.2.1, .w4 t20.1.2.2.1, .s A12 nn1 cp20, .s A13 nn2 cp21], Res.row yb 5 A12 nn1 cp20 t20.1.2.2.2.1, Res.row Y71 71 A13 nn2 cp21 t20.1.2.2.2.2, Res.cells g182 76 [.one (.map (some g183)), .one (.map (some g184))], Res.map true (Ty.arr .u8 20) true Y34 g183 y48, Res.map true (Ty.arr .u8 20) false yi g184 y49, Res.cells g180 28 [.b20 (((gt t13 y41).2).1)], Res.cells g181 51 [.q Y34 A8 cp16 y46, .q Y66 A9 cp17 y47]] a w → smithylaw15_ForkPlays.j7 k t13 y41 (smithylaw15_ForkPlays.l3 k t13 q3) y46 y47 y48 y49 t20 t21 y50 y51 y52 y53 y54 y55 = some r → K7 a w := by
       intro m y55 g178 g179 g180 g181 g182 g183 g184 a w S h0
       delta smithylaw15_ForkPlays.j7 at h0
       refine hK7 a w (wp_seq_k fun K8 hK8 => ?_)
       have j8 : ∀ m y56 g185 g186 g187 g188 a w, St 182 m b0 [(125, (.b y56)), (34, (.i y41)), (33, (.i ((t13).length : Int))), (32, (.q (Ty.prod yi Y34) A5 cp13 t13)), (4, (.p g185)), (3, (.p g186))] [Res.cells g186 76 [.one (.map (some g187)), .one (.map (some g188))], Res.map true (Ty.arr .u8 20) true Y34 g187 y48, Res.map true (Ty.arr .u8 20) false yi g188 y49, Res.cells g185 51 [.q Y34 A8 cp16 y46, .q Y66 A9 cp17 y47]] a w → smithylaw15_ForkPlays.j8 y41 (smithylaw15_ForkPlays.l3 k t13 q3) y46 y47 y48 y49 y56 = some r → K8 a w := by
        intro m y56 g185 g186 g187 g188 a w S h0
        delta smithylaw15_ForkPlays.j8 at h0
        refine hK8 a w ?_
        rcases ite_of h0 with ⟨c15, h1⟩ | ⟨c15, h1⟩
        ·refine c_condT S rfl c15 (c_region (s_assign S rfl rfl fun a S => c_end (wp_ret (x_blockR (x_thenR (x_thenR (x_blockR (x_thenR ?_))))))))
         obtain rfl := Option.some.inj h1
         exact b_ret1 (d := (.b false)) S rfl rfl (S.rt hb)
        ·refine c_condF S rfl c15 (wp_skip (x_blockN (x_thenN (c_region' (s_bin S rfl rfl rfl rfl fun a S => s_move S rfl rfl fun a S => c_end' (x_thenN ?_))))))
         exact ⟨_, (wr .i64 (y41 + 1)), A5, cp13, g185, g186, A8, cp16, y46, A9, cp17, y47, g187, y48, g188, y49, (S.sb rfl (.c3 (.c0 (.c0 (.c0 .n))))), h1⟩
       refine c_region' (s_move S rfl rfl fun a S => s_move S rfl rfl fun a S => s_neb S rfl rfl underlying4 rfl fun a S => s_move S rfl rfl fun a S => ?_)
       rcases ite_of h0 with ⟨c16, h1⟩ | ⟨c16, h1⟩
       ·refine s_gF S (b := (!(t20.2 == t21.2))) rfl rfl c16 rfl fun a S => s_gF S (b := (!(t20.2 == t21.2))) rfl rfl c16 rfl fun a S => s_gF S (b := (!(t20.2 == t21.2))) rfl rfl c16 rfl fun a S => s_gF S (b := (!(t20.2 == t21.2))) rfl rfl c16 rfl fun a S => s_pick S (b := true) (hc_of rfl c16) rfl rfl fun a S => s_move S rfl rfl fun a S => s_gF S (b := true) rfl rfl rfl rfl fun a S => s_gF S (b := true) rfl rfl rfl rfl fun a S => s_gF S (b := true) rfl rfl rfl rfl fun a S => s_gF S (b := true) rfl rfl rfl rfl fun a S => s_gF S (b := true) rfl rfl rfl rfl fun a S => s_pick S (b := true) (hc_of rfl rfl) rfl rfl fun a S => c_end' (x_thenN ?_)
        exact j8 _ true g181 g182 g183 g184 a w (S.sb rfl (.c4 (.c4 (.c4 (.c5 .n))))) h1
       ·refine s_gT S (b := (!(t20.2 == t21.2))) rfl rfl c16 (s_loada S rfl .h1 T34 (s' := [.b20 t20.1.1, .w t20.1.2.1, .w4 t20.1.2.2.1, .s A12 nn1 cp20, .s A13 nn2 cp21]) rfl rfl fun a S => s_gT S (b := (!(t20.2 == t21.2))) rfl rfl c16 (s_loada S rfl .h T34 (s' := [.b20 y50, .w y51, .w4 y52, .q yb A10 cp18 y53, .q Y71 A11 cp19 y54]) rfl rfl fun a S => s_gT S (b := (!(t20.2 == t21.2))) rfl rfl c16 ?_))
        replace S := S.rowfro .h2
        obtain ⟨m, le1, S, hro⟩ := S
        replace S := S.slot (u := 114) (d' := (.agg [.b20 t20.1.1, .w t20.1.2.1, .w4 t20.1.2.2.1, .q yb A12 cp20 t20.1.2.2.2.1, .s A13 nn2 cp21])) rfl (by simp [D.val, pd, cellsOf, Seg.cells, hro.2.1]) (by have h := (S.get 114 (.agg [.b20 t20.1.1, .w t20.1.2.1, .w4 t20.1.2.2.1, .s A12 nn1 cp20, .s A13 nn2 cp21]) rfl).2; exact ⟨h.1, h.2.1, h.2.2.1, ⟨by have := hro.2.2.1; omega, hro.2.2.2, hro.1, RdS.mono _ _ _⟩, h.2.2.2.2.1, trivial⟩)
        replace S := S.cellro (s' := [.b20 t20.1.1, .w t20.1.2.1, .w4 t20.1.2.2.1, .q yb A12 cp20 t20.1.2.2.2.1, .s A13 nn2 cp21]) .h1 (by simp [cellsOf, Seg.cells, hro.2.1]) (fun h => ⟨h.1, h.2.1, h.2.2.1, ⟨by have := hro.2.2.1; omega, hro.2.2.2, hro.1, RdS.mono _ _ _⟩, h.2.2.2.2.1, trivial⟩)
        replace S := S.rowfro .h2
        obtain ⟨m, le1, S, hro⟩ := S
        replace S := S.slot (u := 114) (d' := (.agg [.b20 t20.1.1, .w t20.1.2.1, .w4 t20.1.2.2.1, .q yb A12 cp20 t20.1.2.2.2.1, .q Y71 A13 cp21 t20.1.2.2.2.2])) rfl (by simp [D.val, pd, cellsOf, Seg.cells, hro.2.1]) (by have h := (S.get 114 (.agg [.b20 t20.1.1, .w t20.1.2.1, .w4 t20.1.2.2.1, .q yb A12 cp20 t20.1.2.2.2.1, .s A13 nn2 cp21]) rfl).2; exact ⟨h.1, h.2.1, h.2.2.1, h.2.2.2.1, ⟨by have := hro.2.2.1; omega, hro.2.2.2, hro.1, RdS.mono _ _ _⟩, trivial⟩)
        replace S := S.cellro (s' := [.b20 t20.1.1, .w t20.1.2.1, .w4 t20.1.2.2.1, .q yb A12 cp20 t20.1.2.2.2.1, .q Y71 A13 cp21 t20.1.2.2.2.2]) .h1 (by simp [cellsOf, Seg.cells, hro.2.1]) (fun h => ⟨h.1, h.2.1, h.2.2.1, h.2.2.2.1, ⟨by have := hro.2.2.1; omega, hro.2.2.2, hro.1, RdS.mono _ _ _⟩, trivial⟩)
        refine bindX h1 fun t25 et25 h2 => s_callP S _ N16 rfl rfl (smithyref13_Same.ok k t20.1 (y50, y51, y52, y53, y54) A12 cp20 A13 cp21 A10 cp18 A11 cp19 t25 et25 _ _) fun ch21 m le1 a w S => s_gT S (b := (!(t20.2 == t21.2))) rfl rfl c16 (s_not S rfl rfl fun a S => s_pick S (b := false) (hc_of rfl c16) rfl rfl fun a S => s_move S rfl rfl fun a S => ?_)
        rcases ite_of h2 with ⟨c17, h3⟩ | ⟨c17, h3⟩
        ·refine s_gF S (b := (!t25)) rfl rfl c17 rfl fun a S => s_gF S (b := (!t25)) rfl rfl c17 rfl fun a S => s_gF S (b := (!t25)) rfl rfl c17 rfl fun a S => s_gF S (b := (!t25)) rfl rfl c17 rfl fun a S => s_gF S (b := (!t25)) rfl rfl c17 rfl fun a S => s_pick S (b := true) (hc_of rfl c17) rfl rfl fun a S => c_end' (x_thenN ?_)
         exact j8 _ true g181 g182 g183 g184 a w (S.sb rfl (.c2 (.c2 (.c2 (.c3 .n))))) h3
        ·refine s_gT S (b := (!t25)) rfl rfl c17 (s_move S rfl rfl fun a S => s_gT S (b := (!t25)) rfl rfl c17 (s_loada S rfl .h5 T28 (s' := [.b20 (((gt t13 y41).2).1)]) rfl rfl fun a S => s_gT S (b := (!t25)) rfl rfl c17 (bindX h3 fun t26 et26 h4 => s_callX S (ds' := [(.p g182), (.agg [.b20 (((gt t13 y41).2).1)])]) (ds := [(.p g182), (.agg [.b20 (((gt t13 y41).2).1)])]) [Res.cells g182 76 [.one (.map (some g183)), .one (.map (some g184))], Res.map true (Ty.arr .u8 20) true Y34 g183 y48, Res.map true (Ty.arr .u8 20) false yi g184 y49] [Res.cells g178 34 [.b20 y50, .w y51, .w4 y52, .q yb A10 cp18 y53, .q Y71 A11 cp19 y54], Res.cells g179 34 [.b20 t20.1.1, .w t20.1.2.1, .w4 t20.1.2.2.1, .q yb A12 cp20 t20.1.2.2.2.1, .q Y71 A13 cp21 t20.1.2.2.2.2], Res.cells g180 28 [.b20 (((gt t13 y41).2).1)], Res.cells g181 51 [.q Y34 A8 cp16 y46, .q Y66 A9 cp17 y47]] (fun (ch : Unit) => ((.i t26) : D)) (fun (ch : Unit) => [Res.cells g182 76 [.one (.map (some g183)), .one (.map (some g184))], Res.map true (Ty.arr .u8 20) true Y34 g183 y48, Res.map true (Ty.arr .u8 20) false yi g184 y49]) (fun (ch : Unit) => [Res.cells g182 76 [.one (.map (some g183)), .one (.map (some g184))], Res.map true (Ty.arr .u8 20) true Y34 g183 y48, Res.map true (Ty.arr .u8 20) false yi g184 y49, Res.cells g178 34 [.b20 y50, .w y51, .w4 y52, .q yb A10 cp18 y53, .q Y71 A11 cp19 y54], Res.cells g179 34 [.b20 t20.1.1, .w t20.1.2.1, .w4 t20.1.2.2.1, .q yb A12 cp20 t20.1.2.2.2.1, .q Y71 A13 cp21 t20.1.2.2.2.2], Res.cells g180 28 [.b20 (((gt t13 y41).2).1)], Res.cells g181 51 [.q Y34 A8 cp16 y46, .q Y66 A9 cp17 y47]]) (fun _ => rfl) N25 rfl rfl (fun ok => ok) (.c2 (.c2 (.c2 (.c0 (.c0 (.c0 (.c0 .n))))))) rfl (fork_Cache_Tries.ok (y48, y49) (((gt t13 y41).2).1) g182 g183 g184 t26 et26 _ _) fun ch22 m le1 a w S => s_gT S (b := (!t25)) rfl rfl c17 (s_move S rfl rfl fun a S => s_gT S (b := (!t25)) rfl rfl c17 (s_bin S rfl rfl rfl rfl fun a S => s_pick S (b := false) (hc_of rfl c17) rfl rfl fun a S => c_end' (x_thenN ?_))))))
         exact j8 _ (t26 != y55) g181 g182 g183 g184 a w (S.sb rfl (.c0 (.c0 (.c0 (.c3 .n))))) h4
      refine c_region (s_loada S rfl .h8 T51 (s' := [.q Y34 A8 cp16 y46, .q Y66 A9 cp17 y47]) rfl rfl fun a S => s_loada S rfl .h7 T28 (s' := [.b20 (((gt t13 y41).2).1)]) rfl rfl fun a S => bindX h0 fun t27 et27 h1 => s_callP S _ N24 rfl rfl (smithyref15_Cache_At.ok k (y46, y47) (((gt t13 y41).2).1) A8 cp16 A9 cp17 t27 et27 _ _) fun ch23 m le1 a w S => s_assign S rfl rfl fun a S => c_end (c_region (s_move S rfl rfl fun a S => s_bin S rfl rfl rfl rfl fun a S => c_end ?_)))
      rcases ite_of h1 with ⟨c18, h2⟩ | ⟨c18, h2⟩
      ·refine c_condT S rfl c18 (c_region' (s_fieldAddr S rfl I51_1 T49 (by decide) rfl rfl fun a S => s_loadSl S rfl .h8 T49 (A := A9) (len := (y47).length) (cap := cp17) rfl rfl fun a S => s_move S rfl rfl fun a S => ?_))
       obtain ⟨c19, h3⟩ := chk_of h2; clear h2
       refine s_iaddrS S rfl rfl rfl underlying49 T66 c19.1 c19.2 rfl fun p10 a S => s_faddrP S (tF := yi) (y := (gt y47 t27).2) rfl I66_1 T3 (by decide) (fun m h => (at_snd (at_0 h))) rfl fun a S => s_ld1 S (v := (.int .i64 ((gt y47 t27).2))) rfl T3 (fun _ => rfl) rfl fun a S => s_assign S rfl rfl fun a S => c_end' (x_thenN ?_)
       exact j7 _ ((gt y47 t27).2) g171 g172 g173 g174 g175 g176 g177 a w (S.sb rfl (.c0 (.c0 (.c0 (.c0 (.c0 (.c0 (.c0 (.c0 (.c0 .n)))))))))) h3
      ·refine c_condF S rfl c18 (wp_skip (x_thenN ?_))
       exact j7 _ 0 g171 g172 g173 g174 g175 g176 g177 a w (S.sb rfl (.c0 (.c0 (.c0 (.c0 (.c0 (.c0 (.c0 (.c0 (.c0 .n)))))))))) h2
     refine c_region (s_move S rfl rfl fun a S => s_not S rfl rfl fun a S => c_end ?_)
     rcases ite_of h2 with ⟨c20, h3⟩ | ⟨c20, h3⟩
     ·refine c_condT S rfl c20 (c_region' (s_loada S rfl .h7 T28 (s' := [.b20 (((gt t13 y41).2).1)]) rfl rfl fun a S => s_bldS S (ds := [(0, (.agg [.b20 (((gt t13 y41).2).1)]))]) (zs := [.b20 z20, .w 0, .w4 [0, 0, 0, 0], .s none 0 0, .s none 0 0]) (s' := [.b20 (((gt t13 y41).2).1), .w 0, .w4 [0, 0, 0, 0], .s none 0 0, .s none 0 0]) rfl underlying34 P34 Z34 ⟨rfl, rfl, rfl, rfl, rfl, trivial⟩ rfl rfl fun a S => s_store S rfl rfl rfl (s' := [.b20 (((gt t13 y41).2).1), .w 0, .w4 [0, 0, 0, 0], .s none 0 0, .s none 0 0]) .h T34 rfl rfl fun w S => c_end' (x_thenN ?_)))
      replace S := S.cellro (s' := [.b20 (((gt t13 y41).2).1), .w 0, .w4 [0, 0, 0, 0], .q yb none 0 ([] : List Int), .s none 0 0]) .h rfl (fun h => ⟨h.1, h.2.1, h.2.2.1, ok_nil, h.2.2.2.2.1, trivial⟩)
      replace S := S.cellro (s' := [.b20 (((gt t13 y41).2).1), .w 0, .w4 [0, 0, 0, 0], .q yb none 0 ([] : List Int), .q Y71 none 0 ([] : List ((List Int) × (List Int)))]) .h rfl (fun h => ⟨h.1, h.2.1, h.2.2.1, h.2.2.2.1, ok_nil, trivial⟩)
      exact j6 _ g170 g169 g164 g165 g166 (((gt t13 y41).2).1) 0 [0, 0, 0, 0] none 0 ([] : List Int) none 0 ([] : List ((List Int) × (List Int))) ch19.1 ch19.2.1 ch19.2.2.1 ch19.2.2.2.1 ch19.2.2.2.2.1 ch19.2.2.2.2.2 g167 g168 a w (S.sb rfl (.c0 (.c0 (.c0 (.c0 (.c0 (.c0 (.c0 (.c0 (.c0 .n)))))))))) h3
     ·refine c_condF S rfl c20 (wp_skip (x_thenN ?_))
      exact j6 _ g170 g169 g164 g165 g166 t21.1.1 t21.1.2.1 t21.1.2.2.1 ch20.1 ch20.2.1 t21.1.2.2.2.1 ch20.2.2.1 ch20.2.2.2 t21.1.2.2.2.2 ch19.1 ch19.2.1 ch19.2.2.1 ch19.2.2.2.1 ch19.2.2.2.2.1 ch19.2.2.2.2.2 g167 g168 a w (S.sb rfl (.c0 (.c0 (.c0 (.c0 (.c0 (.c0 (.c0 (.c0 (.c0 .n)))))))))) h3
    refine c_region (s_fieldAddr S rfl I63_0 T3 (by decide) rfl rfl fun a S => s_load1 S rfl .h1 T3 (v := (.int .i64 ((gt t13 y41).1))) rfl rfl fun a S => c_end (wp_block (c_region (s_bin S rfl rfl rfl rfl fun a S => s_assign S rfl rfl fun a S => c_end ?_))))
    rcases ite_of h2 with ⟨c21, h3⟩ | ⟨c21, h3⟩
    ·refine c_condT S rfl c21 (c_region (s_assign S rfl rfl fun a S => c_end (c_region (s_loada S rfl .h2 T51 (s' := [.q Y34 A6 cp14 y42, .q Y66 A7 cp15 y43]) rfl rfl fun a S => s_loada S rfl .h T28 (s' := [.b20 (((gt t13 y41).2).1)]) rfl rfl fun a S => bindX h3 fun t28 et28 h4 => s_callP S _ N19 rfl rfl (smithyref15_Cache_Want.ok k (y42, y43) (((gt t13 y41).2).1) A6 cp14 A7 cp15 t28 et28 _ _) fun ch24 m le1 a w S => s_move S rfl rfl fun a S => s_extract S rfl rfl rfl rfl fun a S => s_extract S rfl rfl rfl rfl fun a S => s_assign S rfl rfl fun a S => s_store S rfl rfl rfl (s' := [.q Y34 ch24.1 ch24.2.1 t28.2.1, .q Y66 ch24.2.2.1 ch24.2.2.2 t28.2.2]) .h2 T51 rfl rfl fun w S => c_end (c_region (s_move S rfl rfl fun a S => s_loada S rfl .h T28 (s' := [.b20 (((gt t13 y41).2).1)]) rfl rfl fun a S => bindX h4 fun t29 et29 h5 => s_callX S (ds' := [(.p g159), (.agg [.b20 (((gt t13 y41).2).1)])]) (ds := [(.p g159), (.agg [.b20 (((gt t13 y41).2).1)])]) [Res.cells g159 76 [.one (.map (some g160)), .one (.map (some g161))], Res.map true (Ty.arr .u8 20) true Y34 g160 y44, Res.map true (Ty.arr .u8 20) false yi g161 y45] [Res.cells g163 28 [.b20 (((gt t13 y41).2).1)], Res.cells g162 63 [.i ((gt t13 y41).1), .b20 (((gt t13 y41).2).1), .w (((gt t13 y41).2).2.1), .w4 (((gt t13 y41).2).2.2.1), .q yb ch12.2.2.2.2.1.1 ch12.2.2.2.2.1.2 (((gt t13 y41).2).2.2.2.1), .q Y71 ch12.2.2.2.2.2.1 ch12.2.2.2.2.2.2 (((gt t13 y41).2).2.2.2.2)], Res.cells g158 51 [.q Y34 ch24.1 ch24.2.1 t28.2.1, .q Y66 ch24.2.2.1 ch24.2.2.2 t28.2.2]] (fun (ch : Nat × Nat) => ((.v (.int .u8 t29.1)) : D)) (fun (ch : Nat × Nat) => [Res.cells g159 76 [.one (.map (some ch.1)), .one (.map (some ch.2))], Res.map true (Ty.arr .u8 20) true Y34 ch.1 t29.2.1, Res.map true (Ty.arr .u8 20) false yi ch.2 t29.2.2]) (fun (ch : Nat × Nat) => [Res.cells g159 76 [.one (.map (some ch.1)), .one (.map (some ch.2))], Res.map true (Ty.arr .u8 20) true Y34 ch.1 t29.2.1, Res.map true (Ty.arr .u8 20) false yi ch.2 t29.2.2, Res.cells g163 28 [.b20 (((gt t13 y41).2).1)], Res.cells g162 63 [.i ((gt t13 y41).1), .b20 (((gt t13 y41).2).1), .w (((gt t13 y41).2).2.1), .w4 (((gt t13 y41).2).2.2.1), .q yb ch12.2.2.2.2.1.1 ch12.2.2.2.2.1.2 (((gt t13 y41).2).2.2.2.1), .q Y71 ch12.2.2.2.2.2.1 ch12.2.2.2.2.2.2 (((gt t13 y41).2).2.2.2.2)], Res.cells g158 51 [.q Y34 ch24.1 ch24.2.1 t28.2.1, .q Y66 ch24.2.2.1 ch24.2.2.2 t28.2.2]]) (fun _ => rfl) N12 rfl rfl (fun ok => ok) (.c3 (.c3 (.c3 (.c0 (.c0 (.c0 .n)))))) rfl (fork_Cache_Want.ok (y44, y45) (((gt t13 y41).2).1) g159 g160 g161 t29 et29 _ _) fun ch25 m le1 a w S => s_move S rfl rfl fun a S => s_bin S rfl rfl rfl rfl fun a S => c_end ?_))))))
     rcases ite_of h5 with ⟨c22, h6⟩ | ⟨c22, h6⟩
     ·refine c_condT S rfl c22 (c_region (s_assign S rfl rfl fun a S => c_end (wp_ret (x_blockR (x_thenR (x_blockR (x_thenR (x_thenR (x_blockR (x_thenR ?_))))))))))
      obtain rfl := Option.some.inj h6
      exact b_ret1 (d := (.b false)) S rfl rfl (S.rt hb)
     ·refine c_condF S rfl c22 (wp_skip (x_blockN (x_thenN ?_)))
      exact j5 _ g163 g158 g159 ch24.1 ch24.2.1 t28.2.1 ch24.2.2.1 ch24.2.2.2 t28.2.2 ch25.1 t29.2.1 ch25.2 t29.2.2 a w (S.sb rfl (.c0 (.c0 (.c0 (.c0 (.c1 .n)))))) h6
    ·refine c_condF S rfl c21 (c_region (s_bin S rfl rfl rfl rfl fun a S => s_assign S rfl rfl fun a S => c_end ?_))
     rcases ite_of h3 with ⟨c23, h4⟩ | ⟨c23, h4⟩
     ·refine c_condT S rfl c23 (c_region (s_assign S rfl rfl fun a S => c_end (c_region (s_loada S rfl .h2 T51 (s' := [.q Y34 A6 cp14 y42, .q Y66 A7 cp15 y43]) rfl rfl fun a S => s_fieldAddr S rfl I63_1 T34 (by decide) rfl rfl fun a S => s_loada S rfl .h1 T34 (s' := [.b20 (((gt t13 y41).2).1), .w (((gt t13 y41).2).2.1), .w4 (((gt t13 y41).2).2.2.1), .q yb ch12.2.2.2.2.1.1 ch12.2.2.2.2.1.2 (((gt t13 y41).2).2.2.2.1), .q Y71 ch12.2.2.2.2.2.1 ch12.2.2.2.2.2.2 (((gt t13 y41).2).2.2.2.2)]) rfl rfl fun a S => bindX h4 fun t30 et30 h5 => s_callP S _ N20 rfl rfl (smithyref15_Cache_Fill.ok k (y42, y43) ((gt t13 y41).2) A6 cp14 A7 cp15 ch12.2.2.2.2.1.1 ch12.2.2.2.2.1.2 ch12.2.2.2.2.2.1 ch12.2.2.2.2.2.2 t30 et30 _ _) fun ch26 m le1 a w S => s_move S rfl rfl fun a S => s_extract S rfl rfl rfl rfl fun a S => s_extract S rfl rfl rfl rfl fun a S => s_assign S rfl rfl fun a S => s_store S rfl rfl rfl (s' := [.q Y34 ch26.1 ch26.2.1 t30.2.1, .q Y66 ch26.2.2.1 ch26.2.2.2 t30.2.2]) .h2 T51 rfl rfl fun w S => c_end (c_region (s_move S rfl rfl fun a S => s_fieldAddr S rfl I63_1 T34 (by decide) rfl rfl fun a S => s_loada S rfl .h1 T34 (s' := [.b20 (((gt t13 y41).2).1), .w (((gt t13 y41).2).2.1), .w4 (((gt t13 y41).2).2.2.1), .q yb ch12.2.2.2.2.1.1 ch12.2.2.2.2.1.2 (((gt t13 y41).2).2.2.2.1), .q Y71 ch12.2.2.2.2.2.1 ch12.2.2.2.2.2.2 (((gt t13 y41).2).2.2.2.2)]) rfl rfl fun a S => bindX h5 fun t31 et31 h6 => s_callX S (ds' := [(.p g159), (.agg [.b20 (((gt t13 y41).2).1), .w (((gt t13 y41).2).2.1), .w4 (((gt t13 y41).2).2.2.1), .q yb ch12.2.2.2.2.1.1 ch12.2.2.2.2.1.2 (((gt t13 y41).2).2.2.2.1), .q Y71 ch12.2.2.2.2.2.1 ch12.2.2.2.2.2.2 (((gt t13 y41).2).2.2.2.2)])]) (ds := [(.p g159), (.agg [.b20 (((gt t13 y41).2).1), .w (((gt t13 y41).2).2.1), .w4 (((gt t13 y41).2).2.2.1), .q yb ch12.2.2.2.2.1.1 ch12.2.2.2.2.1.2 (((gt t13 y41).2).2.2.2.1), .q Y71 ch12.2.2.2.2.2.1 ch12.2.2.2.2.2.2 (((gt t13 y41).2).2.2.2.2)])]) [Res.cells g159 76 [.one (.map (some g160)), .one (.map (some g161))], Res.map true (Ty.arr .u8 20) true Y34 g160 y44, Res.map true (Ty.arr .u8 20) false yi g161 y45] [Res.cells g163 28 [.b20 (((gt t13 y41).2).1)], Res.cells g162 63 [.i ((gt t13 y41).1), .b20 (((gt t13 y41).2).1), .w (((gt t13 y41).2).2.1), .w4 (((gt t13 y41).2).2.2.1), .q yb ch12.2.2.2.2.1.1 ch12.2.2.2.2.1.2 (((gt t13 y41).2).2.2.2.1), .q Y71 ch12.2.2.2.2.2.1 ch12.2.2.2.2.2.2 (((gt t13 y41).2).2.2.2.2)], Res.cells g158 51 [.q Y34 ch26.1 ch26.2.1 t30.2.1, .q Y66 ch26.2.2.1 ch26.2.2.2 t30.2.2]] (fun (ch : Nat × Nat) => ((.b t31.1) : D)) (fun (ch : Nat × Nat) => [Res.cells g159 76 [.one (.map (some ch.1)), .one (.map (some ch.2))], Res.map true (Ty.arr .u8 20) true Y34 ch.1 t31.2.1, Res.map true (Ty.arr .u8 20) false yi ch.2 t31.2.2]) (fun (ch : Nat × Nat) => [Res.cells g159 76 [.one (.map (some ch.1)), .one (.map (some ch.2))], Res.map true (Ty.arr .u8 20) true Y34 ch.1 t31.2.1, Res.map true (Ty.arr .u8 20) false yi ch.2 t31.2.2, Res.cells g163 28 [.b20 (((gt t13 y41).2).1)], Res.cells g162 63 [.i ((gt t13 y41).1), .b20 (((gt t13 y41).2).1), .w (((gt t13 y41).2).2.1), .w4 (((gt t13 y41).2).2.2.1), .q yb ch12.2.2.2.2.1.1 ch12.2.2.2.2.1.2 (((gt t13 y41).2).2.2.2.1), .q Y71 ch12.2.2.2.2.2.1 ch12.2.2.2.2.2.2 (((gt t13 y41).2).2.2.2.2)], Res.cells g158 51 [.q Y34 ch26.1 ch26.2.1 t30.2.1, .q Y66 ch26.2.2.1 ch26.2.2.2 t30.2.2]]) (fun _ => rfl) N14 rfl rfl (fun ok => ok) (.c3 (.c3 (.c3 (.c0 (.c0 (.c0 .n)))))) rfl (fork_Cache_Fill.ok k (y44, y45) ((gt t13 y41).2) g159 g160 g161 ch12.2.2.2.2.1.1 ch12.2.2.2.2.1.2 ch12.2.2.2.2.2.1 ch12.2.2.2.2.2.2 t31 et31 _ _) fun ch27 m le1 a w S => s_move S rfl rfl fun a S => s_neb S rfl rfl underlying4 rfl fun a S => c_end ?_))))))
      rcases ite_of h6 with ⟨c24, h7⟩ | ⟨c24, h7⟩
      ·refine c_condT S rfl c24 (c_region (s_assign S rfl rfl fun a S => c_end (wp_ret (x_blockR (x_thenR (x_blockR (x_thenR (x_thenR (x_blockR (x_thenR ?_))))))))))
       obtain rfl := Option.some.inj h7
       exact b_ret1 (d := (.b false)) S rfl rfl (S.rt hb)
      ·refine c_condF S rfl c24 (wp_skip (x_blockN (x_thenN ?_)))
       exact j5 _ g163 g158 g159 ch26.1 ch26.2.1 t30.2.1 ch26.2.2.1 ch26.2.2.2 t30.2.2 ch27.1 t31.2.1 ch27.2 t31.2.2 a w (S.sb rfl (.c0 (.c0 (.c0 (.c0 (.c1 .n)))))) h7
     ·refine c_condF S rfl c23 (c_region (s_assign S rfl rfl fun a S => c_end (c_region (s_loada S rfl .h2 T51 (s' := [.q Y34 A6 cp14 y42, .q Y66 A7 cp15 y43]) rfl rfl fun a S => s_loada S rfl .h T28 (s' := [.b20 (((gt t13 y41).2).1)]) rfl rfl fun a S => bindX h4 fun t32 et32 h5 => s_callP S _ N23 rfl rfl (smithyref15_Cache_Fail.ok k (y42, y43) (((gt t13 y41).2).1) A6 cp14 A7 cp15 t32 et32 _ _) fun ch28 m le1 a w S => s_move S rfl rfl fun a S => s_extract S rfl rfl rfl rfl fun a S => s_extract S rfl rfl rfl rfl fun a S => s_assign S rfl rfl fun a S => s_store S rfl rfl rfl (s' := [.q Y34 ch28.1 ch28.2.1 t32.2.1, .q Y66 ch28.2.2.1 ch28.2.2.2 t32.2.2]) .h2 T51 rfl rfl fun w S => c_end (c_region (s_move S rfl rfl fun a S => s_loada S rfl .h T28 (s' := [.b20 (((gt t13 y41).2).1)]) rfl rfl fun a S => bindX h5 fun t33 et33 h6 => s_callX S (ds' := [(.p g159), (.agg [.b20 (((gt t13 y41).2).1)])]) (ds := [(.p g159), (.agg [.b20 (((gt t13 y41).2).1)])]) [Res.cells g159 76 [.one (.map (some g160)), .one (.map (some g161))], Res.map true (Ty.arr .u8 20) true Y34 g160 y44, Res.map true (Ty.arr .u8 20) false yi g161 y45] [Res.cells g163 28 [.b20 (((gt t13 y41).2).1)], Res.cells g162 63 [.i ((gt t13 y41).1), .b20 (((gt t13 y41).2).1), .w (((gt t13 y41).2).2.1), .w4 (((gt t13 y41).2).2.2.1), .q yb ch12.2.2.2.2.1.1 ch12.2.2.2.2.1.2 (((gt t13 y41).2).2.2.2.1), .q Y71 ch12.2.2.2.2.2.1 ch12.2.2.2.2.2.2 (((gt t13 y41).2).2.2.2.2)], Res.cells g158 51 [.q Y34 ch28.1 ch28.2.1 t32.2.1, .q Y66 ch28.2.2.1 ch28.2.2.2 t32.2.2]] (fun (ch : Nat × Nat) => ((.v (.int .u8 t33.1)) : D)) (fun (ch : Nat × Nat) => [Res.cells g159 76 [.one (.map (some ch.1)), .one (.map (some ch.2))], Res.map true (Ty.arr .u8 20) true Y34 ch.1 t33.2.1, Res.map true (Ty.arr .u8 20) false yi ch.2 t33.2.2]) (fun (ch : Nat × Nat) => [Res.cells g159 76 [.one (.map (some ch.1)), .one (.map (some ch.2))], Res.map true (Ty.arr .u8 20) true Y34 ch.1 t33.2.1, Res.map true (Ty.arr .u8 20) false yi ch.2 t33.2.2, Res.cells g163 28 [.b20 (((gt t13 y41).2).1)], Res.cells g162 63 [.i ((gt t13 y41).1), .b20 (((gt t13 y41).2).1), .w (((gt t13 y41).2).2.1), .w4 (((gt t13 y41).2).2.2.1), .q yb ch12.2.2.2.2.1.1 ch12.2.2.2.2.1.2 (((gt t13 y41).2).2.2.2.1), .q Y71 ch12.2.2.2.2.2.1 ch12.2.2.2.2.2.2 (((gt t13 y41).2).2.2.2.2)], Res.cells g158 51 [.q Y34 ch28.1 ch28.2.1 t32.2.1, .q Y66 ch28.2.2.1 ch28.2.2.2 t32.2.2]]) (fun _ => rfl) N13 rfl rfl (fun ok => ok) (.c3 (.c3 (.c3 (.c0 (.c0 (.c0 .n)))))) rfl (fork_Cache_Fail.ok (y44, y45) (((gt t13 y41).2).1) g159 g160 g161 t33 et33 _ _) fun ch29 m le1 a w S => s_move S rfl rfl fun a S => s_bin S rfl rfl rfl rfl fun a S => c_end ?_))))))
      rcases ite_of h6 with ⟨c25, h7⟩ | ⟨c25, h7⟩
      ·refine c_condT S rfl c25 (c_region (s_assign S rfl rfl fun a S => c_end (wp_ret (x_blockR (x_thenR (x_blockR (x_thenR (x_thenR (x_blockR (x_thenR ?_))))))))))
       obtain rfl := Option.some.inj h7
       exact b_ret1 (d := (.b false)) S rfl rfl (S.rt hb)
      ·refine c_condF S rfl c25 (wp_skip (x_blockN (x_thenN ?_)))
       exact j5 _ g163 g158 g159 ch28.1 ch28.2.1 t32.2.1 ch28.2.2.1 ch28.2.2.2 t32.2.2 ch29.1 t33.2.1 ch29.2 t33.2.2 a w (S.sb rfl (.c0 (.c0 (.c0 (.c0 (.c1 .n)))))) h7
   ·refine c_condF S rfl c13 (wp_exit (x_thenX (x_thenX (x_blockX (x_thenN ?_)))))
    exact j1 _ g158 g159 A6 cp14 y42 A7 cp15 y43 g160 y44 g161 y45 a w (S.sb rfl (.c0 (.c0 (.c0 (.c0 .n))))) h1
end
end GW
