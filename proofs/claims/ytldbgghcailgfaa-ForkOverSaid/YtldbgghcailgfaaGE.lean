import Derived.Test.YtldbgghcailgfaaProg
import Derived.Test.YtldbgghcailgfaaGD
set_option linter.unusedVariables false
set_option linter.unusedSimpArgs false
set_option maxRecDepth 10000
set_option maxHeartbeats 4000000
namespace GW
open Go Go.RowKit Go.Proofs Go.Proofs.Try
noncomputable section
abbrev api_Address_n55_0o_3f39.Ty : Type := (List (List Int)) → Int → Int → Option (Bool × (List (List Int)))
def api_Address_n55_0o_3f39.Ctr (s : api_Address_n55_0o_3f39.Ty) : Prop := ∀ (x1 : List (List Int)) (x2 : Int) (x3 : Int) (ch_0_0 : Option Addr) (ch_0_1 : Nat) (ch_0_2 : Nat) (r : Bool × (List (List Int))), Ct (C := Unit) Try.prog 55 (s x1 x2 x3 = some r) [Res.row (Ty.arr .u8 20) 28 ch_0_0 ch_0_1 ch_0_2 x1] [(.s ch_0_0 ch_0_1 ch_0_2), (.i x2), (.i x3), (.v (.func (.func 39) #[] #[]))] (fun _ => (.b r.1)) fun _ => [Res.row (Ty.arr .u8 20) 28 ch_0_0 ch_0_1 ch_0_2 r.2]
def api_Address_n55_0o_3f39.j1 (y1 : List (List Int)) : Option (Bool × (List (List Int))) := some (false, y1)
def api_Address_n55_0o_3f39.j2 (y44 : Int) (rec1 : (List (List Int)) → Int → Int → Option (Bool × (List (List Int)))) (y63 : List (List Int)) (y64 : Int) : Option (Bool × (List (List Int))) := rec1 y63 (wr .i64 (y44 + 1)) y64
def api_Address_n55_0o_3f39.j6 (y79 : List (List Int)) (y80 : Int) (rec2 : (List (List Int)) → Int → Option (Bool × (List (List Int)))) : Option (Bool × (List (List Int))) := rec2 ((y79.set (Int.toNat y80) (gt y79 (wr .i64 (y80 - 1)))).set (Int.toNat (wr .i64 (y80 - 1))) (gt y79 y80)) (wr .i64 (y80 + 1))
def api_Address_n55_0o_3f39.j7 (y44 : Int) (rec1 : (List (List Int)) → Int → Int → Option (Bool × (List (List Int)))) (y70 : Int) (y79 : List (List Int)) (y80 : Int) (rec2 : (List (List Int)) → Int → Option (Bool × (List (List Int)))) (y82 : Bool) : Option (Bool × (List (List Int))) := if y82 = true then (api_Address_n55_0o_3f39.j2 y44 rec1 y79 y70) else (if (0 : Int) ≤ (wr .i64 (y80 - 1)) ∧ (wr .i64 (y80 - 1)) < ((y79).length : Int) then (if (0 : Int) ≤ y80 ∧ y80 < ((y79).length : Int) then (if (0 : Int) ≤ (wr .i64 (y80 - 1)) ∧ (wr .i64 (y80 - 1)) < ((y79.set (Int.toNat y80) (gt y79 (wr .i64 (y80 - 1)))).length : Int) then (api_Address_n55_0o_3f39.j6 y79 y80 rec2) else none) else none) else none)
def api_Address_n55_0o_3f39.b2 (x3 : Int) (y44 : Int) (rec1 : (List (List Int)) → Int → Int → Option (Bool × (List (List Int)))) (y70 : Int) (rec2 : (List (List Int)) → Int → Option (Bool × (List (List Int)))) (y79 : List (List Int)) (y80 : Int) : Option (Bool × (List (List Int))) := if (decide (y80 < x3)) = true then (if (0 : Int) ≤ y80 ∧ y80 < ((y79).length : Int) then (if (0 : Int) ≤ (wr .i64 (y80 - 1)) ∧ (wr .i64 (y80 - 1)) < ((y79).length : Int) then ((addr_Compare.f (gt y79 y80) (gt y79 (wr .i64 (y80 - 1)))).bind fun t1 => (api_Address_n55_0o_3f39.j7 y44 rec1 y70 y79 y80 rec2 (!(decide (t1 < 0))))) else none) else none) else (api_Address_n55_0o_3f39.j2 y44 rec1 y79 y70)
def api_Address_n55_0o_3f39.l2 (x3 : Int) (y44 : Int) (rec1 : (List (List Int)) → Int → Int → Option (Bool × (List (List Int)))) (y70 : Int) : Nat → (List (List Int)) → Int → Option (Bool × (List (List Int)))
  | 0, _, _ => none
  | q + 1, y79, y80 => api_Address_n55_0o_3f39.b2 x3 y44 rec1 y70 (api_Address_n55_0o_3f39.l2 x3 y44 rec1 y70 q) y79 y80
def api_Address_n55_0o_3f39.j5 (k : Nat) (x3 : Int) (y44 : Int) (rec1 : (List (List Int)) → Int → Int → Option (Bool × (List (List Int)))) (y70 : Int) (y76 : List (List Int)) : Option (Bool × (List (List Int))) := if (decide (2 ≤ (wr .i64 (x3 - y70)))) = true then (api_Address_n55_0o_3f39.l2 x3 y44 rec1 y70 k y76 (wr .i64 (y70 + 1))) else (api_Address_n55_0o_3f39.j2 y44 rec1 y76 y70)
def api_Address_n55_0o_3f39.j8 (y85 : List (List Int)) (y86 : Int) (rec3 : (List (List Int)) → Int → Option (Bool × (List (List Int)))) : Option (Bool × (List (List Int))) := rec3 ((y85.set (Int.toNat y86) (gt y85 (wr .i64 (y86 - 1)))).set (Int.toNat (wr .i64 (y86 - 1))) (gt y85 y86)) (wr .i64 (y86 - 1))
def api_Address_n55_0o_3f39.j9 (k : Nat) (x3 : Int) (y44 : Int) (rec1 : (List (List Int)) → Int → Int → Option (Bool × (List (List Int)))) (y70 : Int) (y85 : List (List Int)) (y86 : Int) (rec3 : (List (List Int)) → Int → Option (Bool × (List (List Int)))) (y88 : Bool) : Option (Bool × (List (List Int))) := if y88 = true then (api_Address_n55_0o_3f39.j5 k x3 y44 rec1 y70 y85) else (if (0 : Int) ≤ (wr .i64 (y86 - 1)) ∧ (wr .i64 (y86 - 1)) < ((y85).length : Int) then (if (0 : Int) ≤ y86 ∧ y86 < ((y85).length : Int) then (if (0 : Int) ≤ (wr .i64 (y86 - 1)) ∧ (wr .i64 (y86 - 1)) < ((y85.set (Int.toNat y86) (gt y85 (wr .i64 (y86 - 1)))).length : Int) then (api_Address_n55_0o_3f39.j8 y85 y86 rec3) else none) else none) else none)
def api_Address_n55_0o_3f39.b3 (k : Nat) (x3 : Int) (y44 : Int) (rec1 : (List (List Int)) → Int → Int → Option (Bool × (List (List Int)))) (y70 : Int) (rec3 : (List (List Int)) → Int → Option (Bool × (List (List Int)))) (y85 : List (List Int)) (y86 : Int) : Option (Bool × (List (List Int))) := if (decide (1 ≤ y86)) = true then (if (0 : Int) ≤ y86 ∧ y86 < ((y85).length : Int) then (if (0 : Int) ≤ (wr .i64 (y86 - 1)) ∧ (wr .i64 (y86 - 1)) < ((y85).length : Int) then ((addr_Compare.f (gt y85 y86) (gt y85 (wr .i64 (y86 - 1)))).bind fun t3 => (api_Address_n55_0o_3f39.j9 k x3 y44 rec1 y70 y85 y86 rec3 (!(decide (t3 < 0))))) else none) else none) else (api_Address_n55_0o_3f39.j5 k x3 y44 rec1 y70 y85)
def api_Address_n55_0o_3f39.l3 (k : Nat) (x3 : Int) (y44 : Int) (rec1 : (List (List Int)) → Int → Int → Option (Bool × (List (List Int)))) (y70 : Int) : Nat → (List (List Int)) → Int → Option (Bool × (List (List Int)))
  | 0, _, _ => none
  | q + 1, y85, y86 => api_Address_n55_0o_3f39.b3 k x3 y44 rec1 y70 (api_Address_n55_0o_3f39.l3 k x3 y44 rec1 y70 q) y85 y86
def api_Address_n55_0o_3f39.j4 (k : Nat) (x2 : Int) (x3 : Int) (y43 : List (List Int)) (y44 : Int) (rec1 : (List (List Int)) → Int → Int → Option (Bool × (List (List Int)))) (y70 : Int) : Option (Bool × (List (List Int))) := if (decide (2 ≤ (wr .i64 (y70 - x2)))) = true then (api_Address_n55_0o_3f39.l3 k x3 y44 rec1 y70 k ((y43.set (Int.toNat y70) (gt y43 (wr .i64 (y70 - 1)))).set (Int.toNat (wr .i64 (y70 - 1))) (gt y43 y70)) (wr .i64 (y70 - 1))) else (api_Address_n55_0o_3f39.j5 k x3 y44 rec1 y70 ((y43.set (Int.toNat y70) (gt y43 (wr .i64 (y70 - 1)))).set (Int.toNat (wr .i64 (y70 - 1))) (gt y43 y70)))
def api_Address_n55_0o_3f39.j3 (k : Nat) (x2 : Int) (x3 : Int) (y43 : List (List Int)) (y44 : Int) (rec1 : (List (List Int)) → Int → Int → Option (Bool × (List (List Int)))) (y70 : Int) : Option (Bool × (List (List Int))) := if (y70 == x3) = true then (some (true, y43)) else (if (decide ((wr .i64 (x3 - x2)) < 50)) = true then (some (false, y43)) else (if (0 : Int) ≤ (wr .i64 (y70 - 1)) ∧ (wr .i64 (y70 - 1)) < ((y43).length : Int) then (if (0 : Int) ≤ y70 ∧ y70 < ((y43).length : Int) then (if (0 : Int) ≤ (wr .i64 (y70 - 1)) ∧ (wr .i64 (y70 - 1)) < ((y43.set (Int.toNat y70) (gt y43 (wr .i64 (y70 - 1)))).length : Int) then (api_Address_n55_0o_3f39.j4 k x2 x3 y43 y44 rec1 y70) else none) else none) else none))
def api_Address_n55_0o_3f39.j10 (k : Nat) (x2 : Int) (x3 : Int) (y43 : List (List Int)) (y44 : Int) (rec1 : (List (List Int)) → Int → Int → Option (Bool × (List (List Int)))) (y92 : Int) (rec4 : Int → Option (Bool × (List (List Int)))) (y93 : Bool) : Option (Bool × (List (List Int))) := if y93 = true then (rec4 (wr .i64 (y92 + 1))) else (api_Address_n55_0o_3f39.j3 k x2 x3 y43 y44 rec1 y92)
def api_Address_n55_0o_3f39.b4 (k : Nat) (x2 : Int) (x3 : Int) (y43 : List (List Int)) (y44 : Int) (rec1 : (List (List Int)) → Int → Int → Option (Bool × (List (List Int)))) (rec4 : Int → Option (Bool × (List (List Int)))) (y92 : Int) : Option (Bool × (List (List Int))) := if (decide (y92 < x3)) = true then (if (0 : Int) ≤ y92 ∧ y92 < ((y43).length : Int) then (if (0 : Int) ≤ (wr .i64 (y92 - 1)) ∧ (wr .i64 (y92 - 1)) < ((y43).length : Int) then ((addr_Compare.f (gt y43 y92) (gt y43 (wr .i64 (y92 - 1)))).bind fun t5 => (api_Address_n55_0o_3f39.j10 k x2 x3 y43 y44 rec1 y92 rec4 (!(decide (t5 < 0))))) else none) else none) else (api_Address_n55_0o_3f39.j10 k x2 x3 y43 y44 rec1 y92 rec4 false)
def api_Address_n55_0o_3f39.l4 (k : Nat) (x2 : Int) (x3 : Int) (y43 : List (List Int)) (y44 : Int) (rec1 : (List (List Int)) → Int → Int → Option (Bool × (List (List Int)))) : Nat → Int → Option (Bool × (List (List Int)))
  | 0, _ => none
  | q + 1, y92 => api_Address_n55_0o_3f39.b4 k x2 x3 y43 y44 rec1 (api_Address_n55_0o_3f39.l4 k x2 x3 y43 y44 rec1 q) y92
def api_Address_n55_0o_3f39.b1 (k : Nat) (x2 : Int) (x3 : Int) (rec1 : (List (List Int)) → Int → Int → Option (Bool × (List (List Int)))) (y43 : List (List Int)) (y44 : Int) (y45 : Int) : Option (Bool × (List (List Int))) := if (decide (y44 < 5)) = true then (api_Address_n55_0o_3f39.l4 k x2 x3 y43 y44 rec1 k y45) else (api_Address_n55_0o_3f39.j1 y43)
def api_Address_n55_0o_3f39.l1 (k : Nat) (x2 : Int) (x3 : Int) : Nat → (List (List Int)) → Int → Int → Option (Bool × (List (List Int)))
  | 0, _, _, _ => none
  | q + 1, y43, y44, y45 => api_Address_n55_0o_3f39.b1 k x2 x3 (api_Address_n55_0o_3f39.l1 k x2 x3 q) y43 y44 y45
def api_Address_n55_0o_3f39.f (k : Nat) (x1 : List (List Int)) (x2 : Int) (x3 : Int) : Option (Bool × (List (List Int))) := api_Address_n55_0o_3f39.l1 k x2 x3 k x1 0 (wr .i64 (x2 + 1))
theorem api_Address_n55_0o_3f39.ok (k : Nat) : api_Address_n55_0o_3f39.Ctr (api_Address_n55_0o_3f39.f k) := by
 intro x1 x2 x3 ch_0_0 ch_0_1 ch_0_2 r h0 mi w0 ok hm
 delta api_Address_n55_0o_3f39.f at h0
 refine c_enterZ (n := 141) ok hm func55 rfl rfl rfl fun b0 hb a S => c_region (s_assign S rfl rfl fun a S => c_end (c_region (s_move S rfl rfl fun a S => s_bin S rfl rfl rfl rfl fun a S => s_assign S rfl rfl fun a S => c_end (wp_seq_k fun K1 hK1 => ?_))))
 have j1 : ∀ m y1 a w, St 141 m b0 [] [Res.row (Ty.arr .u8 20) 28 ch_0_0 ch_0_1 ch_0_2 y1] a w → api_Address_n55_0o_3f39.j1 y1 = some r → K1 a w := by
  intro m y1 a w S h0
  delta api_Address_n55_0o_3f39.j1 at h0
  refine hK1 a w (c_region (s_assign S rfl rfl fun a S => c_end (wp_ret ?_)))
  obtain rfl := Option.some.inj h0
  exact b_ret1 (d := (.b false)) S rfl rfl fun ok => S.retX (Hx := []) hb _ _ (() : Unit) (.c0 .n) ok
 refine c_region (s_assign S rfl rfl fun a S => c_end (wp_block ?_))
 refine c_loop (fun q1 a w => ∃ m y43 y44 y45, St 141 m b0 [(10, (.i y44)), (9, (.i y45)), (0, (.s ch_0_0 ch_0_1 ch_0_2)), (1, (.i x2)), (2, (.i x3)), (3, (.v (.func (.func 39) #[] #[])))] [Res.row (Ty.arr .u8 20) 28 ch_0_0 ch_0_1 ch_0_2 y43] a w ∧ api_Address_n55_0o_3f39.l1 k x2 x3 q1 y43 y44 y45 = some r) ?_ ?_ (k := k) ⟨_, x1, 0, (wr .i64 (x2 + 1)), (S.sb rfl (.c0 .n)), h0⟩
 ·rintro a w ⟨m, y43, y44, y45, S, h0⟩
  exact (nomatch (show (none : Option (Bool × (List (List Int)))) = some r from h0))
 ·clear S h0
  rintro q1 a w ⟨m, y43, y44, y45, S, h0⟩
  replace h0 : api_Address_n55_0o_3f39.b1 k x2 x3 (api_Address_n55_0o_3f39.l1 k x2 x3 q1) y43 y44 y45 = some r := h0
  delta api_Address_n55_0o_3f39.b1 at h0
  refine wp_seq (c_region (s_move S rfl rfl fun a S => s_bin S rfl rfl rfl rfl fun a S => c_end ?_))
  rcases ite_of h0 with ⟨c1, h1⟩ | ⟨c1, h1⟩
  ·refine c_condT S rfl c1 (wp_skip (x_thenN (wp_seq_k fun K2 hK2 => ?_)))
   have j2 : ∀ m y63 y64 a w, St 141 m b0 [(10, (.i y44)), (9, (.i y64)), (0, (.s ch_0_0 ch_0_1 ch_0_2)), (1, (.i x2)), (2, (.i x3)), (3, (.v (.func (.func 39) #[] #[])))] [Res.row (Ty.arr .u8 20) 28 ch_0_0 ch_0_1 ch_0_2 y63] a w → api_Address_n55_0o_3f39.j2 y44 (api_Address_n55_0o_3f39.l1 k x2 x3 q1) y63 y64 = some r → K2 a w := by
    intro m y63 y64 a w S h0
    delta api_Address_n55_0o_3f39.j2 at h0
    refine hK2 a w (c_region' (s_move S rfl rfl fun a S => s_bin S rfl rfl rfl rfl fun a S => s_assign S rfl rfl fun a S => c_end' (x_thenN ?_)))
    exact ⟨_, y63, (wr .i64 (y44 + 1)), y64, (S.sb rfl (.c0 .n)), h0⟩
   refine wp_block (wp_seq_k fun K3 hK3 => ?_)
   have j3 : ∀ m y70 a w, St 141 m b0 [(10, (.i y44)), (9, (.i y70)), (0, (.s ch_0_0 ch_0_1 ch_0_2)), (1, (.i x2)), (2, (.i x3)), (3, (.v (.func (.func 39) #[] #[])))] [Res.row (Ty.arr .u8 20) 28 ch_0_0 ch_0_1 ch_0_2 y43] a w → api_Address_n55_0o_3f39.j3 k x2 x3 y43 y44 (api_Address_n55_0o_3f39.l1 k x2 x3 q1) y70 = some r → K3 a w := by
    intro m y70 a w S h0
    delta api_Address_n55_0o_3f39.j3 at h0
    refine hK3 a w (wp_seq (c_region (s_move S rfl rfl fun a S => s_move S rfl rfl fun a S => s_bin S rfl rfl rfl rfl fun a S => c_end ?_)))
    rcases ite_of h0 with ⟨c2, h1⟩ | ⟨c2, h1⟩
    ·refine c_condT S rfl c2 (c_region (s_assign S rfl rfl fun a S => c_end (wp_ret (x_thenR (x_blockR (x_thenR (x_thenR (x_blockR (x_thenR ?_)))))))))
     obtain rfl := Option.some.inj h1
     exact b_ret1 (d := (.b true)) S rfl rfl fun ok => S.retX (Hx := []) hb _ _ (() : Unit) (.c0 .n) ok
    ·refine c_condF S rfl c2 (wp_skip (x_thenN (wp_seq (c_region (s_move S rfl rfl fun a S => s_move S rfl rfl fun a S => s_bin S rfl rfl rfl rfl fun a S => s_bin S rfl rfl rfl rfl fun a S => c_end ?_)))))
     rcases ite_of h1 with ⟨c3, h2⟩ | ⟨c3, h2⟩
     ·refine c_condT S rfl c3 (c_region (s_assign S rfl rfl fun a S => c_end (wp_ret (x_thenR (x_blockR (x_thenR (x_thenR (x_blockR (x_thenR ?_)))))))))
      obtain rfl := Option.some.inj h2
      exact b_ret1 (d := (.b false)) S rfl rfl fun ok => S.retX (Hx := []) hb _ _ (() : Unit) (.c0 .n) ok
     ·refine c_condF S rfl c3 (wp_skip (x_thenN (wp_seq_k fun K4 hK4 => ?_)))
      have j4 : ∀ m a w, St 141 m b0 [(10, (.i y44)), (9, (.i y70)), (0, (.s ch_0_0 ch_0_1 ch_0_2)), (1, (.i x2)), (2, (.i x3)), (3, (.v (.func (.func 39) #[] #[])))] [Res.row (Ty.arr .u8 20) 28 ch_0_0 ch_0_1 ch_0_2 ((y43.set (Int.toNat y70) (gt y43 (wr .i64 (y70 - 1)))).set (Int.toNat (wr .i64 (y70 - 1))) (gt y43 y70))] a w → api_Address_n55_0o_3f39.j4 k x2 x3 y43 y44 (api_Address_n55_0o_3f39.l1 k x2 x3 q1) y70 = some r → K4 a w := by
       intro m a w S h0
       delta api_Address_n55_0o_3f39.j4 at h0
       refine hK4 a w (wp_seq_k fun K5 hK5 => ?_)
       have j5 : ∀ m y76 a w, St 141 m b0 [(10, (.i y44)), (9, (.i y70)), (0, (.s ch_0_0 ch_0_1 ch_0_2)), (1, (.i x2)), (2, (.i x3)), (3, (.v (.func (.func 39) #[] #[])))] [Res.row (Ty.arr .u8 20) 28 ch_0_0 ch_0_1 ch_0_2 y76] a w → api_Address_n55_0o_3f39.j5 k x3 y44 (api_Address_n55_0o_3f39.l1 k x2 x3 q1) y70 y76 = some r → K5 a w := by
        intro m y76 a w S h0
        delta api_Address_n55_0o_3f39.j5 at h0
        refine hK5 a w (c_region (s_move S rfl rfl fun a S => s_move S rfl rfl fun a S => s_bin S rfl rfl rfl rfl fun a S => s_bin S rfl rfl rfl rfl fun a S => c_end ?_))
        rcases ite_of h0 with ⟨c4, h1⟩ | ⟨c4, h1⟩
        ·refine c_condT S rfl c4 (c_region (s_move S rfl rfl fun a S => s_bin S rfl rfl rfl rfl fun a S => s_assign S rfl rfl fun a S => c_end (wp_block ?_)))
         refine c_loop (fun q2 a w => ∃ m y79 y80, St 141 m b0 [(12, (.i y80)), (10, (.i y44)), (9, (.i y70)), (0, (.s ch_0_0 ch_0_1 ch_0_2)), (1, (.i x2)), (2, (.i x3)), (3, (.v (.func (.func 39) #[] #[])))] [Res.row (Ty.arr .u8 20) 28 ch_0_0 ch_0_1 ch_0_2 y79] a w ∧ api_Address_n55_0o_3f39.l2 x3 y44 (api_Address_n55_0o_3f39.l1 k x2 x3 q1) y70 q2 y79 y80 = some r) ?_ ?_ (k := k) ⟨_, y76, (wr .i64 (y70 + 1)), (S.sb rfl (.c0 .n)), h1⟩
         ·rintro a w ⟨m, y79, y80, S, h0⟩
          exact (nomatch (show (none : Option (Bool × (List (List Int)))) = some r from h0))
         ·clear S h1
          rintro q2 a w ⟨m, y79, y80, S, h0⟩
          replace h0 : api_Address_n55_0o_3f39.b2 x3 y44 (api_Address_n55_0o_3f39.l1 k x2 x3 q1) y70 (api_Address_n55_0o_3f39.l2 x3 y44 (api_Address_n55_0o_3f39.l1 k x2 x3 q1) y70 q2) y79 y80 = some r := h0
          delta api_Address_n55_0o_3f39.b2 at h0
          refine wp_seq (c_region (s_move S rfl rfl fun a S => s_move S rfl rfl fun a S => s_bin S rfl rfl rfl rfl fun a S => c_end ?_))
          rcases ite_of h0 with ⟨c5, h1⟩ | ⟨c5, h1⟩
          ·refine c_condT S rfl c5 (wp_skip (x_thenN (wp_seq_k fun K6 hK6 => ?_)))
           have j6 : ∀ m a w, St 141 m b0 [(12, (.i y80)), (10, (.i y44)), (9, (.i y70)), (0, (.s ch_0_0 ch_0_1 ch_0_2)), (1, (.i x2)), (2, (.i x3)), (3, (.v (.func (.func 39) #[] #[])))] [Res.row (Ty.arr .u8 20) 28 ch_0_0 ch_0_1 ch_0_2 ((y79.set (Int.toNat y80) (gt y79 (wr .i64 (y80 - 1)))).set (Int.toNat (wr .i64 (y80 - 1))) (gt y79 y80))] a w → api_Address_n55_0o_3f39.j6 y79 y80 (api_Address_n55_0o_3f39.l2 x3 y44 (api_Address_n55_0o_3f39.l1 k x2 x3 q1) y70 q2) = some r → K6 a w := by
            intro m a w S h0
            delta api_Address_n55_0o_3f39.j6 at h0
            refine hK6 a w (c_region' (s_move S rfl rfl fun a S => s_bin S rfl rfl rfl rfl fun a S => s_assign S rfl rfl fun a S => c_end' (x_thenN ?_)))
            exact ⟨_, ((y79.set (Int.toNat y80) (gt y79 (wr .i64 (y80 - 1)))).set (Int.toNat (wr .i64 (y80 - 1))) (gt y79 y80)), (wr .i64 (y80 + 1)), (S.sb rfl (.c0 .n)), h0⟩
           refine wp_block (wp_seq (wp_seq_k fun K7 hK7 => ?_))
           have j7 : ∀ m y82 a w, St 141 m b0 [(124, (.b y82)), (12, (.i y80)), (10, (.i y44)), (9, (.i y70)), (0, (.s ch_0_0 ch_0_1 ch_0_2)), (1, (.i x2)), (2, (.i x3)), (3, (.v (.func (.func 39) #[] #[])))] [Res.row (Ty.arr .u8 20) 28 ch_0_0 ch_0_1 ch_0_2 y79] a w → api_Address_n55_0o_3f39.j7 y44 (api_Address_n55_0o_3f39.l1 k x2 x3 q1) y70 y79 y80 (api_Address_n55_0o_3f39.l2 x3 y44 (api_Address_n55_0o_3f39.l1 k x2 x3 q1) y70 q2) y82 = some r → K7 a w := by
            intro m y82 a w S h0
            delta api_Address_n55_0o_3f39.j7 at h0
            refine hK7 a w ?_
            rcases ite_of h0 with ⟨c6, h1⟩ | ⟨c6, h1⟩
            ·refine c_condT S rfl c6 (wp_exit (x_thenX (x_blockO (by decide) (x_thenX (x_thenX (x_blockX (x_blockN (x_thenN ?_))))))))
             exact j2 _ y79 y70 a w (S.sb rfl (.c0 .n)) h1
            ·refine c_condF S rfl c6 (wp_skip (x_thenN (c_heldS S (.take 0 (.take 1 (.take 2 (.take 3 (.take 4 (.take 5 (.take 6 (.take 7 (.take 10 (.take 11 (.alts (.run 8 true (.alts (.run 9 true (.alts (.run 12 true (.alts (.run 13 true (.alts (.run 14 true (.alts (.run 15 true (.alts (.run 16 true (.alts (.run 17 false .done .nil)) .nil)) .nil)) .nil)) .nil)) .nil)) (.run 12 true (.alts (.run 9 true (.alts (.run 13 true (.alts (.run 14 true (.alts (.run 15 true (.alts (.run 16 true (.alts (.run 17 false .done .nil)) .nil)) .nil)) .nil)) .nil)) (.run 13 true (.alts (.run 9 true (.alts (.run 14 true (.alts (.run 15 true (.alts (.run 16 true (.alts (.run 17 false .done .nil)) .nil)) .nil)) .nil)) .nil)) .nil))) .nil))) (.run 12 true (.alts (.run 8 true (.alts (.run 9 true (.alts (.run 13 true (.alts (.run 14 true (.alts (.run 15 true (.alts (.run 16 true (.alts (.run 17 false .done .nil)) .nil)) .nil)) .nil)) .nil)) (.run 13 true (.alts (.run 9 true (.alts (.run 14 true (.alts (.run 15 true (.alts (.run 16 true (.alts (.run 17 false .done .nil)) .nil)) .nil)) .nil)) .nil)) .nil))) (.run 13 true (.alts (.run 8 true (.alts (.run 9 true (.alts (.run 14 true (.alts (.run 15 true (.alts (.run 16 true (.alts (.run 17 false .done .nil)) .nil)) .nil)) .nil)) .nil)) .nil)) .nil))) .nil))))))))))))) 17 [] .nil trivial [(12, (.i y80)), (0, (.s ch_0_0 ch_0_1 ch_0_2))] (subR rfl) (by kernel_rfl) (by kernel_rfl) fun w S CL hw le => ?_)))
             refine h_move S CL hw le (subR rfl) rfl rfl rfl trivial fun a S CL => h_move S CL hw le (subR rfl) rfl rfl rfl trivial fun a S CL => h_move S CL hw le (subR rfl) rfl rfl rfl trivial fun a S CL => h_move S CL hw le (subR rfl) rfl rfl rfl trivial fun a S CL => h_bin S CL hw le (subR rfl) rfl rfl rfl rfl rfl trivial fun a S CL => h_move S CL hw le (subR rfl) rfl rfl rfl trivial fun a S CL => h_move S CL hw le (subR rfl) rfl rfl rfl trivial fun a S CL => h_bin S CL hw le (subR rfl) rfl rfl rfl rfl rfl trivial fun a S CL => h_move S CL hw le (subR rfl) rfl rfl rfl trivial fun a S CL => h_move S CL hw le (subR rfl) rfl rfl rfl trivial fun a S CL => ?_
             obtain ⟨c7, h2⟩ := chk_of h1; clear h1
             obtain ⟨c8, h3⟩ := chk_of h2; clear h2
             obtain ⟨c9, h4⟩ := chk_of h3; clear h3
             refine h_alts ?_
             refine h_runO S rfl trivial ?_ ?_
             ·refine s_iaddrO S (ty' := (Ty.arr .u8 20)) rfl .h rfl underlying23 T28 c7.1 c7.2 rfl fun g1 a hA1 S => CL.bk hw S .nil le fun hw => h_alts ?_
              refine h_runO S rfl trivial ?_ ?_
              ·refine s_ldRA S (ty' := (Ty.arr .u8 20)) (i := (wr .i64 (y80 - 1))) (off := 0) (fun (c : Unit) => [.b20 (gt y79 (wr .i64 (y80 - 1)))]) rfl hA1 .h T28 c7.1 c7.2 rfl (fun _ => rfl) rfl fun ch1 a S => ?_
               refine CL.br hw S .nil le rfl trivial fun hw => (s_iaddrO S (ty' := (Ty.arr .u8 20)) rfl .h rfl underlying23 T28 c8.1 c8.2 rfl fun g2 a hA2 S => CL.br hw S .nil le rfl trivial fun hw => (s_ldRA S (ty' := (Ty.arr .u8 20)) (i := y80) (off := 0) (fun (c : Unit) => [.b20 (gt y79 y80)]) rfl hA2 .h T28 c8.1 c8.2 rfl (fun _ => rfl) rfl fun ch2 a S => ?_))
               refine CL.br hw S .nil le rfl trivial fun hw => (s_iaddrO S (ty' := (Ty.arr .u8 20)) rfl .h rfl underlying23 T28 c8.1 c8.2 rfl fun g3 a hA3 S => CL.br hw S .nil le rfl trivial fun hw => (s_stR S (ty' := (Ty.arr .u8 20)) (i := y80) (off := 0) (u := gt y79 (wr .i64 (y80 - 1))) (fun (c : Unit) => ()) rfl rfl rfl hA3 .h T28 c8.1 c8.2 rfl (by decide) rfl (fun _ => rfl) fun w S => CL.br hw S .nil le rfl trivial fun hw => (s_iaddrO S (ty' := (Ty.arr .u8 20)) rfl .h rfl underlying23 T28 c9.1 c9.2 rfl fun g4 a hA4 S => CL.br hw S .nil le rfl trivial fun hw => (s_stR S (ty' := (Ty.arr .u8 20)) (i := (wr .i64 (y80 - 1))) (off := 0) (u := gt y79 y80) (fun (c : Unit) => ()) rfl rfl rfl hA4 .h T28 c9.1 c9.2 rfl (by decide) rfl (fun _ => rfl) fun w S => ?_))))
               refine h_back ⟨fun h => (nomatch h), ?_⟩
               refine h_done ?_; clear CL hw le
               refine x_blockN (x_thenN ?_)
               exact j6 _ a w (S.sb rfl (.c0 .n)) h4
              refine h_runO S rfl trivial ?_ ?_
              ·refine s_iaddrO S (ty' := (Ty.arr .u8 20)) rfl .h rfl underlying23 T28 c8.1 c8.2 rfl fun g2 a hA2 S => CL.bk hw S .nil le fun hw => h_alts ?_
               refine h_runO S rfl trivial ?_ ?_
               ·refine s_ldRA S (ty' := (Ty.arr .u8 20)) (i := (wr .i64 (y80 - 1))) (off := 0) (fun (c : Unit) => [.b20 (gt y79 (wr .i64 (y80 - 1)))]) rfl hA1 .h T28 c7.1 c7.2 rfl (fun _ => rfl) rfl fun ch1 a S => ?_
                refine CL.br hw S .nil le rfl trivial fun hw => (s_ldRA S (ty' := (Ty.arr .u8 20)) (i := y80) (off := 0) (fun (c : Unit) => [.b20 (gt y79 y80)]) rfl hA2 .h T28 c8.1 c8.2 rfl (fun _ => rfl) rfl fun ch2 a S => ?_)
                refine CL.br hw S .nil le rfl trivial fun hw => (s_iaddrO S (ty' := (Ty.arr .u8 20)) rfl .h rfl underlying23 T28 c8.1 c8.2 rfl fun g3 a hA3 S => CL.br hw S .nil le rfl trivial fun hw => (s_stR S (ty' := (Ty.arr .u8 20)) (i := y80) (off := 0) (u := gt y79 (wr .i64 (y80 - 1))) (fun (c : Unit) => ()) rfl rfl rfl hA3 .h T28 c8.1 c8.2 rfl (by decide) rfl (fun _ => rfl) fun w S => CL.br hw S .nil le rfl trivial fun hw => (s_iaddrO S (ty' := (Ty.arr .u8 20)) rfl .h rfl underlying23 T28 c9.1 c9.2 rfl fun g4 a hA4 S => CL.br hw S .nil le rfl trivial fun hw => (s_stR S (ty' := (Ty.arr .u8 20)) (i := (wr .i64 (y80 - 1))) (off := 0) (u := gt y79 y80) (fun (c : Unit) => ()) rfl rfl rfl hA4 .h T28 c9.1 c9.2 rfl (by decide) rfl (fun _ => rfl) fun w S => ?_))))
                refine h_back ⟨fun h => (nomatch h), ?_⟩
                refine h_done ?_; clear CL hw le
                refine x_blockN (x_thenN ?_)
                exact j6 _ a w (S.sb rfl (.c0 .n)) h4
               refine h_runO S rfl trivial ?_ ?_
               ·refine s_ldRA S (ty' := (Ty.arr .u8 20)) (i := y80) (off := 0) (fun (c : Unit) => [.b20 (gt y79 y80)]) rfl hA2 .h T28 c8.1 c8.2 rfl (fun _ => rfl) rfl fun ch1 a S => ?_
                refine CL.br hw S .nil le rfl trivial fun hw => (s_ldRA S (ty' := (Ty.arr .u8 20)) (i := (wr .i64 (y80 - 1))) (off := 0) (fun (c : Unit) => [.b20 (gt y79 (wr .i64 (y80 - 1)))]) rfl hA1 .h T28 c7.1 c7.2 rfl (fun _ => rfl) rfl fun ch2 a S => ?_)
                refine CL.br hw S .nil le rfl trivial fun hw => (s_iaddrO S (ty' := (Ty.arr .u8 20)) rfl .h rfl underlying23 T28 c8.1 c8.2 rfl fun g3 a hA3 S => CL.br hw S .nil le rfl trivial fun hw => (s_stR S (ty' := (Ty.arr .u8 20)) (i := y80) (off := 0) (u := gt y79 (wr .i64 (y80 - 1))) (fun (c : Unit) => ()) rfl rfl rfl hA3 .h T28 c8.1 c8.2 rfl (by decide) rfl (fun _ => rfl) fun w S => CL.br hw S .nil le rfl trivial fun hw => (s_iaddrO S (ty' := (Ty.arr .u8 20)) rfl .h rfl underlying23 T28 c9.1 c9.2 rfl fun g4 a hA4 S => CL.br hw S .nil le rfl trivial fun hw => (s_stR S (ty' := (Ty.arr .u8 20)) (i := (wr .i64 (y80 - 1))) (off := 0) (u := gt y79 y80) (fun (c : Unit) => ()) rfl rfl rfl hA4 .h T28 c9.1 c9.2 rfl (by decide) rfl (fun _ => rfl) fun w S => ?_))))
                refine h_back ⟨fun h => (nomatch h), ?_⟩
                refine h_done ?_; clear CL hw le
                refine x_blockN (x_thenN ?_)
                exact j6 _ a w (S.sb rfl (.c0 .n)) h4
               exact h_nil
              exact h_nil
             refine h_runO S rfl trivial ?_ ?_
             ·refine s_iaddrO S (ty' := (Ty.arr .u8 20)) rfl .h rfl underlying23 T28 c8.1 c8.2 rfl fun g1 a hA1 S => CL.bk hw S .nil le fun hw => h_alts ?_
              refine h_runO S rfl trivial ?_ ?_
              ·refine s_iaddrO S (ty' := (Ty.arr .u8 20)) rfl .h rfl underlying23 T28 c7.1 c7.2 rfl fun g2 a hA2 S => CL.bk hw S .nil le fun hw => h_alts ?_
               refine h_runO S rfl trivial ?_ ?_
               ·refine s_ldRA S (ty' := (Ty.arr .u8 20)) (i := (wr .i64 (y80 - 1))) (off := 0) (fun (c : Unit) => [.b20 (gt y79 (wr .i64 (y80 - 1)))]) rfl hA2 .h T28 c7.1 c7.2 rfl (fun _ => rfl) rfl fun ch1 a S => ?_
                refine CL.br hw S .nil le rfl trivial fun hw => (s_ldRA S (ty' := (Ty.arr .u8 20)) (i := y80) (off := 0) (fun (c : Unit) => [.b20 (gt y79 y80)]) rfl hA1 .h T28 c8.1 c8.2 rfl (fun _ => rfl) rfl fun ch2 a S => ?_)
                refine CL.br hw S .nil le rfl trivial fun hw => (s_iaddrO S (ty' := (Ty.arr .u8 20)) rfl .h rfl underlying23 T28 c8.1 c8.2 rfl fun g3 a hA3 S => CL.br hw S .nil le rfl trivial fun hw => (s_stR S (ty' := (Ty.arr .u8 20)) (i := y80) (off := 0) (u := gt y79 (wr .i64 (y80 - 1))) (fun (c : Unit) => ()) rfl rfl rfl hA3 .h T28 c8.1 c8.2 rfl (by decide) rfl (fun _ => rfl) fun w S => CL.br hw S .nil le rfl trivial fun hw => (s_iaddrO S (ty' := (Ty.arr .u8 20)) rfl .h rfl underlying23 T28 c9.1 c9.2 rfl fun g4 a hA4 S => CL.br hw S .nil le rfl trivial fun hw => (s_stR S (ty' := (Ty.arr .u8 20)) (i := (wr .i64 (y80 - 1))) (off := 0) (u := gt y79 y80) (fun (c : Unit) => ()) rfl rfl rfl hA4 .h T28 c9.1 c9.2 rfl (by decide) rfl (fun _ => rfl) fun w S => ?_))))
                refine h_back ⟨fun h => (nomatch h), ?_⟩
                refine h_done ?_; clear CL hw le
                refine x_blockN (x_thenN ?_)
                exact j6 _ a w (S.sb rfl (.c0 .n)) h4
               refine h_runO S rfl trivial ?_ ?_
               ·refine s_ldRA S (ty' := (Ty.arr .u8 20)) (i := y80) (off := 0) (fun (c : Unit) => [.b20 (gt y79 y80)]) rfl hA1 .h T28 c8.1 c8.2 rfl (fun _ => rfl) rfl fun ch1 a S => ?_
                refine CL.br hw S .nil le rfl trivial fun hw => (s_ldRA S (ty' := (Ty.arr .u8 20)) (i := (wr .i64 (y80 - 1))) (off := 0) (fun (c : Unit) => [.b20 (gt y79 (wr .i64 (y80 - 1)))]) rfl hA2 .h T28 c7.1 c7.2 rfl (fun _ => rfl) rfl fun ch2 a S => ?_)
                refine CL.br hw S .nil le rfl trivial fun hw => (s_iaddrO S (ty' := (Ty.arr .u8 20)) rfl .h rfl underlying23 T28 c8.1 c8.2 rfl fun g3 a hA3 S => CL.br hw S .nil le rfl trivial fun hw => (s_stR S (ty' := (Ty.arr .u8 20)) (i := y80) (off := 0) (u := gt y79 (wr .i64 (y80 - 1))) (fun (c : Unit) => ()) rfl rfl rfl hA3 .h T28 c8.1 c8.2 rfl (by decide) rfl (fun _ => rfl) fun w S => CL.br hw S .nil le rfl trivial fun hw => (s_iaddrO S (ty' := (Ty.arr .u8 20)) rfl .h rfl underlying23 T28 c9.1 c9.2 rfl fun g4 a hA4 S => CL.br hw S .nil le rfl trivial fun hw => (s_stR S (ty' := (Ty.arr .u8 20)) (i := (wr .i64 (y80 - 1))) (off := 0) (u := gt y79 y80) (fun (c : Unit) => ()) rfl rfl rfl hA4 .h T28 c9.1 c9.2 rfl (by decide) rfl (fun _ => rfl) fun w S => ?_))))
                refine h_back ⟨fun h => (nomatch h), ?_⟩
                refine h_done ?_; clear CL hw le
                refine x_blockN (x_thenN ?_)
                exact j6 _ a w (S.sb rfl (.c0 .n)) h4
               exact h_nil
              refine h_runO S rfl trivial ?_ ?_
              ·refine s_ldRA S (ty' := (Ty.arr .u8 20)) (i := y80) (off := 0) (fun (c : Unit) => [.b20 (gt y79 y80)]) rfl hA1 .h T28 c8.1 c8.2 rfl (fun _ => rfl) rfl fun ch1 a S => ?_
               refine CL.br hw S .nil le rfl trivial fun hw => (s_iaddrO S (ty' := (Ty.arr .u8 20)) rfl .h rfl underlying23 T28 c7.1 c7.2 rfl fun g2 a hA2 S => CL.br hw S .nil le rfl trivial fun hw => (s_ldRA S (ty' := (Ty.arr .u8 20)) (i := (wr .i64 (y80 - 1))) (off := 0) (fun (c : Unit) => [.b20 (gt y79 (wr .i64 (y80 - 1)))]) rfl hA2 .h T28 c7.1 c7.2 rfl (fun _ => rfl) rfl fun ch2 a S => ?_))
               refine CL.br hw S .nil le rfl trivial fun hw => (s_iaddrO S (ty' := (Ty.arr .u8 20)) rfl .h rfl underlying23 T28 c8.1 c8.2 rfl fun g3 a hA3 S => CL.br hw S .nil le rfl trivial fun hw => (s_stR S (ty' := (Ty.arr .u8 20)) (i := y80) (off := 0) (u := gt y79 (wr .i64 (y80 - 1))) (fun (c : Unit) => ()) rfl rfl rfl hA3 .h T28 c8.1 c8.2 rfl (by decide) rfl (fun _ => rfl) fun w S => CL.br hw S .nil le rfl trivial fun hw => (s_iaddrO S (ty' := (Ty.arr .u8 20)) rfl .h rfl underlying23 T28 c9.1 c9.2 rfl fun g4 a hA4 S => CL.br hw S .nil le rfl trivial fun hw => (s_stR S (ty' := (Ty.arr .u8 20)) (i := (wr .i64 (y80 - 1))) (off := 0) (u := gt y79 y80) (fun (c : Unit) => ()) rfl rfl rfl hA4 .h T28 c9.1 c9.2 rfl (by decide) rfl (fun _ => rfl) fun w S => ?_))))
               refine h_back ⟨fun h => (nomatch h), ?_⟩
               refine h_done ?_; clear CL hw le
               refine x_blockN (x_thenN ?_)
               exact j6 _ a w (S.sb rfl (.c0 .n)) h4
              exact h_nil
             exact h_nil
           refine c_heldS S (.take 0 (.take 1 (.take 2 (.take 3 (.take 5 (.take 6 (.take 7 (.take 8 (.alts (.run 4 true (.alts (.run 9 true (.alts (.run 10 true (.take 11 (.take 12 .done)) .nil)) .nil)) (.run 9 true (.alts (.run 4 true (.alts (.run 10 true (.take 11 (.take 12 .done)) .nil)) .nil)) .nil))))))))))) 13 [Res.row (Ty.arr .u8 20) 28 ch_0_0 ch_0_1 ch_0_2 y79] (.c0 .n) ⟨Res.stay_row flat_arr, trivial⟩ [(12, (.i y80)), (0, (.s ch_0_0 ch_0_1 ch_0_2)), (3, (.v (.func (.func 39) #[] #[])))] (subR rfl) (by kernel_rfl) (by kernel_rfl) fun w S CL hw le => ?_
           refine h_move S CL hw le (subR rfl) rfl rfl rfl trivial fun a S CL => h_move S CL hw le (subR rfl) rfl rfl rfl trivial fun a S CL => h_move S CL hw le (subR rfl) rfl rfl rfl trivial fun a S CL => ?_
           obtain ⟨c10, h2⟩ := chk_of h1; clear h1
           refine h_iaddrO S CL hw le (subR rfl) (ty' := (Ty.arr .u8 20)) rfl .h rfl underlying23 T28 c10.1 c10.2 rfl rfl trivial fun g5 a hA5 S CL => h_move S CL hw le (subR rfl) rfl rfl rfl trivial fun a S CL => h_move S CL hw le (subR rfl) rfl rfl rfl trivial fun a S CL => h_bin S CL hw le (subR rfl) rfl rfl rfl rfl rfl trivial fun a S CL => ?_
           obtain ⟨c11, h3⟩ := chk_of h2; clear h2
           refine h_iaddrO S CL hw le (subR rfl) (ty' := (Ty.arr .u8 20)) rfl .h rfl underlying23 T28 c11.1 c11.2 rfl rfl trivial fun g6 a hA6 S CL => bindX h3 fun t1 et1 h4 => h_alts ?_
           refine h_runO S rfl trivial ?_ ?_
           ·refine s_ldRA S (ty' := (Ty.arr .u8 20)) (i := y80) (off := 0) (fun (c : Unit) => [.b20 (gt y79 y80)]) rfl hA5 .h T28 c10.1 c10.2 rfl (fun _ => rfl) rfl fun ch3 a S => ?_
            refine CL.bk hw S (.c0 .n) le fun hw => h_run' S rfl trivial (s_ldRA S (ty' := (Ty.arr .u8 20)) (i := (wr .i64 (y80 - 1))) (off := 0) (fun (c : Unit) => [.b20 (gt y79 (wr .i64 (y80 - 1)))]) rfl hA6 .h T28 c11.1 c11.2 rfl (fun _ => rfl) rfl fun ch4 a S => ?_)
            refine CL.bk hw S (.c0 .n) le fun hw => h_run' S rfl trivial (s_callP S _ N39 rfl rfl (addr_Compare.ok (gt y79 y80) (gt y79 (wr .i64 (y80 - 1))) t1 et1 _ _) fun ch5 m le1 a w S => ?_)
            replace le := le.trans le1
            refine CL.bk hw S (.c0 .n) le fun hw => ?_
            replace CL := CL.add (t := 122) (d := (.i t1)) S rfl rfl
            refine h_bin S CL hw le (subR rfl) rfl rfl rfl rfl rfl trivial fun a S CL => h_not S CL hw le (subR rfl) rfl rfl rfl trivial fun a S CL => ?_
            refine h_done ?_; clear CL hw le
            refine x_thenN ?_
            exact j7 _ (!(decide (t1 < 0))) a w (S.sb rfl (.c0 .n)) h4
           refine h_runO S rfl trivial ?_ ?_
           ·refine s_ldRA S (ty' := (Ty.arr .u8 20)) (i := (wr .i64 (y80 - 1))) (off := 0) (fun (c : Unit) => [.b20 (gt y79 (wr .i64 (y80 - 1)))]) rfl hA6 .h T28 c11.1 c11.2 rfl (fun _ => rfl) rfl fun ch3 a S => ?_
            refine CL.bk hw S (.c0 .n) le fun hw => h_run' S rfl trivial (s_ldRA S (ty' := (Ty.arr .u8 20)) (i := y80) (off := 0) (fun (c : Unit) => [.b20 (gt y79 y80)]) rfl hA5 .h T28 c10.1 c10.2 rfl (fun _ => rfl) rfl fun ch4 a S => ?_)
            refine CL.bk hw S (.c0 .n) le fun hw => h_run' S rfl trivial (s_callP S _ N39 rfl rfl (addr_Compare.ok (gt y79 y80) (gt y79 (wr .i64 (y80 - 1))) t1 et1 _ _) fun ch5 m le1 a w S => ?_)
            replace le := le.trans le1
            refine CL.bk hw S (.c0 .n) le fun hw => ?_
            replace CL := CL.add (t := 122) (d := (.i t1)) S rfl rfl
            refine h_bin S CL hw le (subR rfl) rfl rfl rfl rfl rfl trivial fun a S CL => h_not S CL hw le (subR rfl) rfl rfl rfl trivial fun a S CL => ?_
            refine h_done ?_; clear CL hw le
            refine x_thenN ?_
            exact j7 _ (!(decide (t1 < 0))) a w (S.sb rfl (.c0 .n)) h4
           exact h_nil
          ·refine c_condF S rfl c5 (wp_exit (x_thenX (x_thenX (x_blockX (x_blockN (x_thenN ?_))))))
           exact j2 _ y79 y70 a w (S.sb rfl (.c0 .n)) h1
        ·refine c_condF S rfl c4 (wp_skip (x_blockN (x_thenN ?_)))
         exact j2 _ y76 y70 a w (S.sb rfl (.c0 .n)) h1
       refine c_region (s_move S rfl rfl fun a S => s_move S rfl rfl fun a S => s_bin S rfl rfl rfl rfl fun a S => s_bin S rfl rfl rfl rfl fun a S => c_end ?_)
       rcases ite_of h0 with ⟨c12, h1⟩ | ⟨c12, h1⟩
       ·refine c_condT S rfl c12 (c_region (s_move S rfl rfl fun a S => s_bin S rfl rfl rfl rfl fun a S => s_assign S rfl rfl fun a S => c_end (wp_block ?_)))
        refine c_loop (fun q3 a w => ∃ m y85 y86, St 141 m b0 [(11, (.i y86)), (10, (.i y44)), (9, (.i y70)), (0, (.s ch_0_0 ch_0_1 ch_0_2)), (1, (.i x2)), (2, (.i x3)), (3, (.v (.func (.func 39) #[] #[])))] [Res.row (Ty.arr .u8 20) 28 ch_0_0 ch_0_1 ch_0_2 y85] a w ∧ api_Address_n55_0o_3f39.l3 k x3 y44 (api_Address_n55_0o_3f39.l1 k x2 x3 q1) y70 q3 y85 y86 = some r) ?_ ?_ (k := k) ⟨_, ((y43.set (Int.toNat y70) (gt y43 (wr .i64 (y70 - 1)))).set (Int.toNat (wr .i64 (y70 - 1))) (gt y43 y70)), (wr .i64 (y70 - 1)), (S.sb rfl (.c0 .n)), h1⟩
        ·rintro a w ⟨m, y85, y86, S, h0⟩
         exact (nomatch (show (none : Option (Bool × (List (List Int)))) = some r from h0))
        ·clear S h1
         rintro q3 a w ⟨m, y85, y86, S, h0⟩
         replace h0 : api_Address_n55_0o_3f39.b3 k x3 y44 (api_Address_n55_0o_3f39.l1 k x2 x3 q1) y70 (api_Address_n55_0o_3f39.l3 k x3 y44 (api_Address_n55_0o_3f39.l1 k x2 x3 q1) y70 q3) y85 y86 = some r := h0
         delta api_Address_n55_0o_3f39.b3 at h0
         refine wp_seq (c_region (s_move S rfl rfl fun a S => s_bin S rfl rfl rfl rfl fun a S => c_end ?_))
         rcases ite_of h0 with ⟨c13, h1⟩ | ⟨c13, h1⟩
         ·refine c_condT S rfl c13 (wp_skip (x_thenN (wp_seq_k fun K8 hK8 => ?_)))
          have j8 : ∀ m a w, St 141 m b0 [(11, (.i y86)), (10, (.i y44)), (9, (.i y70)), (0, (.s ch_0_0 ch_0_1 ch_0_2)), (1, (.i x2)), (2, (.i x3)), (3, (.v (.func (.func 39) #[] #[])))] [Res.row (Ty.arr .u8 20) 28 ch_0_0 ch_0_1 ch_0_2 ((y85.set (Int.toNat y86) (gt y85 (wr .i64 (y86 - 1)))).set (Int.toNat (wr .i64 (y86 - 1))) (gt y85 y86))] a w → api_Address_n55_0o_3f39.j8 y85 y86 (api_Address_n55_0o_3f39.l3 k x3 y44 (api_Address_n55_0o_3f39.l1 k x2 x3 q1) y70 q3) = some r → K8 a w := by
           intro m a w S h0
           delta api_Address_n55_0o_3f39.j8 at h0
           refine hK8 a w (c_region' (s_move S rfl rfl fun a S => s_bin S rfl rfl rfl rfl fun a S => s_assign S rfl rfl fun a S => c_end' (x_thenN ?_)))
           exact ⟨_, ((y85.set (Int.toNat y86) (gt y85 (wr .i64 (y86 - 1)))).set (Int.toNat (wr .i64 (y86 - 1))) (gt y85 y86)), (wr .i64 (y86 - 1)), (S.sb rfl (.c0 .n)), h0⟩
          refine wp_block (wp_seq (wp_seq_k fun K9 hK9 => ?_))
          have j9 : ∀ m y88 a w, St 141 m b0 [(84, (.b y88)), (11, (.i y86)), (10, (.i y44)), (9, (.i y70)), (0, (.s ch_0_0 ch_0_1 ch_0_2)), (1, (.i x2)), (2, (.i x3)), (3, (.v (.func (.func 39) #[] #[])))] [Res.row (Ty.arr .u8 20) 28 ch_0_0 ch_0_1 ch_0_2 y85] a w → api_Address_n55_0o_3f39.j9 k x3 y44 (api_Address_n55_0o_3f39.l1 k x2 x3 q1) y70 y85 y86 (api_Address_n55_0o_3f39.l3 k x3 y44 (api_Address_n55_0o_3f39.l1 k x2 x3 q1) y70 q3) y88 = some r → K9 a w := by
           intro m y88 a w S h0
           delta api_Address_n55_0o_3f39.j9 at h0
           refine hK9 a w ?_
           rcases ite_of h0 with ⟨c14, h1⟩ | ⟨c14, h1⟩
           ·refine c_condT S rfl c14 (wp_exit (x_thenX (x_blockO (by decide) (x_thenX (x_thenX (x_blockX (x_thenN ?_)))))))
            exact j5 _ y85 a w (S.sb rfl (.c0 .n)) h1
           ·refine c_condF S rfl c14 (wp_skip (x_thenN (c_heldS S (.take 0 (.take 1 (.take 2 (.take 3 (.take 4 (.take 5 (.take 6 (.take 7 (.take 10 (.take 11 (.alts (.run 8 true (.alts (.run 9 true (.alts (.run 12 true (.alts (.run 13 true (.alts (.run 14 true (.alts (.run 15 true (.alts (.run 16 true (.alts (.run 17 false .done .nil)) .nil)) .nil)) .nil)) .nil)) .nil)) (.run 12 true (.alts (.run 9 true (.alts (.run 13 true (.alts (.run 14 true (.alts (.run 15 true (.alts (.run 16 true (.alts (.run 17 false .done .nil)) .nil)) .nil)) .nil)) .nil)) (.run 13 true (.alts (.run 9 true (.alts (.run 14 true (.alts (.run 15 true (.alts (.run 16 true (.alts (.run 17 false .done .nil)) .nil)) .nil)) .nil)) .nil)) .nil))) .nil))) (.run 12 true (.alts (.run 8 true (.alts (.run 9 true (.alts (.run 13 true (.alts (.run 14 true (.alts (.run 15 true (.alts (.run 16 true (.alts (.run 17 false .done .nil)) .nil)) .nil)) .nil)) .nil)) (.run 13 true (.alts (.run 9 true (.alts (.run 14 true (.alts (.run 15 true (.alts (.run 16 true (.alts (.run 17 false .done .nil)) .nil)) .nil)) .nil)) .nil)) .nil))) (.run 13 true (.alts (.run 8 true (.alts (.run 9 true (.alts (.run 14 true (.alts (.run 15 true (.alts (.run 16 true (.alts (.run 17 false .done .nil)) .nil)) .nil)) .nil)) .nil)) .nil)) .nil))) .nil))))))))))))) 17 [] .nil trivial [(11, (.i y86)), (0, (.s ch_0_0 ch_0_1 ch_0_2))] (subR rfl) (by kernel_rfl) (by kernel_rfl) fun w S CL hw le => ?_)))
            refine h_move S CL hw le (subR rfl) rfl rfl rfl trivial fun a S CL => h_move S CL hw le (subR rfl) rfl rfl rfl trivial fun a S CL => h_move S CL hw le (subR rfl) rfl rfl rfl trivial fun a S CL => h_move S CL hw le (subR rfl) rfl rfl rfl trivial fun a S CL => h_bin S CL hw le (subR rfl) rfl rfl rfl rfl rfl trivial fun a S CL => h_move S CL hw le (subR rfl) rfl rfl rfl trivial fun a S CL => h_move S CL hw le (subR rfl) rfl rfl rfl trivial fun a S CL => h_bin S CL hw le (subR rfl) rfl rfl rfl rfl rfl trivial fun a S CL => h_move S CL hw le (subR rfl) rfl rfl rfl trivial fun a S CL => h_move S CL hw le (subR rfl) rfl rfl rfl trivial fun a S CL => ?_
            obtain ⟨c15, h2⟩ := chk_of h1; clear h1
            obtain ⟨c16, h3⟩ := chk_of h2; clear h2
            obtain ⟨c17, h4⟩ := chk_of h3; clear h3
            refine h_alts ?_
            refine h_runO S rfl trivial ?_ ?_
            ·refine s_iaddrO S (ty' := (Ty.arr .u8 20)) rfl .h rfl underlying23 T28 c15.1 c15.2 rfl fun g15 a hA7 S => CL.bk hw S .nil le fun hw => h_alts ?_
             refine h_runO S rfl trivial ?_ ?_
             ·refine s_ldRA S (ty' := (Ty.arr .u8 20)) (i := (wr .i64 (y86 - 1))) (off := 0) (fun (c : Unit) => [.b20 (gt y85 (wr .i64 (y86 - 1)))]) rfl hA7 .h T28 c15.1 c15.2 rfl (fun _ => rfl) rfl fun ch6 a S => ?_
              refine CL.br hw S .nil le rfl trivial fun hw => (s_iaddrO S (ty' := (Ty.arr .u8 20)) rfl .h rfl underlying23 T28 c16.1 c16.2 rfl fun g16 a hA8 S => CL.br hw S .nil le rfl trivial fun hw => (s_ldRA S (ty' := (Ty.arr .u8 20)) (i := y86) (off := 0) (fun (c : Unit) => [.b20 (gt y85 y86)]) rfl hA8 .h T28 c16.1 c16.2 rfl (fun _ => rfl) rfl fun ch7 a S => ?_))
              refine CL.br hw S .nil le rfl trivial fun hw => (s_iaddrO S (ty' := (Ty.arr .u8 20)) rfl .h rfl underlying23 T28 c16.1 c16.2 rfl fun g17 a hA9 S => CL.br hw S .nil le rfl trivial fun hw => (s_stR S (ty' := (Ty.arr .u8 20)) (i := y86) (off := 0) (u := gt y85 (wr .i64 (y86 - 1))) (fun (c : Unit) => ()) rfl rfl rfl hA9 .h T28 c16.1 c16.2 rfl (by decide) rfl (fun _ => rfl) fun w S => CL.br hw S .nil le rfl trivial fun hw => (s_iaddrO S (ty' := (Ty.arr .u8 20)) rfl .h rfl underlying23 T28 c17.1 c17.2 rfl fun g18 a hA10 S => CL.br hw S .nil le rfl trivial fun hw => (s_stR S (ty' := (Ty.arr .u8 20)) (i := (wr .i64 (y86 - 1))) (off := 0) (u := gt y85 y86) (fun (c : Unit) => ()) rfl rfl rfl hA10 .h T28 c17.1 c17.2 rfl (by decide) rfl (fun _ => rfl) fun w S => ?_))))
              refine h_back ⟨fun h => (nomatch h), ?_⟩
              refine h_done ?_; clear CL hw le
              refine x_blockN (x_thenN ?_)
              exact j8 _ a w (S.sb rfl (.c0 .n)) h4
             refine h_runO S rfl trivial ?_ ?_
             ·refine s_iaddrO S (ty' := (Ty.arr .u8 20)) rfl .h rfl underlying23 T28 c16.1 c16.2 rfl fun g16 a hA8 S => CL.bk hw S .nil le fun hw => h_alts ?_
              refine h_runO S rfl trivial ?_ ?_
              ·refine s_ldRA S (ty' := (Ty.arr .u8 20)) (i := (wr .i64 (y86 - 1))) (off := 0) (fun (c : Unit) => [.b20 (gt y85 (wr .i64 (y86 - 1)))]) rfl hA7 .h T28 c15.1 c15.2 rfl (fun _ => rfl) rfl fun ch6 a S => ?_
               refine CL.br hw S .nil le rfl trivial fun hw => (s_ldRA S (ty' := (Ty.arr .u8 20)) (i := y86) (off := 0) (fun (c : Unit) => [.b20 (gt y85 y86)]) rfl hA8 .h T28 c16.1 c16.2 rfl (fun _ => rfl) rfl fun ch7 a S => ?_)
               refine CL.br hw S .nil le rfl trivial fun hw => (s_iaddrO S (ty' := (Ty.arr .u8 20)) rfl .h rfl underlying23 T28 c16.1 c16.2 rfl fun g17 a hA9 S => CL.br hw S .nil le rfl trivial fun hw => (s_stR S (ty' := (Ty.arr .u8 20)) (i := y86) (off := 0) (u := gt y85 (wr .i64 (y86 - 1))) (fun (c : Unit) => ()) rfl rfl rfl hA9 .h T28 c16.1 c16.2 rfl (by decide) rfl (fun _ => rfl) fun w S => CL.br hw S .nil le rfl trivial fun hw => (s_iaddrO S (ty' := (Ty.arr .u8 20)) rfl .h rfl underlying23 T28 c17.1 c17.2 rfl fun g18 a hA10 S => CL.br hw S .nil le rfl trivial fun hw => (s_stR S (ty' := (Ty.arr .u8 20)) (i := (wr .i64 (y86 - 1))) (off := 0) (u := gt y85 y86) (fun (c : Unit) => ()) rfl rfl rfl hA10 .h T28 c17.1 c17.2 rfl (by decide) rfl (fun _ => rfl) fun w S => ?_))))
               refine h_back ⟨fun h => (nomatch h), ?_⟩
               refine h_done ?_; clear CL hw le
               refine x_blockN (x_thenN ?_)
               exact j8 _ a w (S.sb rfl (.c0 .n)) h4
              refine h_runO S rfl trivial ?_ ?_
              ·refine s_ldRA S (ty' := (Ty.arr .u8 20)) (i := y86) (off := 0) (fun (c : Unit) => [.b20 (gt y85 y86)]) rfl hA8 .h T28 c16.1 c16.2 rfl (fun _ => rfl) rfl fun ch6 a S => ?_
               refine CL.br hw S .nil le rfl trivial fun hw => (s_ldRA S (ty' := (Ty.arr .u8 20)) (i := (wr .i64 (y86 - 1))) (off := 0) (fun (c : Unit) => [.b20 (gt y85 (wr .i64 (y86 - 1)))]) rfl hA7 .h T28 c15.1 c15.2 rfl (fun _ => rfl) rfl fun ch7 a S => ?_)
               refine CL.br hw S .nil le rfl trivial fun hw => (s_iaddrO S (ty' := (Ty.arr .u8 20)) rfl .h rfl underlying23 T28 c16.1 c16.2 rfl fun g17 a hA9 S => CL.br hw S .nil le rfl trivial fun hw => (s_stR S (ty' := (Ty.arr .u8 20)) (i := y86) (off := 0) (u := gt y85 (wr .i64 (y86 - 1))) (fun (c : Unit) => ()) rfl rfl rfl hA9 .h T28 c16.1 c16.2 rfl (by decide) rfl (fun _ => rfl) fun w S => CL.br hw S .nil le rfl trivial fun hw => (s_iaddrO S (ty' := (Ty.arr .u8 20)) rfl .h rfl underlying23 T28 c17.1 c17.2 rfl fun g18 a hA10 S => CL.br hw S .nil le rfl trivial fun hw => (s_stR S (ty' := (Ty.arr .u8 20)) (i := (wr .i64 (y86 - 1))) (off := 0) (u := gt y85 y86) (fun (c : Unit) => ()) rfl rfl rfl hA10 .h T28 c17.1 c17.2 rfl (by decide) rfl (fun _ => rfl) fun w S => ?_))))
               refine h_back ⟨fun h => (nomatch h), ?_⟩
               refine h_done ?_; clear CL hw le
               refine x_blockN (x_thenN ?_)
               exact j8 _ a w (S.sb rfl (.c0 .n)) h4
              exact h_nil
             exact h_nil
            refine h_runO S rfl trivial ?_ ?_
            ·refine s_iaddrO S (ty' := (Ty.arr .u8 20)) rfl .h rfl underlying23 T28 c16.1 c16.2 rfl fun g15 a hA7 S => CL.bk hw S .nil le fun hw => h_alts ?_
             refine h_runO S rfl trivial ?_ ?_
             ·refine s_iaddrO S (ty' := (Ty.arr .u8 20)) rfl .h rfl underlying23 T28 c15.1 c15.2 rfl fun g16 a hA8 S => CL.bk hw S .nil le fun hw => h_alts ?_
              refine h_runO S rfl trivial ?_ ?_
              ·refine s_ldRA S (ty' := (Ty.arr .u8 20)) (i := (wr .i64 (y86 - 1))) (off := 0) (fun (c : Unit) => [.b20 (gt y85 (wr .i64 (y86 - 1)))]) rfl hA8 .h T28 c15.1 c15.2 rfl (fun _ => rfl) rfl fun ch6 a S => ?_
               refine CL.br hw S .nil le rfl trivial fun hw => (s_ldRA S (ty' := (Ty.arr .u8 20)) (i := y86) (off := 0) (fun (c : Unit) => [.b20 (gt y85 y86)]) rfl hA7 .h T28 c16.1 c16.2 rfl (fun _ => rfl) rfl fun ch7 a S => ?_)
               refine CL.br hw S .nil le rfl trivial fun hw => (s_iaddrO S (ty' := (Ty.arr .u8 20)) rfl .h rfl underlying23 T28 c16.1 c16.2 rfl fun g17 a hA9 S => CL.br hw S .nil le rfl trivial fun hw => (s_stR S (ty' := (Ty.arr .u8 20)) (i := y86) (off := 0) (u := gt y85 (wr .i64 (y86 - 1))) (fun (c : Unit) => ()) rfl rfl rfl hA9 .h T28 c16.1 c16.2 rfl (by decide) rfl (fun _ => rfl) fun w S => CL.br hw S .nil le rfl trivial fun hw => (s_iaddrO S (ty' := (Ty.arr .u8 20)) rfl .h rfl underlying23 T28 c17.1 c17.2 rfl fun g18 a hA10 S => CL.br hw S .nil le rfl trivial fun hw => (s_stR S (ty' := (Ty.arr .u8 20)) (i := (wr .i64 (y86 - 1))) (off := 0) (u := gt y85 y86) (fun (c : Unit) => ()) rfl rfl rfl hA10 .h T28 c17.1 c17.2 rfl (by decide) rfl (fun _ => rfl) fun w S => ?_))))
               refine h_back ⟨fun h => (nomatch h), ?_⟩
               refine h_done ?_; clear CL hw le
               refine x_blockN (x_thenN ?_)
               exact j8 _ a w (S.sb rfl (.c0 .n)) h4
              refine h_runO S rfl trivial ?_ ?_
              ·refine s_ldRA S (ty' := (Ty.arr .u8 20)) (i := y86) (off := 0) (fun (c : Unit) => [.b20 (gt y85 y86)]) rfl hA7 .h T28 c16.1 c16.2 rfl (fun _ => rfl) rfl fun ch6 a S => ?_
               refine CL.br hw S .nil le rfl trivial fun hw => (s_ldRA S (ty' := (Ty.arr .u8 20)) (i := (wr .i64 (y86 - 1))) (off := 0) (fun (c : Unit) => [.b20 (gt y85 (wr .i64 (y86 - 1)))]) rfl hA8 .h T28 c15.1 c15.2 rfl (fun _ => rfl) rfl fun ch7 a S => ?_)
               refine CL.br hw S .nil le rfl trivial fun hw => (s_iaddrO S (ty' := (Ty.arr .u8 20)) rfl .h rfl underlying23 T28 c16.1 c16.2 rfl fun g17 a hA9 S => CL.br hw S .nil le rfl trivial fun hw => (s_stR S (ty' := (Ty.arr .u8 20)) (i := y86) (off := 0) (u := gt y85 (wr .i64 (y86 - 1))) (fun (c : Unit) => ()) rfl rfl rfl hA9 .h T28 c16.1 c16.2 rfl (by decide) rfl (fun _ => rfl) fun w S => CL.br hw S .nil le rfl trivial fun hw => (s_iaddrO S (ty' := (Ty.arr .u8 20)) rfl .h rfl underlying23 T28 c17.1 c17.2 rfl fun g18 a hA10 S => CL.br hw S .nil le rfl trivial fun hw => (s_stR S (ty' := (Ty.arr .u8 20)) (i := (wr .i64 (y86 - 1))) (off := 0) (u := gt y85 y86) (fun (c : Unit) => ()) rfl rfl rfl hA10 .h T28 c17.1 c17.2 rfl (by decide) rfl (fun _ => rfl) fun w S => ?_))))
               refine h_back ⟨fun h => (nomatch h), ?_⟩
               refine h_done ?_; clear CL hw le
               refine x_blockN (x_thenN ?_)
               exact j8 _ a w (S.sb rfl (.c0 .n)) h4
              exact h_nil
             refine h_runO S rfl trivial ?_ ?_
             ·refine s_ldRA S (ty' := (Ty.arr .u8 20)) (i := y86) (off := 0) (fun (c : Unit) => [.b20 (gt y85 y86)]) rfl hA7 .h T28 c16.1 c16.2 rfl (fun _ => rfl) rfl fun ch6 a S => ?_
              refine CL.br hw S .nil le rfl trivial fun hw => (s_iaddrO S (ty' := (Ty.arr .u8 20)) rfl .h rfl underlying23 T28 c15.1 c15.2 rfl fun g16 a hA8 S => CL.br hw S .nil le rfl trivial fun hw => (s_ldRA S (ty' := (Ty.arr .u8 20)) (i := (wr .i64 (y86 - 1))) (off := 0) (fun (c : Unit) => [.b20 (gt y85 (wr .i64 (y86 - 1)))]) rfl hA8 .h T28 c15.1 c15.2 rfl (fun _ => rfl) rfl fun ch7 a S => ?_))
              refine CL.br hw S .nil le rfl trivial fun hw => (s_iaddrO S (ty' := (Ty.arr .u8 20)) rfl .h rfl underlying23 T28 c16.1 c16.2 rfl fun g17 a hA9 S => CL.br hw S .nil le rfl trivial fun hw => (s_stR S (ty' := (Ty.arr .u8 20)) (i := y86) (off := 0) (u := gt y85 (wr .i64 (y86 - 1))) (fun (c : Unit) => ()) rfl rfl rfl hA9 .h T28 c16.1 c16.2 rfl (by decide) rfl (fun _ => rfl) fun w S => CL.br hw S .nil le rfl trivial fun hw => (s_iaddrO S (ty' := (Ty.arr .u8 20)) rfl .h rfl underlying23 T28 c17.1 c17.2 rfl fun g18 a hA10 S => CL.br hw S .nil le rfl trivial fun hw => (s_stR S (ty' := (Ty.arr .u8 20)) (i := (wr .i64 (y86 - 1))) (off := 0) (u := gt y85 y86) (fun (c : Unit) => ()) rfl rfl rfl hA10 .h T28 c17.1 c17.2 rfl (by decide) rfl (fun _ => rfl) fun w S => ?_))))
              refine h_back ⟨fun h => (nomatch h), ?_⟩
              refine h_done ?_; clear CL hw le
              refine x_blockN (x_thenN ?_)
              exact j8 _ a w (S.sb rfl (.c0 .n)) h4
             exact h_nil
            exact h_nil
          refine c_heldS S (.take 0 (.take 1 (.take 2 (.take 3 (.take 5 (.take 6 (.take 7 (.take 8 (.alts (.run 4 true (.alts (.run 9 true (.alts (.run 10 true (.take 11 (.take 12 .done)) .nil)) .nil)) (.run 9 true (.alts (.run 4 true (.alts (.run 10 true (.take 11 (.take 12 .done)) .nil)) .nil)) .nil))))))))))) 13 [Res.row (Ty.arr .u8 20) 28 ch_0_0 ch_0_1 ch_0_2 y85] (.c0 .n) ⟨Res.stay_row flat_arr, trivial⟩ [(11, (.i y86)), (0, (.s ch_0_0 ch_0_1 ch_0_2)), (3, (.v (.func (.func 39) #[] #[])))] (subR rfl) (by kernel_rfl) (by kernel_rfl) fun w S CL hw le => ?_
          refine h_move S CL hw le (subR rfl) rfl rfl rfl trivial fun a S CL => h_move S CL hw le (subR rfl) rfl rfl rfl trivial fun a S CL => h_move S CL hw le (subR rfl) rfl rfl rfl trivial fun a S CL => ?_
          obtain ⟨c18, h2⟩ := chk_of h1; clear h1
          refine h_iaddrO S CL hw le (subR rfl) (ty' := (Ty.arr .u8 20)) rfl .h rfl underlying23 T28 c18.1 c18.2 rfl rfl trivial fun g19 a hA11 S CL => h_move S CL hw le (subR rfl) rfl rfl rfl trivial fun a S CL => h_move S CL hw le (subR rfl) rfl rfl rfl trivial fun a S CL => h_bin S CL hw le (subR rfl) rfl rfl rfl rfl rfl trivial fun a S CL => ?_
          obtain ⟨c19, h3⟩ := chk_of h2; clear h2
          refine h_iaddrO S CL hw le (subR rfl) (ty' := (Ty.arr .u8 20)) rfl .h rfl underlying23 T28 c19.1 c19.2 rfl rfl trivial fun g20 a hA12 S CL => bindX h3 fun t3 et3 h4 => h_alts ?_
          refine h_runO S rfl trivial ?_ ?_
          ·refine s_ldRA S (ty' := (Ty.arr .u8 20)) (i := y86) (off := 0) (fun (c : Unit) => [.b20 (gt y85 y86)]) rfl hA11 .h T28 c18.1 c18.2 rfl (fun _ => rfl) rfl fun ch8 a S => ?_
           refine CL.bk hw S (.c0 .n) le fun hw => h_run' S rfl trivial (s_ldRA S (ty' := (Ty.arr .u8 20)) (i := (wr .i64 (y86 - 1))) (off := 0) (fun (c : Unit) => [.b20 (gt y85 (wr .i64 (y86 - 1)))]) rfl hA12 .h T28 c19.1 c19.2 rfl (fun _ => rfl) rfl fun ch9 a S => ?_)
           refine CL.bk hw S (.c0 .n) le fun hw => h_run' S rfl trivial (s_callP S _ N39 rfl rfl (addr_Compare.ok (gt y85 y86) (gt y85 (wr .i64 (y86 - 1))) t3 et3 _ _) fun ch10 m le1 a w S => ?_)
           replace le := le.trans le1
           refine CL.bk hw S (.c0 .n) le fun hw => ?_
           replace CL := CL.add (t := 82) (d := (.i t3)) S rfl rfl
           refine h_bin S CL hw le (subR rfl) rfl rfl rfl rfl rfl trivial fun a S CL => h_not S CL hw le (subR rfl) rfl rfl rfl trivial fun a S CL => ?_
           refine h_done ?_; clear CL hw le
           refine x_thenN ?_
           exact j9 _ (!(decide (t3 < 0))) a w (S.sb rfl (.c0 .n)) h4
          refine h_runO S rfl trivial ?_ ?_
          ·refine s_ldRA S (ty' := (Ty.arr .u8 20)) (i := (wr .i64 (y86 - 1))) (off := 0) (fun (c : Unit) => [.b20 (gt y85 (wr .i64 (y86 - 1)))]) rfl hA12 .h T28 c19.1 c19.2 rfl (fun _ => rfl) rfl fun ch8 a S => ?_
           refine CL.bk hw S (.c0 .n) le fun hw => h_run' S rfl trivial (s_ldRA S (ty' := (Ty.arr .u8 20)) (i := y86) (off := 0) (fun (c : Unit) => [.b20 (gt y85 y86)]) rfl hA11 .h T28 c18.1 c18.2 rfl (fun _ => rfl) rfl fun ch9 a S => ?_)
           refine CL.bk hw S (.c0 .n) le fun hw => h_run' S rfl trivial (s_callP S _ N39 rfl rfl (addr_Compare.ok (gt y85 y86) (gt y85 (wr .i64 (y86 - 1))) t3 et3 _ _) fun ch10 m le1 a w S => ?_)
           replace le := le.trans le1
           refine CL.bk hw S (.c0 .n) le fun hw => ?_
           replace CL := CL.add (t := 82) (d := (.i t3)) S rfl rfl
           refine h_bin S CL hw le (subR rfl) rfl rfl rfl rfl rfl trivial fun a S CL => h_not S CL hw le (subR rfl) rfl rfl rfl trivial fun a S CL => ?_
           refine h_done ?_; clear CL hw le
           refine x_thenN ?_
           exact j9 _ (!(decide (t3 < 0))) a w (S.sb rfl (.c0 .n)) h4
          exact h_nil
         ·refine c_condF S rfl c13 (wp_exit (x_thenX (x_thenX (x_blockX (x_thenN ?_)))))
          exact j5 _ y85 a w (S.sb rfl (.c0 .n)) h1
       ·refine c_condF S rfl c12 (wp_skip (x_thenN ?_))
        exact j5 _ ((y43.set (Int.toNat y70) (gt y43 (wr .i64 (y70 - 1)))).set (Int.toNat (wr .i64 (y70 - 1))) (gt y43 y70)) a w (S.sb rfl (.c0 .n)) h1
      refine c_heldS S (.take 0 (.take 1 (.take 2 (.take 3 (.take 4 (.take 5 (.take 6 (.take 7 (.take 10 (.take 11 (.alts (.run 8 true (.alts (.run 9 true (.alts (.run 12 true (.alts (.run 13 true (.alts (.run 14 true (.alts (.run 15 true (.alts (.run 16 true (.alts (.run 17 false .done .nil)) .nil)) .nil)) .nil)) .nil)) .nil)) (.run 12 true (.alts (.run 9 true (.alts (.run 13 true (.alts (.run 14 true (.alts (.run 15 true (.alts (.run 16 true (.alts (.run 17 false .done .nil)) .nil)) .nil)) .nil)) .nil)) (.run 13 true (.alts (.run 9 true (.alts (.run 14 true (.alts (.run 15 true (.alts (.run 16 true (.alts (.run 17 false .done .nil)) .nil)) .nil)) .nil)) .nil)) .nil))) .nil))) (.run 12 true (.alts (.run 8 true (.alts (.run 9 true (.alts (.run 13 true (.alts (.run 14 true (.alts (.run 15 true (.alts (.run 16 true (.alts (.run 17 false .done .nil)) .nil)) .nil)) .nil)) .nil)) (.run 13 true (.alts (.run 9 true (.alts (.run 14 true (.alts (.run 15 true (.alts (.run 16 true (.alts (.run 17 false .done .nil)) .nil)) .nil)) .nil)) .nil)) .nil))) (.run 13 true (.alts (.run 8 true (.alts (.run 9 true (.alts (.run 14 true (.alts (.run 15 true (.alts (.run 16 true (.alts (.run 17 false .done .nil)) .nil)) .nil)) .nil)) .nil)) .nil)) .nil))) .nil))))))))))))) 17 [] .nil trivial [(9, (.i y70)), (0, (.s ch_0_0 ch_0_1 ch_0_2))] (subR rfl) (by kernel_rfl) (by kernel_rfl) fun w S CL hw le => ?_
      refine h_move S CL hw le (subR rfl) rfl rfl rfl trivial fun a S CL => h_move S CL hw le (subR rfl) rfl rfl rfl trivial fun a S CL => h_move S CL hw le (subR rfl) rfl rfl rfl trivial fun a S CL => h_move S CL hw le (subR rfl) rfl rfl rfl trivial fun a S CL => h_bin S CL hw le (subR rfl) rfl rfl rfl rfl rfl trivial fun a S CL => h_move S CL hw le (subR rfl) rfl rfl rfl trivial fun a S CL => h_move S CL hw le (subR rfl) rfl rfl rfl trivial fun a S CL => h_bin S CL hw le (subR rfl) rfl rfl rfl rfl rfl trivial fun a S CL => h_move S CL hw le (subR rfl) rfl rfl rfl trivial fun a S CL => h_move S CL hw le (subR rfl) rfl rfl rfl trivial fun a S CL => ?_
      obtain ⟨c20, h3⟩ := chk_of h2; clear h2
      obtain ⟨c21, h4⟩ := chk_of h3; clear h3
      obtain ⟨c22, h5⟩ := chk_of h4; clear h4
      refine h_alts ?_
      refine h_runO S rfl trivial ?_ ?_
      ·refine s_iaddrO S (ty' := (Ty.arr .u8 20)) rfl .h rfl underlying23 T28 c20.1 c20.2 rfl fun g21 a hA13 S => CL.bk hw S .nil le fun hw => h_alts ?_
       refine h_runO S rfl trivial ?_ ?_
       ·refine s_ldRA S (ty' := (Ty.arr .u8 20)) (i := (wr .i64 (y70 - 1))) (off := 0) (fun (c : Unit) => [.b20 (gt y43 (wr .i64 (y70 - 1)))]) rfl hA13 .h T28 c20.1 c20.2 rfl (fun _ => rfl) rfl fun ch11 a S => ?_
        refine CL.br hw S .nil le rfl trivial fun hw => (s_iaddrO S (ty' := (Ty.arr .u8 20)) rfl .h rfl underlying23 T28 c21.1 c21.2 rfl fun g22 a hA14 S => CL.br hw S .nil le rfl trivial fun hw => (s_ldRA S (ty' := (Ty.arr .u8 20)) (i := y70) (off := 0) (fun (c : Unit) => [.b20 (gt y43 y70)]) rfl hA14 .h T28 c21.1 c21.2 rfl (fun _ => rfl) rfl fun ch12 a S => ?_))
        refine CL.br hw S .nil le rfl trivial fun hw => (s_iaddrO S (ty' := (Ty.arr .u8 20)) rfl .h rfl underlying23 T28 c21.1 c21.2 rfl fun g23 a hA15 S => CL.br hw S .nil le rfl trivial fun hw => (s_stR S (ty' := (Ty.arr .u8 20)) (i := y70) (off := 0) (u := gt y43 (wr .i64 (y70 - 1))) (fun (c : Unit) => ()) rfl rfl rfl hA15 .h T28 c21.1 c21.2 rfl (by decide) rfl (fun _ => rfl) fun w S => CL.br hw S .nil le rfl trivial fun hw => (s_iaddrO S (ty' := (Ty.arr .u8 20)) rfl .h rfl underlying23 T28 c22.1 c22.2 rfl fun g24 a hA16 S => CL.br hw S .nil le rfl trivial fun hw => (s_stR S (ty' := (Ty.arr .u8 20)) (i := (wr .i64 (y70 - 1))) (off := 0) (u := gt y43 y70) (fun (c : Unit) => ()) rfl rfl rfl hA16 .h T28 c22.1 c22.2 rfl (by decide) rfl (fun _ => rfl) fun w S => ?_))))
        refine h_back ⟨fun h => (nomatch h), ?_⟩
        refine h_done ?_; clear CL hw le
        refine x_thenN ?_
        exact j4 _ a w (S.sb rfl (.c0 .n)) h5
       refine h_runO S rfl trivial ?_ ?_
       ·refine s_iaddrO S (ty' := (Ty.arr .u8 20)) rfl .h rfl underlying23 T28 c21.1 c21.2 rfl fun g22 a hA14 S => CL.bk hw S .nil le fun hw => h_alts ?_
        refine h_runO S rfl trivial ?_ ?_
        ·refine s_ldRA S (ty' := (Ty.arr .u8 20)) (i := (wr .i64 (y70 - 1))) (off := 0) (fun (c : Unit) => [.b20 (gt y43 (wr .i64 (y70 - 1)))]) rfl hA13 .h T28 c20.1 c20.2 rfl (fun _ => rfl) rfl fun ch11 a S => ?_
         refine CL.br hw S .nil le rfl trivial fun hw => (s_ldRA S (ty' := (Ty.arr .u8 20)) (i := y70) (off := 0) (fun (c : Unit) => [.b20 (gt y43 y70)]) rfl hA14 .h T28 c21.1 c21.2 rfl (fun _ => rfl) rfl fun ch12 a S => ?_)
         refine CL.br hw S .nil le rfl trivial fun hw => (s_iaddrO S (ty' := (Ty.arr .u8 20)) rfl .h rfl underlying23 T28 c21.1 c21.2 rfl fun g23 a hA15 S => CL.br hw S .nil le rfl trivial fun hw => (s_stR S (ty' := (Ty.arr .u8 20)) (i := y70) (off := 0) (u := gt y43 (wr .i64 (y70 - 1))) (fun (c : Unit) => ()) rfl rfl rfl hA15 .h T28 c21.1 c21.2 rfl (by decide) rfl (fun _ => rfl) fun w S => CL.br hw S .nil le rfl trivial fun hw => (s_iaddrO S (ty' := (Ty.arr .u8 20)) rfl .h rfl underlying23 T28 c22.1 c22.2 rfl fun g24 a hA16 S => CL.br hw S .nil le rfl trivial fun hw => (s_stR S (ty' := (Ty.arr .u8 20)) (i := (wr .i64 (y70 - 1))) (off := 0) (u := gt y43 y70) (fun (c : Unit) => ()) rfl rfl rfl hA16 .h T28 c22.1 c22.2 rfl (by decide) rfl (fun _ => rfl) fun w S => ?_))))
         refine h_back ⟨fun h => (nomatch h), ?_⟩
         refine h_done ?_; clear CL hw le
         refine x_thenN ?_
         exact j4 _ a w (S.sb rfl (.c0 .n)) h5
        refine h_runO S rfl trivial ?_ ?_
        ·refine s_ldRA S (ty' := (Ty.arr .u8 20)) (i := y70) (off := 0) (fun (c : Unit) => [.b20 (gt y43 y70)]) rfl hA14 .h T28 c21.1 c21.2 rfl (fun _ => rfl) rfl fun ch11 a S => ?_
         refine CL.br hw S .nil le rfl trivial fun hw => (s_ldRA S (ty' := (Ty.arr .u8 20)) (i := (wr .i64 (y70 - 1))) (off := 0) (fun (c : Unit) => [.b20 (gt y43 (wr .i64 (y70 - 1)))]) rfl hA13 .h T28 c20.1 c20.2 rfl (fun _ => rfl) rfl fun ch12 a S => ?_)
         refine CL.br hw S .nil le rfl trivial fun hw => (s_iaddrO S (ty' := (Ty.arr .u8 20)) rfl .h rfl underlying23 T28 c21.1 c21.2 rfl fun g23 a hA15 S => CL.br hw S .nil le rfl trivial fun hw => (s_stR S (ty' := (Ty.arr .u8 20)) (i := y70) (off := 0) (u := gt y43 (wr .i64 (y70 - 1))) (fun (c : Unit) => ()) rfl rfl rfl hA15 .h T28 c21.1 c21.2 rfl (by decide) rfl (fun _ => rfl) fun w S => CL.br hw S .nil le rfl trivial fun hw => (s_iaddrO S (ty' := (Ty.arr .u8 20)) rfl .h rfl underlying23 T28 c22.1 c22.2 rfl fun g24 a hA16 S => CL.br hw S .nil le rfl trivial fun hw => (s_stR S (ty' := (Ty.arr .u8 20)) (i := (wr .i64 (y70 - 1))) (off := 0) (u := gt y43 y70) (fun (c : Unit) => ()) rfl rfl rfl hA16 .h T28 c22.1 c22.2 rfl (by decide) rfl (fun _ => rfl) fun w S => ?_))))
         refine h_back ⟨fun h => (nomatch h), ?_⟩
         refine h_done ?_; clear CL hw le
         refine x_thenN ?_
         exact j4 _ a w (S.sb rfl (.c0 .n)) h5
        exact h_nil
       exact h_nil
      refine h_runO S rfl trivial ?_ ?_
      ·refine s_iaddrO S (ty' := (Ty.arr .u8 20)) rfl .h rfl underlying23 T28 c21.1 c21.2 rfl fun g21 a hA13 S => CL.bk hw S .nil le fun hw => h_alts ?_
       refine h_runO S rfl trivial ?_ ?_
       ·refine s_iaddrO S (ty' := (Ty.arr .u8 20)) rfl .h rfl underlying23 T28 c20.1 c20.2 rfl fun g22 a hA14 S => CL.bk hw S .nil le fun hw => h_alts ?_
        refine h_runO S rfl trivial ?_ ?_
        ·refine s_ldRA S (ty' := (Ty.arr .u8 20)) (i := (wr .i64 (y70 - 1))) (off := 0) (fun (c : Unit) => [.b20 (gt y43 (wr .i64 (y70 - 1)))]) rfl hA14 .h T28 c20.1 c20.2 rfl (fun _ => rfl) rfl fun ch11 a S => ?_
         refine CL.br hw S .nil le rfl trivial fun hw => (s_ldRA S (ty' := (Ty.arr .u8 20)) (i := y70) (off := 0) (fun (c : Unit) => [.b20 (gt y43 y70)]) rfl hA13 .h T28 c21.1 c21.2 rfl (fun _ => rfl) rfl fun ch12 a S => ?_)
         refine CL.br hw S .nil le rfl trivial fun hw => (s_iaddrO S (ty' := (Ty.arr .u8 20)) rfl .h rfl underlying23 T28 c21.1 c21.2 rfl fun g23 a hA15 S => CL.br hw S .nil le rfl trivial fun hw => (s_stR S (ty' := (Ty.arr .u8 20)) (i := y70) (off := 0) (u := gt y43 (wr .i64 (y70 - 1))) (fun (c : Unit) => ()) rfl rfl rfl hA15 .h T28 c21.1 c21.2 rfl (by decide) rfl (fun _ => rfl) fun w S => CL.br hw S .nil le rfl trivial fun hw => (s_iaddrO S (ty' := (Ty.arr .u8 20)) rfl .h rfl underlying23 T28 c22.1 c22.2 rfl fun g24 a hA16 S => CL.br hw S .nil le rfl trivial fun hw => (s_stR S (ty' := (Ty.arr .u8 20)) (i := (wr .i64 (y70 - 1))) (off := 0) (u := gt y43 y70) (fun (c : Unit) => ()) rfl rfl rfl hA16 .h T28 c22.1 c22.2 rfl (by decide) rfl (fun _ => rfl) fun w S => ?_))))
         refine h_back ⟨fun h => (nomatch h), ?_⟩
         refine h_done ?_; clear CL hw le
         refine x_thenN ?_
         exact j4 _ a w (S.sb rfl (.c0 .n)) h5
        refine h_runO S rfl trivial ?_ ?_
        ·refine s_ldRA S (ty' := (Ty.arr .u8 20)) (i := y70) (off := 0) (fun (c : Unit) => [.b20 (gt y43 y70)]) rfl hA13 .h T28 c21.1 c21.2 rfl (fun _ => rfl) rfl fun ch11 a S => ?_
         refine CL.br hw S .nil le rfl trivial fun hw => (s_ldRA S (ty' := (Ty.arr .u8 20)) (i := (wr .i64 (y70 - 1))) (off := 0) (fun (c : Unit) => [.b20 (gt y43 (wr .i64 (y70 - 1)))]) rfl hA14 .h T28 c20.1 c20.2 rfl (fun _ => rfl) rfl fun ch12 a S => ?_)
         refine CL.br hw S .nil le rfl trivial fun hw => (s_iaddrO S (ty' := (Ty.arr .u8 20)) rfl .h rfl underlying23 T28 c21.1 c21.2 rfl fun g23 a hA15 S => CL.br hw S .nil le rfl trivial fun hw => (s_stR S (ty' := (Ty.arr .u8 20)) (i := y70) (off := 0) (u := gt y43 (wr .i64 (y70 - 1))) (fun (c : Unit) => ()) rfl rfl rfl hA15 .h T28 c21.1 c21.2 rfl (by decide) rfl (fun _ => rfl) fun w S => CL.br hw S .nil le rfl trivial fun hw => (s_iaddrO S (ty' := (Ty.arr .u8 20)) rfl .h rfl underlying23 T28 c22.1 c22.2 rfl fun g24 a hA16 S => CL.br hw S .nil le rfl trivial fun hw => (s_stR S (ty' := (Ty.arr .u8 20)) (i := (wr .i64 (y70 - 1))) (off := 0) (u := gt y43 y70) (fun (c : Unit) => ()) rfl rfl rfl hA16 .h T28 c22.1 c22.2 rfl (by decide) rfl (fun _ => rfl) fun w S => ?_))))
         refine h_back ⟨fun h => (nomatch h), ?_⟩
         refine h_done ?_; clear CL hw le
         refine x_thenN ?_
         exact j4 _ a w (S.sb rfl (.c0 .n)) h5
        exact h_nil
       refine h_runO S rfl trivial ?_ ?_
       ·refine s_ldRA S (ty' := (Ty.arr .u8 20)) (i := y70) (off := 0) (fun (c : Unit) => [.b20 (gt y43 y70)]) rfl hA13 .h T28 c21.1 c21.2 rfl (fun _ => rfl) rfl fun ch11 a S => ?_
        refine CL.br hw S .nil le rfl trivial fun hw => (s_iaddrO S (ty' := (Ty.arr .u8 20)) rfl .h rfl underlying23 T28 c20.1 c20.2 rfl fun g22 a hA14 S => CL.br hw S .nil le rfl trivial fun hw => (s_ldRA S (ty' := (Ty.arr .u8 20)) (i := (wr .i64 (y70 - 1))) (off := 0) (fun (c : Unit) => [.b20 (gt y43 (wr .i64 (y70 - 1)))]) rfl hA14 .h T28 c20.1 c20.2 rfl (fun _ => rfl) rfl fun ch12 a S => ?_))
        refine CL.br hw S .nil le rfl trivial fun hw => (s_iaddrO S (ty' := (Ty.arr .u8 20)) rfl .h rfl underlying23 T28 c21.1 c21.2 rfl fun g23 a hA15 S => CL.br hw S .nil le rfl trivial fun hw => (s_stR S (ty' := (Ty.arr .u8 20)) (i := y70) (off := 0) (u := gt y43 (wr .i64 (y70 - 1))) (fun (c : Unit) => ()) rfl rfl rfl hA15 .h T28 c21.1 c21.2 rfl (by decide) rfl (fun _ => rfl) fun w S => CL.br hw S .nil le rfl trivial fun hw => (s_iaddrO S (ty' := (Ty.arr .u8 20)) rfl .h rfl underlying23 T28 c22.1 c22.2 rfl fun g24 a hA16 S => CL.br hw S .nil le rfl trivial fun hw => (s_stR S (ty' := (Ty.arr .u8 20)) (i := (wr .i64 (y70 - 1))) (off := 0) (u := gt y43 y70) (fun (c : Unit) => ()) rfl rfl rfl hA16 .h T28 c22.1 c22.2 rfl (by decide) rfl (fun _ => rfl) fun w S => ?_))))
        refine h_back ⟨fun h => (nomatch h), ?_⟩
        refine h_done ?_; clear CL hw le
        refine x_thenN ?_
        exact j4 _ a w (S.sb rfl (.c0 .n)) h5
       exact h_nil
      exact h_nil
   refine wp_block ?_
   refine c_loop (fun q4 a w => ∃ m y92, St 141 m b0 [(10, (.i y44)), (9, (.i y92)), (0, (.s ch_0_0 ch_0_1 ch_0_2)), (1, (.i x2)), (2, (.i x3)), (3, (.v (.func (.func 39) #[] #[])))] [Res.row (Ty.arr .u8 20) 28 ch_0_0 ch_0_1 ch_0_2 y43] a w ∧ api_Address_n55_0o_3f39.l4 k x2 x3 y43 y44 (api_Address_n55_0o_3f39.l1 k x2 x3 q1) q4 y92 = some r) ?_ ?_ (k := k) ⟨_, y45, (S.sb rfl (.c0 .n)), h1⟩
   ·rintro a w ⟨m, y92, S, h0⟩
    exact (nomatch (show (none : Option (Bool × (List (List Int)))) = some r from h0))
   ·clear S h1
    rintro q4 a w ⟨m, y92, S, h0⟩
    replace h0 : api_Address_n55_0o_3f39.b4 k x2 x3 y43 y44 (api_Address_n55_0o_3f39.l1 k x2 x3 q1) (api_Address_n55_0o_3f39.l4 k x2 x3 y43 y44 (api_Address_n55_0o_3f39.l1 k x2 x3 q1) q4) y92 = some r := h0
    delta api_Address_n55_0o_3f39.b4 at h0
    refine wp_seq (wp_seq_k fun K10 hK10 => ?_)
    have j10 : ∀ m y93 a w, St 141 m b0 [(36, (.b y93)), (10, (.i y44)), (9, (.i y92)), (0, (.s ch_0_0 ch_0_1 ch_0_2)), (1, (.i x2)), (2, (.i x3)), (3, (.v (.func (.func 39) #[] #[])))] [Res.row (Ty.arr .u8 20) 28 ch_0_0 ch_0_1 ch_0_2 y43] a w → api_Address_n55_0o_3f39.j10 k x2 x3 y43 y44 (api_Address_n55_0o_3f39.l1 k x2 x3 q1) y92 (api_Address_n55_0o_3f39.l4 k x2 x3 y43 y44 (api_Address_n55_0o_3f39.l1 k x2 x3 q1) q4) y93 = some r → K10 a w := by
     intro m y93 a w S h0
     delta api_Address_n55_0o_3f39.j10 at h0
     refine hK10 a w ?_
     rcases ite_of h0 with ⟨c23, h1⟩ | ⟨c23, h1⟩
     ·refine c_condT S rfl c23 (wp_skip (x_thenN (wp_block (c_region' (s_move S rfl rfl fun a S => s_bin S rfl rfl rfl rfl fun a S => s_assign S rfl rfl fun a S => c_end' (x_blockN (x_thenN ?_)))))))
      exact ⟨_, (wr .i64 (y92 + 1)), (S.sb rfl (.c0 .n)), h1⟩
     ·refine c_condF S rfl c23 (wp_exit (x_thenX (x_thenX (x_blockX (x_thenN ?_)))))
      exact j3 _ y92 a w (S.sb rfl (.c0 .n)) h1
    refine c_heldS S (.take 0 (.take 1 (.take 2 (.take 3 (.take 4 (.take 5 (.take 6 (.take 7 (.take 9 (.take 10 (.take 11 (.take 12 (.alts (.run 8 true (.alts (.run 13 true (.alts (.run 14 true (.take 15 (.take 16 (.take 17 .done))) .nil)) .nil)) (.run 13 true (.alts (.run 8 true (.alts (.run 14 true (.take 15 (.take 16 (.take 17 .done))) .nil)) .nil)) .nil))))))))))))))) 18 [Res.row (Ty.arr .u8 20) 28 ch_0_0 ch_0_1 ch_0_2 y43] (.c0 .n) ⟨Res.stay_row flat_arr, trivial⟩ [(9, (.i y92)), (0, (.s ch_0_0 ch_0_1 ch_0_2)), (2, (.i x3)), (3, (.v (.func (.func 39) #[] #[])))] (subR rfl) (by kernel_rfl) (by kernel_rfl) fun w S CL hw le => ?_
    refine h_move S CL hw le (subR rfl) rfl rfl rfl trivial fun a S CL => h_move S CL hw le (subR rfl) rfl rfl rfl trivial fun a S CL => h_bin S CL hw le (subR rfl) rfl rfl rfl rfl rfl trivial fun a S CL => h_move S CL hw le (subR rfl) rfl rfl rfl trivial fun a S CL => ?_
    rcases ite_of h0 with ⟨c24, h1⟩ | ⟨c24, h1⟩
    ·refine h_move S CL hw le (subR rfl) rfl rfl rfl ⟨_, _, rfl, rfl, c24⟩ fun a S CL => h_move S CL hw le (subR rfl) rfl rfl rfl ⟨_, _, rfl, rfl, c24⟩ fun a S CL => h_move S CL hw le (subR rfl) rfl rfl rfl ⟨_, _, rfl, rfl, c24⟩ fun a S CL => ?_
     obtain ⟨c25, h2⟩ := chk_of h1; clear h1
     refine h_iaddrO S CL hw le (subR rfl) (ty' := (Ty.arr .u8 20)) rfl .h rfl underlying23 T28 c25.1 c25.2 rfl rfl ⟨_, _, rfl, rfl, c24⟩ fun g27 a hA17 S CL => h_move S CL hw le (subR rfl) rfl rfl rfl ⟨_, _, rfl, rfl, c24⟩ fun a S CL => h_move S CL hw le (subR rfl) rfl rfl rfl ⟨_, _, rfl, rfl, c24⟩ fun a S CL => h_bin S CL hw le (subR rfl) rfl rfl rfl rfl rfl ⟨_, _, rfl, rfl, c24⟩ fun a S CL => ?_
     obtain ⟨c26, h3⟩ := chk_of h2; clear h2
     refine h_iaddrO S CL hw le (subR rfl) (ty' := (Ty.arr .u8 20)) rfl .h rfl underlying23 T28 c26.1 c26.2 rfl rfl ⟨_, _, rfl, rfl, c24⟩ fun g28 a hA18 S CL => bindX h3 fun t5 et5 h4 => h_alts ?_
     refine h_runO S rfl ⟨_, _, rfl, rfl, c24⟩ ?_ ?_
     ·refine s_ldRA S (ty' := (Ty.arr .u8 20)) (i := y92) (off := 0) (fun (c : Unit) => [.b20 (gt y43 y92)]) rfl hA17 .h T28 c25.1 c25.2 rfl (fun _ => rfl) rfl fun ch13 a S => ?_
      refine CL.bk hw S (.c0 .n) le fun hw => h_run' S rfl ⟨_, _, rfl, rfl, c24⟩ (s_ldRA S (ty' := (Ty.arr .u8 20)) (i := (wr .i64 (y92 - 1))) (off := 0) (fun (c : Unit) => [.b20 (gt y43 (wr .i64 (y92 - 1)))]) rfl hA18 .h T28 c26.1 c26.2 rfl (fun _ => rfl) rfl fun ch14 a S => ?_)
      refine CL.bk hw S (.c0 .n) le fun hw => h_run' S rfl ⟨_, _, rfl, rfl, c24⟩ (s_callP S _ N39 rfl rfl (addr_Compare.ok (gt y43 y92) (gt y43 (wr .i64 (y92 - 1))) t5 et5 _ _) fun ch15 m le1 a w S => ?_)
      replace le := le.trans le1
      refine CL.bk hw S (.c0 .n) le fun hw => ?_
      replace CL := CL.add (t := 33) (d := (.i t5)) S rfl rfl
      refine h_bin S CL hw le (subR rfl) rfl rfl rfl rfl rfl ⟨_, _, rfl, rfl, c24⟩ fun a S CL => h_not S CL hw le (subR rfl) rfl rfl rfl ⟨_, _, rfl, rfl, c24⟩ fun a S CL => h_pick S CL hw le (subR rfl) (b := true) (hc_of rfl c24) rfl rfl rfl trivial fun a S CL => ?_
      refine h_done ?_; clear CL hw le
      refine x_thenN ?_
      exact j10 _ (!(decide (t5 < 0))) a w (S.sb rfl (.c0 .n)) h4
     refine h_runO S rfl ⟨_, _, rfl, rfl, c24⟩ ?_ ?_
     ·refine s_ldRA S (ty' := (Ty.arr .u8 20)) (i := (wr .i64 (y92 - 1))) (off := 0) (fun (c : Unit) => [.b20 (gt y43 (wr .i64 (y92 - 1)))]) rfl hA18 .h T28 c26.1 c26.2 rfl (fun _ => rfl) rfl fun ch13 a S => ?_
      refine CL.bk hw S (.c0 .n) le fun hw => h_run' S rfl ⟨_, _, rfl, rfl, c24⟩ (s_ldRA S (ty' := (Ty.arr .u8 20)) (i := y92) (off := 0) (fun (c : Unit) => [.b20 (gt y43 y92)]) rfl hA17 .h T28 c25.1 c25.2 rfl (fun _ => rfl) rfl fun ch14 a S => ?_)
      refine CL.bk hw S (.c0 .n) le fun hw => h_run' S rfl ⟨_, _, rfl, rfl, c24⟩ (s_callP S _ N39 rfl rfl (addr_Compare.ok (gt y43 y92) (gt y43 (wr .i64 (y92 - 1))) t5 et5 _ _) fun ch15 m le1 a w S => ?_)
      replace le := le.trans le1
      refine CL.bk hw S (.c0 .n) le fun hw => ?_
      replace CL := CL.add (t := 33) (d := (.i t5)) S rfl rfl
      refine h_bin S CL hw le (subR rfl) rfl rfl rfl rfl rfl ⟨_, _, rfl, rfl, c24⟩ fun a S CL => h_not S CL hw le (subR rfl) rfl rfl rfl ⟨_, _, rfl, rfl, c24⟩ fun a S CL => h_pick S CL hw le (subR rfl) (b := true) (hc_of rfl c24) rfl rfl rfl trivial fun a S CL => ?_
      refine h_done ?_; clear CL hw le
      refine x_thenN ?_
      exact j10 _ (!(decide (t5 < 0))) a w (S.sb rfl (.c0 .n)) h4
     exact h_nil
    ·refine h_skip S CL rfl rfl rfl (ne_bool c24) rfl fun a S CL => h_skip S CL rfl rfl rfl (ne_bool c24) rfl fun a S CL => h_skip S CL rfl rfl rfl (ne_bool c24) rfl fun a S CL => h_skip S CL rfl rfl rfl (ne_bool c24) rfl fun a S CL => h_skip S CL rfl rfl rfl (ne_bool c24) rfl fun a S CL => h_skip S CL rfl rfl rfl (ne_bool c24) rfl fun a S CL => h_skip S CL rfl rfl rfl (ne_bool c24) rfl fun a S CL => h_skip S CL rfl rfl rfl (ne_bool c24) rfl fun a S CL => h_alts ?_
     refine h_skipOt S rfl rfl rfl (ne_bool c24) rfl ?_ ?_
     ·clear S a; intro a S
      refine CL.bk hw S (.c0 .n) le fun hw => h_skipRt S rfl rfl rfl (ne_bool c24) rfl fun a S => CL.bk hw S (.c0 .n) le fun hw => h_skipRt S rfl rfl rfl (ne_bool c24) rfl fun a S => CL.bk hw S (.c0 .n) le fun hw => ?_
      replace CL := CL.add (t := 33) (d := .u) S rfl rfl
      refine h_skip S CL rfl rfl rfl (ne_bool c24) rfl fun a S CL => h_skip S CL rfl rfl rfl (ne_bool c24) rfl fun a S CL => h_pick S CL hw le (subR rfl) (b := false) (hc_of rfl c24) rfl rfl rfl trivial fun a S CL => ?_
      refine h_done ?_; clear CL hw le
      refine x_thenN ?_
      exact j10 _ false a w (S.sb rfl (.c0 .n)) h1
     refine h_skipOt S rfl rfl rfl (ne_bool c24) rfl ?_ ?_
     ·clear S a; intro a S
      refine CL.bk hw S (.c0 .n) le fun hw => h_skipRt S rfl rfl rfl (ne_bool c24) rfl fun a S => CL.bk hw S (.c0 .n) le fun hw => h_skipRt S rfl rfl rfl (ne_bool c24) rfl fun a S => CL.bk hw S (.c0 .n) le fun hw => ?_
      replace CL := CL.add (t := 33) (d := .u) S rfl rfl
      refine h_skip S CL rfl rfl rfl (ne_bool c24) rfl fun a S CL => h_skip S CL rfl rfl rfl (ne_bool c24) rfl fun a S CL => h_pick S CL hw le (subR rfl) (b := false) (hc_of rfl c24) rfl rfl rfl trivial fun a S CL => ?_
      refine h_done ?_; clear CL hw le
      refine x_thenN ?_
      exact j10 _ false a w (S.sb rfl (.c0 .n)) h1
     exact h_nil
  ·refine c_condF S rfl c1 (wp_exit (x_thenX (x_thenX (x_blockX (x_thenN ?_)))))
   exact j1 _ y43 a w (S.sub trivial (.c0 .n)) h1
abbrev api_Address_n56_0o_4f39.Ty : Type := (List (List Int)) → Int → Int → Int → Option (Int × (List (List Int)))
def api_Address_n56_0o_4f39.Ctr (s : api_Address_n56_0o_4f39.Ty) : Prop := ∀ (x1 : List (List Int)) (x2 : Int) (x3 : Int) (x4 : Int) (ch_0_0 : Option Addr) (ch_0_1 : Nat) (ch_0_2 : Nat) (r : Int × (List (List Int))), Ct (C := Unit) Try.prog 56 (s x1 x2 x3 x4 = some r) [Res.row (Ty.arr .u8 20) 28 ch_0_0 ch_0_1 ch_0_2 x1] [(.s ch_0_0 ch_0_1 ch_0_2), (.i x2), (.i x3), (.i x4), (.v (.func (.func 39) #[] #[]))] (fun _ => (.i r.1)) fun _ => [Res.row (Ty.arr .u8 20) 28 ch_0_0 ch_0_1 ch_0_2 r.2]
def api_Address_n56_0o_4f39.j2 (y1 : List (List Int)) (y2 : Int) : Option (Int × (List (List Int))) := some (y2, y1)
def api_Address_n56_0o_4f39.j5 (y30 : List (List Int)) (rec1 : (List (List Int)) → Int → Int → Option (Int × (List (List Int)))) (y38 : Int) (y44 : Int) : Option (Int × (List (List Int))) := rec1 ((y30.set (Int.toNat y38) (gt y30 y44)).set (Int.toNat y44) (gt y30 y38)) (wr .i64 (y44 - 1)) (wr .i64 (y38 + 1))
def api_Address_n56_0o_4f39.j4 (y30 : List (List Int)) (rec1 : (List (List Int)) → Int → Int → Option (Int × (List (List Int)))) (y38 : Int) (y44 : Int) : Option (Int × (List (List Int))) := if (decide (y44 < y38)) = true then (api_Address_n56_0o_4f39.j2 y30 y38) else (if (0 : Int) ≤ y44 ∧ y44 < ((y30).length : Int) then (if (0 : Int) ≤ y38 ∧ y38 < ((y30).length : Int) then (if (0 : Int) ≤ y44 ∧ y44 < ((y30.set (Int.toNat y38) (gt y30 y44)).length : Int) then (api_Address_n56_0o_4f39.j5 y30 rec1 y38 y44) else none) else none) else none)
def api_Address_n56_0o_4f39.j6 (y30 : List (List Int)) (rec1 : (List (List Int)) → Int → Int → Option (Int × (List (List Int)))) (y38 : Int) (y48 : Int) (rec2 : Int → Option (Int × (List (List Int)))) (y49 : Bool) : Option (Int × (List (List Int))) := if y49 = true then (rec2 (wr .i64 (y48 - 1))) else (api_Address_n56_0o_4f39.j4 y30 rec1 y38 y48)
def api_Address_n56_0o_4f39.b2 (x2 : Int) (y30 : List (List Int)) (rec1 : (List (List Int)) → Int → Int → Option (Int × (List (List Int)))) (y38 : Int) (rec2 : Int → Option (Int × (List (List Int)))) (y48 : Int) : Option (Int × (List (List Int))) := if (decide (y38 ≤ y48)) = true then (if (0 : Int) ≤ x2 ∧ x2 < ((y30).length : Int) then (if (0 : Int) ≤ y48 ∧ y48 < ((y30).length : Int) then ((addr_Compare.f (gt y30 x2) (gt y30 y48)).bind fun t1 => (api_Address_n56_0o_4f39.j6 y30 rec1 y38 y48 rec2 (decide (t1 < 0)))) else none) else none) else (api_Address_n56_0o_4f39.j6 y30 rec1 y38 y48 rec2 false)
def api_Address_n56_0o_4f39.l2 (x2 : Int) (y30 : List (List Int)) (rec1 : (List (List Int)) → Int → Int → Option (Int × (List (List Int)))) (y38 : Int) : Nat → Int → Option (Int × (List (List Int)))
  | 0, _ => none
  | q + 1, y48 => api_Address_n56_0o_4f39.b2 x2 y30 rec1 y38 (api_Address_n56_0o_4f39.l2 x2 y30 rec1 y38 q) y48
def api_Address_n56_0o_4f39.j3 (k : Nat) (x2 : Int) (y30 : List (List Int)) (y31 : Int) (rec1 : (List (List Int)) → Int → Int → Option (Int × (List (List Int)))) (y38 : Int) : Option (Int × (List (List Int))) := api_Address_n56_0o_4f39.l2 x2 y30 rec1 y38 k y31
def api_Address_n56_0o_4f39.j7 (k : Nat) (x2 : Int) (y30 : List (List Int)) (y31 : Int) (rec1 : (List (List Int)) → Int → Int → Option (Int × (List (List Int)))) (y53 : Int) (rec3 : Int → Option (Int × (List (List Int)))) (y54 : Bool) : Option (Int × (List (List Int))) := if y54 = true then (rec3 (wr .i64 (y53 + 1))) else (api_Address_n56_0o_4f39.j3 k x2 y30 y31 rec1 y53)
def api_Address_n56_0o_4f39.b3 (k : Nat) (x2 : Int) (y30 : List (List Int)) (y31 : Int) (rec1 : (List (List Int)) → Int → Int → Option (Int × (List (List Int)))) (rec3 : Int → Option (Int × (List (List Int)))) (y53 : Int) : Option (Int × (List (List Int))) := if (decide (y53 ≤ y31)) = true then (if (0 : Int) ≤ x2 ∧ x2 < ((y30).length : Int) then (if (0 : Int) ≤ y53 ∧ y53 < ((y30).length : Int) then ((addr_Compare.f (gt y30 x2) (gt y30 y53)).bind fun t3 => (api_Address_n56_0o_4f39.j7 k x2 y30 y31 rec1 y53 rec3 (!(decide (t3 < 0))))) else none) else none) else (api_Address_n56_0o_4f39.j7 k x2 y30 y31 rec1 y53 rec3 false)
def api_Address_n56_0o_4f39.l3 (k : Nat) (x2 : Int) (y30 : List (List Int)) (y31 : Int) (rec1 : (List (List Int)) → Int → Int → Option (Int × (List (List Int)))) : Nat → Int → Option (Int × (List (List Int)))
  | 0, _ => none
  | q + 1, y53 => api_Address_n56_0o_4f39.b3 k x2 y30 y31 rec1 (api_Address_n56_0o_4f39.l3 k x2 y30 y31 rec1 q) y53
def api_Address_n56_0o_4f39.b1 (k : Nat) (x2 : Int) (rec1 : (List (List Int)) → Int → Int → Option (Int × (List (List Int)))) (y30 : List (List Int)) (y31 : Int) (y32 : Int) : Option (Int × (List (List Int))) := api_Address_n56_0o_4f39.l3 k x2 y30 y31 rec1 k y32
def api_Address_n56_0o_4f39.l1 (k : Nat) (x2 : Int) : Nat → (List (List Int)) → Int → Int → Option (Int × (List (List Int)))
  | 0, _, _, _ => none
  | q + 1, y30, y31, y32 => api_Address_n56_0o_4f39.b1 k x2 (api_Address_n56_0o_4f39.l1 k x2 q) y30 y31 y32
def api_Address_n56_0o_4f39.j1 (k : Nat) (x1 : List (List Int)) (x2 : Int) (x3 : Int) (x4 : Int) : Option (Int × (List (List Int))) := api_Address_n56_0o_4f39.l1 k x2 k ((x1.set (Int.toNat x2) (gt x1 x4)).set (Int.toNat x4) (gt x1 x2)) (wr .i64 (x3 - 1)) (wr .i64 (x2 + 1))
def api_Address_n56_0o_4f39.f (k : Nat) (x1 : List (List Int)) (x2 : Int) (x3 : Int) (x4 : Int) : Option (Int × (List (List Int))) := if (0 : Int) ≤ x4 ∧ x4 < ((x1).length : Int) then (if (0 : Int) ≤ x2 ∧ x2 < ((x1).length : Int) then (if (0 : Int) ≤ x4 ∧ x4 < ((x1.set (Int.toNat x2) (gt x1 x4)).length : Int) then (api_Address_n56_0o_4f39.j1 k x1 x2 x3 x4) else none) else none) else none
theorem api_Address_n56_0o_4f39.ok (k : Nat) : api_Address_n56_0o_4f39.Ctr (api_Address_n56_0o_4f39.f k) := by
 intro x1 x2 x3 x4 ch_0_0 ch_0_1 ch_0_2 r h0 mi w0 ok hm
 delta api_Address_n56_0o_4f39.f at h0
 refine c_enterZ (n := 90) ok hm func56 rfl rfl rfl fun b0 hb a S => c_region (s_assign S rfl rfl fun a S => c_end (wp_seq_k fun K1 hK1 => ?_))
 have j1 : ∀ m a w, St 90 m b0 [(0, (.s ch_0_0 ch_0_1 ch_0_2)), (1, (.i x2)), (2, (.i x3)), (4, (.v (.func (.func 39) #[] #[])))] [Res.row (Ty.arr .u8 20) 28 ch_0_0 ch_0_1 ch_0_2 ((x1.set (Int.toNat x2) (gt x1 x4)).set (Int.toNat x4) (gt x1 x2))] a w → api_Address_n56_0o_4f39.j1 k x1 x2 x3 x4 = some r → K1 a w := by
  intro m a w S h0
  delta api_Address_n56_0o_4f39.j1 at h0
  refine hK1 a w (c_region (s_move S rfl rfl fun a S => s_bin S rfl rfl rfl rfl fun a S => s_move S rfl rfl fun a S => s_bin S rfl rfl rfl rfl fun a S => s_assign S rfl rfl fun a S => s_assign S rfl rfl fun a S => c_end (wp_seq_k fun K2 hK2 => ?_)))
  have j2 : ∀ m y1 y2 a w, St 90 m b0 [(11, (.i y2))] [Res.row (Ty.arr .u8 20) 28 ch_0_0 ch_0_1 ch_0_2 y1] a w → api_Address_n56_0o_4f39.j2 y1 y2 = some r → K2 a w := by
   intro m y1 y2 a w S h0
   delta api_Address_n56_0o_4f39.j2 at h0
   refine hK2 a w (c_region (s_move S rfl rfl fun a S => s_assign S rfl rfl fun a S => c_end (wp_ret ?_)))
   obtain rfl := Option.some.inj h0
   exact b_ret1 (d := (.i y2)) S rfl rfl fun ok => S.retX (Hx := []) hb _ _ (() : Unit) (.c0 .n) ok
  refine wp_block ?_
  refine c_loop (fun q1 a w => ∃ m y30 y31 y32, St 90 m b0 [(12, (.i y31)), (11, (.i y32)), (0, (.s ch_0_0 ch_0_1 ch_0_2)), (1, (.i x2)), (4, (.v (.func (.func 39) #[] #[])))] [Res.row (Ty.arr .u8 20) 28 ch_0_0 ch_0_1 ch_0_2 y30] a w ∧ api_Address_n56_0o_4f39.l1 k x2 q1 y30 y31 y32 = some r) ?_ ?_ (k := k) ⟨_, ((x1.set (Int.toNat x2) (gt x1 x4)).set (Int.toNat x4) (gt x1 x2)), (wr .i64 (x3 - 1)), (wr .i64 (x2 + 1)), (S.sb rfl (.c0 .n)), h0⟩
  ·rintro a w ⟨m, y30, y31, y32, S, h0⟩
   exact (nomatch (show (none : Option (Int × (List (List Int)))) = some r from h0))
  ·clear S h0
   rintro q1 a w ⟨m, y30, y31, y32, S, h0⟩
   replace h0 : api_Address_n56_0o_4f39.b1 k x2 (api_Address_n56_0o_4f39.l1 k x2 q1) y30 y31 y32 = some r := h0
   delta api_Address_n56_0o_4f39.b1 at h0
   refine wp_block (wp_seq_k fun K3 hK3 => ?_)
   have j3 : ∀ m y38 a w, St 90 m b0 [(12, (.i y31)), (11, (.i y38)), (0, (.s ch_0_0 ch_0_1 ch_0_2)), (1, (.i x2)), (4, (.v (.func (.func 39) #[] #[])))] [Res.row (Ty.arr .u8 20) 28 ch_0_0 ch_0_1 ch_0_2 y30] a w → api_Address_n56_0o_4f39.j3 k x2 y30 y31 (api_Address_n56_0o_4f39.l1 k x2 q1) y38 = some r → K3 a w := by
    intro m y38 a w S h0
    delta api_Address_n56_0o_4f39.j3 at h0
    refine hK3 a w (wp_seq_k fun K4 hK4 => ?_)
    have j4 : ∀ m y44 a w, St 90 m b0 [(12, (.i y44)), (11, (.i y38)), (0, (.s ch_0_0 ch_0_1 ch_0_2)), (1, (.i x2)), (4, (.v (.func (.func 39) #[] #[])))] [Res.row (Ty.arr .u8 20) 28 ch_0_0 ch_0_1 ch_0_2 y30] a w → api_Address_n56_0o_4f39.j4 y30 (api_Address_n56_0o_4f39.l1 k x2 q1) y38 y44 = some r → K4 a w := by
     intro m y44 a w S h0
     delta api_Address_n56_0o_4f39.j4 at h0
     refine hK4 a w (wp_seq (c_region (s_move S rfl rfl fun a S => s_move S rfl rfl fun a S => s_bin S rfl rfl rfl rfl fun a S => c_end ?_)))
     rcases ite_of h0 with ⟨c1, h1⟩ | ⟨c1, h1⟩
     ·refine c_condT S rfl c1 (wp_exit (x_thenX (x_blockO (by decide) (x_thenX (x_blockX (x_thenN ?_))))))
      exact j2 _ y30 y38 a w (S.sub ⟨rfl, trivial⟩ (.c0 .n)) h1
     ·refine c_condF S rfl c1 (wp_skip (x_thenN (wp_seq_k fun K5 hK5 => ?_)))
      have j5 : ∀ m a w, St 90 m b0 [(12, (.i y44)), (11, (.i y38)), (0, (.s ch_0_0 ch_0_1 ch_0_2)), (1, (.i x2)), (4, (.v (.func (.func 39) #[] #[])))] [Res.row (Ty.arr .u8 20) 28 ch_0_0 ch_0_1 ch_0_2 ((y30.set (Int.toNat y38) (gt y30 y44)).set (Int.toNat y44) (gt y30 y38))] a w → api_Address_n56_0o_4f39.j5 y30 (api_Address_n56_0o_4f39.l1 k x2 q1) y38 y44 = some r → K5 a w := by
       intro m a w S h0
       delta api_Address_n56_0o_4f39.j5 at h0
       refine hK5 a w (c_region (s_move S rfl rfl fun a S => s_bin S rfl rfl rfl rfl fun a S => s_assign S rfl rfl fun a S => c_end (c_region' (s_move S rfl rfl fun a S => s_bin S rfl rfl rfl rfl fun a S => s_assign S rfl rfl fun a S => c_end' (x_blockN (x_thenN ?_))))))
       exact ⟨_, ((y30.set (Int.toNat y38) (gt y30 y44)).set (Int.toNat y44) (gt y30 y38)), (wr .i64 (y44 - 1)), (wr .i64 (y38 + 1)), (S.sb rfl (.c0 .n)), h0⟩
      refine c_heldS S (.take 0 (.take 1 (.take 2 (.take 3 (.take 4 (.take 5 (.take 8 (.take 9 (.alts (.run 6 true (.alts (.run 7 true (.alts (.run 10 true (.alts (.run 11 true (.alts (.run 12 true (.alts (.run 13 true (.alts (.run 14 true (.alts (.run 15 false .done .nil)) .nil)) .nil)) .nil)) .nil)) .nil)) (.run 10 true (.alts (.run 7 true (.alts (.run 11 true (.alts (.run 12 true (.alts (.run 13 true (.alts (.run 14 true (.alts (.run 15 false .done .nil)) .nil)) .nil)) .nil)) .nil)) (.run 11 true (.alts (.run 7 true (.alts (.run 12 true (.alts (.run 13 true (.alts (.run 14 true (.alts (.run 15 false .done .nil)) .nil)) .nil)) .nil)) .nil)) .nil))) .nil))) (.run 10 true (.alts (.run 6 true (.alts (.run 7 true (.alts (.run 11 true (.alts (.run 12 true (.alts (.run 13 true (.alts (.run 14 true (.alts (.run 15 false .done .nil)) .nil)) .nil)) .nil)) .nil)) (.run 11 true (.alts (.run 7 true (.alts (.run 12 true (.alts (.run 13 true (.alts (.run 14 true (.alts (.run 15 false .done .nil)) .nil)) .nil)) .nil)) .nil)) .nil))) (.run 11 true (.alts (.run 6 true (.alts (.run 7 true (.alts (.run 12 true (.alts (.run 13 true (.alts (.run 14 true (.alts (.run 15 false .done .nil)) .nil)) .nil)) .nil)) .nil)) .nil)) .nil))) .nil))))))))))) 15 [] .nil trivial [(12, (.i y44)), (11, (.i y38)), (0, (.s ch_0_0 ch_0_1 ch_0_2))] (subR rfl) (by kernel_rfl) (by kernel_rfl) fun w S CL hw le => ?_
      refine h_move S CL hw le (subR rfl) rfl rfl rfl trivial fun a S CL => h_move S CL hw le (subR rfl) rfl rfl rfl trivial fun a S CL => h_move S CL hw le (subR rfl) rfl rfl rfl trivial fun a S CL => h_move S CL hw le (subR rfl) rfl rfl rfl trivial fun a S CL => h_move S CL hw le (subR rfl) rfl rfl rfl trivial fun a S CL => h_move S CL hw le (subR rfl) rfl rfl rfl trivial fun a S CL => h_move S CL hw le (subR rfl) rfl rfl rfl trivial fun a S CL => h_move S CL hw le (subR rfl) rfl rfl rfl trivial fun a S CL => ?_
      obtain ⟨c2, h2⟩ := chk_of h1; clear h1
      obtain ⟨c3, h3⟩ := chk_of h2; clear h2
      obtain ⟨c4, h4⟩ := chk_of h3; clear h3
      refine h_alts ?_
      refine h_runO S rfl trivial ?_ ?_
      ·refine s_iaddrO S (ty' := (Ty.arr .u8 20)) rfl .h rfl underlying23 T28 c2.1 c2.2 rfl fun g1 a hA1 S => CL.bk hw S .nil le fun hw => h_alts ?_
       refine h_runO S rfl trivial ?_ ?_
       ·refine s_ldRA S (ty' := (Ty.arr .u8 20)) (i := y44) (off := 0) (fun (c : Unit) => [.b20 (gt y30 y44)]) rfl hA1 .h T28 c2.1 c2.2 rfl (fun _ => rfl) rfl fun ch1 a S => ?_
        refine CL.br hw S .nil le rfl trivial fun hw => (s_iaddrO S (ty' := (Ty.arr .u8 20)) rfl .h rfl underlying23 T28 c3.1 c3.2 rfl fun g2 a hA2 S => CL.br hw S .nil le rfl trivial fun hw => (s_ldRA S (ty' := (Ty.arr .u8 20)) (i := y38) (off := 0) (fun (c : Unit) => [.b20 (gt y30 y38)]) rfl hA2 .h T28 c3.1 c3.2 rfl (fun _ => rfl) rfl fun ch2 a S => ?_))
        refine CL.br hw S .nil le rfl trivial fun hw => (s_iaddrO S (ty' := (Ty.arr .u8 20)) rfl .h rfl underlying23 T28 c3.1 c3.2 rfl fun g3 a hA3 S => CL.br hw S .nil le rfl trivial fun hw => (s_stR S (ty' := (Ty.arr .u8 20)) (i := y38) (off := 0) (u := gt y30 y44) (fun (c : Unit) => ()) rfl rfl rfl hA3 .h T28 c3.1 c3.2 rfl (by decide) rfl (fun _ => rfl) fun w S => CL.br hw S .nil le rfl trivial fun hw => (s_iaddrO S (ty' := (Ty.arr .u8 20)) rfl .h rfl underlying23 T28 c4.1 c4.2 rfl fun g4 a hA4 S => CL.br hw S .nil le rfl trivial fun hw => (s_stR S (ty' := (Ty.arr .u8 20)) (i := y44) (off := 0) (u := gt y30 y38) (fun (c : Unit) => ()) rfl rfl rfl hA4 .h T28 c4.1 c4.2 rfl (by decide) rfl (fun _ => rfl) fun w S => ?_))))
        refine h_back ⟨fun h => (nomatch h), ?_⟩
        refine h_done ?_; clear CL hw le
        refine x_thenN ?_
        exact j5 _ a w (S.sb rfl (.c0 .n)) h4
       refine h_runO S rfl trivial ?_ ?_
       ·refine s_iaddrO S (ty' := (Ty.arr .u8 20)) rfl .h rfl underlying23 T28 c3.1 c3.2 rfl fun g2 a hA2 S => CL.bk hw S .nil le fun hw => h_alts ?_
        refine h_runO S rfl trivial ?_ ?_
        ·refine s_ldRA S (ty' := (Ty.arr .u8 20)) (i := y44) (off := 0) (fun (c : Unit) => [.b20 (gt y30 y44)]) rfl hA1 .h T28 c2.1 c2.2 rfl (fun _ => rfl) rfl fun ch1 a S => ?_
         refine CL.br hw S .nil le rfl trivial fun hw => (s_ldRA S (ty' := (Ty.arr .u8 20)) (i := y38) (off := 0) (fun (c : Unit) => [.b20 (gt y30 y38)]) rfl hA2 .h T28 c3.1 c3.2 rfl (fun _ => rfl) rfl fun ch2 a S => ?_)
         refine CL.br hw S .nil le rfl trivial fun hw => (s_iaddrO S (ty' := (Ty.arr .u8 20)) rfl .h rfl underlying23 T28 c3.1 c3.2 rfl fun g3 a hA3 S => CL.br hw S .nil le rfl trivial fun hw => (s_stR S (ty' := (Ty.arr .u8 20)) (i := y38) (off := 0) (u := gt y30 y44) (fun (c : Unit) => ()) rfl rfl rfl hA3 .h T28 c3.1 c3.2 rfl (by decide) rfl (fun _ => rfl) fun w S => CL.br hw S .nil le rfl trivial fun hw => (s_iaddrO S (ty' := (Ty.arr .u8 20)) rfl .h rfl underlying23 T28 c4.1 c4.2 rfl fun g4 a hA4 S => CL.br hw S .nil le rfl trivial fun hw => (s_stR S (ty' := (Ty.arr .u8 20)) (i := y44) (off := 0) (u := gt y30 y38) (fun (c : Unit) => ()) rfl rfl rfl hA4 .h T28 c4.1 c4.2 rfl (by decide) rfl (fun _ => rfl) fun w S => ?_))))
         refine h_back ⟨fun h => (nomatch h), ?_⟩
         refine h_done ?_; clear CL hw le
         refine x_thenN ?_
         exact j5 _ a w (S.sb rfl (.c0 .n)) h4
        refine h_runO S rfl trivial ?_ ?_
        ·refine s_ldRA S (ty' := (Ty.arr .u8 20)) (i := y38) (off := 0) (fun (c : Unit) => [.b20 (gt y30 y38)]) rfl hA2 .h T28 c3.1 c3.2 rfl (fun _ => rfl) rfl fun ch1 a S => ?_
         refine CL.br hw S .nil le rfl trivial fun hw => (s_ldRA S (ty' := (Ty.arr .u8 20)) (i := y44) (off := 0) (fun (c : Unit) => [.b20 (gt y30 y44)]) rfl hA1 .h T28 c2.1 c2.2 rfl (fun _ => rfl) rfl fun ch2 a S => ?_)
         refine CL.br hw S .nil le rfl trivial fun hw => (s_iaddrO S (ty' := (Ty.arr .u8 20)) rfl .h rfl underlying23 T28 c3.1 c3.2 rfl fun g3 a hA3 S => CL.br hw S .nil le rfl trivial fun hw => (s_stR S (ty' := (Ty.arr .u8 20)) (i := y38) (off := 0) (u := gt y30 y44) (fun (c : Unit) => ()) rfl rfl rfl hA3 .h T28 c3.1 c3.2 rfl (by decide) rfl (fun _ => rfl) fun w S => CL.br hw S .nil le rfl trivial fun hw => (s_iaddrO S (ty' := (Ty.arr .u8 20)) rfl .h rfl underlying23 T28 c4.1 c4.2 rfl fun g4 a hA4 S => CL.br hw S .nil le rfl trivial fun hw => (s_stR S (ty' := (Ty.arr .u8 20)) (i := y44) (off := 0) (u := gt y30 y38) (fun (c : Unit) => ()) rfl rfl rfl hA4 .h T28 c4.1 c4.2 rfl (by decide) rfl (fun _ => rfl) fun w S => ?_))))
         refine h_back ⟨fun h => (nomatch h), ?_⟩
         refine h_done ?_; clear CL hw le
         refine x_thenN ?_
         exact j5 _ a w (S.sb rfl (.c0 .n)) h4
        exact h_nil
       exact h_nil
      refine h_runO S rfl trivial ?_ ?_
      ·refine s_iaddrO S (ty' := (Ty.arr .u8 20)) rfl .h rfl underlying23 T28 c3.1 c3.2 rfl fun g1 a hA1 S => CL.bk hw S .nil le fun hw => h_alts ?_
       refine h_runO S rfl trivial ?_ ?_
       ·refine s_iaddrO S (ty' := (Ty.arr .u8 20)) rfl .h rfl underlying23 T28 c2.1 c2.2 rfl fun g2 a hA2 S => CL.bk hw S .nil le fun hw => h_alts ?_
        refine h_runO S rfl trivial ?_ ?_
        ·refine s_ldRA S (ty' := (Ty.arr .u8 20)) (i := y44) (off := 0) (fun (c : Unit) => [.b20 (gt y30 y44)]) rfl hA2 .h T28 c2.1 c2.2 rfl (fun _ => rfl) rfl fun ch1 a S => ?_
         refine CL.br hw S .nil le rfl trivial fun hw => (s_ldRA S (ty' := (Ty.arr .u8 20)) (i := y38) (off := 0) (fun (c : Unit) => [.b20 (gt y30 y38)]) rfl hA1 .h T28 c3.1 c3.2 rfl (fun _ => rfl) rfl fun ch2 a S => ?_)
         refine CL.br hw S .nil le rfl trivial fun hw => (s_iaddrO S (ty' := (Ty.arr .u8 20)) rfl .h rfl underlying23 T28 c3.1 c3.2 rfl fun g3 a hA3 S => CL.br hw S .nil le rfl trivial fun hw => (s_stR S (ty' := (Ty.arr .u8 20)) (i := y38) (off := 0) (u := gt y30 y44) (fun (c : Unit) => ()) rfl rfl rfl hA3 .h T28 c3.1 c3.2 rfl (by decide) rfl (fun _ => rfl) fun w S => CL.br hw S .nil le rfl trivial fun hw => (s_iaddrO S (ty' := (Ty.arr .u8 20)) rfl .h rfl underlying23 T28 c4.1 c4.2 rfl fun g4 a hA4 S => CL.br hw S .nil le rfl trivial fun hw => (s_stR S (ty' := (Ty.arr .u8 20)) (i := y44) (off := 0) (u := gt y30 y38) (fun (c : Unit) => ()) rfl rfl rfl hA4 .h T28 c4.1 c4.2 rfl (by decide) rfl (fun _ => rfl) fun w S => ?_))))
         refine h_back ⟨fun h => (nomatch h), ?_⟩
         refine h_done ?_; clear CL hw le
         refine x_thenN ?_
         exact j5 _ a w (S.sb rfl (.c0 .n)) h4
        refine h_runO S rfl trivial ?_ ?_
        ·refine s_ldRA S (ty' := (Ty.arr .u8 20)) (i := y38) (off := 0) (fun (c : Unit) => [.b20 (gt y30 y38)]) rfl hA1 .h T28 c3.1 c3.2 rfl (fun _ => rfl) rfl fun ch1 a S => ?_
         refine CL.br hw S .nil le rfl trivial fun hw => (s_ldRA S (ty' := (Ty.arr .u8 20)) (i := y44) (off := 0) (fun (c : Unit) => [.b20 (gt y30 y44)]) rfl hA2 .h T28 c2.1 c2.2 rfl (fun _ => rfl) rfl fun ch2 a S => ?_)
         refine CL.br hw S .nil le rfl trivial fun hw => (s_iaddrO S (ty' := (Ty.arr .u8 20)) rfl .h rfl underlying23 T28 c3.1 c3.2 rfl fun g3 a hA3 S => CL.br hw S .nil le rfl trivial fun hw => (s_stR S (ty' := (Ty.arr .u8 20)) (i := y38) (off := 0) (u := gt y30 y44) (fun (c : Unit) => ()) rfl rfl rfl hA3 .h T28 c3.1 c3.2 rfl (by decide) rfl (fun _ => rfl) fun w S => CL.br hw S .nil le rfl trivial fun hw => (s_iaddrO S (ty' := (Ty.arr .u8 20)) rfl .h rfl underlying23 T28 c4.1 c4.2 rfl fun g4 a hA4 S => CL.br hw S .nil le rfl trivial fun hw => (s_stR S (ty' := (Ty.arr .u8 20)) (i := y44) (off := 0) (u := gt y30 y38) (fun (c : Unit) => ()) rfl rfl rfl hA4 .h T28 c4.1 c4.2 rfl (by decide) rfl (fun _ => rfl) fun w S => ?_))))
         refine h_back ⟨fun h => (nomatch h), ?_⟩
         refine h_done ?_; clear CL hw le
         refine x_thenN ?_
         exact j5 _ a w (S.sb rfl (.c0 .n)) h4
        exact h_nil
       refine h_runO S rfl trivial ?_ ?_
       ·refine s_ldRA S (ty' := (Ty.arr .u8 20)) (i := y38) (off := 0) (fun (c : Unit) => [.b20 (gt y30 y38)]) rfl hA1 .h T28 c3.1 c3.2 rfl (fun _ => rfl) rfl fun ch1 a S => ?_
        refine CL.br hw S .nil le rfl trivial fun hw => (s_iaddrO S (ty' := (Ty.arr .u8 20)) rfl .h rfl underlying23 T28 c2.1 c2.2 rfl fun g2 a hA2 S => CL.br hw S .nil le rfl trivial fun hw => (s_ldRA S (ty' := (Ty.arr .u8 20)) (i := y44) (off := 0) (fun (c : Unit) => [.b20 (gt y30 y44)]) rfl hA2 .h T28 c2.1 c2.2 rfl (fun _ => rfl) rfl fun ch2 a S => ?_))
        refine CL.br hw S .nil le rfl trivial fun hw => (s_iaddrO S (ty' := (Ty.arr .u8 20)) rfl .h rfl underlying23 T28 c3.1 c3.2 rfl fun g3 a hA3 S => CL.br hw S .nil le rfl trivial fun hw => (s_stR S (ty' := (Ty.arr .u8 20)) (i := y38) (off := 0) (u := gt y30 y44) (fun (c : Unit) => ()) rfl rfl rfl hA3 .h T28 c3.1 c3.2 rfl (by decide) rfl (fun _ => rfl) fun w S => CL.br hw S .nil le rfl trivial fun hw => (s_iaddrO S (ty' := (Ty.arr .u8 20)) rfl .h rfl underlying23 T28 c4.1 c4.2 rfl fun g4 a hA4 S => CL.br hw S .nil le rfl trivial fun hw => (s_stR S (ty' := (Ty.arr .u8 20)) (i := y44) (off := 0) (u := gt y30 y38) (fun (c : Unit) => ()) rfl rfl rfl hA4 .h T28 c4.1 c4.2 rfl (by decide) rfl (fun _ => rfl) fun w S => ?_))))
        refine h_back ⟨fun h => (nomatch h), ?_⟩
        refine h_done ?_; clear CL hw le
        refine x_thenN ?_
        exact j5 _ a w (S.sb rfl (.c0 .n)) h4
       exact h_nil
      exact h_nil
    refine wp_block ?_
    refine c_loop (fun q2 a w => ∃ m y48, St 90 m b0 [(12, (.i y48)), (11, (.i y38)), (0, (.s ch_0_0 ch_0_1 ch_0_2)), (1, (.i x2)), (4, (.v (.func (.func 39) #[] #[])))] [Res.row (Ty.arr .u8 20) 28 ch_0_0 ch_0_1 ch_0_2 y30] a w ∧ api_Address_n56_0o_4f39.l2 x2 y30 (api_Address_n56_0o_4f39.l1 k x2 q1) y38 q2 y48 = some r) ?_ ?_ (k := k) ⟨_, y31, (S.sb rfl (.c0 .n)), h0⟩
    ·rintro a w ⟨m, y48, S, h0⟩
     exact (nomatch (show (none : Option (Int × (List (List Int)))) = some r from h0))
    ·clear S h0
     rintro q2 a w ⟨m, y48, S, h0⟩
     replace h0 : api_Address_n56_0o_4f39.b2 x2 y30 (api_Address_n56_0o_4f39.l1 k x2 q1) y38 (api_Address_n56_0o_4f39.l2 x2 y30 (api_Address_n56_0o_4f39.l1 k x2 q1) y38 q2) y48 = some r := h0
     delta api_Address_n56_0o_4f39.b2 at h0
     refine wp_seq (wp_seq_k fun K6 hK6 => ?_)
     have j6 : ∀ m y49 a w, St 90 m b0 [(65, (.b y49)), (12, (.i y48)), (11, (.i y38)), (0, (.s ch_0_0 ch_0_1 ch_0_2)), (1, (.i x2)), (4, (.v (.func (.func 39) #[] #[])))] [Res.row (Ty.arr .u8 20) 28 ch_0_0 ch_0_1 ch_0_2 y30] a w → api_Address_n56_0o_4f39.j6 y30 (api_Address_n56_0o_4f39.l1 k x2 q1) y38 y48 (api_Address_n56_0o_4f39.l2 x2 y30 (api_Address_n56_0o_4f39.l1 k x2 q1) y38 q2) y49 = some r → K6 a w := by
      intro m y49 a w S h0
      delta api_Address_n56_0o_4f39.j6 at h0
      refine hK6 a w ?_
      rcases ite_of h0 with ⟨c5, h1⟩ | ⟨c5, h1⟩
      ·refine c_condT S rfl c5 (wp_skip (x_thenN (wp_block (c_region' (s_move S rfl rfl fun a S => s_bin S rfl rfl rfl rfl fun a S => s_assign S rfl rfl fun a S => c_end' (x_blockN (x_thenN ?_)))))))
       exact ⟨_, (wr .i64 (y48 - 1)), (S.sb rfl (.c0 .n)), h1⟩
      ·refine c_condF S rfl c5 (wp_exit (x_thenX (x_thenX (x_blockX (x_thenN ?_)))))
       exact j4 _ y48 a w (S.sb rfl (.c0 .n)) h1
     refine c_heldS S (.take 0 (.take 1 (.take 2 (.take 3 (.take 4 (.take 5 (.take 6 (.take 7 (.take 9 (.take 10 (.take 11 (.alts (.run 8 true (.alts (.run 12 true (.alts (.run 13 true (.take 14 (.take 15 .done)) .nil)) .nil)) (.run 12 true (.alts (.run 8 true (.alts (.run 13 true (.take 14 (.take 15 .done)) .nil)) .nil)) .nil)))))))))))))) 16 [Res.row (Ty.arr .u8 20) 28 ch_0_0 ch_0_1 ch_0_2 y30] (.c0 .n) ⟨Res.stay_row flat_arr, trivial⟩ [(12, (.i y48)), (11, (.i y38)), (0, (.s ch_0_0 ch_0_1 ch_0_2)), (1, (.i x2)), (4, (.v (.func (.func 39) #[] #[])))] (subR rfl) (by kernel_rfl) (by kernel_rfl) fun w S CL hw le => ?_
     refine h_move S CL hw le (subR rfl) rfl rfl rfl trivial fun a S CL => h_move S CL hw le (subR rfl) rfl rfl rfl trivial fun a S CL => h_bin S CL hw le (subR rfl) rfl rfl rfl rfl rfl trivial fun a S CL => h_move S CL hw le (subR rfl) rfl rfl rfl trivial fun a S CL => ?_
     rcases ite_of h0 with ⟨c6, h1⟩ | ⟨c6, h1⟩
     ·refine h_move S CL hw le (subR rfl) rfl rfl rfl ⟨_, _, rfl, rfl, c6⟩ fun a S CL => h_move S CL hw le (subR rfl) rfl rfl rfl ⟨_, _, rfl, rfl, c6⟩ fun a S CL => h_move S CL hw le (subR rfl) rfl rfl rfl ⟨_, _, rfl, rfl, c6⟩ fun a S CL => ?_
      obtain ⟨c7, h2⟩ := chk_of h1; clear h1
      refine h_iaddrO S CL hw le (subR rfl) (ty' := (Ty.arr .u8 20)) rfl .h rfl underlying23 T28 c7.1 c7.2 rfl rfl ⟨_, _, rfl, rfl, c6⟩ fun g7 a hA5 S CL => h_move S CL hw le (subR rfl) rfl rfl rfl ⟨_, _, rfl, rfl, c6⟩ fun a S CL => h_move S CL hw le (subR rfl) rfl rfl rfl ⟨_, _, rfl, rfl, c6⟩ fun a S CL => ?_
      obtain ⟨c8, h3⟩ := chk_of h2; clear h2
      refine h_iaddrO S CL hw le (subR rfl) (ty' := (Ty.arr .u8 20)) rfl .h rfl underlying23 T28 c8.1 c8.2 rfl rfl ⟨_, _, rfl, rfl, c6⟩ fun g8 a hA6 S CL => bindX h3 fun t1 et1 h4 => h_alts ?_
      refine h_runO S rfl ⟨_, _, rfl, rfl, c6⟩ ?_ ?_
      ·refine s_ldRA S (ty' := (Ty.arr .u8 20)) (i := x2) (off := 0) (fun (c : Unit) => [.b20 (gt y30 x2)]) rfl hA5 .h T28 c7.1 c7.2 rfl (fun _ => rfl) rfl fun ch3 a S => ?_
       refine CL.bk hw S (.c0 .n) le fun hw => h_run' S rfl ⟨_, _, rfl, rfl, c6⟩ (s_ldRA S (ty' := (Ty.arr .u8 20)) (i := y48) (off := 0) (fun (c : Unit) => [.b20 (gt y30 y48)]) rfl hA6 .h T28 c8.1 c8.2 rfl (fun _ => rfl) rfl fun ch4 a S => ?_)
       refine CL.bk hw S (.c0 .n) le fun hw => h_run' S rfl ⟨_, _, rfl, rfl, c6⟩ (s_callP S _ N39 rfl rfl (addr_Compare.ok (gt y30 x2) (gt y30 y48) t1 et1 _ _) fun ch5 m le1 a w S => ?_)
       replace le := le.trans le1
       refine CL.bk hw S (.c0 .n) le fun hw => ?_
       replace CL := CL.add (t := 63) (d := (.i t1)) S rfl rfl
       refine h_bin S CL hw le (subR rfl) rfl rfl rfl rfl rfl ⟨_, _, rfl, rfl, c6⟩ fun a S CL => h_pick S CL hw le (subR rfl) (b := true) (hc_of rfl c6) rfl rfl rfl trivial fun a S CL => ?_
       refine h_done ?_; clear CL hw le
       refine x_thenN ?_
       exact j6 _ (decide (t1 < 0)) a w (S.sb rfl (.c0 .n)) h4
      refine h_runO S rfl ⟨_, _, rfl, rfl, c6⟩ ?_ ?_
      ·refine s_ldRA S (ty' := (Ty.arr .u8 20)) (i := y48) (off := 0) (fun (c : Unit) => [.b20 (gt y30 y48)]) rfl hA6 .h T28 c8.1 c8.2 rfl (fun _ => rfl) rfl fun ch3 a S => ?_
       refine CL.bk hw S (.c0 .n) le fun hw => h_run' S rfl ⟨_, _, rfl, rfl, c6⟩ (s_ldRA S (ty' := (Ty.arr .u8 20)) (i := x2) (off := 0) (fun (c : Unit) => [.b20 (gt y30 x2)]) rfl hA5 .h T28 c7.1 c7.2 rfl (fun _ => rfl) rfl fun ch4 a S => ?_)
       refine CL.bk hw S (.c0 .n) le fun hw => h_run' S rfl ⟨_, _, rfl, rfl, c6⟩ (s_callP S _ N39 rfl rfl (addr_Compare.ok (gt y30 x2) (gt y30 y48) t1 et1 _ _) fun ch5 m le1 a w S => ?_)
       replace le := le.trans le1
       refine CL.bk hw S (.c0 .n) le fun hw => ?_
       replace CL := CL.add (t := 63) (d := (.i t1)) S rfl rfl
       refine h_bin S CL hw le (subR rfl) rfl rfl rfl rfl rfl ⟨_, _, rfl, rfl, c6⟩ fun a S CL => h_pick S CL hw le (subR rfl) (b := true) (hc_of rfl c6) rfl rfl rfl trivial fun a S CL => ?_
       refine h_done ?_; clear CL hw le
       refine x_thenN ?_
       exact j6 _ (decide (t1 < 0)) a w (S.sb rfl (.c0 .n)) h4
      exact h_nil
     ·refine h_skip S CL rfl rfl rfl (ne_bool c6) rfl fun a S CL => h_skip S CL rfl rfl rfl (ne_bool c6) rfl fun a S CL => h_skip S CL rfl rfl rfl (ne_bool c6) rfl fun a S CL => h_skip S CL rfl rfl rfl (ne_bool c6) rfl fun a S CL => h_skip S CL rfl rfl rfl (ne_bool c6) rfl fun a S CL => h_skip S CL rfl rfl rfl (ne_bool c6) rfl fun a S CL => h_skip S CL rfl rfl rfl (ne_bool c6) rfl fun a S CL => h_alts ?_
      refine h_skipOt S rfl rfl rfl (ne_bool c6) rfl ?_ ?_
      ·clear S a; intro a S
       refine CL.bk hw S (.c0 .n) le fun hw => h_skipRt S rfl rfl rfl (ne_bool c6) rfl fun a S => CL.bk hw S (.c0 .n) le fun hw => h_skipRt S rfl rfl rfl (ne_bool c6) rfl fun a S => CL.bk hw S (.c0 .n) le fun hw => ?_
       replace CL := CL.add (t := 63) (d := .u) S rfl rfl
       refine h_skip S CL rfl rfl rfl (ne_bool c6) rfl fun a S CL => h_pick S CL hw le (subR rfl) (b := false) (hc_of rfl c6) rfl rfl rfl trivial fun a S CL => ?_
       refine h_done ?_; clear CL hw le
       refine x_thenN ?_
       exact j6 _ false a w (S.sb rfl (.c0 .n)) h1
      refine h_skipOt S rfl rfl rfl (ne_bool c6) rfl ?_ ?_
      ·clear S a; intro a S
       refine CL.bk hw S (.c0 .n) le fun hw => h_skipRt S rfl rfl rfl (ne_bool c6) rfl fun a S => CL.bk hw S (.c0 .n) le fun hw => h_skipRt S rfl rfl rfl (ne_bool c6) rfl fun a S => CL.bk hw S (.c0 .n) le fun hw => ?_
       replace CL := CL.add (t := 63) (d := .u) S rfl rfl
       refine h_skip S CL rfl rfl rfl (ne_bool c6) rfl fun a S CL => h_pick S CL hw le (subR rfl) (b := false) (hc_of rfl c6) rfl rfl rfl trivial fun a S CL => ?_
       refine h_done ?_; clear CL hw le
       refine x_thenN ?_
       exact j6 _ false a w (S.sb rfl (.c0 .n)) h1
      exact h_nil
   refine wp_block ?_
   refine c_loop (fun q3 a w => ∃ m y53, St 90 m b0 [(12, (.i y31)), (11, (.i y53)), (0, (.s ch_0_0 ch_0_1 ch_0_2)), (1, (.i x2)), (4, (.v (.func (.func 39) #[] #[])))] [Res.row (Ty.arr .u8 20) 28 ch_0_0 ch_0_1 ch_0_2 y30] a w ∧ api_Address_n56_0o_4f39.l3 k x2 y30 y31 (api_Address_n56_0o_4f39.l1 k x2 q1) q3 y53 = some r) ?_ ?_ (k := k) ⟨_, y32, (S.sb rfl (.c0 .n)), h0⟩
   ·rintro a w ⟨m, y53, S, h0⟩
    exact (nomatch (show (none : Option (Int × (List (List Int)))) = some r from h0))
   ·clear S h0
    rintro q3 a w ⟨m, y53, S, h0⟩
    replace h0 : api_Address_n56_0o_4f39.b3 k x2 y30 y31 (api_Address_n56_0o_4f39.l1 k x2 q1) (api_Address_n56_0o_4f39.l3 k x2 y30 y31 (api_Address_n56_0o_4f39.l1 k x2 q1) q3) y53 = some r := h0
    delta api_Address_n56_0o_4f39.b3 at h0
    refine wp_seq (wp_seq_k fun K7 hK7 => ?_)
    have j7 : ∀ m y54 a w, St 90 m b0 [(47, (.b y54)), (12, (.i y31)), (11, (.i y53)), (0, (.s ch_0_0 ch_0_1 ch_0_2)), (1, (.i x2)), (4, (.v (.func (.func 39) #[] #[])))] [Res.row (Ty.arr .u8 20) 28 ch_0_0 ch_0_1 ch_0_2 y30] a w → api_Address_n56_0o_4f39.j7 k x2 y30 y31 (api_Address_n56_0o_4f39.l1 k x2 q1) y53 (api_Address_n56_0o_4f39.l3 k x2 y30 y31 (api_Address_n56_0o_4f39.l1 k x2 q1) q3) y54 = some r → K7 a w := by
     intro m y54 a w S h0
     delta api_Address_n56_0o_4f39.j7 at h0
     refine hK7 a w ?_
     rcases ite_of h0 with ⟨c9, h1⟩ | ⟨c9, h1⟩
     ·refine c_condT S rfl c9 (wp_skip (x_thenN (wp_block (c_region' (s_move S rfl rfl fun a S => s_bin S rfl rfl rfl rfl fun a S => s_assign S rfl rfl fun a S => c_end' (x_blockN (x_thenN ?_)))))))
      exact ⟨_, (wr .i64 (y53 + 1)), (S.sb rfl (.c0 .n)), h1⟩
     ·refine c_condF S rfl c9 (wp_exit (x_thenX (x_thenX (x_blockX (x_thenN ?_)))))
      exact j3 _ y53 a w (S.sb rfl (.c0 .n)) h1
    refine c_heldS S (.take 0 (.take 1 (.take 2 (.take 3 (.take 4 (.take 5 (.take 6 (.take 7 (.take 9 (.take 10 (.take 11 (.alts (.run 8 true (.alts (.run 12 true (.alts (.run 13 true (.take 14 (.take 15 (.take 16 .done))) .nil)) .nil)) (.run 12 true (.alts (.run 8 true (.alts (.run 13 true (.take 14 (.take 15 (.take 16 .done))) .nil)) .nil)) .nil)))))))))))))) 17 [Res.row (Ty.arr .u8 20) 28 ch_0_0 ch_0_1 ch_0_2 y30] (.c0 .n) ⟨Res.stay_row flat_arr, trivial⟩ [(12, (.i y31)), (11, (.i y53)), (0, (.s ch_0_0 ch_0_1 ch_0_2)), (1, (.i x2)), (4, (.v (.func (.func 39) #[] #[])))] (subR rfl) (by kernel_rfl) (by kernel_rfl) fun w S CL hw le => ?_
    refine h_move S CL hw le (subR rfl) rfl rfl rfl trivial fun a S CL => h_move S CL hw le (subR rfl) rfl rfl rfl trivial fun a S CL => h_bin S CL hw le (subR rfl) rfl rfl rfl rfl rfl trivial fun a S CL => h_move S CL hw le (subR rfl) rfl rfl rfl trivial fun a S CL => ?_
    rcases ite_of h0 with ⟨c10, h1⟩ | ⟨c10, h1⟩
    ·refine h_move S CL hw le (subR rfl) rfl rfl rfl ⟨_, _, rfl, rfl, c10⟩ fun a S CL => h_move S CL hw le (subR rfl) rfl rfl rfl ⟨_, _, rfl, rfl, c10⟩ fun a S CL => h_move S CL hw le (subR rfl) rfl rfl rfl ⟨_, _, rfl, rfl, c10⟩ fun a S CL => ?_
     obtain ⟨c11, h2⟩ := chk_of h1; clear h1
     refine h_iaddrO S CL hw le (subR rfl) (ty' := (Ty.arr .u8 20)) rfl .h rfl underlying23 T28 c11.1 c11.2 rfl rfl ⟨_, _, rfl, rfl, c10⟩ fun g11 a hA7 S CL => h_move S CL hw le (subR rfl) rfl rfl rfl ⟨_, _, rfl, rfl, c10⟩ fun a S CL => h_move S CL hw le (subR rfl) rfl rfl rfl ⟨_, _, rfl, rfl, c10⟩ fun a S CL => ?_
     obtain ⟨c12, h3⟩ := chk_of h2; clear h2
     refine h_iaddrO S CL hw le (subR rfl) (ty' := (Ty.arr .u8 20)) rfl .h rfl underlying23 T28 c12.1 c12.2 rfl rfl ⟨_, _, rfl, rfl, c10⟩ fun g12 a hA8 S CL => bindX h3 fun t3 et3 h4 => h_alts ?_
     refine h_runO S rfl ⟨_, _, rfl, rfl, c10⟩ ?_ ?_
     ·refine s_ldRA S (ty' := (Ty.arr .u8 20)) (i := x2) (off := 0) (fun (c : Unit) => [.b20 (gt y30 x2)]) rfl hA7 .h T28 c11.1 c11.2 rfl (fun _ => rfl) rfl fun ch6 a S => ?_
      refine CL.bk hw S (.c0 .n) le fun hw => h_run' S rfl ⟨_, _, rfl, rfl, c10⟩ (s_ldRA S (ty' := (Ty.arr .u8 20)) (i := y53) (off := 0) (fun (c : Unit) => [.b20 (gt y30 y53)]) rfl hA8 .h T28 c12.1 c12.2 rfl (fun _ => rfl) rfl fun ch7 a S => ?_)
      refine CL.bk hw S (.c0 .n) le fun hw => h_run' S rfl ⟨_, _, rfl, rfl, c10⟩ (s_callP S _ N39 rfl rfl (addr_Compare.ok (gt y30 x2) (gt y30 y53) t3 et3 _ _) fun ch8 m le1 a w S => ?_)
      replace le := le.trans le1
      refine CL.bk hw S (.c0 .n) le fun hw => ?_
      replace CL := CL.add (t := 44) (d := (.i t3)) S rfl rfl
      refine h_bin S CL hw le (subR rfl) rfl rfl rfl rfl rfl ⟨_, _, rfl, rfl, c10⟩ fun a S CL => h_not S CL hw le (subR rfl) rfl rfl rfl ⟨_, _, rfl, rfl, c10⟩ fun a S CL => h_pick S CL hw le (subR rfl) (b := true) (hc_of rfl c10) rfl rfl rfl trivial fun a S CL => ?_
      refine h_done ?_; clear CL hw le
      refine x_thenN ?_
      exact j7 _ (!(decide (t3 < 0))) a w (S.sb rfl (.c0 .n)) h4
     refine h_runO S rfl ⟨_, _, rfl, rfl, c10⟩ ?_ ?_
     ·refine s_ldRA S (ty' := (Ty.arr .u8 20)) (i := y53) (off := 0) (fun (c : Unit) => [.b20 (gt y30 y53)]) rfl hA8 .h T28 c12.1 c12.2 rfl (fun _ => rfl) rfl fun ch6 a S => ?_
      refine CL.bk hw S (.c0 .n) le fun hw => h_run' S rfl ⟨_, _, rfl, rfl, c10⟩ (s_ldRA S (ty' := (Ty.arr .u8 20)) (i := x2) (off := 0) (fun (c : Unit) => [.b20 (gt y30 x2)]) rfl hA7 .h T28 c11.1 c11.2 rfl (fun _ => rfl) rfl fun ch7 a S => ?_)
      refine CL.bk hw S (.c0 .n) le fun hw => h_run' S rfl ⟨_, _, rfl, rfl, c10⟩ (s_callP S _ N39 rfl rfl (addr_Compare.ok (gt y30 x2) (gt y30 y53) t3 et3 _ _) fun ch8 m le1 a w S => ?_)
      replace le := le.trans le1
      refine CL.bk hw S (.c0 .n) le fun hw => ?_
      replace CL := CL.add (t := 44) (d := (.i t3)) S rfl rfl
      refine h_bin S CL hw le (subR rfl) rfl rfl rfl rfl rfl ⟨_, _, rfl, rfl, c10⟩ fun a S CL => h_not S CL hw le (subR rfl) rfl rfl rfl ⟨_, _, rfl, rfl, c10⟩ fun a S CL => h_pick S CL hw le (subR rfl) (b := true) (hc_of rfl c10) rfl rfl rfl trivial fun a S CL => ?_
      refine h_done ?_; clear CL hw le
      refine x_thenN ?_
      exact j7 _ (!(decide (t3 < 0))) a w (S.sb rfl (.c0 .n)) h4
     exact h_nil
    ·refine h_skip S CL rfl rfl rfl (ne_bool c10) rfl fun a S CL => h_skip S CL rfl rfl rfl (ne_bool c10) rfl fun a S CL => h_skip S CL rfl rfl rfl (ne_bool c10) rfl fun a S CL => h_skip S CL rfl rfl rfl (ne_bool c10) rfl fun a S CL => h_skip S CL rfl rfl rfl (ne_bool c10) rfl fun a S CL => h_skip S CL rfl rfl rfl (ne_bool c10) rfl fun a S CL => h_skip S CL rfl rfl rfl (ne_bool c10) rfl fun a S CL => h_alts ?_
     refine h_skipOt S rfl rfl rfl (ne_bool c10) rfl ?_ ?_
     ·clear S a; intro a S
      refine CL.bk hw S (.c0 .n) le fun hw => h_skipRt S rfl rfl rfl (ne_bool c10) rfl fun a S => CL.bk hw S (.c0 .n) le fun hw => h_skipRt S rfl rfl rfl (ne_bool c10) rfl fun a S => CL.bk hw S (.c0 .n) le fun hw => ?_
      replace CL := CL.add (t := 44) (d := .u) S rfl rfl
      refine h_skip S CL rfl rfl rfl (ne_bool c10) rfl fun a S CL => h_skip S CL rfl rfl rfl (ne_bool c10) rfl fun a S CL => h_pick S CL hw le (subR rfl) (b := false) (hc_of rfl c10) rfl rfl rfl trivial fun a S CL => ?_
      refine h_done ?_; clear CL hw le
      refine x_thenN ?_
      exact j7 _ false a w (S.sb rfl (.c0 .n)) h1
     refine h_skipOt S rfl rfl rfl (ne_bool c10) rfl ?_ ?_
     ·clear S a; intro a S
      refine CL.bk hw S (.c0 .n) le fun hw => h_skipRt S rfl rfl rfl (ne_bool c10) rfl fun a S => CL.bk hw S (.c0 .n) le fun hw => h_skipRt S rfl rfl rfl (ne_bool c10) rfl fun a S => CL.bk hw S (.c0 .n) le fun hw => ?_
      replace CL := CL.add (t := 44) (d := .u) S rfl rfl
      refine h_skip S CL rfl rfl rfl (ne_bool c10) rfl fun a S CL => h_skip S CL rfl rfl rfl (ne_bool c10) rfl fun a S CL => h_pick S CL hw le (subR rfl) (b := false) (hc_of rfl c10) rfl rfl rfl trivial fun a S CL => ?_
      refine h_done ?_; clear CL hw le
      refine x_thenN ?_
      exact j7 _ false a w (S.sb rfl (.c0 .n)) h1
     exact h_nil
 refine c_heldS S (.take 0 (.take 1 (.take 2 (.take 3 (.take 4 (.take 5 (.take 8 (.take 9 (.alts (.run 6 true (.alts (.run 7 true (.alts (.run 10 true (.alts (.run 11 true (.alts (.run 12 true (.alts (.run 13 true (.alts (.run 14 true (.alts (.run 15 false .done .nil)) .nil)) .nil)) .nil)) .nil)) .nil)) (.run 10 true (.alts (.run 7 true (.alts (.run 11 true (.alts (.run 12 true (.alts (.run 13 true (.alts (.run 14 true (.alts (.run 15 false .done .nil)) .nil)) .nil)) .nil)) .nil)) (.run 11 true (.alts (.run 7 true (.alts (.run 12 true (.alts (.run 13 true (.alts (.run 14 true (.alts (.run 15 false .done .nil)) .nil)) .nil)) .nil)) .nil)) .nil))) .nil))) (.run 10 true (.alts (.run 6 true (.alts (.run 7 true (.alts (.run 11 true (.alts (.run 12 true (.alts (.run 13 true (.alts (.run 14 true (.alts (.run 15 false .done .nil)) .nil)) .nil)) .nil)) .nil)) (.run 11 true (.alts (.run 7 true (.alts (.run 12 true (.alts (.run 13 true (.alts (.run 14 true (.alts (.run 15 false .done .nil)) .nil)) .nil)) .nil)) .nil)) .nil))) (.run 11 true (.alts (.run 6 true (.alts (.run 7 true (.alts (.run 12 true (.alts (.run 13 true (.alts (.run 14 true (.alts (.run 15 false .done .nil)) .nil)) .nil)) .nil)) .nil)) .nil)) .nil))) .nil))))))))))) 15 [] .nil trivial [(0, (.s ch_0_0 ch_0_1 ch_0_2)), (1, (.i x2)), (3, (.i x4))] (subR rfl) (by kernel_rfl) (by kernel_rfl) fun w S CL hw le => ?_
 refine h_move S CL hw le (subR rfl) rfl rfl rfl trivial fun a S CL => h_move S CL hw le (subR rfl) rfl rfl rfl trivial fun a S CL => h_move S CL hw le (subR rfl) rfl rfl rfl trivial fun a S CL => h_move S CL hw le (subR rfl) rfl rfl rfl trivial fun a S CL => h_move S CL hw le (subR rfl) rfl rfl rfl trivial fun a S CL => h_move S CL hw le (subR rfl) rfl rfl rfl trivial fun a S CL => h_move S CL hw le (subR rfl) rfl rfl rfl trivial fun a S CL => h_move S CL hw le (subR rfl) rfl rfl rfl trivial fun a S CL => ?_
 obtain ⟨c13, h1⟩ := chk_of h0; clear h0
 obtain ⟨c14, h2⟩ := chk_of h1; clear h1
 obtain ⟨c15, h3⟩ := chk_of h2; clear h2
 refine h_alts ?_
 refine h_runO S rfl trivial ?_ ?_
 ·refine s_iaddrO S (ty' := (Ty.arr .u8 20)) rfl .h rfl underlying23 T28 c13.1 c13.2 rfl fun g13 a hA9 S => CL.bk hw S .nil le fun hw => h_alts ?_
  refine h_runO S rfl trivial ?_ ?_
  ·refine s_ldRA S (ty' := (Ty.arr .u8 20)) (i := x4) (off := 0) (fun (c : Unit) => [.b20 (gt x1 x4)]) rfl hA9 .h T28 c13.1 c13.2 rfl (fun _ => rfl) rfl fun ch9 a S => ?_
   refine CL.br hw S .nil le rfl trivial fun hw => (s_iaddrO S (ty' := (Ty.arr .u8 20)) rfl .h rfl underlying23 T28 c14.1 c14.2 rfl fun g14 a hA10 S => CL.br hw S .nil le rfl trivial fun hw => (s_ldRA S (ty' := (Ty.arr .u8 20)) (i := x2) (off := 0) (fun (c : Unit) => [.b20 (gt x1 x2)]) rfl hA10 .h T28 c14.1 c14.2 rfl (fun _ => rfl) rfl fun ch10 a S => ?_))
   refine CL.br hw S .nil le rfl trivial fun hw => (s_iaddrO S (ty' := (Ty.arr .u8 20)) rfl .h rfl underlying23 T28 c14.1 c14.2 rfl fun g15 a hA11 S => CL.br hw S .nil le rfl trivial fun hw => (s_stR S (ty' := (Ty.arr .u8 20)) (i := x2) (off := 0) (u := gt x1 x4) (fun (c : Unit) => ()) rfl rfl rfl hA11 .h T28 c14.1 c14.2 rfl (by decide) rfl (fun _ => rfl) fun w S => CL.br hw S .nil le rfl trivial fun hw => (s_iaddrO S (ty' := (Ty.arr .u8 20)) rfl .h rfl underlying23 T28 c15.1 c15.2 rfl fun g16 a hA12 S => CL.br hw S .nil le rfl trivial fun hw => (s_stR S (ty' := (Ty.arr .u8 20)) (i := x4) (off := 0) (u := gt x1 x2) (fun (c : Unit) => ()) rfl rfl rfl hA12 .h T28 c15.1 c15.2 rfl (by decide) rfl (fun _ => rfl) fun w S => ?_))))
   refine h_back ⟨fun h => (nomatch h), ?_⟩
   refine h_done ?_; clear CL hw le
   refine x_thenN ?_
   exact j1 _ a w (S.sb rfl (.c0 .n)) h3
  refine h_runO S rfl trivial ?_ ?_
  ·refine s_iaddrO S (ty' := (Ty.arr .u8 20)) rfl .h rfl underlying23 T28 c14.1 c14.2 rfl fun g14 a hA10 S => CL.bk hw S .nil le fun hw => h_alts ?_
   refine h_runO S rfl trivial ?_ ?_
   ·refine s_ldRA S (ty' := (Ty.arr .u8 20)) (i := x4) (off := 0) (fun (c : Unit) => [.b20 (gt x1 x4)]) rfl hA9 .h T28 c13.1 c13.2 rfl (fun _ => rfl) rfl fun ch9 a S => ?_
    refine CL.br hw S .nil le rfl trivial fun hw => (s_ldRA S (ty' := (Ty.arr .u8 20)) (i := x2) (off := 0) (fun (c : Unit) => [.b20 (gt x1 x2)]) rfl hA10 .h T28 c14.1 c14.2 rfl (fun _ => rfl) rfl fun ch10 a S => ?_)
    refine CL.br hw S .nil le rfl trivial fun hw => (s_iaddrO S (ty' := (Ty.arr .u8 20)) rfl .h rfl underlying23 T28 c14.1 c14.2 rfl fun g15 a hA11 S => CL.br hw S .nil le rfl trivial fun hw => (s_stR S (ty' := (Ty.arr .u8 20)) (i := x2) (off := 0) (u := gt x1 x4) (fun (c : Unit) => ()) rfl rfl rfl hA11 .h T28 c14.1 c14.2 rfl (by decide) rfl (fun _ => rfl) fun w S => CL.br hw S .nil le rfl trivial fun hw => (s_iaddrO S (ty' := (Ty.arr .u8 20)) rfl .h rfl underlying23 T28 c15.1 c15.2 rfl fun g16 a hA12 S => CL.br hw S .nil le rfl trivial fun hw => (s_stR S (ty' := (Ty.arr .u8 20)) (i := x4) (off := 0) (u := gt x1 x2) (fun (c : Unit) => ()) rfl rfl rfl hA12 .h T28 c15.1 c15.2 rfl (by decide) rfl (fun _ => rfl) fun w S => ?_))))
    refine h_back ⟨fun h => (nomatch h), ?_⟩
    refine h_done ?_; clear CL hw le
    refine x_thenN ?_
    exact j1 _ a w (S.sb rfl (.c0 .n)) h3
   refine h_runO S rfl trivial ?_ ?_
   ·refine s_ldRA S (ty' := (Ty.arr .u8 20)) (i := x2) (off := 0) (fun (c : Unit) => [.b20 (gt x1 x2)]) rfl hA10 .h T28 c14.1 c14.2 rfl (fun _ => rfl) rfl fun ch9 a S => ?_
    refine CL.br hw S .nil le rfl trivial fun hw => (s_ldRA S (ty' := (Ty.arr .u8 20)) (i := x4) (off := 0) (fun (c : Unit) => [.b20 (gt x1 x4)]) rfl hA9 .h T28 c13.1 c13.2 rfl (fun _ => rfl) rfl fun ch10 a S => ?_)
    refine CL.br hw S .nil le rfl trivial fun hw => (s_iaddrO S (ty' := (Ty.arr .u8 20)) rfl .h rfl underlying23 T28 c14.1 c14.2 rfl fun g15 a hA11 S => CL.br hw S .nil le rfl trivial fun hw => (s_stR S (ty' := (Ty.arr .u8 20)) (i := x2) (off := 0) (u := gt x1 x4) (fun (c : Unit) => ()) rfl rfl rfl hA11 .h T28 c14.1 c14.2 rfl (by decide) rfl (fun _ => rfl) fun w S => CL.br hw S .nil le rfl trivial fun hw => (s_iaddrO S (ty' := (Ty.arr .u8 20)) rfl .h rfl underlying23 T28 c15.1 c15.2 rfl fun g16 a hA12 S => CL.br hw S .nil le rfl trivial fun hw => (s_stR S (ty' := (Ty.arr .u8 20)) (i := x4) (off := 0) (u := gt x1 x2) (fun (c : Unit) => ()) rfl rfl rfl hA12 .h T28 c15.1 c15.2 rfl (by decide) rfl (fun _ => rfl) fun w S => ?_))))
    refine h_back ⟨fun h => (nomatch h), ?_⟩
    refine h_done ?_; clear CL hw le
    refine x_thenN ?_
    exact j1 _ a w (S.sb rfl (.c0 .n)) h3
   exact h_nil
  exact h_nil
 refine h_runO S rfl trivial ?_ ?_
 ·refine s_iaddrO S (ty' := (Ty.arr .u8 20)) rfl .h rfl underlying23 T28 c14.1 c14.2 rfl fun g13 a hA9 S => CL.bk hw S .nil le fun hw => h_alts ?_
  refine h_runO S rfl trivial ?_ ?_
  ·refine s_iaddrO S (ty' := (Ty.arr .u8 20)) rfl .h rfl underlying23 T28 c13.1 c13.2 rfl fun g14 a hA10 S => CL.bk hw S .nil le fun hw => h_alts ?_
   refine h_runO S rfl trivial ?_ ?_
   ·refine s_ldRA S (ty' := (Ty.arr .u8 20)) (i := x4) (off := 0) (fun (c : Unit) => [.b20 (gt x1 x4)]) rfl hA10 .h T28 c13.1 c13.2 rfl (fun _ => rfl) rfl fun ch9 a S => ?_
    refine CL.br hw S .nil le rfl trivial fun hw => (s_ldRA S (ty' := (Ty.arr .u8 20)) (i := x2) (off := 0) (fun (c : Unit) => [.b20 (gt x1 x2)]) rfl hA9 .h T28 c14.1 c14.2 rfl (fun _ => rfl) rfl fun ch10 a S => ?_)
    refine CL.br hw S .nil le rfl trivial fun hw => (s_iaddrO S (ty' := (Ty.arr .u8 20)) rfl .h rfl underlying23 T28 c14.1 c14.2 rfl fun g15 a hA11 S => CL.br hw S .nil le rfl trivial fun hw => (s_stR S (ty' := (Ty.arr .u8 20)) (i := x2) (off := 0) (u := gt x1 x4) (fun (c : Unit) => ()) rfl rfl rfl hA11 .h T28 c14.1 c14.2 rfl (by decide) rfl (fun _ => rfl) fun w S => CL.br hw S .nil le rfl trivial fun hw => (s_iaddrO S (ty' := (Ty.arr .u8 20)) rfl .h rfl underlying23 T28 c15.1 c15.2 rfl fun g16 a hA12 S => CL.br hw S .nil le rfl trivial fun hw => (s_stR S (ty' := (Ty.arr .u8 20)) (i := x4) (off := 0) (u := gt x1 x2) (fun (c : Unit) => ()) rfl rfl rfl hA12 .h T28 c15.1 c15.2 rfl (by decide) rfl (fun _ => rfl) fun w S => ?_))))
    refine h_back ⟨fun h => (nomatch h), ?_⟩
    refine h_done ?_; clear CL hw le
    refine x_thenN ?_
    exact j1 _ a w (S.sb rfl (.c0 .n)) h3
   refine h_runO S rfl trivial ?_ ?_
   ·refine s_ldRA S (ty' := (Ty.arr .u8 20)) (i := x2) (off := 0) (fun (c : Unit) => [.b20 (gt x1 x2)]) rfl hA9 .h T28 c14.1 c14.2 rfl (fun _ => rfl) rfl fun ch9 a S => ?_
    refine CL.br hw S .nil le rfl trivial fun hw => (s_ldRA S (ty' := (Ty.arr .u8 20)) (i := x4) (off := 0) (fun (c : Unit) => [.b20 (gt x1 x4)]) rfl hA10 .h T28 c13.1 c13.2 rfl (fun _ => rfl) rfl fun ch10 a S => ?_)
    refine CL.br hw S .nil le rfl trivial fun hw => (s_iaddrO S (ty' := (Ty.arr .u8 20)) rfl .h rfl underlying23 T28 c14.1 c14.2 rfl fun g15 a hA11 S => CL.br hw S .nil le rfl trivial fun hw => (s_stR S (ty' := (Ty.arr .u8 20)) (i := x2) (off := 0) (u := gt x1 x4) (fun (c : Unit) => ()) rfl rfl rfl hA11 .h T28 c14.1 c14.2 rfl (by decide) rfl (fun _ => rfl) fun w S => CL.br hw S .nil le rfl trivial fun hw => (s_iaddrO S (ty' := (Ty.arr .u8 20)) rfl .h rfl underlying23 T28 c15.1 c15.2 rfl fun g16 a hA12 S => CL.br hw S .nil le rfl trivial fun hw => (s_stR S (ty' := (Ty.arr .u8 20)) (i := x4) (off := 0) (u := gt x1 x2) (fun (c : Unit) => ()) rfl rfl rfl hA12 .h T28 c15.1 c15.2 rfl (by decide) rfl (fun _ => rfl) fun w S => ?_))))
    refine h_back ⟨fun h => (nomatch h), ?_⟩
    refine h_done ?_; clear CL hw le
    refine x_thenN ?_
    exact j1 _ a w (S.sb rfl (.c0 .n)) h3
   exact h_nil
  refine h_runO S rfl trivial ?_ ?_
  ·refine s_ldRA S (ty' := (Ty.arr .u8 20)) (i := x2) (off := 0) (fun (c : Unit) => [.b20 (gt x1 x2)]) rfl hA9 .h T28 c14.1 c14.2 rfl (fun _ => rfl) rfl fun ch9 a S => ?_
   refine CL.br hw S .nil le rfl trivial fun hw => (s_iaddrO S (ty' := (Ty.arr .u8 20)) rfl .h rfl underlying23 T28 c13.1 c13.2 rfl fun g14 a hA10 S => CL.br hw S .nil le rfl trivial fun hw => (s_ldRA S (ty' := (Ty.arr .u8 20)) (i := x4) (off := 0) (fun (c : Unit) => [.b20 (gt x1 x4)]) rfl hA10 .h T28 c13.1 c13.2 rfl (fun _ => rfl) rfl fun ch10 a S => ?_))
   refine CL.br hw S .nil le rfl trivial fun hw => (s_iaddrO S (ty' := (Ty.arr .u8 20)) rfl .h rfl underlying23 T28 c14.1 c14.2 rfl fun g15 a hA11 S => CL.br hw S .nil le rfl trivial fun hw => (s_stR S (ty' := (Ty.arr .u8 20)) (i := x2) (off := 0) (u := gt x1 x4) (fun (c : Unit) => ()) rfl rfl rfl hA11 .h T28 c14.1 c14.2 rfl (by decide) rfl (fun _ => rfl) fun w S => CL.br hw S .nil le rfl trivial fun hw => (s_iaddrO S (ty' := (Ty.arr .u8 20)) rfl .h rfl underlying23 T28 c15.1 c15.2 rfl fun g16 a hA12 S => CL.br hw S .nil le rfl trivial fun hw => (s_stR S (ty' := (Ty.arr .u8 20)) (i := x4) (off := 0) (u := gt x1 x2) (fun (c : Unit) => ()) rfl rfl rfl hA12 .h T28 c15.1 c15.2 rfl (by decide) rfl (fun _ => rfl) fun w S => ?_))))
   refine h_back ⟨fun h => (nomatch h), ?_⟩
   refine h_done ?_; clear CL hw le
   refine x_thenN ?_
   exact j1 _ a w (S.sb rfl (.c0 .n)) h3
  exact h_nil
 exact h_nil
end
end GW
