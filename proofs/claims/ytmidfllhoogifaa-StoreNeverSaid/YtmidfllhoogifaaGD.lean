import Derived.Test.YtmidfllhoogifaaProg
import Derived.Test.YtmidfllhoogifaaGC
set_option linter.unusedVariables false
set_option linter.unusedSimpArgs false
set_option maxRecDepth 10000
set_option maxHeartbeats 4000000
namespace GW
open Go Go.RowKit Go.Proofs Go.Proofs.Try
noncomputable section
abbrev api_Account_n55_0z_3f35.Ty : Type := (List L30) → Int → Int → Option (Bool × (List L30))
def api_Account_n55_0z_3f35.Ctr (s : api_Account_n55_0z_3f35.Ty) : Prop := ∀ (x1 : List L30) (x2 : Int) (x3 : Int) (ch_0_0 : Option Addr) (ch_0_1 : Nat) (ch_0_2 : Nat) (ch_0_3 : Mem) (r : Bool × (List L30)), Ct (C := Unit) Try.prog 55 (s x1 x2 x3 = some r) [Res.row (Ty.atZ ch_0_3 Y30) 30 ch_0_0 ch_0_1 ch_0_2 x1, Res.priv ch_0_3] [(.s ch_0_0 ch_0_1 ch_0_2), (.i x2), (.i x3), (.v (.func (.func 35) #[] #[]))] (fun _ => (.b r.1)) fun _ => [Res.row (Ty.atZ ch_0_3 Y30) 30 ch_0_0 ch_0_1 ch_0_2 r.2, Res.priv ch_0_3]
def api_Account_n55_0z_3f35.j1 (y1 : List L30) : Option (Bool × (List L30)) := some (false, y1)
def api_Account_n55_0z_3f35.j2 (y44 : Int) (rec1 : (List L30) → Int → Int → Option (Bool × (List L30))) (y63 : List L30) (y64 : Int) : Option (Bool × (List L30)) := rec1 y63 (wr .i64 (y44 + 1)) y64
def api_Account_n55_0z_3f35.j6 (y79 : List L30) (y80 : Int) (rec2 : (List L30) → Int → Option (Bool × (List L30))) : Option (Bool × (List L30)) := rec2 ((y79.set (Int.toNat y80) (gt y79 (wr .i64 (y80 - 1)))).set (Int.toNat (wr .i64 (y80 - 1))) (gt y79 y80)) (wr .i64 (y80 + 1))
def api_Account_n55_0z_3f35.j7 (y44 : Int) (rec1 : (List L30) → Int → Int → Option (Bool × (List L30))) (y70 : Int) (y79 : List L30) (y80 : Int) (rec2 : (List L30) → Int → Option (Bool × (List L30))) (y82 : Bool) : Option (Bool × (List L30)) := if y82 = true then (api_Account_n55_0z_3f35.j2 y44 rec1 y79 y70) else (if (0 : Int) ≤ (wr .i64 (y80 - 1)) ∧ (wr .i64 (y80 - 1)) < ((y79).length : Int) then (if (0 : Int) ≤ y80 ∧ y80 < ((y79).length : Int) then (if (0 : Int) ≤ (wr .i64 (y80 - 1)) ∧ (wr .i64 (y80 - 1)) < ((y79.set (Int.toNat y80) (gt y79 (wr .i64 (y80 - 1)))).length : Int) then (api_Account_n55_0z_3f35.j6 y79 y80 rec2) else none) else none) else none)
def api_Account_n55_0z_3f35.b2 (x3 : Int) (y44 : Int) (rec1 : (List L30) → Int → Int → Option (Bool × (List L30))) (y70 : Int) (rec2 : (List L30) → Int → Option (Bool × (List L30))) (y79 : List L30) (y80 : Int) : Option (Bool × (List L30)) := if (decide (y80 < x3)) = true then (if (0 : Int) ≤ y80 ∧ y80 < ((y79).length : Int) then (if (0 : Int) ≤ (wr .i64 (y80 - 1)) ∧ (wr .i64 (y80 - 1)) < ((y79).length : Int) then ((store_Store_All_1.f (gt y79 y80) (gt y79 (wr .i64 (y80 - 1)))).bind fun t1 => (api_Account_n55_0z_3f35.j7 y44 rec1 y70 y79 y80 rec2 (!(decide (t1 < 0))))) else none) else none) else (api_Account_n55_0z_3f35.j2 y44 rec1 y79 y70)
def api_Account_n55_0z_3f35.l2 (x3 : Int) (y44 : Int) (rec1 : (List L30) → Int → Int → Option (Bool × (List L30))) (y70 : Int) : Nat → (List L30) → Int → Option (Bool × (List L30))
  | 0, _, _ => none
  | q + 1, y79, y80 => api_Account_n55_0z_3f35.b2 x3 y44 rec1 y70 (api_Account_n55_0z_3f35.l2 x3 y44 rec1 y70 q) y79 y80
def api_Account_n55_0z_3f35.j5 (k : Nat) (x3 : Int) (y44 : Int) (rec1 : (List L30) → Int → Int → Option (Bool × (List L30))) (y70 : Int) (y76 : List L30) : Option (Bool × (List L30)) := if (decide (2 ≤ (wr .i64 (x3 - y70)))) = true then (api_Account_n55_0z_3f35.l2 x3 y44 rec1 y70 k y76 (wr .i64 (y70 + 1))) else (api_Account_n55_0z_3f35.j2 y44 rec1 y76 y70)
def api_Account_n55_0z_3f35.j8 (y85 : List L30) (y86 : Int) (rec3 : (List L30) → Int → Option (Bool × (List L30))) : Option (Bool × (List L30)) := rec3 ((y85.set (Int.toNat y86) (gt y85 (wr .i64 (y86 - 1)))).set (Int.toNat (wr .i64 (y86 - 1))) (gt y85 y86)) (wr .i64 (y86 - 1))
def api_Account_n55_0z_3f35.j9 (k : Nat) (x3 : Int) (y44 : Int) (rec1 : (List L30) → Int → Int → Option (Bool × (List L30))) (y70 : Int) (y85 : List L30) (y86 : Int) (rec3 : (List L30) → Int → Option (Bool × (List L30))) (y88 : Bool) : Option (Bool × (List L30)) := if y88 = true then (api_Account_n55_0z_3f35.j5 k x3 y44 rec1 y70 y85) else (if (0 : Int) ≤ (wr .i64 (y86 - 1)) ∧ (wr .i64 (y86 - 1)) < ((y85).length : Int) then (if (0 : Int) ≤ y86 ∧ y86 < ((y85).length : Int) then (if (0 : Int) ≤ (wr .i64 (y86 - 1)) ∧ (wr .i64 (y86 - 1)) < ((y85.set (Int.toNat y86) (gt y85 (wr .i64 (y86 - 1)))).length : Int) then (api_Account_n55_0z_3f35.j8 y85 y86 rec3) else none) else none) else none)
def api_Account_n55_0z_3f35.b3 (k : Nat) (x3 : Int) (y44 : Int) (rec1 : (List L30) → Int → Int → Option (Bool × (List L30))) (y70 : Int) (rec3 : (List L30) → Int → Option (Bool × (List L30))) (y85 : List L30) (y86 : Int) : Option (Bool × (List L30)) := if (decide (1 ≤ y86)) = true then (if (0 : Int) ≤ y86 ∧ y86 < ((y85).length : Int) then (if (0 : Int) ≤ (wr .i64 (y86 - 1)) ∧ (wr .i64 (y86 - 1)) < ((y85).length : Int) then ((store_Store_All_1.f (gt y85 y86) (gt y85 (wr .i64 (y86 - 1)))).bind fun t3 => (api_Account_n55_0z_3f35.j9 k x3 y44 rec1 y70 y85 y86 rec3 (!(decide (t3 < 0))))) else none) else none) else (api_Account_n55_0z_3f35.j5 k x3 y44 rec1 y70 y85)
def api_Account_n55_0z_3f35.l3 (k : Nat) (x3 : Int) (y44 : Int) (rec1 : (List L30) → Int → Int → Option (Bool × (List L30))) (y70 : Int) : Nat → (List L30) → Int → Option (Bool × (List L30))
  | 0, _, _ => none
  | q + 1, y85, y86 => api_Account_n55_0z_3f35.b3 k x3 y44 rec1 y70 (api_Account_n55_0z_3f35.l3 k x3 y44 rec1 y70 q) y85 y86
def api_Account_n55_0z_3f35.j4 (k : Nat) (x2 : Int) (x3 : Int) (y43 : List L30) (y44 : Int) (rec1 : (List L30) → Int → Int → Option (Bool × (List L30))) (y70 : Int) : Option (Bool × (List L30)) := if (decide (2 ≤ (wr .i64 (y70 - x2)))) = true then (api_Account_n55_0z_3f35.l3 k x3 y44 rec1 y70 k ((y43.set (Int.toNat y70) (gt y43 (wr .i64 (y70 - 1)))).set (Int.toNat (wr .i64 (y70 - 1))) (gt y43 y70)) (wr .i64 (y70 - 1))) else (api_Account_n55_0z_3f35.j5 k x3 y44 rec1 y70 ((y43.set (Int.toNat y70) (gt y43 (wr .i64 (y70 - 1)))).set (Int.toNat (wr .i64 (y70 - 1))) (gt y43 y70)))
def api_Account_n55_0z_3f35.j3 (k : Nat) (x2 : Int) (x3 : Int) (y43 : List L30) (y44 : Int) (rec1 : (List L30) → Int → Int → Option (Bool × (List L30))) (y70 : Int) : Option (Bool × (List L30)) := if (y70 == x3) = true then (some (true, y43)) else (if (decide ((wr .i64 (x3 - x2)) < 50)) = true then (some (false, y43)) else (if (0 : Int) ≤ (wr .i64 (y70 - 1)) ∧ (wr .i64 (y70 - 1)) < ((y43).length : Int) then (if (0 : Int) ≤ y70 ∧ y70 < ((y43).length : Int) then (if (0 : Int) ≤ (wr .i64 (y70 - 1)) ∧ (wr .i64 (y70 - 1)) < ((y43.set (Int.toNat y70) (gt y43 (wr .i64 (y70 - 1)))).length : Int) then (api_Account_n55_0z_3f35.j4 k x2 x3 y43 y44 rec1 y70) else none) else none) else none))
def api_Account_n55_0z_3f35.j10 (k : Nat) (x2 : Int) (x3 : Int) (y43 : List L30) (y44 : Int) (rec1 : (List L30) → Int → Int → Option (Bool × (List L30))) (y92 : Int) (rec4 : Int → Option (Bool × (List L30))) (y93 : Bool) : Option (Bool × (List L30)) := if y93 = true then (rec4 (wr .i64 (y92 + 1))) else (api_Account_n55_0z_3f35.j3 k x2 x3 y43 y44 rec1 y92)
def api_Account_n55_0z_3f35.b4 (k : Nat) (x2 : Int) (x3 : Int) (y43 : List L30) (y44 : Int) (rec1 : (List L30) → Int → Int → Option (Bool × (List L30))) (rec4 : Int → Option (Bool × (List L30))) (y92 : Int) : Option (Bool × (List L30)) := if (decide (y92 < x3)) = true then (if (0 : Int) ≤ y92 ∧ y92 < ((y43).length : Int) then (if (0 : Int) ≤ (wr .i64 (y92 - 1)) ∧ (wr .i64 (y92 - 1)) < ((y43).length : Int) then ((store_Store_All_1.f (gt y43 y92) (gt y43 (wr .i64 (y92 - 1)))).bind fun t5 => (api_Account_n55_0z_3f35.j10 k x2 x3 y43 y44 rec1 y92 rec4 (!(decide (t5 < 0))))) else none) else none) else (api_Account_n55_0z_3f35.j10 k x2 x3 y43 y44 rec1 y92 rec4 false)
def api_Account_n55_0z_3f35.l4 (k : Nat) (x2 : Int) (x3 : Int) (y43 : List L30) (y44 : Int) (rec1 : (List L30) → Int → Int → Option (Bool × (List L30))) : Nat → Int → Option (Bool × (List L30))
  | 0, _ => none
  | q + 1, y92 => api_Account_n55_0z_3f35.b4 k x2 x3 y43 y44 rec1 (api_Account_n55_0z_3f35.l4 k x2 x3 y43 y44 rec1 q) y92
def api_Account_n55_0z_3f35.b1 (k : Nat) (x2 : Int) (x3 : Int) (rec1 : (List L30) → Int → Int → Option (Bool × (List L30))) (y43 : List L30) (y44 : Int) (y45 : Int) : Option (Bool × (List L30)) := if (decide (y44 < 5)) = true then (api_Account_n55_0z_3f35.l4 k x2 x3 y43 y44 rec1 k y45) else (api_Account_n55_0z_3f35.j1 y43)
def api_Account_n55_0z_3f35.l1 (k : Nat) (x2 : Int) (x3 : Int) : Nat → (List L30) → Int → Int → Option (Bool × (List L30))
  | 0, _, _, _ => none
  | q + 1, y43, y44, y45 => api_Account_n55_0z_3f35.b1 k x2 x3 (api_Account_n55_0z_3f35.l1 k x2 x3 q) y43 y44 y45
def api_Account_n55_0z_3f35.f (k : Nat) (x1 : List L30) (x2 : Int) (x3 : Int) : Option (Bool × (List L30)) := api_Account_n55_0z_3f35.l1 k x2 x3 k x1 0 (wr .i64 (x2 + 1))
theorem api_Account_n55_0z_3f35.ok (k : Nat) : api_Account_n55_0z_3f35.Ctr (api_Account_n55_0z_3f35.f k) := by
 intro x1 x2 x3 ch_0_0 ch_0_1 ch_0_2 ch_0_3 r h0 mi w0 ok hm
 delta api_Account_n55_0z_3f35.f at h0
 refine c_enterZ (n := 141) ok hm func55 rfl rfl rfl fun b0 hb a S => c_region (s_assign S rfl rfl fun a S => c_end (c_region (s_move S rfl rfl fun a S => s_bin S rfl rfl rfl rfl fun a S => s_assign S rfl rfl fun a S => c_end (wp_seq_k fun K1 hK1 => ?_))))
 have j1 : ∀ m y1 a w, St 141 m b0 [] [Res.row (Ty.atZ ch_0_3 Y30) 30 ch_0_0 ch_0_1 ch_0_2 y1, Res.priv ch_0_3] a w → api_Account_n55_0z_3f35.j1 y1 = some r → K1 a w := by
  intro m y1 a w S h0
  delta api_Account_n55_0z_3f35.j1 at h0
  refine hK1 a w (c_region (s_assign S rfl rfl fun a S => c_end (wp_ret ?_)))
  obtain rfl := Option.some.inj h0
  exact b_ret1 (d := (.b false)) S rfl rfl fun ok => S.retX (Hx := []) hb _ _ (() : Unit) (.c0 (.c0 .n)) ok
 refine c_region (s_assign S rfl rfl fun a S => c_end (wp_block ?_))
 refine c_loop (fun q1 a w => ∃ m y43 y44 y45, St 141 m b0 [(10, (.i y44)), (9, (.i y45)), (0, (.s ch_0_0 ch_0_1 ch_0_2)), (1, (.i x2)), (2, (.i x3)), (3, (.v (.func (.func 35) #[] #[])))] [Res.row (Ty.atZ ch_0_3 Y30) 30 ch_0_0 ch_0_1 ch_0_2 y43, Res.priv ch_0_3] a w ∧ api_Account_n55_0z_3f35.l1 k x2 x3 q1 y43 y44 y45 = some r) ?_ ?_ (k := k) ⟨_, x1, 0, (wr .i64 (x2 + 1)), (S.sb rfl (.c0 (.c0 .n))), h0⟩
 ·rintro a w ⟨m, y43, y44, y45, S, h0⟩
  exact (nomatch (show (none : Option (Bool × (List L30))) = some r from h0))
 ·clear S h0
  rintro q1 a w ⟨m, y43, y44, y45, S, h0⟩
  replace h0 : api_Account_n55_0z_3f35.b1 k x2 x3 (api_Account_n55_0z_3f35.l1 k x2 x3 q1) y43 y44 y45 = some r := h0
  delta api_Account_n55_0z_3f35.b1 at h0
  refine wp_seq (c_region (s_move S rfl rfl fun a S => s_bin S rfl rfl rfl rfl fun a S => c_end ?_))
  rcases ite_of h0 with ⟨c1, h1⟩ | ⟨c1, h1⟩
  ·refine c_condT S rfl c1 (wp_skip (x_thenN (wp_seq_k fun K2 hK2 => ?_)))
   have j2 : ∀ m y63 y64 a w, St 141 m b0 [(10, (.i y44)), (9, (.i y64)), (0, (.s ch_0_0 ch_0_1 ch_0_2)), (1, (.i x2)), (2, (.i x3)), (3, (.v (.func (.func 35) #[] #[])))] [Res.row (Ty.atZ ch_0_3 Y30) 30 ch_0_0 ch_0_1 ch_0_2 y63, Res.priv ch_0_3] a w → api_Account_n55_0z_3f35.j2 y44 (api_Account_n55_0z_3f35.l1 k x2 x3 q1) y63 y64 = some r → K2 a w := by
    intro m y63 y64 a w S h0
    delta api_Account_n55_0z_3f35.j2 at h0
    refine hK2 a w (c_region' (s_move S rfl rfl fun a S => s_bin S rfl rfl rfl rfl fun a S => s_assign S rfl rfl fun a S => c_end' (x_thenN ?_)))
    exact ⟨_, y63, (wr .i64 (y44 + 1)), y64, (S.sb rfl (.c0 (.c0 .n))), h0⟩
   refine wp_block (wp_seq_k fun K3 hK3 => ?_)
   have j3 : ∀ m y70 a w, St 141 m b0 [(10, (.i y44)), (9, (.i y70)), (0, (.s ch_0_0 ch_0_1 ch_0_2)), (1, (.i x2)), (2, (.i x3)), (3, (.v (.func (.func 35) #[] #[])))] [Res.row (Ty.atZ ch_0_3 Y30) 30 ch_0_0 ch_0_1 ch_0_2 y43, Res.priv ch_0_3] a w → api_Account_n55_0z_3f35.j3 k x2 x3 y43 y44 (api_Account_n55_0z_3f35.l1 k x2 x3 q1) y70 = some r → K3 a w := by
    intro m y70 a w S h0
    delta api_Account_n55_0z_3f35.j3 at h0
    refine hK3 a w (wp_seq (c_region (s_move S rfl rfl fun a S => s_move S rfl rfl fun a S => s_bin S rfl rfl rfl rfl fun a S => c_end ?_)))
    rcases ite_of h0 with ⟨c2, h1⟩ | ⟨c2, h1⟩
    ·refine c_condT S rfl c2 (c_region (s_assign S rfl rfl fun a S => c_end (wp_ret (x_thenR (x_blockR (x_thenR (x_thenR (x_blockR (x_thenR ?_)))))))))
     obtain rfl := Option.some.inj h1
     exact b_ret1 (d := (.b true)) S rfl rfl fun ok => S.retX (Hx := []) hb _ _ (() : Unit) (.c0 (.c0 .n)) ok
    ·refine c_condF S rfl c2 (wp_skip (x_thenN (wp_seq (c_region (s_move S rfl rfl fun a S => s_move S rfl rfl fun a S => s_bin S rfl rfl rfl rfl fun a S => s_bin S rfl rfl rfl rfl fun a S => c_end ?_)))))
     rcases ite_of h1 with ⟨c3, h2⟩ | ⟨c3, h2⟩
     ·refine c_condT S rfl c3 (c_region (s_assign S rfl rfl fun a S => c_end (wp_ret (x_thenR (x_blockR (x_thenR (x_thenR (x_blockR (x_thenR ?_)))))))))
      obtain rfl := Option.some.inj h2
      exact b_ret1 (d := (.b false)) S rfl rfl fun ok => S.retX (Hx := []) hb _ _ (() : Unit) (.c0 (.c0 .n)) ok
     ·refine c_condF S rfl c3 (wp_skip (x_thenN (wp_seq_k fun K4 hK4 => ?_)))
      have j4 : ∀ m a w, St 141 m b0 [(10, (.i y44)), (9, (.i y70)), (0, (.s ch_0_0 ch_0_1 ch_0_2)), (1, (.i x2)), (2, (.i x3)), (3, (.v (.func (.func 35) #[] #[])))] [Res.row (Ty.atZ ch_0_3 Y30) 30 ch_0_0 ch_0_1 ch_0_2 ((y43.set (Int.toNat y70) (gt y43 (wr .i64 (y70 - 1)))).set (Int.toNat (wr .i64 (y70 - 1))) (gt y43 y70)), Res.priv ch_0_3] a w → api_Account_n55_0z_3f35.j4 k x2 x3 y43 y44 (api_Account_n55_0z_3f35.l1 k x2 x3 q1) y70 = some r → K4 a w := by
       intro m a w S h0
       delta api_Account_n55_0z_3f35.j4 at h0
       refine hK4 a w (wp_seq_k fun K5 hK5 => ?_)
       have j5 : ∀ m y76 a w, St 141 m b0 [(10, (.i y44)), (9, (.i y70)), (0, (.s ch_0_0 ch_0_1 ch_0_2)), (1, (.i x2)), (2, (.i x3)), (3, (.v (.func (.func 35) #[] #[])))] [Res.row (Ty.atZ ch_0_3 Y30) 30 ch_0_0 ch_0_1 ch_0_2 y76, Res.priv ch_0_3] a w → api_Account_n55_0z_3f35.j5 k x3 y44 (api_Account_n55_0z_3f35.l1 k x2 x3 q1) y70 y76 = some r → K5 a w := by
        intro m y76 a w S h0
        delta api_Account_n55_0z_3f35.j5 at h0
        refine hK5 a w (c_region (s_move S rfl rfl fun a S => s_move S rfl rfl fun a S => s_bin S rfl rfl rfl rfl fun a S => s_bin S rfl rfl rfl rfl fun a S => c_end ?_))
        rcases ite_of h0 with ⟨c4, h1⟩ | ⟨c4, h1⟩
        ·refine c_condT S rfl c4 (c_region (s_move S rfl rfl fun a S => s_bin S rfl rfl rfl rfl fun a S => s_assign S rfl rfl fun a S => c_end (wp_block ?_)))
         refine c_loop (fun q2 a w => ∃ m y79 y80, St 141 m b0 [(12, (.i y80)), (10, (.i y44)), (9, (.i y70)), (0, (.s ch_0_0 ch_0_1 ch_0_2)), (1, (.i x2)), (2, (.i x3)), (3, (.v (.func (.func 35) #[] #[])))] [Res.row (Ty.atZ ch_0_3 Y30) 30 ch_0_0 ch_0_1 ch_0_2 y79, Res.priv ch_0_3] a w ∧ api_Account_n55_0z_3f35.l2 x3 y44 (api_Account_n55_0z_3f35.l1 k x2 x3 q1) y70 q2 y79 y80 = some r) ?_ ?_ (k := k) ⟨_, y76, (wr .i64 (y70 + 1)), (S.sb rfl (.c0 (.c0 .n))), h1⟩
         ·rintro a w ⟨m, y79, y80, S, h0⟩
          exact (nomatch (show (none : Option (Bool × (List L30))) = some r from h0))
         ·clear S h1
          rintro q2 a w ⟨m, y79, y80, S, h0⟩
          replace h0 : api_Account_n55_0z_3f35.b2 x3 y44 (api_Account_n55_0z_3f35.l1 k x2 x3 q1) y70 (api_Account_n55_0z_3f35.l2 x3 y44 (api_Account_n55_0z_3f35.l1 k x2 x3 q1) y70 q2) y79 y80 = some r := h0
          delta api_Account_n55_0z_3f35.b2 at h0
          refine wp_seq (c_region (s_move S rfl rfl fun a S => s_move S rfl rfl fun a S => s_bin S rfl rfl rfl rfl fun a S => c_end ?_))
          rcases ite_of h0 with ⟨c5, h1⟩ | ⟨c5, h1⟩
          ·refine c_condT S rfl c5 (wp_skip (x_thenN (wp_seq_k fun K6 hK6 => ?_)))
           have j6 : ∀ m a w, St 141 m b0 [(12, (.i y80)), (10, (.i y44)), (9, (.i y70)), (0, (.s ch_0_0 ch_0_1 ch_0_2)), (1, (.i x2)), (2, (.i x3)), (3, (.v (.func (.func 35) #[] #[])))] [Res.row (Ty.atZ ch_0_3 Y30) 30 ch_0_0 ch_0_1 ch_0_2 ((y79.set (Int.toNat y80) (gt y79 (wr .i64 (y80 - 1)))).set (Int.toNat (wr .i64 (y80 - 1))) (gt y79 y80)), Res.priv ch_0_3] a w → api_Account_n55_0z_3f35.j6 y79 y80 (api_Account_n55_0z_3f35.l2 x3 y44 (api_Account_n55_0z_3f35.l1 k x2 x3 q1) y70 q2) = some r → K6 a w := by
            intro m a w S h0
            delta api_Account_n55_0z_3f35.j6 at h0
            refine hK6 a w (c_region' (s_move S rfl rfl fun a S => s_bin S rfl rfl rfl rfl fun a S => s_assign S rfl rfl fun a S => c_end' (x_thenN ?_)))
            exact ⟨_, ((y79.set (Int.toNat y80) (gt y79 (wr .i64 (y80 - 1)))).set (Int.toNat (wr .i64 (y80 - 1))) (gt y79 y80)), (wr .i64 (y80 + 1)), (S.sb rfl (.c0 (.c0 .n))), h0⟩
           refine wp_block (wp_seq (wp_seq_k fun K7 hK7 => ?_))
           have j7 : ∀ m y82 a w, St 141 m b0 [(124, (.b y82)), (12, (.i y80)), (10, (.i y44)), (9, (.i y70)), (0, (.s ch_0_0 ch_0_1 ch_0_2)), (1, (.i x2)), (2, (.i x3)), (3, (.v (.func (.func 35) #[] #[])))] [Res.row (Ty.atZ ch_0_3 Y30) 30 ch_0_0 ch_0_1 ch_0_2 y79, Res.priv ch_0_3] a w → api_Account_n55_0z_3f35.j7 y44 (api_Account_n55_0z_3f35.l1 k x2 x3 q1) y70 y79 y80 (api_Account_n55_0z_3f35.l2 x3 y44 (api_Account_n55_0z_3f35.l1 k x2 x3 q1) y70 q2) y82 = some r → K7 a w := by
            intro m y82 a w S h0
            delta api_Account_n55_0z_3f35.j7 at h0
            refine hK7 a w ?_
            rcases ite_of h0 with ⟨c6, h1⟩ | ⟨c6, h1⟩
            ·refine c_condT S rfl c6 (wp_exit (x_thenX (x_blockO (by decide) (x_thenX (x_thenX (x_blockX (x_blockN (x_thenN ?_))))))))
             exact j2 _ y79 y70 a w (S.sb rfl (.c0 (.c0 .n))) h1
            ·refine c_condF S rfl c6 (wp_skip (x_thenN (c_heldS S (.take 0 (.take 1 (.take 2 (.take 3 (.take 4 (.take 5 (.take 6 (.take 7 (.take 10 (.take 11 (.alts (.run 8 true (.alts (.run 9 true (.alts (.run 12 true (.alts (.run 13 true (.alts (.run 14 true (.alts (.run 15 true (.alts (.run 16 true (.alts (.run 17 false .done .nil)) .nil)) .nil)) .nil)) .nil)) .nil)) (.run 12 true (.alts (.run 9 true (.alts (.run 13 true (.alts (.run 14 true (.alts (.run 15 true (.alts (.run 16 true (.alts (.run 17 false .done .nil)) .nil)) .nil)) .nil)) .nil)) (.run 13 true (.alts (.run 9 true (.alts (.run 14 true (.alts (.run 15 true (.alts (.run 16 true (.alts (.run 17 false .done .nil)) .nil)) .nil)) .nil)) .nil)) .nil))) .nil))) (.run 12 true (.alts (.run 8 true (.alts (.run 9 true (.alts (.run 13 true (.alts (.run 14 true (.alts (.run 15 true (.alts (.run 16 true (.alts (.run 17 false .done .nil)) .nil)) .nil)) .nil)) .nil)) (.run 13 true (.alts (.run 9 true (.alts (.run 14 true (.alts (.run 15 true (.alts (.run 16 true (.alts (.run 17 false .done .nil)) .nil)) .nil)) .nil)) .nil)) .nil))) (.run 13 true (.alts (.run 8 true (.alts (.run 9 true (.alts (.run 14 true (.alts (.run 15 true (.alts (.run 16 true (.alts (.run 17 false .done .nil)) .nil)) .nil)) .nil)) .nil)) .nil)) .nil))) .nil))))))))))))) 17 [] .nil trivial [(12, (.i y80)), (0, (.s ch_0_0 ch_0_1 ch_0_2))] (subR rfl) (by kernel_rfl) (by kernel_rfl) fun w S CL hw le => ?_)))
             refine h_move S CL hw le (subR rfl) rfl rfl rfl trivial fun a S CL => h_move S CL hw le (subR rfl) rfl rfl rfl trivial fun a S CL => h_move S CL hw le (subR rfl) rfl rfl rfl trivial fun a S CL => h_move S CL hw le (subR rfl) rfl rfl rfl trivial fun a S CL => h_bin S CL hw le (subR rfl) rfl rfl rfl rfl rfl trivial fun a S CL => h_move S CL hw le (subR rfl) rfl rfl rfl trivial fun a S CL => h_move S CL hw le (subR rfl) rfl rfl rfl trivial fun a S CL => h_bin S CL hw le (subR rfl) rfl rfl rfl rfl rfl trivial fun a S CL => h_move S CL hw le (subR rfl) rfl rfl rfl trivial fun a S CL => h_move S CL hw le (subR rfl) rfl rfl rfl trivial fun a S CL => ?_
             obtain ⟨c7, h2⟩ := chk_of h1; clear h1
             obtain ⟨c8, h3⟩ := chk_of h2; clear h2
             obtain ⟨c9, h4⟩ := chk_of h3; clear h3
             refine h_alts ?_
             refine h_runO S rfl trivial ?_ ?_
             ·refine s_iaddrO S (ty' := (Ty.atZ ch_0_3 Y30)) rfl .h rfl underlying32 T30 c7.1 c7.2 rfl fun g1 a hA1 S => CL.bk hw S .nil le fun hw => h_alts ?_
              refine h_runO S rfl trivial ?_ ?_
              ·refine s_ldRA S (ty' := (Ty.atZ ch_0_3 Y30)) (i := (wr .i64 (y80 - 1))) (off := 0) (fun c => ((Ty.atZ ch_0_3 Y30).segs (gt y79 (wr .i64 (y80 - 1))) c)) rfl hA1 .h T30 c7.1 c7.2 rfl (fun _ => rfl) rfl fun ch1 a S => ?_
               refine CL.br hw S .nil le rfl trivial fun hw => (s_iaddrO S (ty' := (Ty.atZ ch_0_3 Y30)) rfl .h rfl underlying32 T30 c8.1 c8.2 rfl fun g2 a hA2 S => CL.br hw S .nil le rfl trivial fun hw => (s_ldRA S (ty' := (Ty.atZ ch_0_3 Y30)) (i := y80) (off := 0) (fun c => ((Ty.atZ ch_0_3 Y30).segs (gt y79 y80) c)) rfl hA2 .h T30 c8.1 c8.2 rfl (fun _ => rfl) rfl fun ch2 a S => ?_))
               refine CL.br hw S .nil le rfl trivial fun hw => (s_iaddrO S (ty' := (Ty.atZ ch_0_3 Y30)) rfl .h rfl underlying32 T30 c8.1 c8.2 rfl fun g3 a hA3 S => CL.br hw S .nil le rfl trivial fun hw => (s_stR S (ty' := (Ty.atZ ch_0_3 Y30)) (i := y80) (off := 0) (u := gt y79 (wr .i64 (y80 - 1))) (fun _ => ch1) rfl rfl rfl hA3 .h T30 c8.1 c8.2 rfl (show 0 + 27 ≤ (Y30).size by decide) rfl (fun _ => rfl) fun w S => CL.br hw S .nil le rfl trivial fun hw => (s_iaddrO S (ty' := (Ty.atZ ch_0_3 Y30)) rfl .h rfl underlying32 T30 c9.1 c9.2 rfl fun g4 a hA4 S => CL.br hw S .nil le rfl trivial fun hw => (s_stR S (ty' := (Ty.atZ ch_0_3 Y30)) (i := (wr .i64 (y80 - 1))) (off := 0) (u := gt y79 y80) (fun _ => ch2) rfl rfl rfl hA4 .h T30 c9.1 c9.2 rfl (show 0 + 27 ≤ (Y30).size by decide) rfl (fun _ => rfl) fun w S => ?_))))
               refine h_back ⟨fun h => (nomatch h), ?_⟩
               refine h_done ?_; clear CL hw le
               refine x_blockN (x_thenN ?_)
               exact j6 _ a w (S.sb rfl (.c0 (.c0 .n))) h4
              refine h_runO S rfl trivial ?_ ?_
              ·refine s_iaddrO S (ty' := (Ty.atZ ch_0_3 Y30)) rfl .h rfl underlying32 T30 c8.1 c8.2 rfl fun g2 a hA2 S => CL.bk hw S .nil le fun hw => h_alts ?_
               refine h_runO S rfl trivial ?_ ?_
               ·refine s_ldRA S (ty' := (Ty.atZ ch_0_3 Y30)) (i := (wr .i64 (y80 - 1))) (off := 0) (fun c => ((Ty.atZ ch_0_3 Y30).segs (gt y79 (wr .i64 (y80 - 1))) c)) rfl hA1 .h T30 c7.1 c7.2 rfl (fun _ => rfl) rfl fun ch1 a S => ?_
                refine CL.br hw S .nil le rfl trivial fun hw => (s_ldRA S (ty' := (Ty.atZ ch_0_3 Y30)) (i := y80) (off := 0) (fun c => ((Ty.atZ ch_0_3 Y30).segs (gt y79 y80) c)) rfl hA2 .h T30 c8.1 c8.2 rfl (fun _ => rfl) rfl fun ch2 a S => ?_)
                refine CL.br hw S .nil le rfl trivial fun hw => (s_iaddrO S (ty' := (Ty.atZ ch_0_3 Y30)) rfl .h rfl underlying32 T30 c8.1 c8.2 rfl fun g3 a hA3 S => CL.br hw S .nil le rfl trivial fun hw => (s_stR S (ty' := (Ty.atZ ch_0_3 Y30)) (i := y80) (off := 0) (u := gt y79 (wr .i64 (y80 - 1))) (fun _ => ch1) rfl rfl rfl hA3 .h T30 c8.1 c8.2 rfl (show 0 + 27 ≤ (Y30).size by decide) rfl (fun _ => rfl) fun w S => CL.br hw S .nil le rfl trivial fun hw => (s_iaddrO S (ty' := (Ty.atZ ch_0_3 Y30)) rfl .h rfl underlying32 T30 c9.1 c9.2 rfl fun g4 a hA4 S => CL.br hw S .nil le rfl trivial fun hw => (s_stR S (ty' := (Ty.atZ ch_0_3 Y30)) (i := (wr .i64 (y80 - 1))) (off := 0) (u := gt y79 y80) (fun _ => ch2) rfl rfl rfl hA4 .h T30 c9.1 c9.2 rfl (show 0 + 27 ≤ (Y30).size by decide) rfl (fun _ => rfl) fun w S => ?_))))
                refine h_back ⟨fun h => (nomatch h), ?_⟩
                refine h_done ?_; clear CL hw le
                refine x_blockN (x_thenN ?_)
                exact j6 _ a w (S.sb rfl (.c0 (.c0 .n))) h4
               refine h_runO S rfl trivial ?_ ?_
               ·refine s_ldRA S (ty' := (Ty.atZ ch_0_3 Y30)) (i := y80) (off := 0) (fun c => ((Ty.atZ ch_0_3 Y30).segs (gt y79 y80) c)) rfl hA2 .h T30 c8.1 c8.2 rfl (fun _ => rfl) rfl fun ch1 a S => ?_
                refine CL.br hw S .nil le rfl trivial fun hw => (s_ldRA S (ty' := (Ty.atZ ch_0_3 Y30)) (i := (wr .i64 (y80 - 1))) (off := 0) (fun c => ((Ty.atZ ch_0_3 Y30).segs (gt y79 (wr .i64 (y80 - 1))) c)) rfl hA1 .h T30 c7.1 c7.2 rfl (fun _ => rfl) rfl fun ch2 a S => ?_)
                refine CL.br hw S .nil le rfl trivial fun hw => (s_iaddrO S (ty' := (Ty.atZ ch_0_3 Y30)) rfl .h rfl underlying32 T30 c8.1 c8.2 rfl fun g3 a hA3 S => CL.br hw S .nil le rfl trivial fun hw => (s_stR S (ty' := (Ty.atZ ch_0_3 Y30)) (i := y80) (off := 0) (u := gt y79 (wr .i64 (y80 - 1))) (fun _ => ch2) rfl rfl rfl hA3 .h T30 c8.1 c8.2 rfl (show 0 + 27 ≤ (Y30).size by decide) rfl (fun _ => rfl) fun w S => CL.br hw S .nil le rfl trivial fun hw => (s_iaddrO S (ty' := (Ty.atZ ch_0_3 Y30)) rfl .h rfl underlying32 T30 c9.1 c9.2 rfl fun g4 a hA4 S => CL.br hw S .nil le rfl trivial fun hw => (s_stR S (ty' := (Ty.atZ ch_0_3 Y30)) (i := (wr .i64 (y80 - 1))) (off := 0) (u := gt y79 y80) (fun _ => ch1) rfl rfl rfl hA4 .h T30 c9.1 c9.2 rfl (show 0 + 27 ≤ (Y30).size by decide) rfl (fun _ => rfl) fun w S => ?_))))
                refine h_back ⟨fun h => (nomatch h), ?_⟩
                refine h_done ?_; clear CL hw le
                refine x_blockN (x_thenN ?_)
                exact j6 _ a w (S.sb rfl (.c0 (.c0 .n))) h4
               exact h_nil
              exact h_nil
             refine h_runO S rfl trivial ?_ ?_
             ·refine s_iaddrO S (ty' := (Ty.atZ ch_0_3 Y30)) rfl .h rfl underlying32 T30 c8.1 c8.2 rfl fun g1 a hA1 S => CL.bk hw S .nil le fun hw => h_alts ?_
              refine h_runO S rfl trivial ?_ ?_
              ·refine s_iaddrO S (ty' := (Ty.atZ ch_0_3 Y30)) rfl .h rfl underlying32 T30 c7.1 c7.2 rfl fun g2 a hA2 S => CL.bk hw S .nil le fun hw => h_alts ?_
               refine h_runO S rfl trivial ?_ ?_
               ·refine s_ldRA S (ty' := (Ty.atZ ch_0_3 Y30)) (i := (wr .i64 (y80 - 1))) (off := 0) (fun c => ((Ty.atZ ch_0_3 Y30).segs (gt y79 (wr .i64 (y80 - 1))) c)) rfl hA2 .h T30 c7.1 c7.2 rfl (fun _ => rfl) rfl fun ch1 a S => ?_
                refine CL.br hw S .nil le rfl trivial fun hw => (s_ldRA S (ty' := (Ty.atZ ch_0_3 Y30)) (i := y80) (off := 0) (fun c => ((Ty.atZ ch_0_3 Y30).segs (gt y79 y80) c)) rfl hA1 .h T30 c8.1 c8.2 rfl (fun _ => rfl) rfl fun ch2 a S => ?_)
                refine CL.br hw S .nil le rfl trivial fun hw => (s_iaddrO S (ty' := (Ty.atZ ch_0_3 Y30)) rfl .h rfl underlying32 T30 c8.1 c8.2 rfl fun g3 a hA3 S => CL.br hw S .nil le rfl trivial fun hw => (s_stR S (ty' := (Ty.atZ ch_0_3 Y30)) (i := y80) (off := 0) (u := gt y79 (wr .i64 (y80 - 1))) (fun _ => ch1) rfl rfl rfl hA3 .h T30 c8.1 c8.2 rfl (show 0 + 27 ≤ (Y30).size by decide) rfl (fun _ => rfl) fun w S => CL.br hw S .nil le rfl trivial fun hw => (s_iaddrO S (ty' := (Ty.atZ ch_0_3 Y30)) rfl .h rfl underlying32 T30 c9.1 c9.2 rfl fun g4 a hA4 S => CL.br hw S .nil le rfl trivial fun hw => (s_stR S (ty' := (Ty.atZ ch_0_3 Y30)) (i := (wr .i64 (y80 - 1))) (off := 0) (u := gt y79 y80) (fun _ => ch2) rfl rfl rfl hA4 .h T30 c9.1 c9.2 rfl (show 0 + 27 ≤ (Y30).size by decide) rfl (fun _ => rfl) fun w S => ?_))))
                refine h_back ⟨fun h => (nomatch h), ?_⟩
                refine h_done ?_; clear CL hw le
                refine x_blockN (x_thenN ?_)
                exact j6 _ a w (S.sb rfl (.c0 (.c0 .n))) h4
               refine h_runO S rfl trivial ?_ ?_
               ·refine s_ldRA S (ty' := (Ty.atZ ch_0_3 Y30)) (i := y80) (off := 0) (fun c => ((Ty.atZ ch_0_3 Y30).segs (gt y79 y80) c)) rfl hA1 .h T30 c8.1 c8.2 rfl (fun _ => rfl) rfl fun ch1 a S => ?_
                refine CL.br hw S .nil le rfl trivial fun hw => (s_ldRA S (ty' := (Ty.atZ ch_0_3 Y30)) (i := (wr .i64 (y80 - 1))) (off := 0) (fun c => ((Ty.atZ ch_0_3 Y30).segs (gt y79 (wr .i64 (y80 - 1))) c)) rfl hA2 .h T30 c7.1 c7.2 rfl (fun _ => rfl) rfl fun ch2 a S => ?_)
                refine CL.br hw S .nil le rfl trivial fun hw => (s_iaddrO S (ty' := (Ty.atZ ch_0_3 Y30)) rfl .h rfl underlying32 T30 c8.1 c8.2 rfl fun g3 a hA3 S => CL.br hw S .nil le rfl trivial fun hw => (s_stR S (ty' := (Ty.atZ ch_0_3 Y30)) (i := y80) (off := 0) (u := gt y79 (wr .i64 (y80 - 1))) (fun _ => ch2) rfl rfl rfl hA3 .h T30 c8.1 c8.2 rfl (show 0 + 27 ≤ (Y30).size by decide) rfl (fun _ => rfl) fun w S => CL.br hw S .nil le rfl trivial fun hw => (s_iaddrO S (ty' := (Ty.atZ ch_0_3 Y30)) rfl .h rfl underlying32 T30 c9.1 c9.2 rfl fun g4 a hA4 S => CL.br hw S .nil le rfl trivial fun hw => (s_stR S (ty' := (Ty.atZ ch_0_3 Y30)) (i := (wr .i64 (y80 - 1))) (off := 0) (u := gt y79 y80) (fun _ => ch1) rfl rfl rfl hA4 .h T30 c9.1 c9.2 rfl (show 0 + 27 ≤ (Y30).size by decide) rfl (fun _ => rfl) fun w S => ?_))))
                refine h_back ⟨fun h => (nomatch h), ?_⟩
                refine h_done ?_; clear CL hw le
                refine x_blockN (x_thenN ?_)
                exact j6 _ a w (S.sb rfl (.c0 (.c0 .n))) h4
               exact h_nil
              refine h_runO S rfl trivial ?_ ?_
              ·refine s_ldRA S (ty' := (Ty.atZ ch_0_3 Y30)) (i := y80) (off := 0) (fun c => ((Ty.atZ ch_0_3 Y30).segs (gt y79 y80) c)) rfl hA1 .h T30 c8.1 c8.2 rfl (fun _ => rfl) rfl fun ch1 a S => ?_
               refine CL.br hw S .nil le rfl trivial fun hw => (s_iaddrO S (ty' := (Ty.atZ ch_0_3 Y30)) rfl .h rfl underlying32 T30 c7.1 c7.2 rfl fun g2 a hA2 S => CL.br hw S .nil le rfl trivial fun hw => (s_ldRA S (ty' := (Ty.atZ ch_0_3 Y30)) (i := (wr .i64 (y80 - 1))) (off := 0) (fun c => ((Ty.atZ ch_0_3 Y30).segs (gt y79 (wr .i64 (y80 - 1))) c)) rfl hA2 .h T30 c7.1 c7.2 rfl (fun _ => rfl) rfl fun ch2 a S => ?_))
               refine CL.br hw S .nil le rfl trivial fun hw => (s_iaddrO S (ty' := (Ty.atZ ch_0_3 Y30)) rfl .h rfl underlying32 T30 c8.1 c8.2 rfl fun g3 a hA3 S => CL.br hw S .nil le rfl trivial fun hw => (s_stR S (ty' := (Ty.atZ ch_0_3 Y30)) (i := y80) (off := 0) (u := gt y79 (wr .i64 (y80 - 1))) (fun _ => ch2) rfl rfl rfl hA3 .h T30 c8.1 c8.2 rfl (show 0 + 27 ≤ (Y30).size by decide) rfl (fun _ => rfl) fun w S => CL.br hw S .nil le rfl trivial fun hw => (s_iaddrO S (ty' := (Ty.atZ ch_0_3 Y30)) rfl .h rfl underlying32 T30 c9.1 c9.2 rfl fun g4 a hA4 S => CL.br hw S .nil le rfl trivial fun hw => (s_stR S (ty' := (Ty.atZ ch_0_3 Y30)) (i := (wr .i64 (y80 - 1))) (off := 0) (u := gt y79 y80) (fun _ => ch1) rfl rfl rfl hA4 .h T30 c9.1 c9.2 rfl (show 0 + 27 ≤ (Y30).size by decide) rfl (fun _ => rfl) fun w S => ?_))))
               refine h_back ⟨fun h => (nomatch h), ?_⟩
               refine h_done ?_; clear CL hw le
               refine x_blockN (x_thenN ?_)
               exact j6 _ a w (S.sb rfl (.c0 (.c0 .n))) h4
              exact h_nil
             exact h_nil
           refine c_heldS S (.take 0 (.take 1 (.take 2 (.take 5 (.take 6 (.take 7 (.alts (.run 3 true (.alts (.run 4 true (.alts (.run 8 true (.alts (.run 9 true (.alts (.run 10 true (.take 11 (.take 12 .done)) .nil)) .nil)) .nil)) (.run 8 true (.alts (.run 4 true (.alts (.run 9 true (.alts (.run 10 true (.take 11 (.take 12 .done)) .nil)) .nil)) (.run 9 true (.alts (.run 4 true (.alts (.run 10 true (.take 11 (.take 12 .done)) .nil)) .nil)) .nil))) .nil))) (.run 8 true (.alts (.run 3 true (.alts (.run 4 true (.alts (.run 9 true (.alts (.run 10 true (.take 11 (.take 12 .done)) .nil)) .nil)) (.run 9 true (.alts (.run 4 true (.alts (.run 10 true (.take 11 (.take 12 .done)) .nil)) .nil)) .nil))) (.run 9 true (.alts (.run 3 true (.alts (.run 4 true (.alts (.run 10 true (.take 11 (.take 12 .done)) .nil)) .nil)) .nil)) .nil))) .nil))))))))) 13 [] .nil trivial [(12, (.i y80)), (0, (.s ch_0_0 ch_0_1 ch_0_2)), (3, (.v (.func (.func 35) #[] #[])))] (subR rfl) (by kernel_rfl) (by kernel_rfl) fun w S CL hw le => ?_
           refine h_move S CL hw le (subR rfl) rfl rfl rfl trivial fun a S CL => h_move S CL hw le (subR rfl) rfl rfl rfl trivial fun a S CL => h_move S CL hw le (subR rfl) rfl rfl rfl trivial fun a S CL => h_move S CL hw le (subR rfl) rfl rfl rfl trivial fun a S CL => h_move S CL hw le (subR rfl) rfl rfl rfl trivial fun a S CL => h_bin S CL hw le (subR rfl) rfl rfl rfl rfl rfl trivial fun a S CL => ?_
           obtain ⟨c10, h2⟩ := chk_of h1; clear h1
           obtain ⟨c11, h3⟩ := chk_of h2; clear h2
           refine bindX h3 fun t1 et1 h4 => h_alts ?_
           refine h_runO S rfl trivial ?_ ?_
           ·refine s_iaddrO S (ty' := (Ty.atZ ch_0_3 Y30)) rfl .h rfl underlying32 T30 c10.1 c10.2 rfl fun g5 a hA5 S => CL.bk hw S .nil le fun hw => h_alts ?_
            refine h_runO S rfl trivial ?_ ?_
            ·refine s_ldRA S (ty' := (Ty.atZ ch_0_3 Y30)) (i := y80) (off := 0) (fun c => ((Ty.atZ ch_0_3 Y30).segs (gt y79 y80) c)) rfl hA5 .h T30 c10.1 c10.2 rfl (fun _ => rfl) rfl fun ch3 a S => ?_
             refine CL.br hw S .nil le rfl trivial fun hw => (s_iaddrO S (ty' := (Ty.atZ ch_0_3 Y30)) rfl .h rfl underlying32 T30 c11.1 c11.2 rfl fun g6 a hA6 S => CL.br hw S .nil le rfl trivial fun hw => (s_ldRA S (ty' := (Ty.atZ ch_0_3 Y30)) (i := (wr .i64 (y80 - 1))) (off := 0) (fun c => ((Ty.atZ ch_0_3 Y30).segs (gt y79 (wr .i64 (y80 - 1))) c)) rfl hA6 .h T30 c11.1 c11.2 rfl (fun _ => rfl) rfl fun ch4 a S => ?_))
             refine CL.br hw S .nil le rfl trivial fun hw => (s_callL S (ds' := [(.agg ((Ty.atZ ch_0_3 Y30).segs (gt y79 y80) ch3)), (.agg ((Ty.atZ ch_0_3 Y30).segs (gt y79 (wr .i64 (y80 - 1))) ch4))]) (ds := [(.agg (Y30.segs (gt y79 y80) ch3)), (.agg (Y30.segs (gt y79 (wr .i64 (y80 - 1))) ch4))]) (fun (ch : Unit) => ((.i t1) : D)) (fun _ _ _ h => h) (by obtain ⟨mm, g1, gZ, g2⟩ := S.plend .h1; exact ⟨mm, g1, g2, fun ok => ⟨(okA_lend gZ ok.1), (okA_lend gZ ok.2.1), trivial⟩⟩) N35 rfl rfl rfl (fun _ => store_Store_All_1.ok (gt y79 y80) (gt y79 (wr .i64 (y80 - 1))) ch3.2.2.2.1.1 ch3.2.2.2.1.2 ch3.2.2.2.2.1 ch3.2.2.2.2.2 ch4.2.2.2.1.1 ch4.2.2.2.1.2 ch4.2.2.2.2.1 ch4.2.2.2.2.2 t1 et1 _ _) fun ch5 a w S => CL.bk hw S .nil le fun hw => ?_)
             replace CL := CL.add (t := 122) (d := (.i t1)) S rfl rfl
             refine h_bin S CL hw le (subR rfl) rfl rfl rfl rfl rfl trivial fun a S CL => h_not S CL hw le (subR rfl) rfl rfl rfl trivial fun a S CL => ?_
             refine h_done ?_; clear CL hw le
             refine x_thenN ?_
             exact j7 _ (!(decide (t1 < 0))) a w (S.sb rfl (.c0 (.c0 .n))) h4
            refine h_runO S rfl trivial ?_ ?_
            ·refine s_iaddrO S (ty' := (Ty.atZ ch_0_3 Y30)) rfl .h rfl underlying32 T30 c11.1 c11.2 rfl fun g6 a hA6 S => CL.bk hw S .nil le fun hw => h_alts ?_
             refine h_runO S rfl trivial ?_ ?_
             ·refine s_ldRA S (ty' := (Ty.atZ ch_0_3 Y30)) (i := y80) (off := 0) (fun c => ((Ty.atZ ch_0_3 Y30).segs (gt y79 y80) c)) rfl hA5 .h T30 c10.1 c10.2 rfl (fun _ => rfl) rfl fun ch3 a S => ?_
              refine CL.br hw S .nil le rfl trivial fun hw => (s_ldRA S (ty' := (Ty.atZ ch_0_3 Y30)) (i := (wr .i64 (y80 - 1))) (off := 0) (fun c => ((Ty.atZ ch_0_3 Y30).segs (gt y79 (wr .i64 (y80 - 1))) c)) rfl hA6 .h T30 c11.1 c11.2 rfl (fun _ => rfl) rfl fun ch4 a S => ?_)
              refine CL.br hw S .nil le rfl trivial fun hw => (s_callL S (ds' := [(.agg ((Ty.atZ ch_0_3 Y30).segs (gt y79 y80) ch3)), (.agg ((Ty.atZ ch_0_3 Y30).segs (gt y79 (wr .i64 (y80 - 1))) ch4))]) (ds := [(.agg (Y30.segs (gt y79 y80) ch3)), (.agg (Y30.segs (gt y79 (wr .i64 (y80 - 1))) ch4))]) (fun (ch : Unit) => ((.i t1) : D)) (fun _ _ _ h => h) (by obtain ⟨mm, g1, gZ, g2⟩ := S.plend .h1; exact ⟨mm, g1, g2, fun ok => ⟨(okA_lend gZ ok.1), (okA_lend gZ ok.2.1), trivial⟩⟩) N35 rfl rfl rfl (fun _ => store_Store_All_1.ok (gt y79 y80) (gt y79 (wr .i64 (y80 - 1))) ch3.2.2.2.1.1 ch3.2.2.2.1.2 ch3.2.2.2.2.1 ch3.2.2.2.2.2 ch4.2.2.2.1.1 ch4.2.2.2.1.2 ch4.2.2.2.2.1 ch4.2.2.2.2.2 t1 et1 _ _) fun ch5 a w S => CL.bk hw S .nil le fun hw => ?_)
              replace CL := CL.add (t := 122) (d := (.i t1)) S rfl rfl
              refine h_bin S CL hw le (subR rfl) rfl rfl rfl rfl rfl trivial fun a S CL => h_not S CL hw le (subR rfl) rfl rfl rfl trivial fun a S CL => ?_
              refine h_done ?_; clear CL hw le
              refine x_thenN ?_
              exact j7 _ (!(decide (t1 < 0))) a w (S.sb rfl (.c0 (.c0 .n))) h4
             refine h_runO S rfl trivial ?_ ?_
             ·refine s_ldRA S (ty' := (Ty.atZ ch_0_3 Y30)) (i := (wr .i64 (y80 - 1))) (off := 0) (fun c => ((Ty.atZ ch_0_3 Y30).segs (gt y79 (wr .i64 (y80 - 1))) c)) rfl hA6 .h T30 c11.1 c11.2 rfl (fun _ => rfl) rfl fun ch3 a S => ?_
              refine CL.br hw S .nil le rfl trivial fun hw => (s_ldRA S (ty' := (Ty.atZ ch_0_3 Y30)) (i := y80) (off := 0) (fun c => ((Ty.atZ ch_0_3 Y30).segs (gt y79 y80) c)) rfl hA5 .h T30 c10.1 c10.2 rfl (fun _ => rfl) rfl fun ch4 a S => ?_)
              refine CL.br hw S .nil le rfl trivial fun hw => (s_callL S (ds' := [(.agg ((Ty.atZ ch_0_3 Y30).segs (gt y79 y80) ch4)), (.agg ((Ty.atZ ch_0_3 Y30).segs (gt y79 (wr .i64 (y80 - 1))) ch3))]) (ds := [(.agg (Y30.segs (gt y79 y80) ch4)), (.agg (Y30.segs (gt y79 (wr .i64 (y80 - 1))) ch3))]) (fun (ch : Unit) => ((.i t1) : D)) (fun _ _ _ h => h) (by obtain ⟨mm, g1, gZ, g2⟩ := S.plend .h1; exact ⟨mm, g1, g2, fun ok => ⟨(okA_lend gZ ok.1), (okA_lend gZ ok.2.1), trivial⟩⟩) N35 rfl rfl rfl (fun _ => store_Store_All_1.ok (gt y79 y80) (gt y79 (wr .i64 (y80 - 1))) ch4.2.2.2.1.1 ch4.2.2.2.1.2 ch4.2.2.2.2.1 ch4.2.2.2.2.2 ch3.2.2.2.1.1 ch3.2.2.2.1.2 ch3.2.2.2.2.1 ch3.2.2.2.2.2 t1 et1 _ _) fun ch5 a w S => CL.bk hw S .nil le fun hw => ?_)
              replace CL := CL.add (t := 122) (d := (.i t1)) S rfl rfl
              refine h_bin S CL hw le (subR rfl) rfl rfl rfl rfl rfl trivial fun a S CL => h_not S CL hw le (subR rfl) rfl rfl rfl trivial fun a S CL => ?_
              refine h_done ?_; clear CL hw le
              refine x_thenN ?_
              exact j7 _ (!(decide (t1 < 0))) a w (S.sb rfl (.c0 (.c0 .n))) h4
             exact h_nil
            exact h_nil
           refine h_runO S rfl trivial ?_ ?_
           ·refine s_iaddrO S (ty' := (Ty.atZ ch_0_3 Y30)) rfl .h rfl underlying32 T30 c11.1 c11.2 rfl fun g5 a hA5 S => CL.bk hw S .nil le fun hw => h_alts ?_
            refine h_runO S rfl trivial ?_ ?_
            ·refine s_iaddrO S (ty' := (Ty.atZ ch_0_3 Y30)) rfl .h rfl underlying32 T30 c10.1 c10.2 rfl fun g6 a hA6 S => CL.bk hw S .nil le fun hw => h_alts ?_
             refine h_runO S rfl trivial ?_ ?_
             ·refine s_ldRA S (ty' := (Ty.atZ ch_0_3 Y30)) (i := y80) (off := 0) (fun c => ((Ty.atZ ch_0_3 Y30).segs (gt y79 y80) c)) rfl hA6 .h T30 c10.1 c10.2 rfl (fun _ => rfl) rfl fun ch3 a S => ?_
              refine CL.br hw S .nil le rfl trivial fun hw => (s_ldRA S (ty' := (Ty.atZ ch_0_3 Y30)) (i := (wr .i64 (y80 - 1))) (off := 0) (fun c => ((Ty.atZ ch_0_3 Y30).segs (gt y79 (wr .i64 (y80 - 1))) c)) rfl hA5 .h T30 c11.1 c11.2 rfl (fun _ => rfl) rfl fun ch4 a S => ?_)
              refine CL.br hw S .nil le rfl trivial fun hw => (s_callL S (ds' := [(.agg ((Ty.atZ ch_0_3 Y30).segs (gt y79 y80) ch3)), (.agg ((Ty.atZ ch_0_3 Y30).segs (gt y79 (wr .i64 (y80 - 1))) ch4))]) (ds := [(.agg (Y30.segs (gt y79 y80) ch3)), (.agg (Y30.segs (gt y79 (wr .i64 (y80 - 1))) ch4))]) (fun (ch : Unit) => ((.i t1) : D)) (fun _ _ _ h => h) (by obtain ⟨mm, g1, gZ, g2⟩ := S.plend .h1; exact ⟨mm, g1, g2, fun ok => ⟨(okA_lend gZ ok.1), (okA_lend gZ ok.2.1), trivial⟩⟩) N35 rfl rfl rfl (fun _ => store_Store_All_1.ok (gt y79 y80) (gt y79 (wr .i64 (y80 - 1))) ch3.2.2.2.1.1 ch3.2.2.2.1.2 ch3.2.2.2.2.1 ch3.2.2.2.2.2 ch4.2.2.2.1.1 ch4.2.2.2.1.2 ch4.2.2.2.2.1 ch4.2.2.2.2.2 t1 et1 _ _) fun ch5 a w S => CL.bk hw S .nil le fun hw => ?_)
              replace CL := CL.add (t := 122) (d := (.i t1)) S rfl rfl
              refine h_bin S CL hw le (subR rfl) rfl rfl rfl rfl rfl trivial fun a S CL => h_not S CL hw le (subR rfl) rfl rfl rfl trivial fun a S CL => ?_
              refine h_done ?_; clear CL hw le
              refine x_thenN ?_
              exact j7 _ (!(decide (t1 < 0))) a w (S.sb rfl (.c0 (.c0 .n))) h4
             refine h_runO S rfl trivial ?_ ?_
             ·refine s_ldRA S (ty' := (Ty.atZ ch_0_3 Y30)) (i := (wr .i64 (y80 - 1))) (off := 0) (fun c => ((Ty.atZ ch_0_3 Y30).segs (gt y79 (wr .i64 (y80 - 1))) c)) rfl hA5 .h T30 c11.1 c11.2 rfl (fun _ => rfl) rfl fun ch3 a S => ?_
              refine CL.br hw S .nil le rfl trivial fun hw => (s_ldRA S (ty' := (Ty.atZ ch_0_3 Y30)) (i := y80) (off := 0) (fun c => ((Ty.atZ ch_0_3 Y30).segs (gt y79 y80) c)) rfl hA6 .h T30 c10.1 c10.2 rfl (fun _ => rfl) rfl fun ch4 a S => ?_)
              refine CL.br hw S .nil le rfl trivial fun hw => (s_callL S (ds' := [(.agg ((Ty.atZ ch_0_3 Y30).segs (gt y79 y80) ch4)), (.agg ((Ty.atZ ch_0_3 Y30).segs (gt y79 (wr .i64 (y80 - 1))) ch3))]) (ds := [(.agg (Y30.segs (gt y79 y80) ch4)), (.agg (Y30.segs (gt y79 (wr .i64 (y80 - 1))) ch3))]) (fun (ch : Unit) => ((.i t1) : D)) (fun _ _ _ h => h) (by obtain ⟨mm, g1, gZ, g2⟩ := S.plend .h1; exact ⟨mm, g1, g2, fun ok => ⟨(okA_lend gZ ok.1), (okA_lend gZ ok.2.1), trivial⟩⟩) N35 rfl rfl rfl (fun _ => store_Store_All_1.ok (gt y79 y80) (gt y79 (wr .i64 (y80 - 1))) ch4.2.2.2.1.1 ch4.2.2.2.1.2 ch4.2.2.2.2.1 ch4.2.2.2.2.2 ch3.2.2.2.1.1 ch3.2.2.2.1.2 ch3.2.2.2.2.1 ch3.2.2.2.2.2 t1 et1 _ _) fun ch5 a w S => CL.bk hw S .nil le fun hw => ?_)
              replace CL := CL.add (t := 122) (d := (.i t1)) S rfl rfl
              refine h_bin S CL hw le (subR rfl) rfl rfl rfl rfl rfl trivial fun a S CL => h_not S CL hw le (subR rfl) rfl rfl rfl trivial fun a S CL => ?_
              refine h_done ?_; clear CL hw le
              refine x_thenN ?_
              exact j7 _ (!(decide (t1 < 0))) a w (S.sb rfl (.c0 (.c0 .n))) h4
             exact h_nil
            refine h_runO S rfl trivial ?_ ?_
            ·refine s_ldRA S (ty' := (Ty.atZ ch_0_3 Y30)) (i := (wr .i64 (y80 - 1))) (off := 0) (fun c => ((Ty.atZ ch_0_3 Y30).segs (gt y79 (wr .i64 (y80 - 1))) c)) rfl hA5 .h T30 c11.1 c11.2 rfl (fun _ => rfl) rfl fun ch3 a S => ?_
             refine CL.br hw S .nil le rfl trivial fun hw => (s_iaddrO S (ty' := (Ty.atZ ch_0_3 Y30)) rfl .h rfl underlying32 T30 c10.1 c10.2 rfl fun g6 a hA6 S => CL.br hw S .nil le rfl trivial fun hw => (s_ldRA S (ty' := (Ty.atZ ch_0_3 Y30)) (i := y80) (off := 0) (fun c => ((Ty.atZ ch_0_3 Y30).segs (gt y79 y80) c)) rfl hA6 .h T30 c10.1 c10.2 rfl (fun _ => rfl) rfl fun ch4 a S => ?_))
             refine CL.br hw S .nil le rfl trivial fun hw => (s_callL S (ds' := [(.agg ((Ty.atZ ch_0_3 Y30).segs (gt y79 y80) ch4)), (.agg ((Ty.atZ ch_0_3 Y30).segs (gt y79 (wr .i64 (y80 - 1))) ch3))]) (ds := [(.agg (Y30.segs (gt y79 y80) ch4)), (.agg (Y30.segs (gt y79 (wr .i64 (y80 - 1))) ch3))]) (fun (ch : Unit) => ((.i t1) : D)) (fun _ _ _ h => h) (by obtain ⟨mm, g1, gZ, g2⟩ := S.plend .h1; exact ⟨mm, g1, g2, fun ok => ⟨(okA_lend gZ ok.1), (okA_lend gZ ok.2.1), trivial⟩⟩) N35 rfl rfl rfl (fun _ => store_Store_All_1.ok (gt y79 y80) (gt y79 (wr .i64 (y80 - 1))) ch4.2.2.2.1.1 ch4.2.2.2.1.2 ch4.2.2.2.2.1 ch4.2.2.2.2.2 ch3.2.2.2.1.1 ch3.2.2.2.1.2 ch3.2.2.2.2.1 ch3.2.2.2.2.2 t1 et1 _ _) fun ch5 a w S => CL.bk hw S .nil le fun hw => ?_)
             replace CL := CL.add (t := 122) (d := (.i t1)) S rfl rfl
             refine h_bin S CL hw le (subR rfl) rfl rfl rfl rfl rfl trivial fun a S CL => h_not S CL hw le (subR rfl) rfl rfl rfl trivial fun a S CL => ?_
             refine h_done ?_; clear CL hw le
             refine x_thenN ?_
             exact j7 _ (!(decide (t1 < 0))) a w (S.sb rfl (.c0 (.c0 .n))) h4
            exact h_nil
           exact h_nil
          ·refine c_condF S rfl c5 (wp_exit (x_thenX (x_thenX (x_blockX (x_blockN (x_thenN ?_))))))
           exact j2 _ y79 y70 a w (S.sb rfl (.c0 (.c0 .n))) h1
        ·refine c_condF S rfl c4 (wp_skip (x_blockN (x_thenN ?_)))
         exact j2 _ y76 y70 a w (S.sb rfl (.c0 (.c0 .n))) h1
       refine c_region (s_move S rfl rfl fun a S => s_move S rfl rfl fun a S => s_bin S rfl rfl rfl rfl fun a S => s_bin S rfl rfl rfl rfl fun a S => c_end ?_)
       rcases ite_of h0 with ⟨c12, h1⟩ | ⟨c12, h1⟩
       ·refine c_condT S rfl c12 (c_region (s_move S rfl rfl fun a S => s_bin S rfl rfl rfl rfl fun a S => s_assign S rfl rfl fun a S => c_end (wp_block ?_)))
        refine c_loop (fun q3 a w => ∃ m y85 y86, St 141 m b0 [(11, (.i y86)), (10, (.i y44)), (9, (.i y70)), (0, (.s ch_0_0 ch_0_1 ch_0_2)), (1, (.i x2)), (2, (.i x3)), (3, (.v (.func (.func 35) #[] #[])))] [Res.row (Ty.atZ ch_0_3 Y30) 30 ch_0_0 ch_0_1 ch_0_2 y85, Res.priv ch_0_3] a w ∧ api_Account_n55_0z_3f35.l3 k x3 y44 (api_Account_n55_0z_3f35.l1 k x2 x3 q1) y70 q3 y85 y86 = some r) ?_ ?_ (k := k) ⟨_, ((y43.set (Int.toNat y70) (gt y43 (wr .i64 (y70 - 1)))).set (Int.toNat (wr .i64 (y70 - 1))) (gt y43 y70)), (wr .i64 (y70 - 1)), (S.sb rfl (.c0 (.c0 .n))), h1⟩
        ·rintro a w ⟨m, y85, y86, S, h0⟩
         exact (nomatch (show (none : Option (Bool × (List L30))) = some r from h0))
        ·clear S h1
         rintro q3 a w ⟨m, y85, y86, S, h0⟩
         replace h0 : api_Account_n55_0z_3f35.b3 k x3 y44 (api_Account_n55_0z_3f35.l1 k x2 x3 q1) y70 (api_Account_n55_0z_3f35.l3 k x3 y44 (api_Account_n55_0z_3f35.l1 k x2 x3 q1) y70 q3) y85 y86 = some r := h0
         delta api_Account_n55_0z_3f35.b3 at h0
         refine wp_seq (c_region (s_move S rfl rfl fun a S => s_bin S rfl rfl rfl rfl fun a S => c_end ?_))
         rcases ite_of h0 with ⟨c13, h1⟩ | ⟨c13, h1⟩
         ·refine c_condT S rfl c13 (wp_skip (x_thenN (wp_seq_k fun K8 hK8 => ?_)))
          have j8 : ∀ m a w, St 141 m b0 [(11, (.i y86)), (10, (.i y44)), (9, (.i y70)), (0, (.s ch_0_0 ch_0_1 ch_0_2)), (1, (.i x2)), (2, (.i x3)), (3, (.v (.func (.func 35) #[] #[])))] [Res.row (Ty.atZ ch_0_3 Y30) 30 ch_0_0 ch_0_1 ch_0_2 ((y85.set (Int.toNat y86) (gt y85 (wr .i64 (y86 - 1)))).set (Int.toNat (wr .i64 (y86 - 1))) (gt y85 y86)), Res.priv ch_0_3] a w → api_Account_n55_0z_3f35.j8 y85 y86 (api_Account_n55_0z_3f35.l3 k x3 y44 (api_Account_n55_0z_3f35.l1 k x2 x3 q1) y70 q3) = some r → K8 a w := by
           intro m a w S h0
           delta api_Account_n55_0z_3f35.j8 at h0
           refine hK8 a w (c_region' (s_move S rfl rfl fun a S => s_bin S rfl rfl rfl rfl fun a S => s_assign S rfl rfl fun a S => c_end' (x_thenN ?_)))
           exact ⟨_, ((y85.set (Int.toNat y86) (gt y85 (wr .i64 (y86 - 1)))).set (Int.toNat (wr .i64 (y86 - 1))) (gt y85 y86)), (wr .i64 (y86 - 1)), (S.sb rfl (.c0 (.c0 .n))), h0⟩
          refine wp_block (wp_seq (wp_seq_k fun K9 hK9 => ?_))
          have j9 : ∀ m y88 a w, St 141 m b0 [(84, (.b y88)), (11, (.i y86)), (10, (.i y44)), (9, (.i y70)), (0, (.s ch_0_0 ch_0_1 ch_0_2)), (1, (.i x2)), (2, (.i x3)), (3, (.v (.func (.func 35) #[] #[])))] [Res.row (Ty.atZ ch_0_3 Y30) 30 ch_0_0 ch_0_1 ch_0_2 y85, Res.priv ch_0_3] a w → api_Account_n55_0z_3f35.j9 k x3 y44 (api_Account_n55_0z_3f35.l1 k x2 x3 q1) y70 y85 y86 (api_Account_n55_0z_3f35.l3 k x3 y44 (api_Account_n55_0z_3f35.l1 k x2 x3 q1) y70 q3) y88 = some r → K9 a w := by
           intro m y88 a w S h0
           delta api_Account_n55_0z_3f35.j9 at h0
           refine hK9 a w ?_
           rcases ite_of h0 with ⟨c14, h1⟩ | ⟨c14, h1⟩
           ·refine c_condT S rfl c14 (wp_exit (x_thenX (x_blockO (by decide) (x_thenX (x_thenX (x_blockX (x_thenN ?_)))))))
            exact j5 _ y85 a w (S.sb rfl (.c0 (.c0 .n))) h1
           ·refine c_condF S rfl c14 (wp_skip (x_thenN (c_heldS S (.take 0 (.take 1 (.take 2 (.take 3 (.take 4 (.take 5 (.take 6 (.take 7 (.take 10 (.take 11 (.alts (.run 8 true (.alts (.run 9 true (.alts (.run 12 true (.alts (.run 13 true (.alts (.run 14 true (.alts (.run 15 true (.alts (.run 16 true (.alts (.run 17 false .done .nil)) .nil)) .nil)) .nil)) .nil)) .nil)) (.run 12 true (.alts (.run 9 true (.alts (.run 13 true (.alts (.run 14 true (.alts (.run 15 true (.alts (.run 16 true (.alts (.run 17 false .done .nil)) .nil)) .nil)) .nil)) .nil)) (.run 13 true (.alts (.run 9 true (.alts (.run 14 true (.alts (.run 15 true (.alts (.run 16 true (.alts (.run 17 false .done .nil)) .nil)) .nil)) .nil)) .nil)) .nil))) .nil))) (.run 12 true (.alts (.run 8 true (.alts (.run 9 true (.alts (.run 13 true (.alts (.run 14 true (.alts (.run 15 true (.alts (.run 16 true (.alts (.run 17 false .done .nil)) .nil)) .nil)) .nil)) .nil)) (.run 13 true (.alts (.run 9 true (.alts (.run 14 true (.alts (.run 15 true (.alts (.run 16 true (.alts (.run 17 false .done .nil)) .nil)) .nil)) .nil)) .nil)) .nil))) (.run 13 true (.alts (.run 8 true (.alts (.run 9 true (.alts (.run 14 true (.alts (.run 15 true (.alts (.run 16 true (.alts (.run 17 false .done .nil)) .nil)) .nil)) .nil)) .nil)) .nil)) .nil))) .nil))))))))))))) 17 [] .nil trivial [(11, (.i y86)), (0, (.s ch_0_0 ch_0_1 ch_0_2))] (subR rfl) (by kernel_rfl) (by kernel_rfl) fun w S CL hw le => ?_)))
            refine h_move S CL hw le (subR rfl) rfl rfl rfl trivial fun a S CL => h_move S CL hw le (subR rfl) rfl rfl rfl trivial fun a S CL => h_move S CL hw le (subR rfl) rfl rfl rfl trivial fun a S CL => h_move S CL hw le (subR rfl) rfl rfl rfl trivial fun a S CL => h_bin S CL hw le (subR rfl) rfl rfl rfl rfl rfl trivial fun a S CL => h_move S CL hw le (subR rfl) rfl rfl rfl trivial fun a S CL => h_move S CL hw le (subR rfl) rfl rfl rfl trivial fun a S CL => h_bin S CL hw le (subR rfl) rfl rfl rfl rfl rfl trivial fun a S CL => h_move S CL hw le (subR rfl) rfl rfl rfl trivial fun a S CL => h_move S CL hw le (subR rfl) rfl rfl rfl trivial fun a S CL => ?_
            obtain ⟨c15, h2⟩ := chk_of h1; clear h1
            obtain ⟨c16, h3⟩ := chk_of h2; clear h2
            obtain ⟨c17, h4⟩ := chk_of h3; clear h3
            refine h_alts ?_
            refine h_runO S rfl trivial ?_ ?_
            ·refine s_iaddrO S (ty' := (Ty.atZ ch_0_3 Y30)) rfl .h rfl underlying32 T30 c15.1 c15.2 rfl fun g15 a hA7 S => CL.bk hw S .nil le fun hw => h_alts ?_
             refine h_runO S rfl trivial ?_ ?_
             ·refine s_ldRA S (ty' := (Ty.atZ ch_0_3 Y30)) (i := (wr .i64 (y86 - 1))) (off := 0) (fun c => ((Ty.atZ ch_0_3 Y30).segs (gt y85 (wr .i64 (y86 - 1))) c)) rfl hA7 .h T30 c15.1 c15.2 rfl (fun _ => rfl) rfl fun ch12 a S => ?_
              refine CL.br hw S .nil le rfl trivial fun hw => (s_iaddrO S (ty' := (Ty.atZ ch_0_3 Y30)) rfl .h rfl underlying32 T30 c16.1 c16.2 rfl fun g16 a hA8 S => CL.br hw S .nil le rfl trivial fun hw => (s_ldRA S (ty' := (Ty.atZ ch_0_3 Y30)) (i := y86) (off := 0) (fun c => ((Ty.atZ ch_0_3 Y30).segs (gt y85 y86) c)) rfl hA8 .h T30 c16.1 c16.2 rfl (fun _ => rfl) rfl fun ch13 a S => ?_))
              refine CL.br hw S .nil le rfl trivial fun hw => (s_iaddrO S (ty' := (Ty.atZ ch_0_3 Y30)) rfl .h rfl underlying32 T30 c16.1 c16.2 rfl fun g17 a hA9 S => CL.br hw S .nil le rfl trivial fun hw => (s_stR S (ty' := (Ty.atZ ch_0_3 Y30)) (i := y86) (off := 0) (u := gt y85 (wr .i64 (y86 - 1))) (fun _ => ch12) rfl rfl rfl hA9 .h T30 c16.1 c16.2 rfl (show 0 + 27 ≤ (Y30).size by decide) rfl (fun _ => rfl) fun w S => CL.br hw S .nil le rfl trivial fun hw => (s_iaddrO S (ty' := (Ty.atZ ch_0_3 Y30)) rfl .h rfl underlying32 T30 c17.1 c17.2 rfl fun g18 a hA10 S => CL.br hw S .nil le rfl trivial fun hw => (s_stR S (ty' := (Ty.atZ ch_0_3 Y30)) (i := (wr .i64 (y86 - 1))) (off := 0) (u := gt y85 y86) (fun _ => ch13) rfl rfl rfl hA10 .h T30 c17.1 c17.2 rfl (show 0 + 27 ≤ (Y30).size by decide) rfl (fun _ => rfl) fun w S => ?_))))
              refine h_back ⟨fun h => (nomatch h), ?_⟩
              refine h_done ?_; clear CL hw le
              refine x_blockN (x_thenN ?_)
              exact j8 _ a w (S.sb rfl (.c0 (.c0 .n))) h4
             refine h_runO S rfl trivial ?_ ?_
             ·refine s_iaddrO S (ty' := (Ty.atZ ch_0_3 Y30)) rfl .h rfl underlying32 T30 c16.1 c16.2 rfl fun g16 a hA8 S => CL.bk hw S .nil le fun hw => h_alts ?_
              refine h_runO S rfl trivial ?_ ?_
              ·refine s_ldRA S (ty' := (Ty.atZ ch_0_3 Y30)) (i := (wr .i64 (y86 - 1))) (off := 0) (fun c => ((Ty.atZ ch_0_3 Y30).segs (gt y85 (wr .i64 (y86 - 1))) c)) rfl hA7 .h T30 c15.1 c15.2 rfl (fun _ => rfl) rfl fun ch12 a S => ?_
               refine CL.br hw S .nil le rfl trivial fun hw => (s_ldRA S (ty' := (Ty.atZ ch_0_3 Y30)) (i := y86) (off := 0) (fun c => ((Ty.atZ ch_0_3 Y30).segs (gt y85 y86) c)) rfl hA8 .h T30 c16.1 c16.2 rfl (fun _ => rfl) rfl fun ch13 a S => ?_)
               refine CL.br hw S .nil le rfl trivial fun hw => (s_iaddrO S (ty' := (Ty.atZ ch_0_3 Y30)) rfl .h rfl underlying32 T30 c16.1 c16.2 rfl fun g17 a hA9 S => CL.br hw S .nil le rfl trivial fun hw => (s_stR S (ty' := (Ty.atZ ch_0_3 Y30)) (i := y86) (off := 0) (u := gt y85 (wr .i64 (y86 - 1))) (fun _ => ch12) rfl rfl rfl hA9 .h T30 c16.1 c16.2 rfl (show 0 + 27 ≤ (Y30).size by decide) rfl (fun _ => rfl) fun w S => CL.br hw S .nil le rfl trivial fun hw => (s_iaddrO S (ty' := (Ty.atZ ch_0_3 Y30)) rfl .h rfl underlying32 T30 c17.1 c17.2 rfl fun g18 a hA10 S => CL.br hw S .nil le rfl trivial fun hw => (s_stR S (ty' := (Ty.atZ ch_0_3 Y30)) (i := (wr .i64 (y86 - 1))) (off := 0) (u := gt y85 y86) (fun _ => ch13) rfl rfl rfl hA10 .h T30 c17.1 c17.2 rfl (show 0 + 27 ≤ (Y30).size by decide) rfl (fun _ => rfl) fun w S => ?_))))
               refine h_back ⟨fun h => (nomatch h), ?_⟩
               refine h_done ?_; clear CL hw le
               refine x_blockN (x_thenN ?_)
               exact j8 _ a w (S.sb rfl (.c0 (.c0 .n))) h4
              refine h_runO S rfl trivial ?_ ?_
              ·refine s_ldRA S (ty' := (Ty.atZ ch_0_3 Y30)) (i := y86) (off := 0) (fun c => ((Ty.atZ ch_0_3 Y30).segs (gt y85 y86) c)) rfl hA8 .h T30 c16.1 c16.2 rfl (fun _ => rfl) rfl fun ch12 a S => ?_
               refine CL.br hw S .nil le rfl trivial fun hw => (s_ldRA S (ty' := (Ty.atZ ch_0_3 Y30)) (i := (wr .i64 (y86 - 1))) (off := 0) (fun c => ((Ty.atZ ch_0_3 Y30).segs (gt y85 (wr .i64 (y86 - 1))) c)) rfl hA7 .h T30 c15.1 c15.2 rfl (fun _ => rfl) rfl fun ch13 a S => ?_)
               refine CL.br hw S .nil le rfl trivial fun hw => (s_iaddrO S (ty' := (Ty.atZ ch_0_3 Y30)) rfl .h rfl underlying32 T30 c16.1 c16.2 rfl fun g17 a hA9 S => CL.br hw S .nil le rfl trivial fun hw => (s_stR S (ty' := (Ty.atZ ch_0_3 Y30)) (i := y86) (off := 0) (u := gt y85 (wr .i64 (y86 - 1))) (fun _ => ch13) rfl rfl rfl hA9 .h T30 c16.1 c16.2 rfl (show 0 + 27 ≤ (Y30).size by decide) rfl (fun _ => rfl) fun w S => CL.br hw S .nil le rfl trivial fun hw => (s_iaddrO S (ty' := (Ty.atZ ch_0_3 Y30)) rfl .h rfl underlying32 T30 c17.1 c17.2 rfl fun g18 a hA10 S => CL.br hw S .nil le rfl trivial fun hw => (s_stR S (ty' := (Ty.atZ ch_0_3 Y30)) (i := (wr .i64 (y86 - 1))) (off := 0) (u := gt y85 y86) (fun _ => ch12) rfl rfl rfl hA10 .h T30 c17.1 c17.2 rfl (show 0 + 27 ≤ (Y30).size by decide) rfl (fun _ => rfl) fun w S => ?_))))
               refine h_back ⟨fun h => (nomatch h), ?_⟩
               refine h_done ?_; clear CL hw le
               refine x_blockN (x_thenN ?_)
               exact j8 _ a w (S.sb rfl (.c0 (.c0 .n))) h4
              exact h_nil
             exact h_nil
            refine h_runO S rfl trivial ?_ ?_
            ·refine s_iaddrO S (ty' := (Ty.atZ ch_0_3 Y30)) rfl .h rfl underlying32 T30 c16.1 c16.2 rfl fun g15 a hA7 S => CL.bk hw S .nil le fun hw => h_alts ?_
             refine h_runO S rfl trivial ?_ ?_
             ·refine s_iaddrO S (ty' := (Ty.atZ ch_0_3 Y30)) rfl .h rfl underlying32 T30 c15.1 c15.2 rfl fun g16 a hA8 S => CL.bk hw S .nil le fun hw => h_alts ?_
              refine h_runO S rfl trivial ?_ ?_
              ·refine s_ldRA S (ty' := (Ty.atZ ch_0_3 Y30)) (i := (wr .i64 (y86 - 1))) (off := 0) (fun c => ((Ty.atZ ch_0_3 Y30).segs (gt y85 (wr .i64 (y86 - 1))) c)) rfl hA8 .h T30 c15.1 c15.2 rfl (fun _ => rfl) rfl fun ch12 a S => ?_
               refine CL.br hw S .nil le rfl trivial fun hw => (s_ldRA S (ty' := (Ty.atZ ch_0_3 Y30)) (i := y86) (off := 0) (fun c => ((Ty.atZ ch_0_3 Y30).segs (gt y85 y86) c)) rfl hA7 .h T30 c16.1 c16.2 rfl (fun _ => rfl) rfl fun ch13 a S => ?_)
               refine CL.br hw S .nil le rfl trivial fun hw => (s_iaddrO S (ty' := (Ty.atZ ch_0_3 Y30)) rfl .h rfl underlying32 T30 c16.1 c16.2 rfl fun g17 a hA9 S => CL.br hw S .nil le rfl trivial fun hw => (s_stR S (ty' := (Ty.atZ ch_0_3 Y30)) (i := y86) (off := 0) (u := gt y85 (wr .i64 (y86 - 1))) (fun _ => ch12) rfl rfl rfl hA9 .h T30 c16.1 c16.2 rfl (show 0 + 27 ≤ (Y30).size by decide) rfl (fun _ => rfl) fun w S => CL.br hw S .nil le rfl trivial fun hw => (s_iaddrO S (ty' := (Ty.atZ ch_0_3 Y30)) rfl .h rfl underlying32 T30 c17.1 c17.2 rfl fun g18 a hA10 S => CL.br hw S .nil le rfl trivial fun hw => (s_stR S (ty' := (Ty.atZ ch_0_3 Y30)) (i := (wr .i64 (y86 - 1))) (off := 0) (u := gt y85 y86) (fun _ => ch13) rfl rfl rfl hA10 .h T30 c17.1 c17.2 rfl (show 0 + 27 ≤ (Y30).size by decide) rfl (fun _ => rfl) fun w S => ?_))))
               refine h_back ⟨fun h => (nomatch h), ?_⟩
               refine h_done ?_; clear CL hw le
               refine x_blockN (x_thenN ?_)
               exact j8 _ a w (S.sb rfl (.c0 (.c0 .n))) h4
              refine h_runO S rfl trivial ?_ ?_
              ·refine s_ldRA S (ty' := (Ty.atZ ch_0_3 Y30)) (i := y86) (off := 0) (fun c => ((Ty.atZ ch_0_3 Y30).segs (gt y85 y86) c)) rfl hA7 .h T30 c16.1 c16.2 rfl (fun _ => rfl) rfl fun ch12 a S => ?_
               refine CL.br hw S .nil le rfl trivial fun hw => (s_ldRA S (ty' := (Ty.atZ ch_0_3 Y30)) (i := (wr .i64 (y86 - 1))) (off := 0) (fun c => ((Ty.atZ ch_0_3 Y30).segs (gt y85 (wr .i64 (y86 - 1))) c)) rfl hA8 .h T30 c15.1 c15.2 rfl (fun _ => rfl) rfl fun ch13 a S => ?_)
               refine CL.br hw S .nil le rfl trivial fun hw => (s_iaddrO S (ty' := (Ty.atZ ch_0_3 Y30)) rfl .h rfl underlying32 T30 c16.1 c16.2 rfl fun g17 a hA9 S => CL.br hw S .nil le rfl trivial fun hw => (s_stR S (ty' := (Ty.atZ ch_0_3 Y30)) (i := y86) (off := 0) (u := gt y85 (wr .i64 (y86 - 1))) (fun _ => ch13) rfl rfl rfl hA9 .h T30 c16.1 c16.2 rfl (show 0 + 27 ≤ (Y30).size by decide) rfl (fun _ => rfl) fun w S => CL.br hw S .nil le rfl trivial fun hw => (s_iaddrO S (ty' := (Ty.atZ ch_0_3 Y30)) rfl .h rfl underlying32 T30 c17.1 c17.2 rfl fun g18 a hA10 S => CL.br hw S .nil le rfl trivial fun hw => (s_stR S (ty' := (Ty.atZ ch_0_3 Y30)) (i := (wr .i64 (y86 - 1))) (off := 0) (u := gt y85 y86) (fun _ => ch12) rfl rfl rfl hA10 .h T30 c17.1 c17.2 rfl (show 0 + 27 ≤ (Y30).size by decide) rfl (fun _ => rfl) fun w S => ?_))))
               refine h_back ⟨fun h => (nomatch h), ?_⟩
               refine h_done ?_; clear CL hw le
               refine x_blockN (x_thenN ?_)
               exact j8 _ a w (S.sb rfl (.c0 (.c0 .n))) h4
              exact h_nil
             refine h_runO S rfl trivial ?_ ?_
             ·refine s_ldRA S (ty' := (Ty.atZ ch_0_3 Y30)) (i := y86) (off := 0) (fun c => ((Ty.atZ ch_0_3 Y30).segs (gt y85 y86) c)) rfl hA7 .h T30 c16.1 c16.2 rfl (fun _ => rfl) rfl fun ch12 a S => ?_
              refine CL.br hw S .nil le rfl trivial fun hw => (s_iaddrO S (ty' := (Ty.atZ ch_0_3 Y30)) rfl .h rfl underlying32 T30 c15.1 c15.2 rfl fun g16 a hA8 S => CL.br hw S .nil le rfl trivial fun hw => (s_ldRA S (ty' := (Ty.atZ ch_0_3 Y30)) (i := (wr .i64 (y86 - 1))) (off := 0) (fun c => ((Ty.atZ ch_0_3 Y30).segs (gt y85 (wr .i64 (y86 - 1))) c)) rfl hA8 .h T30 c15.1 c15.2 rfl (fun _ => rfl) rfl fun ch13 a S => ?_))
              refine CL.br hw S .nil le rfl trivial fun hw => (s_iaddrO S (ty' := (Ty.atZ ch_0_3 Y30)) rfl .h rfl underlying32 T30 c16.1 c16.2 rfl fun g17 a hA9 S => CL.br hw S .nil le rfl trivial fun hw => (s_stR S (ty' := (Ty.atZ ch_0_3 Y30)) (i := y86) (off := 0) (u := gt y85 (wr .i64 (y86 - 1))) (fun _ => ch13) rfl rfl rfl hA9 .h T30 c16.1 c16.2 rfl (show 0 + 27 ≤ (Y30).size by decide) rfl (fun _ => rfl) fun w S => CL.br hw S .nil le rfl trivial fun hw => (s_iaddrO S (ty' := (Ty.atZ ch_0_3 Y30)) rfl .h rfl underlying32 T30 c17.1 c17.2 rfl fun g18 a hA10 S => CL.br hw S .nil le rfl trivial fun hw => (s_stR S (ty' := (Ty.atZ ch_0_3 Y30)) (i := (wr .i64 (y86 - 1))) (off := 0) (u := gt y85 y86) (fun _ => ch12) rfl rfl rfl hA10 .h T30 c17.1 c17.2 rfl (show 0 + 27 ≤ (Y30).size by decide) rfl (fun _ => rfl) fun w S => ?_))))
              refine h_back ⟨fun h => (nomatch h), ?_⟩
              refine h_done ?_; clear CL hw le
              refine x_blockN (x_thenN ?_)
              exact j8 _ a w (S.sb rfl (.c0 (.c0 .n))) h4
             exact h_nil
            exact h_nil
          refine c_heldS S (.take 0 (.take 1 (.take 2 (.take 5 (.take 6 (.take 7 (.alts (.run 3 true (.alts (.run 4 true (.alts (.run 8 true (.alts (.run 9 true (.alts (.run 10 true (.take 11 (.take 12 .done)) .nil)) .nil)) .nil)) (.run 8 true (.alts (.run 4 true (.alts (.run 9 true (.alts (.run 10 true (.take 11 (.take 12 .done)) .nil)) .nil)) (.run 9 true (.alts (.run 4 true (.alts (.run 10 true (.take 11 (.take 12 .done)) .nil)) .nil)) .nil))) .nil))) (.run 8 true (.alts (.run 3 true (.alts (.run 4 true (.alts (.run 9 true (.alts (.run 10 true (.take 11 (.take 12 .done)) .nil)) .nil)) (.run 9 true (.alts (.run 4 true (.alts (.run 10 true (.take 11 (.take 12 .done)) .nil)) .nil)) .nil))) (.run 9 true (.alts (.run 3 true (.alts (.run 4 true (.alts (.run 10 true (.take 11 (.take 12 .done)) .nil)) .nil)) .nil)) .nil))) .nil))))))))) 13 [] .nil trivial [(11, (.i y86)), (0, (.s ch_0_0 ch_0_1 ch_0_2)), (3, (.v (.func (.func 35) #[] #[])))] (subR rfl) (by kernel_rfl) (by kernel_rfl) fun w S CL hw le => ?_
          refine h_move S CL hw le (subR rfl) rfl rfl rfl trivial fun a S CL => h_move S CL hw le (subR rfl) rfl rfl rfl trivial fun a S CL => h_move S CL hw le (subR rfl) rfl rfl rfl trivial fun a S CL => h_move S CL hw le (subR rfl) rfl rfl rfl trivial fun a S CL => h_move S CL hw le (subR rfl) rfl rfl rfl trivial fun a S CL => h_bin S CL hw le (subR rfl) rfl rfl rfl rfl rfl trivial fun a S CL => ?_
          obtain ⟨c18, h2⟩ := chk_of h1; clear h1
          obtain ⟨c19, h3⟩ := chk_of h2; clear h2
          refine bindX h3 fun t3 et3 h4 => h_alts ?_
          refine h_runO S rfl trivial ?_ ?_
          ·refine s_iaddrO S (ty' := (Ty.atZ ch_0_3 Y30)) rfl .h rfl underlying32 T30 c18.1 c18.2 rfl fun g19 a hA11 S => CL.bk hw S .nil le fun hw => h_alts ?_
           refine h_runO S rfl trivial ?_ ?_
           ·refine s_ldRA S (ty' := (Ty.atZ ch_0_3 Y30)) (i := y86) (off := 0) (fun c => ((Ty.atZ ch_0_3 Y30).segs (gt y85 y86) c)) rfl hA11 .h T30 c18.1 c18.2 rfl (fun _ => rfl) rfl fun ch14 a S => ?_
            refine CL.br hw S .nil le rfl trivial fun hw => (s_iaddrO S (ty' := (Ty.atZ ch_0_3 Y30)) rfl .h rfl underlying32 T30 c19.1 c19.2 rfl fun g20 a hA12 S => CL.br hw S .nil le rfl trivial fun hw => (s_ldRA S (ty' := (Ty.atZ ch_0_3 Y30)) (i := (wr .i64 (y86 - 1))) (off := 0) (fun c => ((Ty.atZ ch_0_3 Y30).segs (gt y85 (wr .i64 (y86 - 1))) c)) rfl hA12 .h T30 c19.1 c19.2 rfl (fun _ => rfl) rfl fun ch15 a S => ?_))
            refine CL.br hw S .nil le rfl trivial fun hw => (s_callL S (ds' := [(.agg ((Ty.atZ ch_0_3 Y30).segs (gt y85 y86) ch14)), (.agg ((Ty.atZ ch_0_3 Y30).segs (gt y85 (wr .i64 (y86 - 1))) ch15))]) (ds := [(.agg (Y30.segs (gt y85 y86) ch14)), (.agg (Y30.segs (gt y85 (wr .i64 (y86 - 1))) ch15))]) (fun (ch : Unit) => ((.i t3) : D)) (fun _ _ _ h => h) (by obtain ⟨mm, g1, gZ, g2⟩ := S.plend .h1; exact ⟨mm, g1, g2, fun ok => ⟨(okA_lend gZ ok.1), (okA_lend gZ ok.2.1), trivial⟩⟩) N35 rfl rfl rfl (fun _ => store_Store_All_1.ok (gt y85 y86) (gt y85 (wr .i64 (y86 - 1))) ch14.2.2.2.1.1 ch14.2.2.2.1.2 ch14.2.2.2.2.1 ch14.2.2.2.2.2 ch15.2.2.2.1.1 ch15.2.2.2.1.2 ch15.2.2.2.2.1 ch15.2.2.2.2.2 t3 et3 _ _) fun ch16 a w S => CL.bk hw S .nil le fun hw => ?_)
            replace CL := CL.add (t := 82) (d := (.i t3)) S rfl rfl
            refine h_bin S CL hw le (subR rfl) rfl rfl rfl rfl rfl trivial fun a S CL => h_not S CL hw le (subR rfl) rfl rfl rfl trivial fun a S CL => ?_
            refine h_done ?_; clear CL hw le
            refine x_thenN ?_
            exact j9 _ (!(decide (t3 < 0))) a w (S.sb rfl (.c0 (.c0 .n))) h4
           refine h_runO S rfl trivial ?_ ?_
           ·refine s_iaddrO S (ty' := (Ty.atZ ch_0_3 Y30)) rfl .h rfl underlying32 T30 c19.1 c19.2 rfl fun g20 a hA12 S => CL.bk hw S .nil le fun hw => h_alts ?_
            refine h_runO S rfl trivial ?_ ?_
            ·refine s_ldRA S (ty' := (Ty.atZ ch_0_3 Y30)) (i := y86) (off := 0) (fun c => ((Ty.atZ ch_0_3 Y30).segs (gt y85 y86) c)) rfl hA11 .h T30 c18.1 c18.2 rfl (fun _ => rfl) rfl fun ch14 a S => ?_
             refine CL.br hw S .nil le rfl trivial fun hw => (s_ldRA S (ty' := (Ty.atZ ch_0_3 Y30)) (i := (wr .i64 (y86 - 1))) (off := 0) (fun c => ((Ty.atZ ch_0_3 Y30).segs (gt y85 (wr .i64 (y86 - 1))) c)) rfl hA12 .h T30 c19.1 c19.2 rfl (fun _ => rfl) rfl fun ch15 a S => ?_)
             refine CL.br hw S .nil le rfl trivial fun hw => (s_callL S (ds' := [(.agg ((Ty.atZ ch_0_3 Y30).segs (gt y85 y86) ch14)), (.agg ((Ty.atZ ch_0_3 Y30).segs (gt y85 (wr .i64 (y86 - 1))) ch15))]) (ds := [(.agg (Y30.segs (gt y85 y86) ch14)), (.agg (Y30.segs (gt y85 (wr .i64 (y86 - 1))) ch15))]) (fun (ch : Unit) => ((.i t3) : D)) (fun _ _ _ h => h) (by obtain ⟨mm, g1, gZ, g2⟩ := S.plend .h1; exact ⟨mm, g1, g2, fun ok => ⟨(okA_lend gZ ok.1), (okA_lend gZ ok.2.1), trivial⟩⟩) N35 rfl rfl rfl (fun _ => store_Store_All_1.ok (gt y85 y86) (gt y85 (wr .i64 (y86 - 1))) ch14.2.2.2.1.1 ch14.2.2.2.1.2 ch14.2.2.2.2.1 ch14.2.2.2.2.2 ch15.2.2.2.1.1 ch15.2.2.2.1.2 ch15.2.2.2.2.1 ch15.2.2.2.2.2 t3 et3 _ _) fun ch16 a w S => CL.bk hw S .nil le fun hw => ?_)
             replace CL := CL.add (t := 82) (d := (.i t3)) S rfl rfl
             refine h_bin S CL hw le (subR rfl) rfl rfl rfl rfl rfl trivial fun a S CL => h_not S CL hw le (subR rfl) rfl rfl rfl trivial fun a S CL => ?_
             refine h_done ?_; clear CL hw le
             refine x_thenN ?_
             exact j9 _ (!(decide (t3 < 0))) a w (S.sb rfl (.c0 (.c0 .n))) h4
            refine h_runO S rfl trivial ?_ ?_
            ·refine s_ldRA S (ty' := (Ty.atZ ch_0_3 Y30)) (i := (wr .i64 (y86 - 1))) (off := 0) (fun c => ((Ty.atZ ch_0_3 Y30).segs (gt y85 (wr .i64 (y86 - 1))) c)) rfl hA12 .h T30 c19.1 c19.2 rfl (fun _ => rfl) rfl fun ch14 a S => ?_
             refine CL.br hw S .nil le rfl trivial fun hw => (s_ldRA S (ty' := (Ty.atZ ch_0_3 Y30)) (i := y86) (off := 0) (fun c => ((Ty.atZ ch_0_3 Y30).segs (gt y85 y86) c)) rfl hA11 .h T30 c18.1 c18.2 rfl (fun _ => rfl) rfl fun ch15 a S => ?_)
             refine CL.br hw S .nil le rfl trivial fun hw => (s_callL S (ds' := [(.agg ((Ty.atZ ch_0_3 Y30).segs (gt y85 y86) ch15)), (.agg ((Ty.atZ ch_0_3 Y30).segs (gt y85 (wr .i64 (y86 - 1))) ch14))]) (ds := [(.agg (Y30.segs (gt y85 y86) ch15)), (.agg (Y30.segs (gt y85 (wr .i64 (y86 - 1))) ch14))]) (fun (ch : Unit) => ((.i t3) : D)) (fun _ _ _ h => h) (by obtain ⟨mm, g1, gZ, g2⟩ := S.plend .h1; exact ⟨mm, g1, g2, fun ok => ⟨(okA_lend gZ ok.1), (okA_lend gZ ok.2.1), trivial⟩⟩) N35 rfl rfl rfl (fun _ => store_Store_All_1.ok (gt y85 y86) (gt y85 (wr .i64 (y86 - 1))) ch15.2.2.2.1.1 ch15.2.2.2.1.2 ch15.2.2.2.2.1 ch15.2.2.2.2.2 ch14.2.2.2.1.1 ch14.2.2.2.1.2 ch14.2.2.2.2.1 ch14.2.2.2.2.2 t3 et3 _ _) fun ch16 a w S => CL.bk hw S .nil le fun hw => ?_)
             replace CL := CL.add (t := 82) (d := (.i t3)) S rfl rfl
             refine h_bin S CL hw le (subR rfl) rfl rfl rfl rfl rfl trivial fun a S CL => h_not S CL hw le (subR rfl) rfl rfl rfl trivial fun a S CL => ?_
             refine h_done ?_; clear CL hw le
             refine x_thenN ?_
             exact j9 _ (!(decide (t3 < 0))) a w (S.sb rfl (.c0 (.c0 .n))) h4
            exact h_nil
           exact h_nil
          refine h_runO S rfl trivial ?_ ?_
          ·refine s_iaddrO S (ty' := (Ty.atZ ch_0_3 Y30)) rfl .h rfl underlying32 T30 c19.1 c19.2 rfl fun g19 a hA11 S => CL.bk hw S .nil le fun hw => h_alts ?_
           refine h_runO S rfl trivial ?_ ?_
           ·refine s_iaddrO S (ty' := (Ty.atZ ch_0_3 Y30)) rfl .h rfl underlying32 T30 c18.1 c18.2 rfl fun g20 a hA12 S => CL.bk hw S .nil le fun hw => h_alts ?_
            refine h_runO S rfl trivial ?_ ?_
            ·refine s_ldRA S (ty' := (Ty.atZ ch_0_3 Y30)) (i := y86) (off := 0) (fun c => ((Ty.atZ ch_0_3 Y30).segs (gt y85 y86) c)) rfl hA12 .h T30 c18.1 c18.2 rfl (fun _ => rfl) rfl fun ch14 a S => ?_
             refine CL.br hw S .nil le rfl trivial fun hw => (s_ldRA S (ty' := (Ty.atZ ch_0_3 Y30)) (i := (wr .i64 (y86 - 1))) (off := 0) (fun c => ((Ty.atZ ch_0_3 Y30).segs (gt y85 (wr .i64 (y86 - 1))) c)) rfl hA11 .h T30 c19.1 c19.2 rfl (fun _ => rfl) rfl fun ch15 a S => ?_)
             refine CL.br hw S .nil le rfl trivial fun hw => (s_callL S (ds' := [(.agg ((Ty.atZ ch_0_3 Y30).segs (gt y85 y86) ch14)), (.agg ((Ty.atZ ch_0_3 Y30).segs (gt y85 (wr .i64 (y86 - 1))) ch15))]) (ds := [(.agg (Y30.segs (gt y85 y86) ch14)), (.agg (Y30.segs (gt y85 (wr .i64 (y86 - 1))) ch15))]) (fun (ch : Unit) => ((.i t3) : D)) (fun _ _ _ h => h) (by obtain ⟨mm, g1, gZ, g2⟩ := S.plend .h1; exact ⟨mm, g1, g2, fun ok => ⟨(okA_lend gZ ok.1), (okA_lend gZ ok.2.1), trivial⟩⟩) N35 rfl rfl rfl (fun _ => store_Store_All_1.ok (gt y85 y86) (gt y85 (wr .i64 (y86 - 1))) ch14.2.2.2.1.1 ch14.2.2.2.1.2 ch14.2.2.2.2.1 ch14.2.2.2.2.2 ch15.2.2.2.1.1 ch15.2.2.2.1.2 ch15.2.2.2.2.1 ch15.2.2.2.2.2 t3 et3 _ _) fun ch16 a w S => CL.bk hw S .nil le fun hw => ?_)
             replace CL := CL.add (t := 82) (d := (.i t3)) S rfl rfl
             refine h_bin S CL hw le (subR rfl) rfl rfl rfl rfl rfl trivial fun a S CL => h_not S CL hw le (subR rfl) rfl rfl rfl trivial fun a S CL => ?_
             refine h_done ?_; clear CL hw le
             refine x_thenN ?_
             exact j9 _ (!(decide (t3 < 0))) a w (S.sb rfl (.c0 (.c0 .n))) h4
            refine h_runO S rfl trivial ?_ ?_
            ·refine s_ldRA S (ty' := (Ty.atZ ch_0_3 Y30)) (i := (wr .i64 (y86 - 1))) (off := 0) (fun c => ((Ty.atZ ch_0_3 Y30).segs (gt y85 (wr .i64 (y86 - 1))) c)) rfl hA11 .h T30 c19.1 c19.2 rfl (fun _ => rfl) rfl fun ch14 a S => ?_
             refine CL.br hw S .nil le rfl trivial fun hw => (s_ldRA S (ty' := (Ty.atZ ch_0_3 Y30)) (i := y86) (off := 0) (fun c => ((Ty.atZ ch_0_3 Y30).segs (gt y85 y86) c)) rfl hA12 .h T30 c18.1 c18.2 rfl (fun _ => rfl) rfl fun ch15 a S => ?_)
             refine CL.br hw S .nil le rfl trivial fun hw => (s_callL S (ds' := [(.agg ((Ty.atZ ch_0_3 Y30).segs (gt y85 y86) ch15)), (.agg ((Ty.atZ ch_0_3 Y30).segs (gt y85 (wr .i64 (y86 - 1))) ch14))]) (ds := [(.agg (Y30.segs (gt y85 y86) ch15)), (.agg (Y30.segs (gt y85 (wr .i64 (y86 - 1))) ch14))]) (fun (ch : Unit) => ((.i t3) : D)) (fun _ _ _ h => h) (by obtain ⟨mm, g1, gZ, g2⟩ := S.plend .h1; exact ⟨mm, g1, g2, fun ok => ⟨(okA_lend gZ ok.1), (okA_lend gZ ok.2.1), trivial⟩⟩) N35 rfl rfl rfl (fun _ => store_Store_All_1.ok (gt y85 y86) (gt y85 (wr .i64 (y86 - 1))) ch15.2.2.2.1.1 ch15.2.2.2.1.2 ch15.2.2.2.2.1 ch15.2.2.2.2.2 ch14.2.2.2.1.1 ch14.2.2.2.1.2 ch14.2.2.2.2.1 ch14.2.2.2.2.2 t3 et3 _ _) fun ch16 a w S => CL.bk hw S .nil le fun hw => ?_)
             replace CL := CL.add (t := 82) (d := (.i t3)) S rfl rfl
             refine h_bin S CL hw le (subR rfl) rfl rfl rfl rfl rfl trivial fun a S CL => h_not S CL hw le (subR rfl) rfl rfl rfl trivial fun a S CL => ?_
             refine h_done ?_; clear CL hw le
             refine x_thenN ?_
             exact j9 _ (!(decide (t3 < 0))) a w (S.sb rfl (.c0 (.c0 .n))) h4
            exact h_nil
           refine h_runO S rfl trivial ?_ ?_
           ·refine s_ldRA S (ty' := (Ty.atZ ch_0_3 Y30)) (i := (wr .i64 (y86 - 1))) (off := 0) (fun c => ((Ty.atZ ch_0_3 Y30).segs (gt y85 (wr .i64 (y86 - 1))) c)) rfl hA11 .h T30 c19.1 c19.2 rfl (fun _ => rfl) rfl fun ch14 a S => ?_
            refine CL.br hw S .nil le rfl trivial fun hw => (s_iaddrO S (ty' := (Ty.atZ ch_0_3 Y30)) rfl .h rfl underlying32 T30 c18.1 c18.2 rfl fun g20 a hA12 S => CL.br hw S .nil le rfl trivial fun hw => (s_ldRA S (ty' := (Ty.atZ ch_0_3 Y30)) (i := y86) (off := 0) (fun c => ((Ty.atZ ch_0_3 Y30).segs (gt y85 y86) c)) rfl hA12 .h T30 c18.1 c18.2 rfl (fun _ => rfl) rfl fun ch15 a S => ?_))
            refine CL.br hw S .nil le rfl trivial fun hw => (s_callL S (ds' := [(.agg ((Ty.atZ ch_0_3 Y30).segs (gt y85 y86) ch15)), (.agg ((Ty.atZ ch_0_3 Y30).segs (gt y85 (wr .i64 (y86 - 1))) ch14))]) (ds := [(.agg (Y30.segs (gt y85 y86) ch15)), (.agg (Y30.segs (gt y85 (wr .i64 (y86 - 1))) ch14))]) (fun (ch : Unit) => ((.i t3) : D)) (fun _ _ _ h => h) (by obtain ⟨mm, g1, gZ, g2⟩ := S.plend .h1; exact ⟨mm, g1, g2, fun ok => ⟨(okA_lend gZ ok.1), (okA_lend gZ ok.2.1), trivial⟩⟩) N35 rfl rfl rfl (fun _ => store_Store_All_1.ok (gt y85 y86) (gt y85 (wr .i64 (y86 - 1))) ch15.2.2.2.1.1 ch15.2.2.2.1.2 ch15.2.2.2.2.1 ch15.2.2.2.2.2 ch14.2.2.2.1.1 ch14.2.2.2.1.2 ch14.2.2.2.2.1 ch14.2.2.2.2.2 t3 et3 _ _) fun ch16 a w S => CL.bk hw S .nil le fun hw => ?_)
            replace CL := CL.add (t := 82) (d := (.i t3)) S rfl rfl
            refine h_bin S CL hw le (subR rfl) rfl rfl rfl rfl rfl trivial fun a S CL => h_not S CL hw le (subR rfl) rfl rfl rfl trivial fun a S CL => ?_
            refine h_done ?_; clear CL hw le
            refine x_thenN ?_
            exact j9 _ (!(decide (t3 < 0))) a w (S.sb rfl (.c0 (.c0 .n))) h4
           exact h_nil
          exact h_nil
         ·refine c_condF S rfl c13 (wp_exit (x_thenX (x_thenX (x_blockX (x_thenN ?_)))))
          exact j5 _ y85 a w (S.sb rfl (.c0 (.c0 .n))) h1
       ·refine c_condF S rfl c12 (wp_skip (x_thenN ?_))
        exact j5 _ ((y43.set (Int.toNat y70) (gt y43 (wr .i64 (y70 - 1)))).set (Int.toNat (wr .i64 (y70 - 1))) (gt y43 y70)) a w (S.sb rfl (.c0 (.c0 .n))) h1
      refine c_heldS S (.take 0 (.take 1 (.take 2 (.take 3 (.take 4 (.take 5 (.take 6 (.take 7 (.take 10 (.take 11 (.alts (.run 8 true (.alts (.run 9 true (.alts (.run 12 true (.alts (.run 13 true (.alts (.run 14 true (.alts (.run 15 true (.alts (.run 16 true (.alts (.run 17 false .done .nil)) .nil)) .nil)) .nil)) .nil)) .nil)) (.run 12 true (.alts (.run 9 true (.alts (.run 13 true (.alts (.run 14 true (.alts (.run 15 true (.alts (.run 16 true (.alts (.run 17 false .done .nil)) .nil)) .nil)) .nil)) .nil)) (.run 13 true (.alts (.run 9 true (.alts (.run 14 true (.alts (.run 15 true (.alts (.run 16 true (.alts (.run 17 false .done .nil)) .nil)) .nil)) .nil)) .nil)) .nil))) .nil))) (.run 12 true (.alts (.run 8 true (.alts (.run 9 true (.alts (.run 13 true (.alts (.run 14 true (.alts (.run 15 true (.alts (.run 16 true (.alts (.run 17 false .done .nil)) .nil)) .nil)) .nil)) .nil)) (.run 13 true (.alts (.run 9 true (.alts (.run 14 true (.alts (.run 15 true (.alts (.run 16 true (.alts (.run 17 false .done .nil)) .nil)) .nil)) .nil)) .nil)) .nil))) (.run 13 true (.alts (.run 8 true (.alts (.run 9 true (.alts (.run 14 true (.alts (.run 15 true (.alts (.run 16 true (.alts (.run 17 false .done .nil)) .nil)) .nil)) .nil)) .nil)) .nil)) .nil))) .nil))))))))))))) 17 [] .nil trivial [(9, (.i y70)), (0, (.s ch_0_0 ch_0_1 ch_0_2))] (subR rfl) (by kernel_rfl) (by kernel_rfl) fun w S CL hw le => ?_
      refine h_move S CL hw le (subR rfl) rfl rfl rfl trivial fun a S CL => h_move S CL hw le (subR rfl) rfl rfl rfl trivial fun a S CL => h_move S CL hw le (subR rfl) rfl rfl rfl trivial fun a S CL => h_move S CL hw le (subR rfl) rfl rfl rfl trivial fun a S CL => h_bin S CL hw le (subR rfl) rfl rfl rfl rfl rfl trivial fun a S CL => h_move S CL hw le (subR rfl) rfl rfl rfl trivial fun a S CL => h_move S CL hw le (subR rfl) rfl rfl rfl trivial fun a S CL => h_bin S CL hw le (subR rfl) rfl rfl rfl rfl rfl trivial fun a S CL => h_move S CL hw le (subR rfl) rfl rfl rfl trivial fun a S CL => h_move S CL hw le (subR rfl) rfl rfl rfl trivial fun a S CL => ?_
      obtain ⟨c20, h3⟩ := chk_of h2; clear h2
      obtain ⟨c21, h4⟩ := chk_of h3; clear h3
      obtain ⟨c22, h5⟩ := chk_of h4; clear h4
      refine h_alts ?_
      refine h_runO S rfl trivial ?_ ?_
      ·refine s_iaddrO S (ty' := (Ty.atZ ch_0_3 Y30)) rfl .h rfl underlying32 T30 c20.1 c20.2 rfl fun g21 a hA13 S => CL.bk hw S .nil le fun hw => h_alts ?_
       refine h_runO S rfl trivial ?_ ?_
       ·refine s_ldRA S (ty' := (Ty.atZ ch_0_3 Y30)) (i := (wr .i64 (y70 - 1))) (off := 0) (fun c => ((Ty.atZ ch_0_3 Y30).segs (gt y43 (wr .i64 (y70 - 1))) c)) rfl hA13 .h T30 c20.1 c20.2 rfl (fun _ => rfl) rfl fun ch17 a S => ?_
        refine CL.br hw S .nil le rfl trivial fun hw => (s_iaddrO S (ty' := (Ty.atZ ch_0_3 Y30)) rfl .h rfl underlying32 T30 c21.1 c21.2 rfl fun g22 a hA14 S => CL.br hw S .nil le rfl trivial fun hw => (s_ldRA S (ty' := (Ty.atZ ch_0_3 Y30)) (i := y70) (off := 0) (fun c => ((Ty.atZ ch_0_3 Y30).segs (gt y43 y70) c)) rfl hA14 .h T30 c21.1 c21.2 rfl (fun _ => rfl) rfl fun ch18 a S => ?_))
        refine CL.br hw S .nil le rfl trivial fun hw => (s_iaddrO S (ty' := (Ty.atZ ch_0_3 Y30)) rfl .h rfl underlying32 T30 c21.1 c21.2 rfl fun g23 a hA15 S => CL.br hw S .nil le rfl trivial fun hw => (s_stR S (ty' := (Ty.atZ ch_0_3 Y30)) (i := y70) (off := 0) (u := gt y43 (wr .i64 (y70 - 1))) (fun _ => ch17) rfl rfl rfl hA15 .h T30 c21.1 c21.2 rfl (show 0 + 27 ≤ (Y30).size by decide) rfl (fun _ => rfl) fun w S => CL.br hw S .nil le rfl trivial fun hw => (s_iaddrO S (ty' := (Ty.atZ ch_0_3 Y30)) rfl .h rfl underlying32 T30 c22.1 c22.2 rfl fun g24 a hA16 S => CL.br hw S .nil le rfl trivial fun hw => (s_stR S (ty' := (Ty.atZ ch_0_3 Y30)) (i := (wr .i64 (y70 - 1))) (off := 0) (u := gt y43 y70) (fun _ => ch18) rfl rfl rfl hA16 .h T30 c22.1 c22.2 rfl (show 0 + 27 ≤ (Y30).size by decide) rfl (fun _ => rfl) fun w S => ?_))))
        refine h_back ⟨fun h => (nomatch h), ?_⟩
        refine h_done ?_; clear CL hw le
        refine x_thenN ?_
        exact j4 _ a w (S.sb rfl (.c0 (.c0 .n))) h5
       refine h_runO S rfl trivial ?_ ?_
       ·refine s_iaddrO S (ty' := (Ty.atZ ch_0_3 Y30)) rfl .h rfl underlying32 T30 c21.1 c21.2 rfl fun g22 a hA14 S => CL.bk hw S .nil le fun hw => h_alts ?_
        refine h_runO S rfl trivial ?_ ?_
        ·refine s_ldRA S (ty' := (Ty.atZ ch_0_3 Y30)) (i := (wr .i64 (y70 - 1))) (off := 0) (fun c => ((Ty.atZ ch_0_3 Y30).segs (gt y43 (wr .i64 (y70 - 1))) c)) rfl hA13 .h T30 c20.1 c20.2 rfl (fun _ => rfl) rfl fun ch17 a S => ?_
         refine CL.br hw S .nil le rfl trivial fun hw => (s_ldRA S (ty' := (Ty.atZ ch_0_3 Y30)) (i := y70) (off := 0) (fun c => ((Ty.atZ ch_0_3 Y30).segs (gt y43 y70) c)) rfl hA14 .h T30 c21.1 c21.2 rfl (fun _ => rfl) rfl fun ch18 a S => ?_)
         refine CL.br hw S .nil le rfl trivial fun hw => (s_iaddrO S (ty' := (Ty.atZ ch_0_3 Y30)) rfl .h rfl underlying32 T30 c21.1 c21.2 rfl fun g23 a hA15 S => CL.br hw S .nil le rfl trivial fun hw => (s_stR S (ty' := (Ty.atZ ch_0_3 Y30)) (i := y70) (off := 0) (u := gt y43 (wr .i64 (y70 - 1))) (fun _ => ch17) rfl rfl rfl hA15 .h T30 c21.1 c21.2 rfl (show 0 + 27 ≤ (Y30).size by decide) rfl (fun _ => rfl) fun w S => CL.br hw S .nil le rfl trivial fun hw => (s_iaddrO S (ty' := (Ty.atZ ch_0_3 Y30)) rfl .h rfl underlying32 T30 c22.1 c22.2 rfl fun g24 a hA16 S => CL.br hw S .nil le rfl trivial fun hw => (s_stR S (ty' := (Ty.atZ ch_0_3 Y30)) (i := (wr .i64 (y70 - 1))) (off := 0) (u := gt y43 y70) (fun _ => ch18) rfl rfl rfl hA16 .h T30 c22.1 c22.2 rfl (show 0 + 27 ≤ (Y30).size by decide) rfl (fun _ => rfl) fun w S => ?_))))
         refine h_back ⟨fun h => (nomatch h), ?_⟩
         refine h_done ?_; clear CL hw le
         refine x_thenN ?_
         exact j4 _ a w (S.sb rfl (.c0 (.c0 .n))) h5
        refine h_runO S rfl trivial ?_ ?_
        ·refine s_ldRA S (ty' := (Ty.atZ ch_0_3 Y30)) (i := y70) (off := 0) (fun c => ((Ty.atZ ch_0_3 Y30).segs (gt y43 y70) c)) rfl hA14 .h T30 c21.1 c21.2 rfl (fun _ => rfl) rfl fun ch17 a S => ?_
         refine CL.br hw S .nil le rfl trivial fun hw => (s_ldRA S (ty' := (Ty.atZ ch_0_3 Y30)) (i := (wr .i64 (y70 - 1))) (off := 0) (fun c => ((Ty.atZ ch_0_3 Y30).segs (gt y43 (wr .i64 (y70 - 1))) c)) rfl hA13 .h T30 c20.1 c20.2 rfl (fun _ => rfl) rfl fun ch18 a S => ?_)
         refine CL.br hw S .nil le rfl trivial fun hw => (s_iaddrO S (ty' := (Ty.atZ ch_0_3 Y30)) rfl .h rfl underlying32 T30 c21.1 c21.2 rfl fun g23 a hA15 S => CL.br hw S .nil le rfl trivial fun hw => (s_stR S (ty' := (Ty.atZ ch_0_3 Y30)) (i := y70) (off := 0) (u := gt y43 (wr .i64 (y70 - 1))) (fun _ => ch18) rfl rfl rfl hA15 .h T30 c21.1 c21.2 rfl (show 0 + 27 ≤ (Y30).size by decide) rfl (fun _ => rfl) fun w S => CL.br hw S .nil le rfl trivial fun hw => (s_iaddrO S (ty' := (Ty.atZ ch_0_3 Y30)) rfl .h rfl underlying32 T30 c22.1 c22.2 rfl fun g24 a hA16 S => CL.br hw S .nil le rfl trivial fun hw => (s_stR S (ty' := (Ty.atZ ch_0_3 Y30)) (i := (wr .i64 (y70 - 1))) (off := 0) (u := gt y43 y70) (fun _ => ch17) rfl rfl rfl hA16 .h T30 c22.1 c22.2 rfl (show 0 + 27 ≤ (Y30).size by decide) rfl (fun _ => rfl) fun w S => ?_))))
         refine h_back ⟨fun h => (nomatch h), ?_⟩
         refine h_done ?_; clear CL hw le
         refine x_thenN ?_
         exact j4 _ a w (S.sb rfl (.c0 (.c0 .n))) h5
        exact h_nil
       exact h_nil
      refine h_runO S rfl trivial ?_ ?_
      ·refine s_iaddrO S (ty' := (Ty.atZ ch_0_3 Y30)) rfl .h rfl underlying32 T30 c21.1 c21.2 rfl fun g21 a hA13 S => CL.bk hw S .nil le fun hw => h_alts ?_
       refine h_runO S rfl trivial ?_ ?_
       ·refine s_iaddrO S (ty' := (Ty.atZ ch_0_3 Y30)) rfl .h rfl underlying32 T30 c20.1 c20.2 rfl fun g22 a hA14 S => CL.bk hw S .nil le fun hw => h_alts ?_
        refine h_runO S rfl trivial ?_ ?_
        ·refine s_ldRA S (ty' := (Ty.atZ ch_0_3 Y30)) (i := (wr .i64 (y70 - 1))) (off := 0) (fun c => ((Ty.atZ ch_0_3 Y30).segs (gt y43 (wr .i64 (y70 - 1))) c)) rfl hA14 .h T30 c20.1 c20.2 rfl (fun _ => rfl) rfl fun ch17 a S => ?_
         refine CL.br hw S .nil le rfl trivial fun hw => (s_ldRA S (ty' := (Ty.atZ ch_0_3 Y30)) (i := y70) (off := 0) (fun c => ((Ty.atZ ch_0_3 Y30).segs (gt y43 y70) c)) rfl hA13 .h T30 c21.1 c21.2 rfl (fun _ => rfl) rfl fun ch18 a S => ?_)
         refine CL.br hw S .nil le rfl trivial fun hw => (s_iaddrO S (ty' := (Ty.atZ ch_0_3 Y30)) rfl .h rfl underlying32 T30 c21.1 c21.2 rfl fun g23 a hA15 S => CL.br hw S .nil le rfl trivial fun hw => (s_stR S (ty' := (Ty.atZ ch_0_3 Y30)) (i := y70) (off := 0) (u := gt y43 (wr .i64 (y70 - 1))) (fun _ => ch17) rfl rfl rfl hA15 .h T30 c21.1 c21.2 rfl (show 0 + 27 ≤ (Y30).size by decide) rfl (fun _ => rfl) fun w S => CL.br hw S .nil le rfl trivial fun hw => (s_iaddrO S (ty' := (Ty.atZ ch_0_3 Y30)) rfl .h rfl underlying32 T30 c22.1 c22.2 rfl fun g24 a hA16 S => CL.br hw S .nil le rfl trivial fun hw => (s_stR S (ty' := (Ty.atZ ch_0_3 Y30)) (i := (wr .i64 (y70 - 1))) (off := 0) (u := gt y43 y70) (fun _ => ch18) rfl rfl rfl hA16 .h T30 c22.1 c22.2 rfl (show 0 + 27 ≤ (Y30).size by decide) rfl (fun _ => rfl) fun w S => ?_))))
         refine h_back ⟨fun h => (nomatch h), ?_⟩
         refine h_done ?_; clear CL hw le
         refine x_thenN ?_
         exact j4 _ a w (S.sb rfl (.c0 (.c0 .n))) h5
        refine h_runO S rfl trivial ?_ ?_
        ·refine s_ldRA S (ty' := (Ty.atZ ch_0_3 Y30)) (i := y70) (off := 0) (fun c => ((Ty.atZ ch_0_3 Y30).segs (gt y43 y70) c)) rfl hA13 .h T30 c21.1 c21.2 rfl (fun _ => rfl) rfl fun ch17 a S => ?_
         refine CL.br hw S .nil le rfl trivial fun hw => (s_ldRA S (ty' := (Ty.atZ ch_0_3 Y30)) (i := (wr .i64 (y70 - 1))) (off := 0) (fun c => ((Ty.atZ ch_0_3 Y30).segs (gt y43 (wr .i64 (y70 - 1))) c)) rfl hA14 .h T30 c20.1 c20.2 rfl (fun _ => rfl) rfl fun ch18 a S => ?_)
         refine CL.br hw S .nil le rfl trivial fun hw => (s_iaddrO S (ty' := (Ty.atZ ch_0_3 Y30)) rfl .h rfl underlying32 T30 c21.1 c21.2 rfl fun g23 a hA15 S => CL.br hw S .nil le rfl trivial fun hw => (s_stR S (ty' := (Ty.atZ ch_0_3 Y30)) (i := y70) (off := 0) (u := gt y43 (wr .i64 (y70 - 1))) (fun _ => ch18) rfl rfl rfl hA15 .h T30 c21.1 c21.2 rfl (show 0 + 27 ≤ (Y30).size by decide) rfl (fun _ => rfl) fun w S => CL.br hw S .nil le rfl trivial fun hw => (s_iaddrO S (ty' := (Ty.atZ ch_0_3 Y30)) rfl .h rfl underlying32 T30 c22.1 c22.2 rfl fun g24 a hA16 S => CL.br hw S .nil le rfl trivial fun hw => (s_stR S (ty' := (Ty.atZ ch_0_3 Y30)) (i := (wr .i64 (y70 - 1))) (off := 0) (u := gt y43 y70) (fun _ => ch17) rfl rfl rfl hA16 .h T30 c22.1 c22.2 rfl (show 0 + 27 ≤ (Y30).size by decide) rfl (fun _ => rfl) fun w S => ?_))))
         refine h_back ⟨fun h => (nomatch h), ?_⟩
         refine h_done ?_; clear CL hw le
         refine x_thenN ?_
         exact j4 _ a w (S.sb rfl (.c0 (.c0 .n))) h5
        exact h_nil
       refine h_runO S rfl trivial ?_ ?_
       ·refine s_ldRA S (ty' := (Ty.atZ ch_0_3 Y30)) (i := y70) (off := 0) (fun c => ((Ty.atZ ch_0_3 Y30).segs (gt y43 y70) c)) rfl hA13 .h T30 c21.1 c21.2 rfl (fun _ => rfl) rfl fun ch17 a S => ?_
        refine CL.br hw S .nil le rfl trivial fun hw => (s_iaddrO S (ty' := (Ty.atZ ch_0_3 Y30)) rfl .h rfl underlying32 T30 c20.1 c20.2 rfl fun g22 a hA14 S => CL.br hw S .nil le rfl trivial fun hw => (s_ldRA S (ty' := (Ty.atZ ch_0_3 Y30)) (i := (wr .i64 (y70 - 1))) (off := 0) (fun c => ((Ty.atZ ch_0_3 Y30).segs (gt y43 (wr .i64 (y70 - 1))) c)) rfl hA14 .h T30 c20.1 c20.2 rfl (fun _ => rfl) rfl fun ch18 a S => ?_))
        refine CL.br hw S .nil le rfl trivial fun hw => (s_iaddrO S (ty' := (Ty.atZ ch_0_3 Y30)) rfl .h rfl underlying32 T30 c21.1 c21.2 rfl fun g23 a hA15 S => CL.br hw S .nil le rfl trivial fun hw => (s_stR S (ty' := (Ty.atZ ch_0_3 Y30)) (i := y70) (off := 0) (u := gt y43 (wr .i64 (y70 - 1))) (fun _ => ch18) rfl rfl rfl hA15 .h T30 c21.1 c21.2 rfl (show 0 + 27 ≤ (Y30).size by decide) rfl (fun _ => rfl) fun w S => CL.br hw S .nil le rfl trivial fun hw => (s_iaddrO S (ty' := (Ty.atZ ch_0_3 Y30)) rfl .h rfl underlying32 T30 c22.1 c22.2 rfl fun g24 a hA16 S => CL.br hw S .nil le rfl trivial fun hw => (s_stR S (ty' := (Ty.atZ ch_0_3 Y30)) (i := (wr .i64 (y70 - 1))) (off := 0) (u := gt y43 y70) (fun _ => ch17) rfl rfl rfl hA16 .h T30 c22.1 c22.2 rfl (show 0 + 27 ≤ (Y30).size by decide) rfl (fun _ => rfl) fun w S => ?_))))
        refine h_back ⟨fun h => (nomatch h), ?_⟩
        refine h_done ?_; clear CL hw le
        refine x_thenN ?_
        exact j4 _ a w (S.sb rfl (.c0 (.c0 .n))) h5
       exact h_nil
      exact h_nil
   refine wp_block ?_
   refine c_loop (fun q4 a w => ∃ m y92, St 141 m b0 [(10, (.i y44)), (9, (.i y92)), (0, (.s ch_0_0 ch_0_1 ch_0_2)), (1, (.i x2)), (2, (.i x3)), (3, (.v (.func (.func 35) #[] #[])))] [Res.row (Ty.atZ ch_0_3 Y30) 30 ch_0_0 ch_0_1 ch_0_2 y43, Res.priv ch_0_3] a w ∧ api_Account_n55_0z_3f35.l4 k x2 x3 y43 y44 (api_Account_n55_0z_3f35.l1 k x2 x3 q1) q4 y92 = some r) ?_ ?_ (k := k) ⟨_, y45, (S.sb rfl (.c0 (.c0 .n))), h1⟩
   ·rintro a w ⟨m, y92, S, h0⟩
    exact (nomatch (show (none : Option (Bool × (List L30))) = some r from h0))
   ·clear S h1
    rintro q4 a w ⟨m, y92, S, h0⟩
    replace h0 : api_Account_n55_0z_3f35.b4 k x2 x3 y43 y44 (api_Account_n55_0z_3f35.l1 k x2 x3 q1) (api_Account_n55_0z_3f35.l4 k x2 x3 y43 y44 (api_Account_n55_0z_3f35.l1 k x2 x3 q1) q4) y92 = some r := h0
    delta api_Account_n55_0z_3f35.b4 at h0
    refine wp_seq (wp_seq_k fun K10 hK10 => ?_)
    have j10 : ∀ m y93 a w, St 141 m b0 [(36, (.b y93)), (10, (.i y44)), (9, (.i y92)), (0, (.s ch_0_0 ch_0_1 ch_0_2)), (1, (.i x2)), (2, (.i x3)), (3, (.v (.func (.func 35) #[] #[])))] [Res.row (Ty.atZ ch_0_3 Y30) 30 ch_0_0 ch_0_1 ch_0_2 y43, Res.priv ch_0_3] a w → api_Account_n55_0z_3f35.j10 k x2 x3 y43 y44 (api_Account_n55_0z_3f35.l1 k x2 x3 q1) y92 (api_Account_n55_0z_3f35.l4 k x2 x3 y43 y44 (api_Account_n55_0z_3f35.l1 k x2 x3 q1) q4) y93 = some r → K10 a w := by
     intro m y93 a w S h0
     delta api_Account_n55_0z_3f35.j10 at h0
     refine hK10 a w ?_
     rcases ite_of h0 with ⟨c23, h1⟩ | ⟨c23, h1⟩
     ·refine c_condT S rfl c23 (wp_skip (x_thenN (wp_block (c_region' (s_move S rfl rfl fun a S => s_bin S rfl rfl rfl rfl fun a S => s_assign S rfl rfl fun a S => c_end' (x_blockN (x_thenN ?_)))))))
      exact ⟨_, (wr .i64 (y92 + 1)), (S.sb rfl (.c0 (.c0 .n))), h1⟩
     ·refine c_condF S rfl c23 (wp_exit (x_thenX (x_thenX (x_blockX (x_thenN ?_)))))
      exact j3 _ y92 a w (S.sb rfl (.c0 (.c0 .n))) h1
    refine c_heldS S (.take 0 (.take 1 (.take 2 (.take 3 (.take 4 (.take 5 (.take 6 (.take 9 (.take 10 (.take 11 (.alts (.run 7 true (.alts (.run 8 true (.alts (.run 12 true (.alts (.run 13 true (.alts (.run 14 true (.take 15 (.take 16 (.take 17 .done))) .nil)) .nil)) .nil)) (.run 12 true (.alts (.run 8 true (.alts (.run 13 true (.alts (.run 14 true (.take 15 (.take 16 (.take 17 .done))) .nil)) .nil)) (.run 13 true (.alts (.run 8 true (.alts (.run 14 true (.take 15 (.take 16 (.take 17 .done))) .nil)) .nil)) .nil))) .nil))) (.run 12 true (.alts (.run 7 true (.alts (.run 8 true (.alts (.run 13 true (.alts (.run 14 true (.take 15 (.take 16 (.take 17 .done))) .nil)) .nil)) (.run 13 true (.alts (.run 8 true (.alts (.run 14 true (.take 15 (.take 16 (.take 17 .done))) .nil)) .nil)) .nil))) (.run 13 true (.alts (.run 7 true (.alts (.run 8 true (.alts (.run 14 true (.take 15 (.take 16 (.take 17 .done))) .nil)) .nil)) .nil)) .nil))) .nil))))))))))))) 18 [] .nil trivial [(9, (.i y92)), (0, (.s ch_0_0 ch_0_1 ch_0_2)), (2, (.i x3)), (3, (.v (.func (.func 35) #[] #[])))] (subR rfl) (by kernel_rfl) (by kernel_rfl) fun w S CL hw le => ?_
    refine h_move S CL hw le (subR rfl) rfl rfl rfl trivial fun a S CL => h_move S CL hw le (subR rfl) rfl rfl rfl trivial fun a S CL => h_bin S CL hw le (subR rfl) rfl rfl rfl rfl rfl trivial fun a S CL => h_move S CL hw le (subR rfl) rfl rfl rfl trivial fun a S CL => ?_
    rcases ite_of h0 with ⟨c24, h1⟩ | ⟨c24, h1⟩
    ·refine h_move S CL hw le (subR rfl) rfl rfl rfl ⟨_, _, rfl, rfl, c24⟩ fun a S CL => h_move S CL hw le (subR rfl) rfl rfl rfl ⟨_, _, rfl, rfl, c24⟩ fun a S CL => h_move S CL hw le (subR rfl) rfl rfl rfl ⟨_, _, rfl, rfl, c24⟩ fun a S CL => h_move S CL hw le (subR rfl) rfl rfl rfl ⟨_, _, rfl, rfl, c24⟩ fun a S CL => h_move S CL hw le (subR rfl) rfl rfl rfl ⟨_, _, rfl, rfl, c24⟩ fun a S CL => h_bin S CL hw le (subR rfl) rfl rfl rfl rfl rfl ⟨_, _, rfl, rfl, c24⟩ fun a S CL => ?_
     obtain ⟨c25, h2⟩ := chk_of h1; clear h1
     obtain ⟨c26, h3⟩ := chk_of h2; clear h2
     refine bindX h3 fun t5 et5 h4 => h_alts ?_
     refine h_runO S rfl ⟨_, _, rfl, rfl, c24⟩ ?_ ?_
     ·refine s_iaddrO S (ty' := (Ty.atZ ch_0_3 Y30)) rfl .h rfl underlying32 T30 c25.1 c25.2 rfl fun g27 a hA17 S => CL.bk hw S .nil le fun hw => h_alts ?_
      refine h_runO S rfl ⟨_, _, rfl, rfl, c24⟩ ?_ ?_
      ·refine s_ldRA S (ty' := (Ty.atZ ch_0_3 Y30)) (i := y92) (off := 0) (fun c => ((Ty.atZ ch_0_3 Y30).segs (gt y43 y92) c)) rfl hA17 .h T30 c25.1 c25.2 rfl (fun _ => rfl) rfl fun ch21 a S => ?_
       refine CL.bk hw S .nil le fun hw => h_run' S rfl ⟨_, _, rfl, rfl, c24⟩ (s_iaddrO S (ty' := (Ty.atZ ch_0_3 Y30)) rfl .h rfl underlying32 T30 c26.1 c26.2 rfl fun g28 a hA18 S => CL.bk hw S .nil le fun hw => h_run' S rfl ⟨_, _, rfl, rfl, c24⟩ (s_ldRA S (ty' := (Ty.atZ ch_0_3 Y30)) (i := (wr .i64 (y92 - 1))) (off := 0) (fun c => ((Ty.atZ ch_0_3 Y30).segs (gt y43 (wr .i64 (y92 - 1))) c)) rfl hA18 .h T30 c26.1 c26.2 rfl (fun _ => rfl) rfl fun ch22 a S => ?_))
       refine CL.bk hw S .nil le fun hw => h_run' S rfl ⟨_, _, rfl, rfl, c24⟩ (s_callL S (ds' := [(.agg ((Ty.atZ ch_0_3 Y30).segs (gt y43 y92) ch21)), (.agg ((Ty.atZ ch_0_3 Y30).segs (gt y43 (wr .i64 (y92 - 1))) ch22))]) (ds := [(.agg (Y30.segs (gt y43 y92) ch21)), (.agg (Y30.segs (gt y43 (wr .i64 (y92 - 1))) ch22))]) (fun (ch : Unit) => ((.i t5) : D)) (fun _ _ _ h => h) (by obtain ⟨mm, g1, gZ, g2⟩ := S.plend .h1; exact ⟨mm, g1, g2, fun ok => ⟨(okA_lend gZ ok.1), (okA_lend gZ ok.2.1), trivial⟩⟩) N35 rfl rfl rfl (fun _ => store_Store_All_1.ok (gt y43 y92) (gt y43 (wr .i64 (y92 - 1))) ch21.2.2.2.1.1 ch21.2.2.2.1.2 ch21.2.2.2.2.1 ch21.2.2.2.2.2 ch22.2.2.2.1.1 ch22.2.2.2.1.2 ch22.2.2.2.2.1 ch22.2.2.2.2.2 t5 et5 _ _) fun ch23 a w S => CL.bk hw S .nil le fun hw => ?_)
       replace CL := CL.add (t := 33) (d := (.i t5)) S rfl rfl
       refine h_bin S CL hw le (subR rfl) rfl rfl rfl rfl rfl ⟨_, _, rfl, rfl, c24⟩ fun a S CL => h_not S CL hw le (subR rfl) rfl rfl rfl ⟨_, _, rfl, rfl, c24⟩ fun a S CL => h_pick S CL hw le (subR rfl) (b := true) (hc_of rfl c24) rfl rfl rfl trivial fun a S CL => ?_
       refine h_done ?_; clear CL hw le
       refine x_thenN ?_
       exact j10 _ (!(decide (t5 < 0))) a w (S.sb rfl (.c0 (.c0 .n))) h4
      refine h_runO S rfl ⟨_, _, rfl, rfl, c24⟩ ?_ ?_
      ·refine s_iaddrO S (ty' := (Ty.atZ ch_0_3 Y30)) rfl .h rfl underlying32 T30 c26.1 c26.2 rfl fun g28 a hA18 S => CL.bk hw S .nil le fun hw => h_alts ?_
       refine h_runO S rfl ⟨_, _, rfl, rfl, c24⟩ ?_ ?_
       ·refine s_ldRA S (ty' := (Ty.atZ ch_0_3 Y30)) (i := y92) (off := 0) (fun c => ((Ty.atZ ch_0_3 Y30).segs (gt y43 y92) c)) rfl hA17 .h T30 c25.1 c25.2 rfl (fun _ => rfl) rfl fun ch21 a S => ?_
        refine CL.bk hw S .nil le fun hw => h_run' S rfl ⟨_, _, rfl, rfl, c24⟩ (s_ldRA S (ty' := (Ty.atZ ch_0_3 Y30)) (i := (wr .i64 (y92 - 1))) (off := 0) (fun c => ((Ty.atZ ch_0_3 Y30).segs (gt y43 (wr .i64 (y92 - 1))) c)) rfl hA18 .h T30 c26.1 c26.2 rfl (fun _ => rfl) rfl fun ch22 a S => ?_)
        refine CL.bk hw S .nil le fun hw => h_run' S rfl ⟨_, _, rfl, rfl, c24⟩ (s_callL S (ds' := [(.agg ((Ty.atZ ch_0_3 Y30).segs (gt y43 y92) ch21)), (.agg ((Ty.atZ ch_0_3 Y30).segs (gt y43 (wr .i64 (y92 - 1))) ch22))]) (ds := [(.agg (Y30.segs (gt y43 y92) ch21)), (.agg (Y30.segs (gt y43 (wr .i64 (y92 - 1))) ch22))]) (fun (ch : Unit) => ((.i t5) : D)) (fun _ _ _ h => h) (by obtain ⟨mm, g1, gZ, g2⟩ := S.plend .h1; exact ⟨mm, g1, g2, fun ok => ⟨(okA_lend gZ ok.1), (okA_lend gZ ok.2.1), trivial⟩⟩) N35 rfl rfl rfl (fun _ => store_Store_All_1.ok (gt y43 y92) (gt y43 (wr .i64 (y92 - 1))) ch21.2.2.2.1.1 ch21.2.2.2.1.2 ch21.2.2.2.2.1 ch21.2.2.2.2.2 ch22.2.2.2.1.1 ch22.2.2.2.1.2 ch22.2.2.2.2.1 ch22.2.2.2.2.2 t5 et5 _ _) fun ch23 a w S => CL.bk hw S .nil le fun hw => ?_)
        replace CL := CL.add (t := 33) (d := (.i t5)) S rfl rfl
        refine h_bin S CL hw le (subR rfl) rfl rfl rfl rfl rfl ⟨_, _, rfl, rfl, c24⟩ fun a S CL => h_not S CL hw le (subR rfl) rfl rfl rfl ⟨_, _, rfl, rfl, c24⟩ fun a S CL => h_pick S CL hw le (subR rfl) (b := true) (hc_of rfl c24) rfl rfl rfl trivial fun a S CL => ?_
        refine h_done ?_; clear CL hw le
        refine x_thenN ?_
        exact j10 _ (!(decide (t5 < 0))) a w (S.sb rfl (.c0 (.c0 .n))) h4
       refine h_runO S rfl ⟨_, _, rfl, rfl, c24⟩ ?_ ?_
       ·refine s_ldRA S (ty' := (Ty.atZ ch_0_3 Y30)) (i := (wr .i64 (y92 - 1))) (off := 0) (fun c => ((Ty.atZ ch_0_3 Y30).segs (gt y43 (wr .i64 (y92 - 1))) c)) rfl hA18 .h T30 c26.1 c26.2 rfl (fun _ => rfl) rfl fun ch21 a S => ?_
        refine CL.bk hw S .nil le fun hw => h_run' S rfl ⟨_, _, rfl, rfl, c24⟩ (s_ldRA S (ty' := (Ty.atZ ch_0_3 Y30)) (i := y92) (off := 0) (fun c => ((Ty.atZ ch_0_3 Y30).segs (gt y43 y92) c)) rfl hA17 .h T30 c25.1 c25.2 rfl (fun _ => rfl) rfl fun ch22 a S => ?_)
        refine CL.bk hw S .nil le fun hw => h_run' S rfl ⟨_, _, rfl, rfl, c24⟩ (s_callL S (ds' := [(.agg ((Ty.atZ ch_0_3 Y30).segs (gt y43 y92) ch22)), (.agg ((Ty.atZ ch_0_3 Y30).segs (gt y43 (wr .i64 (y92 - 1))) ch21))]) (ds := [(.agg (Y30.segs (gt y43 y92) ch22)), (.agg (Y30.segs (gt y43 (wr .i64 (y92 - 1))) ch21))]) (fun (ch : Unit) => ((.i t5) : D)) (fun _ _ _ h => h) (by obtain ⟨mm, g1, gZ, g2⟩ := S.plend .h1; exact ⟨mm, g1, g2, fun ok => ⟨(okA_lend gZ ok.1), (okA_lend gZ ok.2.1), trivial⟩⟩) N35 rfl rfl rfl (fun _ => store_Store_All_1.ok (gt y43 y92) (gt y43 (wr .i64 (y92 - 1))) ch22.2.2.2.1.1 ch22.2.2.2.1.2 ch22.2.2.2.2.1 ch22.2.2.2.2.2 ch21.2.2.2.1.1 ch21.2.2.2.1.2 ch21.2.2.2.2.1 ch21.2.2.2.2.2 t5 et5 _ _) fun ch23 a w S => CL.bk hw S .nil le fun hw => ?_)
        replace CL := CL.add (t := 33) (d := (.i t5)) S rfl rfl
        refine h_bin S CL hw le (subR rfl) rfl rfl rfl rfl rfl ⟨_, _, rfl, rfl, c24⟩ fun a S CL => h_not S CL hw le (subR rfl) rfl rfl rfl ⟨_, _, rfl, rfl, c24⟩ fun a S CL => h_pick S CL hw le (subR rfl) (b := true) (hc_of rfl c24) rfl rfl rfl trivial fun a S CL => ?_
        refine h_done ?_; clear CL hw le
        refine x_thenN ?_
        exact j10 _ (!(decide (t5 < 0))) a w (S.sb rfl (.c0 (.c0 .n))) h4
       exact h_nil
      exact h_nil
     refine h_runO S rfl ⟨_, _, rfl, rfl, c24⟩ ?_ ?_
     ·refine s_iaddrO S (ty' := (Ty.atZ ch_0_3 Y30)) rfl .h rfl underlying32 T30 c26.1 c26.2 rfl fun g27 a hA17 S => CL.bk hw S .nil le fun hw => h_alts ?_
      refine h_runO S rfl ⟨_, _, rfl, rfl, c24⟩ ?_ ?_
      ·refine s_iaddrO S (ty' := (Ty.atZ ch_0_3 Y30)) rfl .h rfl underlying32 T30 c25.1 c25.2 rfl fun g28 a hA18 S => CL.bk hw S .nil le fun hw => h_alts ?_
       refine h_runO S rfl ⟨_, _, rfl, rfl, c24⟩ ?_ ?_
       ·refine s_ldRA S (ty' := (Ty.atZ ch_0_3 Y30)) (i := y92) (off := 0) (fun c => ((Ty.atZ ch_0_3 Y30).segs (gt y43 y92) c)) rfl hA18 .h T30 c25.1 c25.2 rfl (fun _ => rfl) rfl fun ch21 a S => ?_
        refine CL.bk hw S .nil le fun hw => h_run' S rfl ⟨_, _, rfl, rfl, c24⟩ (s_ldRA S (ty' := (Ty.atZ ch_0_3 Y30)) (i := (wr .i64 (y92 - 1))) (off := 0) (fun c => ((Ty.atZ ch_0_3 Y30).segs (gt y43 (wr .i64 (y92 - 1))) c)) rfl hA17 .h T30 c26.1 c26.2 rfl (fun _ => rfl) rfl fun ch22 a S => ?_)
        refine CL.bk hw S .nil le fun hw => h_run' S rfl ⟨_, _, rfl, rfl, c24⟩ (s_callL S (ds' := [(.agg ((Ty.atZ ch_0_3 Y30).segs (gt y43 y92) ch21)), (.agg ((Ty.atZ ch_0_3 Y30).segs (gt y43 (wr .i64 (y92 - 1))) ch22))]) (ds := [(.agg (Y30.segs (gt y43 y92) ch21)), (.agg (Y30.segs (gt y43 (wr .i64 (y92 - 1))) ch22))]) (fun (ch : Unit) => ((.i t5) : D)) (fun _ _ _ h => h) (by obtain ⟨mm, g1, gZ, g2⟩ := S.plend .h1; exact ⟨mm, g1, g2, fun ok => ⟨(okA_lend gZ ok.1), (okA_lend gZ ok.2.1), trivial⟩⟩) N35 rfl rfl rfl (fun _ => store_Store_All_1.ok (gt y43 y92) (gt y43 (wr .i64 (y92 - 1))) ch21.2.2.2.1.1 ch21.2.2.2.1.2 ch21.2.2.2.2.1 ch21.2.2.2.2.2 ch22.2.2.2.1.1 ch22.2.2.2.1.2 ch22.2.2.2.2.1 ch22.2.2.2.2.2 t5 et5 _ _) fun ch23 a w S => CL.bk hw S .nil le fun hw => ?_)
        replace CL := CL.add (t := 33) (d := (.i t5)) S rfl rfl
        refine h_bin S CL hw le (subR rfl) rfl rfl rfl rfl rfl ⟨_, _, rfl, rfl, c24⟩ fun a S CL => h_not S CL hw le (subR rfl) rfl rfl rfl ⟨_, _, rfl, rfl, c24⟩ fun a S CL => h_pick S CL hw le (subR rfl) (b := true) (hc_of rfl c24) rfl rfl rfl trivial fun a S CL => ?_
        refine h_done ?_; clear CL hw le
        refine x_thenN ?_
        exact j10 _ (!(decide (t5 < 0))) a w (S.sb rfl (.c0 (.c0 .n))) h4
       refine h_runO S rfl ⟨_, _, rfl, rfl, c24⟩ ?_ ?_
       ·refine s_ldRA S (ty' := (Ty.atZ ch_0_3 Y30)) (i := (wr .i64 (y92 - 1))) (off := 0) (fun c => ((Ty.atZ ch_0_3 Y30).segs (gt y43 (wr .i64 (y92 - 1))) c)) rfl hA17 .h T30 c26.1 c26.2 rfl (fun _ => rfl) rfl fun ch21 a S => ?_
        refine CL.bk hw S .nil le fun hw => h_run' S rfl ⟨_, _, rfl, rfl, c24⟩ (s_ldRA S (ty' := (Ty.atZ ch_0_3 Y30)) (i := y92) (off := 0) (fun c => ((Ty.atZ ch_0_3 Y30).segs (gt y43 y92) c)) rfl hA18 .h T30 c25.1 c25.2 rfl (fun _ => rfl) rfl fun ch22 a S => ?_)
        refine CL.bk hw S .nil le fun hw => h_run' S rfl ⟨_, _, rfl, rfl, c24⟩ (s_callL S (ds' := [(.agg ((Ty.atZ ch_0_3 Y30).segs (gt y43 y92) ch22)), (.agg ((Ty.atZ ch_0_3 Y30).segs (gt y43 (wr .i64 (y92 - 1))) ch21))]) (ds := [(.agg (Y30.segs (gt y43 y92) ch22)), (.agg (Y30.segs (gt y43 (wr .i64 (y92 - 1))) ch21))]) (fun (ch : Unit) => ((.i t5) : D)) (fun _ _ _ h => h) (by obtain ⟨mm, g1, gZ, g2⟩ := S.plend .h1; exact ⟨mm, g1, g2, fun ok => ⟨(okA_lend gZ ok.1), (okA_lend gZ ok.2.1), trivial⟩⟩) N35 rfl rfl rfl (fun _ => store_Store_All_1.ok (gt y43 y92) (gt y43 (wr .i64 (y92 - 1))) ch22.2.2.2.1.1 ch22.2.2.2.1.2 ch22.2.2.2.2.1 ch22.2.2.2.2.2 ch21.2.2.2.1.1 ch21.2.2.2.1.2 ch21.2.2.2.2.1 ch21.2.2.2.2.2 t5 et5 _ _) fun ch23 a w S => CL.bk hw S .nil le fun hw => ?_)
        replace CL := CL.add (t := 33) (d := (.i t5)) S rfl rfl
        refine h_bin S CL hw le (subR rfl) rfl rfl rfl rfl rfl ⟨_, _, rfl, rfl, c24⟩ fun a S CL => h_not S CL hw le (subR rfl) rfl rfl rfl ⟨_, _, rfl, rfl, c24⟩ fun a S CL => h_pick S CL hw le (subR rfl) (b := true) (hc_of rfl c24) rfl rfl rfl trivial fun a S CL => ?_
        refine h_done ?_; clear CL hw le
        refine x_thenN ?_
        exact j10 _ (!(decide (t5 < 0))) a w (S.sb rfl (.c0 (.c0 .n))) h4
       exact h_nil
      refine h_runO S rfl ⟨_, _, rfl, rfl, c24⟩ ?_ ?_
      ·refine s_ldRA S (ty' := (Ty.atZ ch_0_3 Y30)) (i := (wr .i64 (y92 - 1))) (off := 0) (fun c => ((Ty.atZ ch_0_3 Y30).segs (gt y43 (wr .i64 (y92 - 1))) c)) rfl hA17 .h T30 c26.1 c26.2 rfl (fun _ => rfl) rfl fun ch21 a S => ?_
       refine CL.bk hw S .nil le fun hw => h_run' S rfl ⟨_, _, rfl, rfl, c24⟩ (s_iaddrO S (ty' := (Ty.atZ ch_0_3 Y30)) rfl .h rfl underlying32 T30 c25.1 c25.2 rfl fun g28 a hA18 S => CL.bk hw S .nil le fun hw => h_run' S rfl ⟨_, _, rfl, rfl, c24⟩ (s_ldRA S (ty' := (Ty.atZ ch_0_3 Y30)) (i := y92) (off := 0) (fun c => ((Ty.atZ ch_0_3 Y30).segs (gt y43 y92) c)) rfl hA18 .h T30 c25.1 c25.2 rfl (fun _ => rfl) rfl fun ch22 a S => ?_))
       refine CL.bk hw S .nil le fun hw => h_run' S rfl ⟨_, _, rfl, rfl, c24⟩ (s_callL S (ds' := [(.agg ((Ty.atZ ch_0_3 Y30).segs (gt y43 y92) ch22)), (.agg ((Ty.atZ ch_0_3 Y30).segs (gt y43 (wr .i64 (y92 - 1))) ch21))]) (ds := [(.agg (Y30.segs (gt y43 y92) ch22)), (.agg (Y30.segs (gt y43 (wr .i64 (y92 - 1))) ch21))]) (fun (ch : Unit) => ((.i t5) : D)) (fun _ _ _ h => h) (by obtain ⟨mm, g1, gZ, g2⟩ := S.plend .h1; exact ⟨mm, g1, g2, fun ok => ⟨(okA_lend gZ ok.1), (okA_lend gZ ok.2.1), trivial⟩⟩) N35 rfl rfl rfl (fun _ => store_Store_All_1.ok (gt y43 y92) (gt y43 (wr .i64 (y92 - 1))) ch22.2.2.2.1.1 ch22.2.2.2.1.2 ch22.2.2.2.2.1 ch22.2.2.2.2.2 ch21.2.2.2.1.1 ch21.2.2.2.1.2 ch21.2.2.2.2.1 ch21.2.2.2.2.2 t5 et5 _ _) fun ch23 a w S => CL.bk hw S .nil le fun hw => ?_)
       replace CL := CL.add (t := 33) (d := (.i t5)) S rfl rfl
       refine h_bin S CL hw le (subR rfl) rfl rfl rfl rfl rfl ⟨_, _, rfl, rfl, c24⟩ fun a S CL => h_not S CL hw le (subR rfl) rfl rfl rfl ⟨_, _, rfl, rfl, c24⟩ fun a S CL => h_pick S CL hw le (subR rfl) (b := true) (hc_of rfl c24) rfl rfl rfl trivial fun a S CL => ?_
       refine h_done ?_; clear CL hw le
       refine x_thenN ?_
       exact j10 _ (!(decide (t5 < 0))) a w (S.sb rfl (.c0 (.c0 .n))) h4
      exact h_nil
     exact h_nil
    ·refine h_skip S CL rfl rfl rfl (ne_bool c24) rfl fun a S CL => h_skip S CL rfl rfl rfl (ne_bool c24) rfl fun a S CL => h_skip S CL rfl rfl rfl (ne_bool c24) rfl fun a S CL => h_skip S CL rfl rfl rfl (ne_bool c24) rfl fun a S CL => h_skip S CL rfl rfl rfl (ne_bool c24) rfl fun a S CL => h_skip S CL rfl rfl rfl (ne_bool c24) rfl fun a S CL => h_alts ?_
     refine h_skipOt S rfl rfl rfl (ne_bool c24) rfl ?_ ?_
     ·clear S a; intro a S
      refine CL.bk hw S .nil le fun hw => h_alts ?_
      refine h_skipOt S rfl rfl rfl (ne_bool c24) rfl ?_ ?_
      ·clear S a; intro a S
       refine CL.bk hw S .nil le fun hw => h_skipRt S rfl rfl rfl (ne_bool c24) rfl fun a S => CL.bk hw S .nil le fun hw => h_skipRt S rfl rfl rfl (ne_bool c24) rfl fun a S => CL.bk hw S .nil le fun hw => h_skipRt S rfl rfl rfl (ne_bool c24) rfl fun a S => CL.bk hw S .nil le fun hw => ?_
       replace CL := CL.add (t := 33) (d := .u) S rfl rfl
       refine h_skip S CL rfl rfl rfl (ne_bool c24) rfl fun a S CL => h_skip S CL rfl rfl rfl (ne_bool c24) rfl fun a S CL => h_pick S CL hw le (subR rfl) (b := false) (hc_of rfl c24) rfl rfl rfl trivial fun a S CL => ?_
       refine h_done ?_; clear CL hw le
       refine x_thenN ?_
       exact j10 _ false a w (S.sb rfl (.c0 (.c0 .n))) h1
      refine h_skipOt S rfl rfl rfl (ne_bool c24) rfl ?_ ?_
      ·clear S a; intro a S
       refine CL.bk hw S .nil le fun hw => h_alts ?_
       refine h_skipOt S rfl rfl rfl (ne_bool c24) rfl ?_ ?_
       ·clear S a; intro a S
        refine CL.bk hw S .nil le fun hw => h_skipRt S rfl rfl rfl (ne_bool c24) rfl fun a S => CL.bk hw S .nil le fun hw => h_skipRt S rfl rfl rfl (ne_bool c24) rfl fun a S => CL.bk hw S .nil le fun hw => ?_
        replace CL := CL.add (t := 33) (d := .u) S rfl rfl
        refine h_skip S CL rfl rfl rfl (ne_bool c24) rfl fun a S CL => h_skip S CL rfl rfl rfl (ne_bool c24) rfl fun a S CL => h_pick S CL hw le (subR rfl) (b := false) (hc_of rfl c24) rfl rfl rfl trivial fun a S CL => ?_
        refine h_done ?_; clear CL hw le
        refine x_thenN ?_
        exact j10 _ false a w (S.sb rfl (.c0 (.c0 .n))) h1
       refine h_skipOt S rfl rfl rfl (ne_bool c24) rfl ?_ ?_
       ·clear S a; intro a S
        refine CL.bk hw S .nil le fun hw => h_skipRt S rfl rfl rfl (ne_bool c24) rfl fun a S => CL.bk hw S .nil le fun hw => h_skipRt S rfl rfl rfl (ne_bool c24) rfl fun a S => CL.bk hw S .nil le fun hw => ?_
        replace CL := CL.add (t := 33) (d := .u) S rfl rfl
        refine h_skip S CL rfl rfl rfl (ne_bool c24) rfl fun a S CL => h_skip S CL rfl rfl rfl (ne_bool c24) rfl fun a S CL => h_pick S CL hw le (subR rfl) (b := false) (hc_of rfl c24) rfl rfl rfl trivial fun a S CL => ?_
        refine h_done ?_; clear CL hw le
        refine x_thenN ?_
        exact j10 _ false a w (S.sb rfl (.c0 (.c0 .n))) h1
       exact h_nil
      exact h_nil
     refine h_skipOt S rfl rfl rfl (ne_bool c24) rfl ?_ ?_
     ·clear S a; intro a S
      refine CL.bk hw S .nil le fun hw => h_alts ?_
      refine h_skipOt S rfl rfl rfl (ne_bool c24) rfl ?_ ?_
      ·clear S a; intro a S
       refine CL.bk hw S .nil le fun hw => h_alts ?_
       refine h_skipOt S rfl rfl rfl (ne_bool c24) rfl ?_ ?_
       ·clear S a; intro a S
        refine CL.bk hw S .nil le fun hw => h_skipRt S rfl rfl rfl (ne_bool c24) rfl fun a S => CL.bk hw S .nil le fun hw => h_skipRt S rfl rfl rfl (ne_bool c24) rfl fun a S => CL.bk hw S .nil le fun hw => ?_
        replace CL := CL.add (t := 33) (d := .u) S rfl rfl
        refine h_skip S CL rfl rfl rfl (ne_bool c24) rfl fun a S CL => h_skip S CL rfl rfl rfl (ne_bool c24) rfl fun a S CL => h_pick S CL hw le (subR rfl) (b := false) (hc_of rfl c24) rfl rfl rfl trivial fun a S CL => ?_
        refine h_done ?_; clear CL hw le
        refine x_thenN ?_
        exact j10 _ false a w (S.sb rfl (.c0 (.c0 .n))) h1
       refine h_skipOt S rfl rfl rfl (ne_bool c24) rfl ?_ ?_
       ·clear S a; intro a S
        refine CL.bk hw S .nil le fun hw => h_skipRt S rfl rfl rfl (ne_bool c24) rfl fun a S => CL.bk hw S .nil le fun hw => h_skipRt S rfl rfl rfl (ne_bool c24) rfl fun a S => CL.bk hw S .nil le fun hw => ?_
        replace CL := CL.add (t := 33) (d := .u) S rfl rfl
        refine h_skip S CL rfl rfl rfl (ne_bool c24) rfl fun a S CL => h_skip S CL rfl rfl rfl (ne_bool c24) rfl fun a S CL => h_pick S CL hw le (subR rfl) (b := false) (hc_of rfl c24) rfl rfl rfl trivial fun a S CL => ?_
        refine h_done ?_; clear CL hw le
        refine x_thenN ?_
        exact j10 _ false a w (S.sb rfl (.c0 (.c0 .n))) h1
       exact h_nil
      refine h_skipOt S rfl rfl rfl (ne_bool c24) rfl ?_ ?_
      ·clear S a; intro a S
       refine CL.bk hw S .nil le fun hw => h_skipRt S rfl rfl rfl (ne_bool c24) rfl fun a S => CL.bk hw S .nil le fun hw => h_skipRt S rfl rfl rfl (ne_bool c24) rfl fun a S => CL.bk hw S .nil le fun hw => h_skipRt S rfl rfl rfl (ne_bool c24) rfl fun a S => CL.bk hw S .nil le fun hw => ?_
       replace CL := CL.add (t := 33) (d := .u) S rfl rfl
       refine h_skip S CL rfl rfl rfl (ne_bool c24) rfl fun a S CL => h_skip S CL rfl rfl rfl (ne_bool c24) rfl fun a S CL => h_pick S CL hw le (subR rfl) (b := false) (hc_of rfl c24) rfl rfl rfl trivial fun a S CL => ?_
       refine h_done ?_; clear CL hw le
       refine x_thenN ?_
       exact j10 _ false a w (S.sb rfl (.c0 (.c0 .n))) h1
      exact h_nil
     exact h_nil
  ·refine c_condF S rfl c1 (wp_exit (x_thenX (x_thenX (x_blockX (x_thenN ?_)))))
   exact j1 _ y43 a w (S.sub trivial (.c0 (.c0 .n))) h1
end
end GW
