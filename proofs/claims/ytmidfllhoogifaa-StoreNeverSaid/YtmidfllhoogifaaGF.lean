import Derived.Test.YtmidfllhoogifaaProg
import Derived.Test.YtmidfllhoogifaaGE
set_option linter.unusedVariables false
set_option linter.unusedSimpArgs false
set_option maxRecDepth 10000
set_option maxHeartbeats 4000000
namespace GW
open Go Go.RowKit Go.Proofs Go.Proofs.Try
noncomputable section
abbrev api_Account_n57_0z_4f35.Ty : Type := (List L30) → Int → Int → Int → Option (Int × Bool × (List L30))
def api_Account_n57_0z_4f35.Ctr (s : api_Account_n57_0z_4f35.Ty) : Prop := ∀ (x1 : List L30) (x2 : Int) (x3 : Int) (x4 : Int) (ch_0_0 : Option Addr) (ch_0_1 : Nat) (ch_0_2 : Nat) (ch_0_3 : Mem) (r : Int × Bool × (List L30)), Ct (C := Unit) Try.prog 57 (s x1 x2 x3 x4 = some r) [Res.row (Ty.atZ ch_0_3 Y30) 30 ch_0_0 ch_0_1 ch_0_2 x1, Res.priv ch_0_3] [(.s ch_0_0 ch_0_1 ch_0_2), (.i x2), (.i x3), (.i x4), (.v (.func (.func 35) #[] #[]))] (fun _ => (.tup [(false, [.i r.1]), (false, [.b r.2.1])])) fun _ => [Res.row (Ty.atZ ch_0_3 Y30) 30 ch_0_0 ch_0_1 ch_0_2 r.2.2, Res.priv ch_0_3]
def api_Account_n57_0z_4f35.j4 (x1 : List L30) (x2 : Int) (x4 : Int) (y7 : Int) : Option (Int × Bool × (List L30)) := some (y7, true, (((x1.set (Int.toNat x2) (gt x1 x4)).set (Int.toNat x4) (gt x1 x2)).set (Int.toNat y7) (gt ((x1.set (Int.toNat x2) (gt x1 x4)).set (Int.toNat x4) (gt x1 x2)) x2)).set (Int.toNat x2) (gt ((x1.set (Int.toNat x2) (gt x1 x4)).set (Int.toNat x4) (gt x1 x2)) y7))
def api_Account_n57_0z_4f35.j7 (x2 : Int) (y50 : List L30) (y51 : Int) : Option (Int × Bool × (List L30)) := some (y51, false, (y50.set (Int.toNat y51) (gt y50 x2)).set (Int.toNat x2) (gt y50 y51))
def api_Account_n57_0z_4f35.j6 (x2 : Int) (y50 : List L30) (y51 : Int) : Option (Int × Bool × (List L30)) := if (0 : Int) ≤ x2 ∧ x2 < ((y50).length : Int) then (if (0 : Int) ≤ y51 ∧ y51 < ((y50).length : Int) then (if (0 : Int) ≤ x2 ∧ x2 < ((y50.set (Int.toNat y51) (gt y50 x2)).length : Int) then (api_Account_n57_0z_4f35.j7 x2 y50 y51) else none) else none) else none
def api_Account_n57_0z_4f35.j10 (y79 : List L30) (rec1 : (List L30) → Int → Int → Option (Int × Bool × (List L30))) (y87 : Int) (y93 : Int) : Option (Int × Bool × (List L30)) := rec1 ((y79.set (Int.toNat y87) (gt y79 y93)).set (Int.toNat y93) (gt y79 y87)) (wr .i64 (y93 - 1)) (wr .i64 (y87 + 1))
def api_Account_n57_0z_4f35.j9 (x2 : Int) (y79 : List L30) (rec1 : (List L30) → Int → Int → Option (Int × Bool × (List L30))) (y87 : Int) (y93 : Int) : Option (Int × Bool × (List L30)) := if (decide (y93 < y87)) = true then (api_Account_n57_0z_4f35.j6 x2 y79 y93) else (if (0 : Int) ≤ y93 ∧ y93 < ((y79).length : Int) then (if (0 : Int) ≤ y87 ∧ y87 < ((y79).length : Int) then (if (0 : Int) ≤ y93 ∧ y93 < ((y79.set (Int.toNat y87) (gt y79 y93)).length : Int) then (api_Account_n57_0z_4f35.j10 y79 rec1 y87 y93) else none) else none) else none)
def api_Account_n57_0z_4f35.j11 (x2 : Int) (y79 : List L30) (rec1 : (List L30) → Int → Int → Option (Int × Bool × (List L30))) (y87 : Int) (y97 : Int) (rec2 : Int → Option (Int × Bool × (List L30))) (y98 : Bool) : Option (Int × Bool × (List L30)) := if y98 = true then (rec2 (wr .i64 (y97 - 1))) else (api_Account_n57_0z_4f35.j9 x2 y79 rec1 y87 y97)
def api_Account_n57_0z_4f35.b2 (x2 : Int) (y79 : List L30) (rec1 : (List L30) → Int → Int → Option (Int × Bool × (List L30))) (y87 : Int) (rec2 : Int → Option (Int × Bool × (List L30))) (y97 : Int) : Option (Int × Bool × (List L30)) := if (decide (y87 ≤ y97)) = true then (if (0 : Int) ≤ y97 ∧ y97 < ((y79).length : Int) then (if (0 : Int) ≤ x2 ∧ x2 < ((y79).length : Int) then ((store_Store_All_1.f (gt y79 y97) (gt y79 x2)).bind fun t1 => (api_Account_n57_0z_4f35.j11 x2 y79 rec1 y87 y97 rec2 (!(decide (t1 < 0))))) else none) else none) else (api_Account_n57_0z_4f35.j11 x2 y79 rec1 y87 y97 rec2 false)
def api_Account_n57_0z_4f35.l2 (x2 : Int) (y79 : List L30) (rec1 : (List L30) → Int → Int → Option (Int × Bool × (List L30))) (y87 : Int) : Nat → Int → Option (Int × Bool × (List L30))
  | 0, _ => none
  | q + 1, y97 => api_Account_n57_0z_4f35.b2 x2 y79 rec1 y87 (api_Account_n57_0z_4f35.l2 x2 y79 rec1 y87 q) y97
def api_Account_n57_0z_4f35.j8 (k : Nat) (x2 : Int) (y79 : List L30) (y80 : Int) (rec1 : (List L30) → Int → Int → Option (Int × Bool × (List L30))) (y87 : Int) : Option (Int × Bool × (List L30)) := api_Account_n57_0z_4f35.l2 x2 y79 rec1 y87 k y80
def api_Account_n57_0z_4f35.j12 (k : Nat) (x2 : Int) (y79 : List L30) (y80 : Int) (rec1 : (List L30) → Int → Int → Option (Int × Bool × (List L30))) (y102 : Int) (rec3 : Int → Option (Int × Bool × (List L30))) (y103 : Bool) : Option (Int × Bool × (List L30)) := if y103 = true then (rec3 (wr .i64 (y102 + 1))) else (api_Account_n57_0z_4f35.j8 k x2 y79 y80 rec1 y102)
def api_Account_n57_0z_4f35.b3 (k : Nat) (x2 : Int) (y79 : List L30) (y80 : Int) (rec1 : (List L30) → Int → Int → Option (Int × Bool × (List L30))) (rec3 : Int → Option (Int × Bool × (List L30))) (y102 : Int) : Option (Int × Bool × (List L30)) := if (decide (y102 ≤ y80)) = true then (if (0 : Int) ≤ y102 ∧ y102 < ((y79).length : Int) then (if (0 : Int) ≤ x2 ∧ x2 < ((y79).length : Int) then ((store_Store_All_1.f (gt y79 y102) (gt y79 x2)).bind fun t3 => (api_Account_n57_0z_4f35.j12 k x2 y79 y80 rec1 y102 rec3 (decide (t3 < 0)))) else none) else none) else (api_Account_n57_0z_4f35.j12 k x2 y79 y80 rec1 y102 rec3 false)
def api_Account_n57_0z_4f35.l3 (k : Nat) (x2 : Int) (y79 : List L30) (y80 : Int) (rec1 : (List L30) → Int → Int → Option (Int × Bool × (List L30))) : Nat → Int → Option (Int × Bool × (List L30))
  | 0, _ => none
  | q + 1, y102 => api_Account_n57_0z_4f35.b3 k x2 y79 y80 rec1 (api_Account_n57_0z_4f35.l3 k x2 y79 y80 rec1 q) y102
def api_Account_n57_0z_4f35.b1 (k : Nat) (x2 : Int) (rec1 : (List L30) → Int → Int → Option (Int × Bool × (List L30))) (y79 : List L30) (y80 : Int) (y81 : Int) : Option (Int × Bool × (List L30)) := api_Account_n57_0z_4f35.l3 k x2 y79 y80 rec1 k y81
def api_Account_n57_0z_4f35.l1 (k : Nat) (x2 : Int) : Nat → (List L30) → Int → Int → Option (Int × Bool × (List L30))
  | 0, _, _, _ => none
  | q + 1, y79, y80, y81 => api_Account_n57_0z_4f35.b1 k x2 (api_Account_n57_0z_4f35.l1 k x2 q) y79 y80 y81
def api_Account_n57_0z_4f35.j5 (k : Nat) (x1 : List L30) (x2 : Int) (x4 : Int) (y1 : Int) (y7 : Int) : Option (Int × Bool × (List L30)) := api_Account_n57_0z_4f35.l1 k x2 k ((((x1.set (Int.toNat x2) (gt x1 x4)).set (Int.toNat x4) (gt x1 x2)).set (Int.toNat y1) (gt ((x1.set (Int.toNat x2) (gt x1 x4)).set (Int.toNat x4) (gt x1 x2)) y7)).set (Int.toNat y7) (gt ((x1.set (Int.toNat x2) (gt x1 x4)).set (Int.toNat x4) (gt x1 x2)) y1)) (wr .i64 (y7 - 1)) (wr .i64 (y1 + 1))
def api_Account_n57_0z_4f35.j3 (k : Nat) (x1 : List L30) (x2 : Int) (x4 : Int) (y1 : Int) (y7 : Int) : Option (Int × Bool × (List L30)) := if (decide (y7 < y1)) = true then (if (0 : Int) ≤ x2 ∧ x2 < (((x1.set (Int.toNat x2) (gt x1 x4)).set (Int.toNat x4) (gt x1 x2)).length : Int) then (if (0 : Int) ≤ y7 ∧ y7 < (((x1.set (Int.toNat x2) (gt x1 x4)).set (Int.toNat x4) (gt x1 x2)).length : Int) then (if (0 : Int) ≤ x2 ∧ x2 < ((((x1.set (Int.toNat x2) (gt x1 x4)).set (Int.toNat x4) (gt x1 x2)).set (Int.toNat y7) (gt ((x1.set (Int.toNat x2) (gt x1 x4)).set (Int.toNat x4) (gt x1 x2)) x2)).length : Int) then (api_Account_n57_0z_4f35.j4 x1 x2 x4 y7) else none) else none) else none) else (if (0 : Int) ≤ y7 ∧ y7 < (((x1.set (Int.toNat x2) (gt x1 x4)).set (Int.toNat x4) (gt x1 x2)).length : Int) then (if (0 : Int) ≤ y1 ∧ y1 < (((x1.set (Int.toNat x2) (gt x1 x4)).set (Int.toNat x4) (gt x1 x2)).length : Int) then (if (0 : Int) ≤ y7 ∧ y7 < ((((x1.set (Int.toNat x2) (gt x1 x4)).set (Int.toNat x4) (gt x1 x2)).set (Int.toNat y1) (gt ((x1.set (Int.toNat x2) (gt x1 x4)).set (Int.toNat x4) (gt x1 x2)) y7)).length : Int) then (api_Account_n57_0z_4f35.j5 k x1 x2 x4 y1 y7) else none) else none) else none)
def api_Account_n57_0z_4f35.j13 (k : Nat) (x1 : List L30) (x2 : Int) (x4 : Int) (y1 : Int) (y107 : Int) (rec4 : Int → Option (Int × Bool × (List L30))) (y108 : Bool) : Option (Int × Bool × (List L30)) := if y108 = true then (rec4 (wr .i64 (y107 - 1))) else (api_Account_n57_0z_4f35.j3 k x1 x2 x4 y1 y107)
def api_Account_n57_0z_4f35.b4 (k : Nat) (x1 : List L30) (x2 : Int) (x4 : Int) (y1 : Int) (rec4 : Int → Option (Int × Bool × (List L30))) (y107 : Int) : Option (Int × Bool × (List L30)) := if (decide (y1 ≤ y107)) = true then (if (0 : Int) ≤ y107 ∧ y107 < (((x1.set (Int.toNat x2) (gt x1 x4)).set (Int.toNat x4) (gt x1 x2)).length : Int) then (if (0 : Int) ≤ x2 ∧ x2 < (((x1.set (Int.toNat x2) (gt x1 x4)).set (Int.toNat x4) (gt x1 x2)).length : Int) then ((store_Store_All_1.f (gt ((x1.set (Int.toNat x2) (gt x1 x4)).set (Int.toNat x4) (gt x1 x2)) y107) (gt ((x1.set (Int.toNat x2) (gt x1 x4)).set (Int.toNat x4) (gt x1 x2)) x2)).bind fun t5 => (api_Account_n57_0z_4f35.j13 k x1 x2 x4 y1 y107 rec4 (!(decide (t5 < 0))))) else none) else none) else (api_Account_n57_0z_4f35.j13 k x1 x2 x4 y1 y107 rec4 false)
def api_Account_n57_0z_4f35.l4 (k : Nat) (x1 : List L30) (x2 : Int) (x4 : Int) (y1 : Int) : Nat → Int → Option (Int × Bool × (List L30))
  | 0, _ => none
  | q + 1, y107 => api_Account_n57_0z_4f35.b4 k x1 x2 x4 y1 (api_Account_n57_0z_4f35.l4 k x1 x2 x4 y1 q) y107
def api_Account_n57_0z_4f35.j2 (k : Nat) (x1 : List L30) (x2 : Int) (x3 : Int) (x4 : Int) (y1 : Int) : Option (Int × Bool × (List L30)) := api_Account_n57_0z_4f35.l4 k x1 x2 x4 y1 k (wr .i64 (x3 - 1))
def api_Account_n57_0z_4f35.j14 (k : Nat) (x1 : List L30) (x2 : Int) (x3 : Int) (x4 : Int) (y112 : Int) (rec5 : Int → Option (Int × Bool × (List L30))) (y113 : Bool) : Option (Int × Bool × (List L30)) := if y113 = true then (rec5 (wr .i64 (y112 + 1))) else (api_Account_n57_0z_4f35.j2 k x1 x2 x3 x4 y112)
def api_Account_n57_0z_4f35.b5 (k : Nat) (x1 : List L30) (x2 : Int) (x3 : Int) (x4 : Int) (rec5 : Int → Option (Int × Bool × (List L30))) (y112 : Int) : Option (Int × Bool × (List L30)) := if (decide (y112 ≤ (wr .i64 (x3 - 1)))) = true then (if (0 : Int) ≤ y112 ∧ y112 < (((x1.set (Int.toNat x2) (gt x1 x4)).set (Int.toNat x4) (gt x1 x2)).length : Int) then (if (0 : Int) ≤ x2 ∧ x2 < (((x1.set (Int.toNat x2) (gt x1 x4)).set (Int.toNat x4) (gt x1 x2)).length : Int) then ((store_Store_All_1.f (gt ((x1.set (Int.toNat x2) (gt x1 x4)).set (Int.toNat x4) (gt x1 x2)) y112) (gt ((x1.set (Int.toNat x2) (gt x1 x4)).set (Int.toNat x4) (gt x1 x2)) x2)).bind fun t7 => (api_Account_n57_0z_4f35.j14 k x1 x2 x3 x4 y112 rec5 (decide (t7 < 0)))) else none) else none) else (api_Account_n57_0z_4f35.j14 k x1 x2 x3 x4 y112 rec5 false)
def api_Account_n57_0z_4f35.l5 (k : Nat) (x1 : List L30) (x2 : Int) (x3 : Int) (x4 : Int) : Nat → Int → Option (Int × Bool × (List L30))
  | 0, _ => none
  | q + 1, y112 => api_Account_n57_0z_4f35.b5 k x1 x2 x3 x4 (api_Account_n57_0z_4f35.l5 k x1 x2 x3 x4 q) y112
def api_Account_n57_0z_4f35.j1 (k : Nat) (x1 : List L30) (x2 : Int) (x3 : Int) (x4 : Int) : Option (Int × Bool × (List L30)) := api_Account_n57_0z_4f35.l5 k x1 x2 x3 x4 k (wr .i64 (x2 + 1))
def api_Account_n57_0z_4f35.f (k : Nat) (x1 : List L30) (x2 : Int) (x3 : Int) (x4 : Int) : Option (Int × Bool × (List L30)) := if (0 : Int) ≤ x4 ∧ x4 < ((x1).length : Int) then (if (0 : Int) ≤ x2 ∧ x2 < ((x1).length : Int) then (if (0 : Int) ≤ x4 ∧ x4 < ((x1.set (Int.toNat x2) (gt x1 x4)).length : Int) then (api_Account_n57_0z_4f35.j1 k x1 x2 x3 x4) else none) else none) else none
theorem api_Account_n57_0z_4f35.ok (k : Nat) : api_Account_n57_0z_4f35.Ctr (api_Account_n57_0z_4f35.f k) := by
 intro x1 x2 x3 x4 ch_0_0 ch_0_1 ch_0_2 ch_0_3 r h0 mi w0 ok hm
 delta api_Account_n57_0z_4f35.f at h0
 refine c_enterZ (n := 178) ok hm func57 rfl rfl rfl fun b0 hb a S => c_region (s_assign S rfl rfl fun a S => s_assign S rfl rfl fun a S => c_end (wp_seq_k fun K1 hK1 => ?_))
 have j1 : ∀ m a w, St 178 m b0 [(0, (.s ch_0_0 ch_0_1 ch_0_2)), (1, (.i x2)), (2, (.i x3)), (4, (.v (.func (.func 35) #[] #[])))] [Res.row (Ty.atZ ch_0_3 Y30) 30 ch_0_0 ch_0_1 ch_0_2 ((x1.set (Int.toNat x2) (gt x1 x4)).set (Int.toNat x4) (gt x1 x2)), Res.priv ch_0_3] a w → api_Account_n57_0z_4f35.j1 k x1 x2 x3 x4 = some r → K1 a w := by
  intro m a w S h0
  delta api_Account_n57_0z_4f35.j1 at h0
  refine hK1 a w (c_region (s_move S rfl rfl fun a S => s_bin S rfl rfl rfl rfl fun a S => s_move S rfl rfl fun a S => s_bin S rfl rfl rfl rfl fun a S => s_assign S rfl rfl fun a S => s_assign S rfl rfl fun a S => c_end (wp_seq_k fun K2 hK2 => ?_)))
  have j2 : ∀ m y1 a w, St 178 m b0 [(13, (.i (wr .i64 (x3 - 1)))), (12, (.i y1)), (0, (.s ch_0_0 ch_0_1 ch_0_2)), (1, (.i x2)), (4, (.v (.func (.func 35) #[] #[])))] [Res.row (Ty.atZ ch_0_3 Y30) 30 ch_0_0 ch_0_1 ch_0_2 ((x1.set (Int.toNat x2) (gt x1 x4)).set (Int.toNat x4) (gt x1 x2)), Res.priv ch_0_3] a w → api_Account_n57_0z_4f35.j2 k x1 x2 x3 x4 y1 = some r → K2 a w := by
   intro m y1 a w S h0
   delta api_Account_n57_0z_4f35.j2 at h0
   refine hK2 a w (wp_seq_k fun K3 hK3 => ?_)
   have j3 : ∀ m y7 a w, St 178 m b0 [(13, (.i y7)), (12, (.i y1)), (0, (.s ch_0_0 ch_0_1 ch_0_2)), (1, (.i x2)), (4, (.v (.func (.func 35) #[] #[])))] [Res.row (Ty.atZ ch_0_3 Y30) 30 ch_0_0 ch_0_1 ch_0_2 ((x1.set (Int.toNat x2) (gt x1 x4)).set (Int.toNat x4) (gt x1 x2)), Res.priv ch_0_3] a w → api_Account_n57_0z_4f35.j3 k x1 x2 x4 y1 y7 = some r → K3 a w := by
    intro m y7 a w S h0
    delta api_Account_n57_0z_4f35.j3 at h0
    refine hK3 a w (wp_seq (c_region (s_move S rfl rfl fun a S => s_move S rfl rfl fun a S => s_bin S rfl rfl rfl rfl fun a S => c_end ?_)))
    rcases ite_of h0 with ⟨c1, h1⟩ | ⟨c1, h1⟩
    ·refine c_condT S rfl c1 (wp_seq_k fun K4 hK4 => ?_)
     have j4 : ∀ m a w, St 178 m b0 [(13, (.i y7))] [Res.row (Ty.atZ ch_0_3 Y30) 30 ch_0_0 ch_0_1 ch_0_2 ((((x1.set (Int.toNat x2) (gt x1 x4)).set (Int.toNat x4) (gt x1 x2)).set (Int.toNat y7) (gt ((x1.set (Int.toNat x2) (gt x1 x4)).set (Int.toNat x4) (gt x1 x2)) x2)).set (Int.toNat x2) (gt ((x1.set (Int.toNat x2) (gt x1 x4)).set (Int.toNat x4) (gt x1 x2)) y7)), Res.priv ch_0_3] a w → api_Account_n57_0z_4f35.j4 x1 x2 x4 y7 = some r → K4 a w := by
      intro m a w S h0
      delta api_Account_n57_0z_4f35.j4 at h0
      refine hK4 a w (c_region (s_move S rfl rfl fun a S => s_assign S rfl rfl fun a S => s_assign S rfl rfl fun a S => c_end (wp_ret (x_thenR ?_))))
      obtain rfl := Option.some.inj h0
      exact b_ret2 (d1 := (.i y7)) (d2 := (.b true)) S rfl rfl rfl fun ok1 ok2 => S.retX (Hx := []) hb _ _ (() : Unit) (.c0 (.c0 .n)) ⟨⟨ok1, trivial⟩, ⟨ok2, trivial⟩, trivial⟩
     refine c_heldS S (.take 0 (.take 1 (.take 2 (.take 3 (.take 4 (.take 5 (.take 8 (.take 9 (.alts (.run 6 true (.alts (.run 7 true (.alts (.run 10 true (.alts (.run 11 true (.alts (.run 12 true (.alts (.run 13 true (.alts (.run 14 true (.alts (.run 15 false .done .nil)) .nil)) .nil)) .nil)) .nil)) .nil)) (.run 10 true (.alts (.run 7 true (.alts (.run 11 true (.alts (.run 12 true (.alts (.run 13 true (.alts (.run 14 true (.alts (.run 15 false .done .nil)) .nil)) .nil)) .nil)) .nil)) (.run 11 true (.alts (.run 7 true (.alts (.run 12 true (.alts (.run 13 true (.alts (.run 14 true (.alts (.run 15 false .done .nil)) .nil)) .nil)) .nil)) .nil)) .nil))) .nil))) (.run 10 true (.alts (.run 6 true (.alts (.run 7 true (.alts (.run 11 true (.alts (.run 12 true (.alts (.run 13 true (.alts (.run 14 true (.alts (.run 15 false .done .nil)) .nil)) .nil)) .nil)) .nil)) (.run 11 true (.alts (.run 7 true (.alts (.run 12 true (.alts (.run 13 true (.alts (.run 14 true (.alts (.run 15 false .done .nil)) .nil)) .nil)) .nil)) .nil)) .nil))) (.run 11 true (.alts (.run 6 true (.alts (.run 7 true (.alts (.run 12 true (.alts (.run 13 true (.alts (.run 14 true (.alts (.run 15 false .done .nil)) .nil)) .nil)) .nil)) .nil)) .nil)) .nil))) .nil))))))))))) 15 [] .nil trivial [(13, (.i y7)), (0, (.s ch_0_0 ch_0_1 ch_0_2)), (1, (.i x2))] (subR rfl) (by kernel_rfl) (by kernel_rfl) fun w S CL hw le => ?_
     refine h_move S CL hw le (subR rfl) rfl rfl rfl trivial fun a S CL => h_move S CL hw le (subR rfl) rfl rfl rfl trivial fun a S CL => h_move S CL hw le (subR rfl) rfl rfl rfl trivial fun a S CL => h_move S CL hw le (subR rfl) rfl rfl rfl trivial fun a S CL => h_move S CL hw le (subR rfl) rfl rfl rfl trivial fun a S CL => h_move S CL hw le (subR rfl) rfl rfl rfl trivial fun a S CL => h_move S CL hw le (subR rfl) rfl rfl rfl trivial fun a S CL => h_move S CL hw le (subR rfl) rfl rfl rfl trivial fun a S CL => ?_
     obtain ⟨c2, h2⟩ := chk_of h1; clear h1
     obtain ⟨c3, h3⟩ := chk_of h2; clear h2
     obtain ⟨c4, h4⟩ := chk_of h3; clear h3
     refine h_alts ?_
     refine h_runO S rfl trivial ?_ ?_
     ·refine s_iaddrO S (ty' := (Ty.atZ ch_0_3 Y30)) rfl .h rfl underlying32 T30 c2.1 c2.2 rfl fun g1 a hA1 S => CL.bk hw S .nil le fun hw => h_alts ?_
      refine h_runO S rfl trivial ?_ ?_
      ·refine s_ldRA S (ty' := (Ty.atZ ch_0_3 Y30)) (i := x2) (off := 0) (fun c => ((Ty.atZ ch_0_3 Y30).segs (gt ((x1.set (Int.toNat x2) (gt x1 x4)).set (Int.toNat x4) (gt x1 x2)) x2) c)) rfl hA1 .h T30 c2.1 c2.2 rfl (fun _ => rfl) rfl fun ch1 a S => ?_
       refine CL.br hw S .nil le rfl trivial fun hw => (s_iaddrO S (ty' := (Ty.atZ ch_0_3 Y30)) rfl .h rfl underlying32 T30 c3.1 c3.2 rfl fun g2 a hA2 S => CL.br hw S .nil le rfl trivial fun hw => (s_ldRA S (ty' := (Ty.atZ ch_0_3 Y30)) (i := y7) (off := 0) (fun c => ((Ty.atZ ch_0_3 Y30).segs (gt ((x1.set (Int.toNat x2) (gt x1 x4)).set (Int.toNat x4) (gt x1 x2)) y7) c)) rfl hA2 .h T30 c3.1 c3.2 rfl (fun _ => rfl) rfl fun ch2 a S => ?_))
       refine CL.br hw S .nil le rfl trivial fun hw => (s_iaddrO S (ty' := (Ty.atZ ch_0_3 Y30)) rfl .h rfl underlying32 T30 c3.1 c3.2 rfl fun g3 a hA3 S => CL.br hw S .nil le rfl trivial fun hw => (s_stR S (ty' := (Ty.atZ ch_0_3 Y30)) (i := y7) (off := 0) (u := gt ((x1.set (Int.toNat x2) (gt x1 x4)).set (Int.toNat x4) (gt x1 x2)) x2) (fun _ => ch1) rfl rfl rfl hA3 .h T30 c3.1 c3.2 rfl (show 0 + 27 ≤ (Y30).size by decide) rfl (fun _ => rfl) fun w S => CL.br hw S .nil le rfl trivial fun hw => (s_iaddrO S (ty' := (Ty.atZ ch_0_3 Y30)) rfl .h rfl underlying32 T30 c4.1 c4.2 rfl fun g4 a hA4 S => CL.br hw S .nil le rfl trivial fun hw => (s_stR S (ty' := (Ty.atZ ch_0_3 Y30)) (i := x2) (off := 0) (u := gt ((x1.set (Int.toNat x2) (gt x1 x4)).set (Int.toNat x4) (gt x1 x2)) y7) (fun _ => ch2) rfl rfl rfl hA4 .h T30 c4.1 c4.2 rfl (show 0 + 27 ≤ (Y30).size by decide) rfl (fun _ => rfl) fun w S => ?_))))
       refine h_back ⟨fun h => (nomatch h), ?_⟩
       refine h_done ?_; clear CL hw le
       refine x_thenN ?_
       exact j4 _ a w (S.sub ⟨rfl, trivial⟩ (.c0 (.c0 .n))) h4
      refine h_runO S rfl trivial ?_ ?_
      ·refine s_iaddrO S (ty' := (Ty.atZ ch_0_3 Y30)) rfl .h rfl underlying32 T30 c3.1 c3.2 rfl fun g2 a hA2 S => CL.bk hw S .nil le fun hw => h_alts ?_
       refine h_runO S rfl trivial ?_ ?_
       ·refine s_ldRA S (ty' := (Ty.atZ ch_0_3 Y30)) (i := x2) (off := 0) (fun c => ((Ty.atZ ch_0_3 Y30).segs (gt ((x1.set (Int.toNat x2) (gt x1 x4)).set (Int.toNat x4) (gt x1 x2)) x2) c)) rfl hA1 .h T30 c2.1 c2.2 rfl (fun _ => rfl) rfl fun ch1 a S => ?_
        refine CL.br hw S .nil le rfl trivial fun hw => (s_ldRA S (ty' := (Ty.atZ ch_0_3 Y30)) (i := y7) (off := 0) (fun c => ((Ty.atZ ch_0_3 Y30).segs (gt ((x1.set (Int.toNat x2) (gt x1 x4)).set (Int.toNat x4) (gt x1 x2)) y7) c)) rfl hA2 .h T30 c3.1 c3.2 rfl (fun _ => rfl) rfl fun ch2 a S => ?_)
        refine CL.br hw S .nil le rfl trivial fun hw => (s_iaddrO S (ty' := (Ty.atZ ch_0_3 Y30)) rfl .h rfl underlying32 T30 c3.1 c3.2 rfl fun g3 a hA3 S => CL.br hw S .nil le rfl trivial fun hw => (s_stR S (ty' := (Ty.atZ ch_0_3 Y30)) (i := y7) (off := 0) (u := gt ((x1.set (Int.toNat x2) (gt x1 x4)).set (Int.toNat x4) (gt x1 x2)) x2) (fun _ => ch1) rfl rfl rfl hA3 .h T30 c3.1 c3.2 rfl (show 0 + 27 ≤ (Y30).size by decide) rfl (fun _ => rfl) fun w S => CL.br hw S .nil le rfl trivial fun hw => (s_iaddrO S (ty' := (Ty.atZ ch_0_3 Y30)) rfl .h rfl underlying32 T30 c4.1 c4.2 rfl fun g4 a hA4 S => CL.br hw S .nil le rfl trivial fun hw => (s_stR S (ty' := (Ty.atZ ch_0_3 Y30)) (i := x2) (off := 0) (u := gt ((x1.set (Int.toNat x2) (gt x1 x4)).set (Int.toNat x4) (gt x1 x2)) y7) (fun _ => ch2) rfl rfl rfl hA4 .h T30 c4.1 c4.2 rfl (show 0 + 27 ≤ (Y30).size by decide) rfl (fun _ => rfl) fun w S => ?_))))
        refine h_back ⟨fun h => (nomatch h), ?_⟩
        refine h_done ?_; clear CL hw le
        refine x_thenN ?_
        exact j4 _ a w (S.sub ⟨rfl, trivial⟩ (.c0 (.c0 .n))) h4
       refine h_runO S rfl trivial ?_ ?_
       ·refine s_ldRA S (ty' := (Ty.atZ ch_0_3 Y30)) (i := y7) (off := 0) (fun c => ((Ty.atZ ch_0_3 Y30).segs (gt ((x1.set (Int.toNat x2) (gt x1 x4)).set (Int.toNat x4) (gt x1 x2)) y7) c)) rfl hA2 .h T30 c3.1 c3.2 rfl (fun _ => rfl) rfl fun ch1 a S => ?_
        refine CL.br hw S .nil le rfl trivial fun hw => (s_ldRA S (ty' := (Ty.atZ ch_0_3 Y30)) (i := x2) (off := 0) (fun c => ((Ty.atZ ch_0_3 Y30).segs (gt ((x1.set (Int.toNat x2) (gt x1 x4)).set (Int.toNat x4) (gt x1 x2)) x2) c)) rfl hA1 .h T30 c2.1 c2.2 rfl (fun _ => rfl) rfl fun ch2 a S => ?_)
        refine CL.br hw S .nil le rfl trivial fun hw => (s_iaddrO S (ty' := (Ty.atZ ch_0_3 Y30)) rfl .h rfl underlying32 T30 c3.1 c3.2 rfl fun g3 a hA3 S => CL.br hw S .nil le rfl trivial fun hw => (s_stR S (ty' := (Ty.atZ ch_0_3 Y30)) (i := y7) (off := 0) (u := gt ((x1.set (Int.toNat x2) (gt x1 x4)).set (Int.toNat x4) (gt x1 x2)) x2) (fun _ => ch2) rfl rfl rfl hA3 .h T30 c3.1 c3.2 rfl (show 0 + 27 ≤ (Y30).size by decide) rfl (fun _ => rfl) fun w S => CL.br hw S .nil le rfl trivial fun hw => (s_iaddrO S (ty' := (Ty.atZ ch_0_3 Y30)) rfl .h rfl underlying32 T30 c4.1 c4.2 rfl fun g4 a hA4 S => CL.br hw S .nil le rfl trivial fun hw => (s_stR S (ty' := (Ty.atZ ch_0_3 Y30)) (i := x2) (off := 0) (u := gt ((x1.set (Int.toNat x2) (gt x1 x4)).set (Int.toNat x4) (gt x1 x2)) y7) (fun _ => ch1) rfl rfl rfl hA4 .h T30 c4.1 c4.2 rfl (show 0 + 27 ≤ (Y30).size by decide) rfl (fun _ => rfl) fun w S => ?_))))
        refine h_back ⟨fun h => (nomatch h), ?_⟩
        refine h_done ?_; clear CL hw le
        refine x_thenN ?_
        exact j4 _ a w (S.sub ⟨rfl, trivial⟩ (.c0 (.c0 .n))) h4
       exact h_nil
      exact h_nil
     refine h_runO S rfl trivial ?_ ?_
     ·refine s_iaddrO S (ty' := (Ty.atZ ch_0_3 Y30)) rfl .h rfl underlying32 T30 c3.1 c3.2 rfl fun g1 a hA1 S => CL.bk hw S .nil le fun hw => h_alts ?_
      refine h_runO S rfl trivial ?_ ?_
      ·refine s_iaddrO S (ty' := (Ty.atZ ch_0_3 Y30)) rfl .h rfl underlying32 T30 c2.1 c2.2 rfl fun g2 a hA2 S => CL.bk hw S .nil le fun hw => h_alts ?_
       refine h_runO S rfl trivial ?_ ?_
       ·refine s_ldRA S (ty' := (Ty.atZ ch_0_3 Y30)) (i := x2) (off := 0) (fun c => ((Ty.atZ ch_0_3 Y30).segs (gt ((x1.set (Int.toNat x2) (gt x1 x4)).set (Int.toNat x4) (gt x1 x2)) x2) c)) rfl hA2 .h T30 c2.1 c2.2 rfl (fun _ => rfl) rfl fun ch1 a S => ?_
        refine CL.br hw S .nil le rfl trivial fun hw => (s_ldRA S (ty' := (Ty.atZ ch_0_3 Y30)) (i := y7) (off := 0) (fun c => ((Ty.atZ ch_0_3 Y30).segs (gt ((x1.set (Int.toNat x2) (gt x1 x4)).set (Int.toNat x4) (gt x1 x2)) y7) c)) rfl hA1 .h T30 c3.1 c3.2 rfl (fun _ => rfl) rfl fun ch2 a S => ?_)
        refine CL.br hw S .nil le rfl trivial fun hw => (s_iaddrO S (ty' := (Ty.atZ ch_0_3 Y30)) rfl .h rfl underlying32 T30 c3.1 c3.2 rfl fun g3 a hA3 S => CL.br hw S .nil le rfl trivial fun hw => (s_stR S (ty' := (Ty.atZ ch_0_3 Y30)) (i := y7) (off := 0) (u := gt ((x1.set (Int.toNat x2) (gt x1 x4)).set (Int.toNat x4) (gt x1 x2)) x2) (fun _ => ch1) rfl rfl rfl hA3 .h T30 c3.1 c3.2 rfl (show 0 + 27 ≤ (Y30).size by decide) rfl (fun _ => rfl) fun w S => CL.br hw S .nil le rfl trivial fun hw => (s_iaddrO S (ty' := (Ty.atZ ch_0_3 Y30)) rfl .h rfl underlying32 T30 c4.1 c4.2 rfl fun g4 a hA4 S => CL.br hw S .nil le rfl trivial fun hw => (s_stR S (ty' := (Ty.atZ ch_0_3 Y30)) (i := x2) (off := 0) (u := gt ((x1.set (Int.toNat x2) (gt x1 x4)).set (Int.toNat x4) (gt x1 x2)) y7) (fun _ => ch2) rfl rfl rfl hA4 .h T30 c4.1 c4.2 rfl (show 0 + 27 ≤ (Y30).size by decide) rfl (fun _ => rfl) fun w S => ?_))))
        refine h_back ⟨fun h => (nomatch h), ?_⟩
        refine h_done ?_; clear CL hw le
        refine x_thenN ?_
        exact j4 _ a w (S.sub ⟨rfl, trivial⟩ (.c0 (.c0 .n))) h4
       refine h_runO S rfl trivial ?_ ?_
       ·refine s_ldRA S (ty' := (Ty.atZ ch_0_3 Y30)) (i := y7) (off := 0) (fun c => ((Ty.atZ ch_0_3 Y30).segs (gt ((x1.set (Int.toNat x2) (gt x1 x4)).set (Int.toNat x4) (gt x1 x2)) y7) c)) rfl hA1 .h T30 c3.1 c3.2 rfl (fun _ => rfl) rfl fun ch1 a S => ?_
        refine CL.br hw S .nil le rfl trivial fun hw => (s_ldRA S (ty' := (Ty.atZ ch_0_3 Y30)) (i := x2) (off := 0) (fun c => ((Ty.atZ ch_0_3 Y30).segs (gt ((x1.set (Int.toNat x2) (gt x1 x4)).set (Int.toNat x4) (gt x1 x2)) x2) c)) rfl hA2 .h T30 c2.1 c2.2 rfl (fun _ => rfl) rfl fun ch2 a S => ?_)
        refine CL.br hw S .nil le rfl trivial fun hw => (s_iaddrO S (ty' := (Ty.atZ ch_0_3 Y30)) rfl .h rfl underlying32 T30 c3.1 c3.2 rfl fun g3 a hA3 S => CL.br hw S .nil le rfl trivial fun hw => (s_stR S (ty' := (Ty.atZ ch_0_3 Y30)) (i := y7) (off := 0) (u := gt ((x1.set (Int.toNat x2) (gt x1 x4)).set (Int.toNat x4) (gt x1 x2)) x2) (fun _ => ch2) rfl rfl rfl hA3 .h T30 c3.1 c3.2 rfl (show 0 + 27 ≤ (Y30).size by decide) rfl (fun _ => rfl) fun w S => CL.br hw S .nil le rfl trivial fun hw => (s_iaddrO S (ty' := (Ty.atZ ch_0_3 Y30)) rfl .h rfl underlying32 T30 c4.1 c4.2 rfl fun g4 a hA4 S => CL.br hw S .nil le rfl trivial fun hw => (s_stR S (ty' := (Ty.atZ ch_0_3 Y30)) (i := x2) (off := 0) (u := gt ((x1.set (Int.toNat x2) (gt x1 x4)).set (Int.toNat x4) (gt x1 x2)) y7) (fun _ => ch1) rfl rfl rfl hA4 .h T30 c4.1 c4.2 rfl (show 0 + 27 ≤ (Y30).size by decide) rfl (fun _ => rfl) fun w S => ?_))))
        refine h_back ⟨fun h => (nomatch h), ?_⟩
        refine h_done ?_; clear CL hw le
        refine x_thenN ?_
        exact j4 _ a w (S.sub ⟨rfl, trivial⟩ (.c0 (.c0 .n))) h4
       exact h_nil
      refine h_runO S rfl trivial ?_ ?_
      ·refine s_ldRA S (ty' := (Ty.atZ ch_0_3 Y30)) (i := y7) (off := 0) (fun c => ((Ty.atZ ch_0_3 Y30).segs (gt ((x1.set (Int.toNat x2) (gt x1 x4)).set (Int.toNat x4) (gt x1 x2)) y7) c)) rfl hA1 .h T30 c3.1 c3.2 rfl (fun _ => rfl) rfl fun ch1 a S => ?_
       refine CL.br hw S .nil le rfl trivial fun hw => (s_iaddrO S (ty' := (Ty.atZ ch_0_3 Y30)) rfl .h rfl underlying32 T30 c2.1 c2.2 rfl fun g2 a hA2 S => CL.br hw S .nil le rfl trivial fun hw => (s_ldRA S (ty' := (Ty.atZ ch_0_3 Y30)) (i := x2) (off := 0) (fun c => ((Ty.atZ ch_0_3 Y30).segs (gt ((x1.set (Int.toNat x2) (gt x1 x4)).set (Int.toNat x4) (gt x1 x2)) x2) c)) rfl hA2 .h T30 c2.1 c2.2 rfl (fun _ => rfl) rfl fun ch2 a S => ?_))
       refine CL.br hw S .nil le rfl trivial fun hw => (s_iaddrO S (ty' := (Ty.atZ ch_0_3 Y30)) rfl .h rfl underlying32 T30 c3.1 c3.2 rfl fun g3 a hA3 S => CL.br hw S .nil le rfl trivial fun hw => (s_stR S (ty' := (Ty.atZ ch_0_3 Y30)) (i := y7) (off := 0) (u := gt ((x1.set (Int.toNat x2) (gt x1 x4)).set (Int.toNat x4) (gt x1 x2)) x2) (fun _ => ch2) rfl rfl rfl hA3 .h T30 c3.1 c3.2 rfl (show 0 + 27 ≤ (Y30).size by decide) rfl (fun _ => rfl) fun w S => CL.br hw S .nil le rfl trivial fun hw => (s_iaddrO S (ty' := (Ty.atZ ch_0_3 Y30)) rfl .h rfl underlying32 T30 c4.1 c4.2 rfl fun g4 a hA4 S => CL.br hw S .nil le rfl trivial fun hw => (s_stR S (ty' := (Ty.atZ ch_0_3 Y30)) (i := x2) (off := 0) (u := gt ((x1.set (Int.toNat x2) (gt x1 x4)).set (Int.toNat x4) (gt x1 x2)) y7) (fun _ => ch1) rfl rfl rfl hA4 .h T30 c4.1 c4.2 rfl (show 0 + 27 ≤ (Y30).size by decide) rfl (fun _ => rfl) fun w S => ?_))))
       refine h_back ⟨fun h => (nomatch h), ?_⟩
       refine h_done ?_; clear CL hw le
       refine x_thenN ?_
       exact j4 _ a w (S.sub ⟨rfl, trivial⟩ (.c0 (.c0 .n))) h4
      exact h_nil
     exact h_nil
    ·refine c_condF S rfl c1 (wp_skip (x_thenN (wp_seq_k fun K5 hK5 => ?_)))
     have j5 : ∀ m a w, St 178 m b0 [(13, (.i y7)), (12, (.i y1)), (0, (.s ch_0_0 ch_0_1 ch_0_2)), (1, (.i x2)), (4, (.v (.func (.func 35) #[] #[])))] [Res.row (Ty.atZ ch_0_3 Y30) 30 ch_0_0 ch_0_1 ch_0_2 ((((x1.set (Int.toNat x2) (gt x1 x4)).set (Int.toNat x4) (gt x1 x2)).set (Int.toNat y1) (gt ((x1.set (Int.toNat x2) (gt x1 x4)).set (Int.toNat x4) (gt x1 x2)) y7)).set (Int.toNat y7) (gt ((x1.set (Int.toNat x2) (gt x1 x4)).set (Int.toNat x4) (gt x1 x2)) y1)), Res.priv ch_0_3] a w → api_Account_n57_0z_4f35.j5 k x1 x2 x4 y1 y7 = some r → K5 a w := by
      intro m a w S h0
      delta api_Account_n57_0z_4f35.j5 at h0
      refine hK5 a w (c_region (s_move S rfl rfl fun a S => s_bin S rfl rfl rfl rfl fun a S => s_assign S rfl rfl fun a S => c_end (c_region (s_move S rfl rfl fun a S => s_bin S rfl rfl rfl rfl fun a S => s_assign S rfl rfl fun a S => c_end (wp_seq_k fun K6 hK6 => ?_)))))
      have j6 : ∀ m y50 y51 a w, St 178 m b0 [(13, (.i y51)), (0, (.s ch_0_0 ch_0_1 ch_0_2)), (1, (.i x2))] [Res.row (Ty.atZ ch_0_3 Y30) 30 ch_0_0 ch_0_1 ch_0_2 y50, Res.priv ch_0_3] a w → api_Account_n57_0z_4f35.j6 x2 y50 y51 = some r → K6 a w := by
       intro m y50 y51 a w S h0
       delta api_Account_n57_0z_4f35.j6 at h0
       refine hK6 a w (wp_seq_k fun K7 hK7 => ?_)
       have j7 : ∀ m a w, St 178 m b0 [(13, (.i y51))] [Res.row (Ty.atZ ch_0_3 Y30) 30 ch_0_0 ch_0_1 ch_0_2 ((y50.set (Int.toNat y51) (gt y50 x2)).set (Int.toNat x2) (gt y50 y51)), Res.priv ch_0_3] a w → api_Account_n57_0z_4f35.j7 x2 y50 y51 = some r → K7 a w := by
        intro m a w S h0
        delta api_Account_n57_0z_4f35.j7 at h0
        refine hK7 a w (c_region (s_move S rfl rfl fun a S => s_assign S rfl rfl fun a S => s_assign S rfl rfl fun a S => c_end (wp_ret ?_)))
        obtain rfl := Option.some.inj h0
        exact b_ret2 (d1 := (.i y51)) (d2 := (.b false)) S rfl rfl rfl fun ok1 ok2 => S.retX (Hx := []) hb _ _ (() : Unit) (.c0 (.c0 .n)) ⟨⟨ok1, trivial⟩, ⟨ok2, trivial⟩, trivial⟩
       refine c_heldS S (.take 0 (.take 1 (.take 2 (.take 3 (.take 4 (.take 5 (.take 8 (.take 9 (.alts (.run 6 true (.alts (.run 7 true (.alts (.run 10 true (.alts (.run 11 true (.alts (.run 12 true (.alts (.run 13 true (.alts (.run 14 true (.alts (.run 15 false .done .nil)) .nil)) .nil)) .nil)) .nil)) .nil)) (.run 10 true (.alts (.run 7 true (.alts (.run 11 true (.alts (.run 12 true (.alts (.run 13 true (.alts (.run 14 true (.alts (.run 15 false .done .nil)) .nil)) .nil)) .nil)) .nil)) (.run 11 true (.alts (.run 7 true (.alts (.run 12 true (.alts (.run 13 true (.alts (.run 14 true (.alts (.run 15 false .done .nil)) .nil)) .nil)) .nil)) .nil)) .nil))) .nil))) (.run 10 true (.alts (.run 6 true (.alts (.run 7 true (.alts (.run 11 true (.alts (.run 12 true (.alts (.run 13 true (.alts (.run 14 true (.alts (.run 15 false .done .nil)) .nil)) .nil)) .nil)) .nil)) (.run 11 true (.alts (.run 7 true (.alts (.run 12 true (.alts (.run 13 true (.alts (.run 14 true (.alts (.run 15 false .done .nil)) .nil)) .nil)) .nil)) .nil)) .nil))) (.run 11 true (.alts (.run 6 true (.alts (.run 7 true (.alts (.run 12 true (.alts (.run 13 true (.alts (.run 14 true (.alts (.run 15 false .done .nil)) .nil)) .nil)) .nil)) .nil)) .nil)) .nil))) .nil))))))))))) 15 [] .nil trivial [(13, (.i y51)), (0, (.s ch_0_0 ch_0_1 ch_0_2)), (1, (.i x2))] (subR rfl) (by kernel_rfl) (by kernel_rfl) fun w S CL hw le => ?_
       refine h_move S CL hw le (subR rfl) rfl rfl rfl trivial fun a S CL => h_move S CL hw le (subR rfl) rfl rfl rfl trivial fun a S CL => h_move S CL hw le (subR rfl) rfl rfl rfl trivial fun a S CL => h_move S CL hw le (subR rfl) rfl rfl rfl trivial fun a S CL => h_move S CL hw le (subR rfl) rfl rfl rfl trivial fun a S CL => h_move S CL hw le (subR rfl) rfl rfl rfl trivial fun a S CL => h_move S CL hw le (subR rfl) rfl rfl rfl trivial fun a S CL => h_move S CL hw le (subR rfl) rfl rfl rfl trivial fun a S CL => ?_
       obtain ⟨c5, h1⟩ := chk_of h0; clear h0
       obtain ⟨c6, h2⟩ := chk_of h1; clear h1
       obtain ⟨c7, h3⟩ := chk_of h2; clear h2
       refine h_alts ?_
       refine h_runO S rfl trivial ?_ ?_
       ·refine s_iaddrO S (ty' := (Ty.atZ ch_0_3 Y30)) rfl .h rfl underlying32 T30 c5.1 c5.2 rfl fun g13 a hA5 S => CL.bk hw S .nil le fun hw => h_alts ?_
        refine h_runO S rfl trivial ?_ ?_
        ·refine s_ldRA S (ty' := (Ty.atZ ch_0_3 Y30)) (i := x2) (off := 0) (fun c => ((Ty.atZ ch_0_3 Y30).segs (gt y50 x2) c)) rfl hA5 .h T30 c5.1 c5.2 rfl (fun _ => rfl) rfl fun ch7 a S => ?_
         refine CL.br hw S .nil le rfl trivial fun hw => (s_iaddrO S (ty' := (Ty.atZ ch_0_3 Y30)) rfl .h rfl underlying32 T30 c6.1 c6.2 rfl fun g14 a hA6 S => CL.br hw S .nil le rfl trivial fun hw => (s_ldRA S (ty' := (Ty.atZ ch_0_3 Y30)) (i := y51) (off := 0) (fun c => ((Ty.atZ ch_0_3 Y30).segs (gt y50 y51) c)) rfl hA6 .h T30 c6.1 c6.2 rfl (fun _ => rfl) rfl fun ch8 a S => ?_))
         refine CL.br hw S .nil le rfl trivial fun hw => (s_iaddrO S (ty' := (Ty.atZ ch_0_3 Y30)) rfl .h rfl underlying32 T30 c6.1 c6.2 rfl fun g15 a hA7 S => CL.br hw S .nil le rfl trivial fun hw => (s_stR S (ty' := (Ty.atZ ch_0_3 Y30)) (i := y51) (off := 0) (u := gt y50 x2) (fun _ => ch7) rfl rfl rfl hA7 .h T30 c6.1 c6.2 rfl (show 0 + 27 ≤ (Y30).size by decide) rfl (fun _ => rfl) fun w S => CL.br hw S .nil le rfl trivial fun hw => (s_iaddrO S (ty' := (Ty.atZ ch_0_3 Y30)) rfl .h rfl underlying32 T30 c7.1 c7.2 rfl fun g16 a hA8 S => CL.br hw S .nil le rfl trivial fun hw => (s_stR S (ty' := (Ty.atZ ch_0_3 Y30)) (i := x2) (off := 0) (u := gt y50 y51) (fun _ => ch8) rfl rfl rfl hA8 .h T30 c7.1 c7.2 rfl (show 0 + 27 ≤ (Y30).size by decide) rfl (fun _ => rfl) fun w S => ?_))))
         refine h_back ⟨fun h => (nomatch h), ?_⟩
         refine h_done ?_; clear CL hw le
         refine x_thenN ?_
         exact j7 _ a w (S.sub ⟨rfl, trivial⟩ (.c0 (.c0 .n))) h3
        refine h_runO S rfl trivial ?_ ?_
        ·refine s_iaddrO S (ty' := (Ty.atZ ch_0_3 Y30)) rfl .h rfl underlying32 T30 c6.1 c6.2 rfl fun g14 a hA6 S => CL.bk hw S .nil le fun hw => h_alts ?_
         refine h_runO S rfl trivial ?_ ?_
         ·refine s_ldRA S (ty' := (Ty.atZ ch_0_3 Y30)) (i := x2) (off := 0) (fun c => ((Ty.atZ ch_0_3 Y30).segs (gt y50 x2) c)) rfl hA5 .h T30 c5.1 c5.2 rfl (fun _ => rfl) rfl fun ch7 a S => ?_
          refine CL.br hw S .nil le rfl trivial fun hw => (s_ldRA S (ty' := (Ty.atZ ch_0_3 Y30)) (i := y51) (off := 0) (fun c => ((Ty.atZ ch_0_3 Y30).segs (gt y50 y51) c)) rfl hA6 .h T30 c6.1 c6.2 rfl (fun _ => rfl) rfl fun ch8 a S => ?_)
          refine CL.br hw S .nil le rfl trivial fun hw => (s_iaddrO S (ty' := (Ty.atZ ch_0_3 Y30)) rfl .h rfl underlying32 T30 c6.1 c6.2 rfl fun g15 a hA7 S => CL.br hw S .nil le rfl trivial fun hw => (s_stR S (ty' := (Ty.atZ ch_0_3 Y30)) (i := y51) (off := 0) (u := gt y50 x2) (fun _ => ch7) rfl rfl rfl hA7 .h T30 c6.1 c6.2 rfl (show 0 + 27 ≤ (Y30).size by decide) rfl (fun _ => rfl) fun w S => CL.br hw S .nil le rfl trivial fun hw => (s_iaddrO S (ty' := (Ty.atZ ch_0_3 Y30)) rfl .h rfl underlying32 T30 c7.1 c7.2 rfl fun g16 a hA8 S => CL.br hw S .nil le rfl trivial fun hw => (s_stR S (ty' := (Ty.atZ ch_0_3 Y30)) (i := x2) (off := 0) (u := gt y50 y51) (fun _ => ch8) rfl rfl rfl hA8 .h T30 c7.1 c7.2 rfl (show 0 + 27 ≤ (Y30).size by decide) rfl (fun _ => rfl) fun w S => ?_))))
          refine h_back ⟨fun h => (nomatch h), ?_⟩
          refine h_done ?_; clear CL hw le
          refine x_thenN ?_
          exact j7 _ a w (S.sub ⟨rfl, trivial⟩ (.c0 (.c0 .n))) h3
         refine h_runO S rfl trivial ?_ ?_
         ·refine s_ldRA S (ty' := (Ty.atZ ch_0_3 Y30)) (i := y51) (off := 0) (fun c => ((Ty.atZ ch_0_3 Y30).segs (gt y50 y51) c)) rfl hA6 .h T30 c6.1 c6.2 rfl (fun _ => rfl) rfl fun ch7 a S => ?_
          refine CL.br hw S .nil le rfl trivial fun hw => (s_ldRA S (ty' := (Ty.atZ ch_0_3 Y30)) (i := x2) (off := 0) (fun c => ((Ty.atZ ch_0_3 Y30).segs (gt y50 x2) c)) rfl hA5 .h T30 c5.1 c5.2 rfl (fun _ => rfl) rfl fun ch8 a S => ?_)
          refine CL.br hw S .nil le rfl trivial fun hw => (s_iaddrO S (ty' := (Ty.atZ ch_0_3 Y30)) rfl .h rfl underlying32 T30 c6.1 c6.2 rfl fun g15 a hA7 S => CL.br hw S .nil le rfl trivial fun hw => (s_stR S (ty' := (Ty.atZ ch_0_3 Y30)) (i := y51) (off := 0) (u := gt y50 x2) (fun _ => ch8) rfl rfl rfl hA7 .h T30 c6.1 c6.2 rfl (show 0 + 27 ≤ (Y30).size by decide) rfl (fun _ => rfl) fun w S => CL.br hw S .nil le rfl trivial fun hw => (s_iaddrO S (ty' := (Ty.atZ ch_0_3 Y30)) rfl .h rfl underlying32 T30 c7.1 c7.2 rfl fun g16 a hA8 S => CL.br hw S .nil le rfl trivial fun hw => (s_stR S (ty' := (Ty.atZ ch_0_3 Y30)) (i := x2) (off := 0) (u := gt y50 y51) (fun _ => ch7) rfl rfl rfl hA8 .h T30 c7.1 c7.2 rfl (show 0 + 27 ≤ (Y30).size by decide) rfl (fun _ => rfl) fun w S => ?_))))
          refine h_back ⟨fun h => (nomatch h), ?_⟩
          refine h_done ?_; clear CL hw le
          refine x_thenN ?_
          exact j7 _ a w (S.sub ⟨rfl, trivial⟩ (.c0 (.c0 .n))) h3
         exact h_nil
        exact h_nil
       refine h_runO S rfl trivial ?_ ?_
       ·refine s_iaddrO S (ty' := (Ty.atZ ch_0_3 Y30)) rfl .h rfl underlying32 T30 c6.1 c6.2 rfl fun g13 a hA5 S => CL.bk hw S .nil le fun hw => h_alts ?_
        refine h_runO S rfl trivial ?_ ?_
        ·refine s_iaddrO S (ty' := (Ty.atZ ch_0_3 Y30)) rfl .h rfl underlying32 T30 c5.1 c5.2 rfl fun g14 a hA6 S => CL.bk hw S .nil le fun hw => h_alts ?_
         refine h_runO S rfl trivial ?_ ?_
         ·refine s_ldRA S (ty' := (Ty.atZ ch_0_3 Y30)) (i := x2) (off := 0) (fun c => ((Ty.atZ ch_0_3 Y30).segs (gt y50 x2) c)) rfl hA6 .h T30 c5.1 c5.2 rfl (fun _ => rfl) rfl fun ch7 a S => ?_
          refine CL.br hw S .nil le rfl trivial fun hw => (s_ldRA S (ty' := (Ty.atZ ch_0_3 Y30)) (i := y51) (off := 0) (fun c => ((Ty.atZ ch_0_3 Y30).segs (gt y50 y51) c)) rfl hA5 .h T30 c6.1 c6.2 rfl (fun _ => rfl) rfl fun ch8 a S => ?_)
          refine CL.br hw S .nil le rfl trivial fun hw => (s_iaddrO S (ty' := (Ty.atZ ch_0_3 Y30)) rfl .h rfl underlying32 T30 c6.1 c6.2 rfl fun g15 a hA7 S => CL.br hw S .nil le rfl trivial fun hw => (s_stR S (ty' := (Ty.atZ ch_0_3 Y30)) (i := y51) (off := 0) (u := gt y50 x2) (fun _ => ch7) rfl rfl rfl hA7 .h T30 c6.1 c6.2 rfl (show 0 + 27 ≤ (Y30).size by decide) rfl (fun _ => rfl) fun w S => CL.br hw S .nil le rfl trivial fun hw => (s_iaddrO S (ty' := (Ty.atZ ch_0_3 Y30)) rfl .h rfl underlying32 T30 c7.1 c7.2 rfl fun g16 a hA8 S => CL.br hw S .nil le rfl trivial fun hw => (s_stR S (ty' := (Ty.atZ ch_0_3 Y30)) (i := x2) (off := 0) (u := gt y50 y51) (fun _ => ch8) rfl rfl rfl hA8 .h T30 c7.1 c7.2 rfl (show 0 + 27 ≤ (Y30).size by decide) rfl (fun _ => rfl) fun w S => ?_))))
          refine h_back ⟨fun h => (nomatch h), ?_⟩
          refine h_done ?_; clear CL hw le
          refine x_thenN ?_
          exact j7 _ a w (S.sub ⟨rfl, trivial⟩ (.c0 (.c0 .n))) h3
         refine h_runO S rfl trivial ?_ ?_
         ·refine s_ldRA S (ty' := (Ty.atZ ch_0_3 Y30)) (i := y51) (off := 0) (fun c => ((Ty.atZ ch_0_3 Y30).segs (gt y50 y51) c)) rfl hA5 .h T30 c6.1 c6.2 rfl (fun _ => rfl) rfl fun ch7 a S => ?_
          refine CL.br hw S .nil le rfl trivial fun hw => (s_ldRA S (ty' := (Ty.atZ ch_0_3 Y30)) (i := x2) (off := 0) (fun c => ((Ty.atZ ch_0_3 Y30).segs (gt y50 x2) c)) rfl hA6 .h T30 c5.1 c5.2 rfl (fun _ => rfl) rfl fun ch8 a S => ?_)
          refine CL.br hw S .nil le rfl trivial fun hw => (s_iaddrO S (ty' := (Ty.atZ ch_0_3 Y30)) rfl .h rfl underlying32 T30 c6.1 c6.2 rfl fun g15 a hA7 S => CL.br hw S .nil le rfl trivial fun hw => (s_stR S (ty' := (Ty.atZ ch_0_3 Y30)) (i := y51) (off := 0) (u := gt y50 x2) (fun _ => ch8) rfl rfl rfl hA7 .h T30 c6.1 c6.2 rfl (show 0 + 27 ≤ (Y30).size by decide) rfl (fun _ => rfl) fun w S => CL.br hw S .nil le rfl trivial fun hw => (s_iaddrO S (ty' := (Ty.atZ ch_0_3 Y30)) rfl .h rfl underlying32 T30 c7.1 c7.2 rfl fun g16 a hA8 S => CL.br hw S .nil le rfl trivial fun hw => (s_stR S (ty' := (Ty.atZ ch_0_3 Y30)) (i := x2) (off := 0) (u := gt y50 y51) (fun _ => ch7) rfl rfl rfl hA8 .h T30 c7.1 c7.2 rfl (show 0 + 27 ≤ (Y30).size by decide) rfl (fun _ => rfl) fun w S => ?_))))
          refine h_back ⟨fun h => (nomatch h), ?_⟩
          refine h_done ?_; clear CL hw le
          refine x_thenN ?_
          exact j7 _ a w (S.sub ⟨rfl, trivial⟩ (.c0 (.c0 .n))) h3
         exact h_nil
        refine h_runO S rfl trivial ?_ ?_
        ·refine s_ldRA S (ty' := (Ty.atZ ch_0_3 Y30)) (i := y51) (off := 0) (fun c => ((Ty.atZ ch_0_3 Y30).segs (gt y50 y51) c)) rfl hA5 .h T30 c6.1 c6.2 rfl (fun _ => rfl) rfl fun ch7 a S => ?_
         refine CL.br hw S .nil le rfl trivial fun hw => (s_iaddrO S (ty' := (Ty.atZ ch_0_3 Y30)) rfl .h rfl underlying32 T30 c5.1 c5.2 rfl fun g14 a hA6 S => CL.br hw S .nil le rfl trivial fun hw => (s_ldRA S (ty' := (Ty.atZ ch_0_3 Y30)) (i := x2) (off := 0) (fun c => ((Ty.atZ ch_0_3 Y30).segs (gt y50 x2) c)) rfl hA6 .h T30 c5.1 c5.2 rfl (fun _ => rfl) rfl fun ch8 a S => ?_))
         refine CL.br hw S .nil le rfl trivial fun hw => (s_iaddrO S (ty' := (Ty.atZ ch_0_3 Y30)) rfl .h rfl underlying32 T30 c6.1 c6.2 rfl fun g15 a hA7 S => CL.br hw S .nil le rfl trivial fun hw => (s_stR S (ty' := (Ty.atZ ch_0_3 Y30)) (i := y51) (off := 0) (u := gt y50 x2) (fun _ => ch8) rfl rfl rfl hA7 .h T30 c6.1 c6.2 rfl (show 0 + 27 ≤ (Y30).size by decide) rfl (fun _ => rfl) fun w S => CL.br hw S .nil le rfl trivial fun hw => (s_iaddrO S (ty' := (Ty.atZ ch_0_3 Y30)) rfl .h rfl underlying32 T30 c7.1 c7.2 rfl fun g16 a hA8 S => CL.br hw S .nil le rfl trivial fun hw => (s_stR S (ty' := (Ty.atZ ch_0_3 Y30)) (i := x2) (off := 0) (u := gt y50 y51) (fun _ => ch7) rfl rfl rfl hA8 .h T30 c7.1 c7.2 rfl (show 0 + 27 ≤ (Y30).size by decide) rfl (fun _ => rfl) fun w S => ?_))))
         refine h_back ⟨fun h => (nomatch h), ?_⟩
         refine h_done ?_; clear CL hw le
         refine x_thenN ?_
         exact j7 _ a w (S.sub ⟨rfl, trivial⟩ (.c0 (.c0 .n))) h3
        exact h_nil
       exact h_nil
      refine wp_block ?_
      refine c_loop (fun q1 a w => ∃ m y79 y80 y81, St 178 m b0 [(13, (.i y80)), (12, (.i y81)), (0, (.s ch_0_0 ch_0_1 ch_0_2)), (1, (.i x2)), (4, (.v (.func (.func 35) #[] #[])))] [Res.row (Ty.atZ ch_0_3 Y30) 30 ch_0_0 ch_0_1 ch_0_2 y79, Res.priv ch_0_3] a w ∧ api_Account_n57_0z_4f35.l1 k x2 q1 y79 y80 y81 = some r) ?_ ?_ (k := k) ⟨_, ((((x1.set (Int.toNat x2) (gt x1 x4)).set (Int.toNat x4) (gt x1 x2)).set (Int.toNat y1) (gt ((x1.set (Int.toNat x2) (gt x1 x4)).set (Int.toNat x4) (gt x1 x2)) y7)).set (Int.toNat y7) (gt ((x1.set (Int.toNat x2) (gt x1 x4)).set (Int.toNat x4) (gt x1 x2)) y1)), (wr .i64 (y7 - 1)), (wr .i64 (y1 + 1)), (S.sb rfl (.c0 (.c0 .n))), h0⟩
      ·rintro a w ⟨m, y79, y80, y81, S, h0⟩
       exact (nomatch (show (none : Option (Int × Bool × (List L30))) = some r from h0))
      ·clear S h0
       rintro q1 a w ⟨m, y79, y80, y81, S, h0⟩
       replace h0 : api_Account_n57_0z_4f35.b1 k x2 (api_Account_n57_0z_4f35.l1 k x2 q1) y79 y80 y81 = some r := h0
       delta api_Account_n57_0z_4f35.b1 at h0
       refine wp_block (wp_seq_k fun K8 hK8 => ?_)
       have j8 : ∀ m y87 a w, St 178 m b0 [(13, (.i y80)), (12, (.i y87)), (0, (.s ch_0_0 ch_0_1 ch_0_2)), (1, (.i x2)), (4, (.v (.func (.func 35) #[] #[])))] [Res.row (Ty.atZ ch_0_3 Y30) 30 ch_0_0 ch_0_1 ch_0_2 y79, Res.priv ch_0_3] a w → api_Account_n57_0z_4f35.j8 k x2 y79 y80 (api_Account_n57_0z_4f35.l1 k x2 q1) y87 = some r → K8 a w := by
        intro m y87 a w S h0
        delta api_Account_n57_0z_4f35.j8 at h0
        refine hK8 a w (wp_seq_k fun K9 hK9 => ?_)
        have j9 : ∀ m y93 a w, St 178 m b0 [(13, (.i y93)), (12, (.i y87)), (0, (.s ch_0_0 ch_0_1 ch_0_2)), (1, (.i x2)), (4, (.v (.func (.func 35) #[] #[])))] [Res.row (Ty.atZ ch_0_3 Y30) 30 ch_0_0 ch_0_1 ch_0_2 y79, Res.priv ch_0_3] a w → api_Account_n57_0z_4f35.j9 x2 y79 (api_Account_n57_0z_4f35.l1 k x2 q1) y87 y93 = some r → K9 a w := by
         intro m y93 a w S h0
         delta api_Account_n57_0z_4f35.j9 at h0
         refine hK9 a w (wp_seq (c_region (s_move S rfl rfl fun a S => s_move S rfl rfl fun a S => s_bin S rfl rfl rfl rfl fun a S => c_end ?_)))
         rcases ite_of h0 with ⟨c8, h1⟩ | ⟨c8, h1⟩
         ·refine c_condT S rfl c8 (wp_exit (x_thenX (x_blockO (by decide) (x_thenX (x_blockX (x_thenN ?_))))))
          exact j6 _ y79 y93 a w (S.sb rfl (.c0 (.c0 .n))) h1
         ·refine c_condF S rfl c8 (wp_skip (x_thenN (wp_seq_k fun K10 hK10 => ?_)))
          have j10 : ∀ m a w, St 178 m b0 [(13, (.i y93)), (12, (.i y87)), (0, (.s ch_0_0 ch_0_1 ch_0_2)), (1, (.i x2)), (4, (.v (.func (.func 35) #[] #[])))] [Res.row (Ty.atZ ch_0_3 Y30) 30 ch_0_0 ch_0_1 ch_0_2 ((y79.set (Int.toNat y87) (gt y79 y93)).set (Int.toNat y93) (gt y79 y87)), Res.priv ch_0_3] a w → api_Account_n57_0z_4f35.j10 y79 (api_Account_n57_0z_4f35.l1 k x2 q1) y87 y93 = some r → K10 a w := by
           intro m a w S h0
           delta api_Account_n57_0z_4f35.j10 at h0
           refine hK10 a w (c_region (s_move S rfl rfl fun a S => s_bin S rfl rfl rfl rfl fun a S => s_assign S rfl rfl fun a S => c_end (c_region' (s_move S rfl rfl fun a S => s_bin S rfl rfl rfl rfl fun a S => s_assign S rfl rfl fun a S => c_end' (x_blockN (x_thenN ?_))))))
           exact ⟨_, ((y79.set (Int.toNat y87) (gt y79 y93)).set (Int.toNat y93) (gt y79 y87)), (wr .i64 (y93 - 1)), (wr .i64 (y87 + 1)), (S.sb rfl (.c0 (.c0 .n))), h0⟩
          refine c_heldS S (.take 0 (.take 1 (.take 2 (.take 3 (.take 4 (.take 5 (.take 8 (.take 9 (.alts (.run 6 true (.alts (.run 7 true (.alts (.run 10 true (.alts (.run 11 true (.alts (.run 12 true (.alts (.run 13 true (.alts (.run 14 true (.alts (.run 15 false .done .nil)) .nil)) .nil)) .nil)) .nil)) .nil)) (.run 10 true (.alts (.run 7 true (.alts (.run 11 true (.alts (.run 12 true (.alts (.run 13 true (.alts (.run 14 true (.alts (.run 15 false .done .nil)) .nil)) .nil)) .nil)) .nil)) (.run 11 true (.alts (.run 7 true (.alts (.run 12 true (.alts (.run 13 true (.alts (.run 14 true (.alts (.run 15 false .done .nil)) .nil)) .nil)) .nil)) .nil)) .nil))) .nil))) (.run 10 true (.alts (.run 6 true (.alts (.run 7 true (.alts (.run 11 true (.alts (.run 12 true (.alts (.run 13 true (.alts (.run 14 true (.alts (.run 15 false .done .nil)) .nil)) .nil)) .nil)) .nil)) (.run 11 true (.alts (.run 7 true (.alts (.run 12 true (.alts (.run 13 true (.alts (.run 14 true (.alts (.run 15 false .done .nil)) .nil)) .nil)) .nil)) .nil)) .nil))) (.run 11 true (.alts (.run 6 true (.alts (.run 7 true (.alts (.run 12 true (.alts (.run 13 true (.alts (.run 14 true (.alts (.run 15 false .done .nil)) .nil)) .nil)) .nil)) .nil)) .nil)) .nil))) .nil))))))))))) 15 [] .nil trivial [(13, (.i y93)), (12, (.i y87)), (0, (.s ch_0_0 ch_0_1 ch_0_2))] (subR rfl) (by kernel_rfl) (by kernel_rfl) fun w S CL hw le => ?_
          refine h_move S CL hw le (subR rfl) rfl rfl rfl trivial fun a S CL => h_move S CL hw le (subR rfl) rfl rfl rfl trivial fun a S CL => h_move S CL hw le (subR rfl) rfl rfl rfl trivial fun a S CL => h_move S CL hw le (subR rfl) rfl rfl rfl trivial fun a S CL => h_move S CL hw le (subR rfl) rfl rfl rfl trivial fun a S CL => h_move S CL hw le (subR rfl) rfl rfl rfl trivial fun a S CL => h_move S CL hw le (subR rfl) rfl rfl rfl trivial fun a S CL => h_move S CL hw le (subR rfl) rfl rfl rfl trivial fun a S CL => ?_
          obtain ⟨c9, h2⟩ := chk_of h1; clear h1
          obtain ⟨c10, h3⟩ := chk_of h2; clear h2
          obtain ⟨c11, h4⟩ := chk_of h3; clear h3
          refine h_alts ?_
          refine h_runO S rfl trivial ?_ ?_
          ·refine s_iaddrO S (ty' := (Ty.atZ ch_0_3 Y30)) rfl .h rfl underlying32 T30 c9.1 c9.2 rfl fun g21 a hA9 S => CL.bk hw S .nil le fun hw => h_alts ?_
           refine h_runO S rfl trivial ?_ ?_
           ·refine s_ldRA S (ty' := (Ty.atZ ch_0_3 Y30)) (i := y93) (off := 0) (fun c => ((Ty.atZ ch_0_3 Y30).segs (gt y79 y93) c)) rfl hA9 .h T30 c9.1 c9.2 rfl (fun _ => rfl) rfl fun ch11 a S => ?_
            refine CL.br hw S .nil le rfl trivial fun hw => (s_iaddrO S (ty' := (Ty.atZ ch_0_3 Y30)) rfl .h rfl underlying32 T30 c10.1 c10.2 rfl fun g22 a hA10 S => CL.br hw S .nil le rfl trivial fun hw => (s_ldRA S (ty' := (Ty.atZ ch_0_3 Y30)) (i := y87) (off := 0) (fun c => ((Ty.atZ ch_0_3 Y30).segs (gt y79 y87) c)) rfl hA10 .h T30 c10.1 c10.2 rfl (fun _ => rfl) rfl fun ch12 a S => ?_))
            refine CL.br hw S .nil le rfl trivial fun hw => (s_iaddrO S (ty' := (Ty.atZ ch_0_3 Y30)) rfl .h rfl underlying32 T30 c10.1 c10.2 rfl fun g23 a hA11 S => CL.br hw S .nil le rfl trivial fun hw => (s_stR S (ty' := (Ty.atZ ch_0_3 Y30)) (i := y87) (off := 0) (u := gt y79 y93) (fun _ => ch11) rfl rfl rfl hA11 .h T30 c10.1 c10.2 rfl (show 0 + 27 ≤ (Y30).size by decide) rfl (fun _ => rfl) fun w S => CL.br hw S .nil le rfl trivial fun hw => (s_iaddrO S (ty' := (Ty.atZ ch_0_3 Y30)) rfl .h rfl underlying32 T30 c11.1 c11.2 rfl fun g24 a hA12 S => CL.br hw S .nil le rfl trivial fun hw => (s_stR S (ty' := (Ty.atZ ch_0_3 Y30)) (i := y93) (off := 0) (u := gt y79 y87) (fun _ => ch12) rfl rfl rfl hA12 .h T30 c11.1 c11.2 rfl (show 0 + 27 ≤ (Y30).size by decide) rfl (fun _ => rfl) fun w S => ?_))))
            refine h_back ⟨fun h => (nomatch h), ?_⟩
            refine h_done ?_; clear CL hw le
            refine x_thenN ?_
            exact j10 _ a w (S.sb rfl (.c0 (.c0 .n))) h4
           refine h_runO S rfl trivial ?_ ?_
           ·refine s_iaddrO S (ty' := (Ty.atZ ch_0_3 Y30)) rfl .h rfl underlying32 T30 c10.1 c10.2 rfl fun g22 a hA10 S => CL.bk hw S .nil le fun hw => h_alts ?_
            refine h_runO S rfl trivial ?_ ?_
            ·refine s_ldRA S (ty' := (Ty.atZ ch_0_3 Y30)) (i := y93) (off := 0) (fun c => ((Ty.atZ ch_0_3 Y30).segs (gt y79 y93) c)) rfl hA9 .h T30 c9.1 c9.2 rfl (fun _ => rfl) rfl fun ch11 a S => ?_
             refine CL.br hw S .nil le rfl trivial fun hw => (s_ldRA S (ty' := (Ty.atZ ch_0_3 Y30)) (i := y87) (off := 0) (fun c => ((Ty.atZ ch_0_3 Y30).segs (gt y79 y87) c)) rfl hA10 .h T30 c10.1 c10.2 rfl (fun _ => rfl) rfl fun ch12 a S => ?_)
             refine CL.br hw S .nil le rfl trivial fun hw => (s_iaddrO S (ty' := (Ty.atZ ch_0_3 Y30)) rfl .h rfl underlying32 T30 c10.1 c10.2 rfl fun g23 a hA11 S => CL.br hw S .nil le rfl trivial fun hw => (s_stR S (ty' := (Ty.atZ ch_0_3 Y30)) (i := y87) (off := 0) (u := gt y79 y93) (fun _ => ch11) rfl rfl rfl hA11 .h T30 c10.1 c10.2 rfl (show 0 + 27 ≤ (Y30).size by decide) rfl (fun _ => rfl) fun w S => CL.br hw S .nil le rfl trivial fun hw => (s_iaddrO S (ty' := (Ty.atZ ch_0_3 Y30)) rfl .h rfl underlying32 T30 c11.1 c11.2 rfl fun g24 a hA12 S => CL.br hw S .nil le rfl trivial fun hw => (s_stR S (ty' := (Ty.atZ ch_0_3 Y30)) (i := y93) (off := 0) (u := gt y79 y87) (fun _ => ch12) rfl rfl rfl hA12 .h T30 c11.1 c11.2 rfl (show 0 + 27 ≤ (Y30).size by decide) rfl (fun _ => rfl) fun w S => ?_))))
             refine h_back ⟨fun h => (nomatch h), ?_⟩
             refine h_done ?_; clear CL hw le
             refine x_thenN ?_
             exact j10 _ a w (S.sb rfl (.c0 (.c0 .n))) h4
            refine h_runO S rfl trivial ?_ ?_
            ·refine s_ldRA S (ty' := (Ty.atZ ch_0_3 Y30)) (i := y87) (off := 0) (fun c => ((Ty.atZ ch_0_3 Y30).segs (gt y79 y87) c)) rfl hA10 .h T30 c10.1 c10.2 rfl (fun _ => rfl) rfl fun ch11 a S => ?_
             refine CL.br hw S .nil le rfl trivial fun hw => (s_ldRA S (ty' := (Ty.atZ ch_0_3 Y30)) (i := y93) (off := 0) (fun c => ((Ty.atZ ch_0_3 Y30).segs (gt y79 y93) c)) rfl hA9 .h T30 c9.1 c9.2 rfl (fun _ => rfl) rfl fun ch12 a S => ?_)
             refine CL.br hw S .nil le rfl trivial fun hw => (s_iaddrO S (ty' := (Ty.atZ ch_0_3 Y30)) rfl .h rfl underlying32 T30 c10.1 c10.2 rfl fun g23 a hA11 S => CL.br hw S .nil le rfl trivial fun hw => (s_stR S (ty' := (Ty.atZ ch_0_3 Y30)) (i := y87) (off := 0) (u := gt y79 y93) (fun _ => ch12) rfl rfl rfl hA11 .h T30 c10.1 c10.2 rfl (show 0 + 27 ≤ (Y30).size by decide) rfl (fun _ => rfl) fun w S => CL.br hw S .nil le rfl trivial fun hw => (s_iaddrO S (ty' := (Ty.atZ ch_0_3 Y30)) rfl .h rfl underlying32 T30 c11.1 c11.2 rfl fun g24 a hA12 S => CL.br hw S .nil le rfl trivial fun hw => (s_stR S (ty' := (Ty.atZ ch_0_3 Y30)) (i := y93) (off := 0) (u := gt y79 y87) (fun _ => ch11) rfl rfl rfl hA12 .h T30 c11.1 c11.2 rfl (show 0 + 27 ≤ (Y30).size by decide) rfl (fun _ => rfl) fun w S => ?_))))
             refine h_back ⟨fun h => (nomatch h), ?_⟩
             refine h_done ?_; clear CL hw le
             refine x_thenN ?_
             exact j10 _ a w (S.sb rfl (.c0 (.c0 .n))) h4
            exact h_nil
           exact h_nil
          refine h_runO S rfl trivial ?_ ?_
          ·refine s_iaddrO S (ty' := (Ty.atZ ch_0_3 Y30)) rfl .h rfl underlying32 T30 c10.1 c10.2 rfl fun g21 a hA9 S => CL.bk hw S .nil le fun hw => h_alts ?_
           refine h_runO S rfl trivial ?_ ?_
           ·refine s_iaddrO S (ty' := (Ty.atZ ch_0_3 Y30)) rfl .h rfl underlying32 T30 c9.1 c9.2 rfl fun g22 a hA10 S => CL.bk hw S .nil le fun hw => h_alts ?_
            refine h_runO S rfl trivial ?_ ?_
            ·refine s_ldRA S (ty' := (Ty.atZ ch_0_3 Y30)) (i := y93) (off := 0) (fun c => ((Ty.atZ ch_0_3 Y30).segs (gt y79 y93) c)) rfl hA10 .h T30 c9.1 c9.2 rfl (fun _ => rfl) rfl fun ch11 a S => ?_
             refine CL.br hw S .nil le rfl trivial fun hw => (s_ldRA S (ty' := (Ty.atZ ch_0_3 Y30)) (i := y87) (off := 0) (fun c => ((Ty.atZ ch_0_3 Y30).segs (gt y79 y87) c)) rfl hA9 .h T30 c10.1 c10.2 rfl (fun _ => rfl) rfl fun ch12 a S => ?_)
             refine CL.br hw S .nil le rfl trivial fun hw => (s_iaddrO S (ty' := (Ty.atZ ch_0_3 Y30)) rfl .h rfl underlying32 T30 c10.1 c10.2 rfl fun g23 a hA11 S => CL.br hw S .nil le rfl trivial fun hw => (s_stR S (ty' := (Ty.atZ ch_0_3 Y30)) (i := y87) (off := 0) (u := gt y79 y93) (fun _ => ch11) rfl rfl rfl hA11 .h T30 c10.1 c10.2 rfl (show 0 + 27 ≤ (Y30).size by decide) rfl (fun _ => rfl) fun w S => CL.br hw S .nil le rfl trivial fun hw => (s_iaddrO S (ty' := (Ty.atZ ch_0_3 Y30)) rfl .h rfl underlying32 T30 c11.1 c11.2 rfl fun g24 a hA12 S => CL.br hw S .nil le rfl trivial fun hw => (s_stR S (ty' := (Ty.atZ ch_0_3 Y30)) (i := y93) (off := 0) (u := gt y79 y87) (fun _ => ch12) rfl rfl rfl hA12 .h T30 c11.1 c11.2 rfl (show 0 + 27 ≤ (Y30).size by decide) rfl (fun _ => rfl) fun w S => ?_))))
             refine h_back ⟨fun h => (nomatch h), ?_⟩
             refine h_done ?_; clear CL hw le
             refine x_thenN ?_
             exact j10 _ a w (S.sb rfl (.c0 (.c0 .n))) h4
            refine h_runO S rfl trivial ?_ ?_
            ·refine s_ldRA S (ty' := (Ty.atZ ch_0_3 Y30)) (i := y87) (off := 0) (fun c => ((Ty.atZ ch_0_3 Y30).segs (gt y79 y87) c)) rfl hA9 .h T30 c10.1 c10.2 rfl (fun _ => rfl) rfl fun ch11 a S => ?_
             refine CL.br hw S .nil le rfl trivial fun hw => (s_ldRA S (ty' := (Ty.atZ ch_0_3 Y30)) (i := y93) (off := 0) (fun c => ((Ty.atZ ch_0_3 Y30).segs (gt y79 y93) c)) rfl hA10 .h T30 c9.1 c9.2 rfl (fun _ => rfl) rfl fun ch12 a S => ?_)
             refine CL.br hw S .nil le rfl trivial fun hw => (s_iaddrO S (ty' := (Ty.atZ ch_0_3 Y30)) rfl .h rfl underlying32 T30 c10.1 c10.2 rfl fun g23 a hA11 S => CL.br hw S .nil le rfl trivial fun hw => (s_stR S (ty' := (Ty.atZ ch_0_3 Y30)) (i := y87) (off := 0) (u := gt y79 y93) (fun _ => ch12) rfl rfl rfl hA11 .h T30 c10.1 c10.2 rfl (show 0 + 27 ≤ (Y30).size by decide) rfl (fun _ => rfl) fun w S => CL.br hw S .nil le rfl trivial fun hw => (s_iaddrO S (ty' := (Ty.atZ ch_0_3 Y30)) rfl .h rfl underlying32 T30 c11.1 c11.2 rfl fun g24 a hA12 S => CL.br hw S .nil le rfl trivial fun hw => (s_stR S (ty' := (Ty.atZ ch_0_3 Y30)) (i := y93) (off := 0) (u := gt y79 y87) (fun _ => ch11) rfl rfl rfl hA12 .h T30 c11.1 c11.2 rfl (show 0 + 27 ≤ (Y30).size by decide) rfl (fun _ => rfl) fun w S => ?_))))
             refine h_back ⟨fun h => (nomatch h), ?_⟩
             refine h_done ?_; clear CL hw le
             refine x_thenN ?_
             exact j10 _ a w (S.sb rfl (.c0 (.c0 .n))) h4
            exact h_nil
           refine h_runO S rfl trivial ?_ ?_
           ·refine s_ldRA S (ty' := (Ty.atZ ch_0_3 Y30)) (i := y87) (off := 0) (fun c => ((Ty.atZ ch_0_3 Y30).segs (gt y79 y87) c)) rfl hA9 .h T30 c10.1 c10.2 rfl (fun _ => rfl) rfl fun ch11 a S => ?_
            refine CL.br hw S .nil le rfl trivial fun hw => (s_iaddrO S (ty' := (Ty.atZ ch_0_3 Y30)) rfl .h rfl underlying32 T30 c9.1 c9.2 rfl fun g22 a hA10 S => CL.br hw S .nil le rfl trivial fun hw => (s_ldRA S (ty' := (Ty.atZ ch_0_3 Y30)) (i := y93) (off := 0) (fun c => ((Ty.atZ ch_0_3 Y30).segs (gt y79 y93) c)) rfl hA10 .h T30 c9.1 c9.2 rfl (fun _ => rfl) rfl fun ch12 a S => ?_))
            refine CL.br hw S .nil le rfl trivial fun hw => (s_iaddrO S (ty' := (Ty.atZ ch_0_3 Y30)) rfl .h rfl underlying32 T30 c10.1 c10.2 rfl fun g23 a hA11 S => CL.br hw S .nil le rfl trivial fun hw => (s_stR S (ty' := (Ty.atZ ch_0_3 Y30)) (i := y87) (off := 0) (u := gt y79 y93) (fun _ => ch12) rfl rfl rfl hA11 .h T30 c10.1 c10.2 rfl (show 0 + 27 ≤ (Y30).size by decide) rfl (fun _ => rfl) fun w S => CL.br hw S .nil le rfl trivial fun hw => (s_iaddrO S (ty' := (Ty.atZ ch_0_3 Y30)) rfl .h rfl underlying32 T30 c11.1 c11.2 rfl fun g24 a hA12 S => CL.br hw S .nil le rfl trivial fun hw => (s_stR S (ty' := (Ty.atZ ch_0_3 Y30)) (i := y93) (off := 0) (u := gt y79 y87) (fun _ => ch11) rfl rfl rfl hA12 .h T30 c11.1 c11.2 rfl (show 0 + 27 ≤ (Y30).size by decide) rfl (fun _ => rfl) fun w S => ?_))))
            refine h_back ⟨fun h => (nomatch h), ?_⟩
            refine h_done ?_; clear CL hw le
            refine x_thenN ?_
            exact j10 _ a w (S.sb rfl (.c0 (.c0 .n))) h4
           exact h_nil
          exact h_nil
        refine wp_block ?_
        refine c_loop (fun q2 a w => ∃ m y97, St 178 m b0 [(13, (.i y97)), (12, (.i y87)), (0, (.s ch_0_0 ch_0_1 ch_0_2)), (1, (.i x2)), (4, (.v (.func (.func 35) #[] #[])))] [Res.row (Ty.atZ ch_0_3 Y30) 30 ch_0_0 ch_0_1 ch_0_2 y79, Res.priv ch_0_3] a w ∧ api_Account_n57_0z_4f35.l2 x2 y79 (api_Account_n57_0z_4f35.l1 k x2 q1) y87 q2 y97 = some r) ?_ ?_ (k := k) ⟨_, y80, (S.sb rfl (.c0 (.c0 .n))), h0⟩
        ·rintro a w ⟨m, y97, S, h0⟩
         exact (nomatch (show (none : Option (Int × Bool × (List L30))) = some r from h0))
        ·clear S h0
         rintro q2 a w ⟨m, y97, S, h0⟩
         replace h0 : api_Account_n57_0z_4f35.b2 x2 y79 (api_Account_n57_0z_4f35.l1 k x2 q1) y87 (api_Account_n57_0z_4f35.l2 x2 y79 (api_Account_n57_0z_4f35.l1 k x2 q1) y87 q2) y97 = some r := h0
         delta api_Account_n57_0z_4f35.b2 at h0
         refine wp_seq (wp_seq_k fun K11 hK11 => ?_)
         have j11 : ∀ m y98 a w, St 178 m b0 [(139, (.b y98)), (13, (.i y97)), (12, (.i y87)), (0, (.s ch_0_0 ch_0_1 ch_0_2)), (1, (.i x2)), (4, (.v (.func (.func 35) #[] #[])))] [Res.row (Ty.atZ ch_0_3 Y30) 30 ch_0_0 ch_0_1 ch_0_2 y79, Res.priv ch_0_3] a w → api_Account_n57_0z_4f35.j11 x2 y79 (api_Account_n57_0z_4f35.l1 k x2 q1) y87 y97 (api_Account_n57_0z_4f35.l2 x2 y79 (api_Account_n57_0z_4f35.l1 k x2 q1) y87 q2) y98 = some r → K11 a w := by
          intro m y98 a w S h0
          delta api_Account_n57_0z_4f35.j11 at h0
          refine hK11 a w ?_
          rcases ite_of h0 with ⟨c12, h1⟩ | ⟨c12, h1⟩
          ·refine c_condT S rfl c12 (wp_skip (x_thenN (wp_block (c_region' (s_move S rfl rfl fun a S => s_bin S rfl rfl rfl rfl fun a S => s_assign S rfl rfl fun a S => c_end' (x_blockN (x_thenN ?_)))))))
           exact ⟨_, (wr .i64 (y97 - 1)), (S.sb rfl (.c0 (.c0 .n))), h1⟩
          ·refine c_condF S rfl c12 (wp_exit (x_thenX (x_thenX (x_blockX (x_thenN ?_)))))
           exact j9 _ y97 a w (S.sb rfl (.c0 (.c0 .n))) h1
         refine c_heldS S (.take 0 (.take 1 (.take 2 (.take 3 (.take 4 (.take 5 (.take 6 (.take 9 (.take 10 (.alts (.run 7 true (.alts (.run 8 true (.alts (.run 11 true (.alts (.run 12 true (.alts (.run 13 true (.take 14 (.take 15 (.take 16 .done))) .nil)) .nil)) .nil)) (.run 11 true (.alts (.run 8 true (.alts (.run 12 true (.alts (.run 13 true (.take 14 (.take 15 (.take 16 .done))) .nil)) .nil)) (.run 12 true (.alts (.run 8 true (.alts (.run 13 true (.take 14 (.take 15 (.take 16 .done))) .nil)) .nil)) .nil))) .nil))) (.run 11 true (.alts (.run 7 true (.alts (.run 8 true (.alts (.run 12 true (.alts (.run 13 true (.take 14 (.take 15 (.take 16 .done))) .nil)) .nil)) (.run 12 true (.alts (.run 8 true (.alts (.run 13 true (.take 14 (.take 15 (.take 16 .done))) .nil)) .nil)) .nil))) (.run 12 true (.alts (.run 7 true (.alts (.run 8 true (.alts (.run 13 true (.take 14 (.take 15 (.take 16 .done))) .nil)) .nil)) .nil)) .nil))) .nil)))))))))))) 17 [] .nil trivial [(13, (.i y97)), (12, (.i y87)), (0, (.s ch_0_0 ch_0_1 ch_0_2)), (1, (.i x2)), (4, (.v (.func (.func 35) #[] #[])))] (subR rfl) (by kernel_rfl) (by kernel_rfl) fun w S CL hw le => ?_
         refine h_move S CL hw le (subR rfl) rfl rfl rfl trivial fun a S CL => h_move S CL hw le (subR rfl) rfl rfl rfl trivial fun a S CL => h_bin S CL hw le (subR rfl) rfl rfl rfl rfl rfl trivial fun a S CL => h_move S CL hw le (subR rfl) rfl rfl rfl trivial fun a S CL => ?_
         rcases ite_of h0 with ⟨c13, h1⟩ | ⟨c13, h1⟩
         ·refine h_move S CL hw le (subR rfl) rfl rfl rfl ⟨_, _, rfl, rfl, c13⟩ fun a S CL => h_move S CL hw le (subR rfl) rfl rfl rfl ⟨_, _, rfl, rfl, c13⟩ fun a S CL => h_move S CL hw le (subR rfl) rfl rfl rfl ⟨_, _, rfl, rfl, c13⟩ fun a S CL => h_move S CL hw le (subR rfl) rfl rfl rfl ⟨_, _, rfl, rfl, c13⟩ fun a S CL => h_move S CL hw le (subR rfl) rfl rfl rfl ⟨_, _, rfl, rfl, c13⟩ fun a S CL => ?_
          obtain ⟨c14, h2⟩ := chk_of h1; clear h1
          obtain ⟨c15, h3⟩ := chk_of h2; clear h2
          refine bindX h3 fun t1 et1 h4 => h_alts ?_
          refine h_runO S rfl ⟨_, _, rfl, rfl, c13⟩ ?_ ?_
          ·refine s_iaddrO S (ty' := (Ty.atZ ch_0_3 Y30)) rfl .h rfl underlying32 T30 c14.1 c14.2 rfl fun g27 a hA13 S => CL.bk hw S .nil le fun hw => h_alts ?_
           refine h_runO S rfl ⟨_, _, rfl, rfl, c13⟩ ?_ ?_
           ·refine s_ldRA S (ty' := (Ty.atZ ch_0_3 Y30)) (i := y97) (off := 0) (fun c => ((Ty.atZ ch_0_3 Y30).segs (gt y79 y97) c)) rfl hA13 .h T30 c14.1 c14.2 rfl (fun _ => rfl) rfl fun ch15 a S => ?_
            refine CL.bk hw S .nil le fun hw => h_run' S rfl ⟨_, _, rfl, rfl, c13⟩ (s_iaddrO S (ty' := (Ty.atZ ch_0_3 Y30)) rfl .h rfl underlying32 T30 c15.1 c15.2 rfl fun g28 a hA14 S => CL.bk hw S .nil le fun hw => h_run' S rfl ⟨_, _, rfl, rfl, c13⟩ (s_ldRA S (ty' := (Ty.atZ ch_0_3 Y30)) (i := x2) (off := 0) (fun c => ((Ty.atZ ch_0_3 Y30).segs (gt y79 x2) c)) rfl hA14 .h T30 c15.1 c15.2 rfl (fun _ => rfl) rfl fun ch16 a S => ?_))
            refine CL.bk hw S .nil le fun hw => h_run' S rfl ⟨_, _, rfl, rfl, c13⟩ (s_callL S (ds' := [(.agg ((Ty.atZ ch_0_3 Y30).segs (gt y79 y97) ch15)), (.agg ((Ty.atZ ch_0_3 Y30).segs (gt y79 x2) ch16))]) (ds := [(.agg (Y30.segs (gt y79 y97) ch15)), (.agg (Y30.segs (gt y79 x2) ch16))]) (fun (ch : Unit) => ((.i t1) : D)) (fun _ _ _ h => h) (by obtain ⟨mm, g1, gZ, g2⟩ := S.plend .h1; exact ⟨mm, g1, g2, fun ok => ⟨(okA_lend gZ ok.1), (okA_lend gZ ok.2.1), trivial⟩⟩) N35 rfl rfl rfl (fun _ => store_Store_All_1.ok (gt y79 y97) (gt y79 x2) ch15.2.2.2.1.1 ch15.2.2.2.1.2 ch15.2.2.2.2.1 ch15.2.2.2.2.2 ch16.2.2.2.1.1 ch16.2.2.2.1.2 ch16.2.2.2.2.1 ch16.2.2.2.2.2 t1 et1 _ _) fun ch17 a w S => CL.bk hw S .nil le fun hw => ?_)
            replace CL := CL.add (t := 136) (d := (.i t1)) S rfl rfl
            refine h_bin S CL hw le (subR rfl) rfl rfl rfl rfl rfl ⟨_, _, rfl, rfl, c13⟩ fun a S CL => h_not S CL hw le (subR rfl) rfl rfl rfl ⟨_, _, rfl, rfl, c13⟩ fun a S CL => h_pick S CL hw le (subR rfl) (b := true) (hc_of rfl c13) rfl rfl rfl trivial fun a S CL => ?_
            refine h_done ?_; clear CL hw le
            refine x_thenN ?_
            exact j11 _ (!(decide (t1 < 0))) a w (S.sb rfl (.c0 (.c0 .n))) h4
           refine h_runO S rfl ⟨_, _, rfl, rfl, c13⟩ ?_ ?_
           ·refine s_iaddrO S (ty' := (Ty.atZ ch_0_3 Y30)) rfl .h rfl underlying32 T30 c15.1 c15.2 rfl fun g28 a hA14 S => CL.bk hw S .nil le fun hw => h_alts ?_
            refine h_runO S rfl ⟨_, _, rfl, rfl, c13⟩ ?_ ?_
            ·refine s_ldRA S (ty' := (Ty.atZ ch_0_3 Y30)) (i := y97) (off := 0) (fun c => ((Ty.atZ ch_0_3 Y30).segs (gt y79 y97) c)) rfl hA13 .h T30 c14.1 c14.2 rfl (fun _ => rfl) rfl fun ch15 a S => ?_
             refine CL.bk hw S .nil le fun hw => h_run' S rfl ⟨_, _, rfl, rfl, c13⟩ (s_ldRA S (ty' := (Ty.atZ ch_0_3 Y30)) (i := x2) (off := 0) (fun c => ((Ty.atZ ch_0_3 Y30).segs (gt y79 x2) c)) rfl hA14 .h T30 c15.1 c15.2 rfl (fun _ => rfl) rfl fun ch16 a S => ?_)
             refine CL.bk hw S .nil le fun hw => h_run' S rfl ⟨_, _, rfl, rfl, c13⟩ (s_callL S (ds' := [(.agg ((Ty.atZ ch_0_3 Y30).segs (gt y79 y97) ch15)), (.agg ((Ty.atZ ch_0_3 Y30).segs (gt y79 x2) ch16))]) (ds := [(.agg (Y30.segs (gt y79 y97) ch15)), (.agg (Y30.segs (gt y79 x2) ch16))]) (fun (ch : Unit) => ((.i t1) : D)) (fun _ _ _ h => h) (by obtain ⟨mm, g1, gZ, g2⟩ := S.plend .h1; exact ⟨mm, g1, g2, fun ok => ⟨(okA_lend gZ ok.1), (okA_lend gZ ok.2.1), trivial⟩⟩) N35 rfl rfl rfl (fun _ => store_Store_All_1.ok (gt y79 y97) (gt y79 x2) ch15.2.2.2.1.1 ch15.2.2.2.1.2 ch15.2.2.2.2.1 ch15.2.2.2.2.2 ch16.2.2.2.1.1 ch16.2.2.2.1.2 ch16.2.2.2.2.1 ch16.2.2.2.2.2 t1 et1 _ _) fun ch17 a w S => CL.bk hw S .nil le fun hw => ?_)
             replace CL := CL.add (t := 136) (d := (.i t1)) S rfl rfl
             refine h_bin S CL hw le (subR rfl) rfl rfl rfl rfl rfl ⟨_, _, rfl, rfl, c13⟩ fun a S CL => h_not S CL hw le (subR rfl) rfl rfl rfl ⟨_, _, rfl, rfl, c13⟩ fun a S CL => h_pick S CL hw le (subR rfl) (b := true) (hc_of rfl c13) rfl rfl rfl trivial fun a S CL => ?_
             refine h_done ?_; clear CL hw le
             refine x_thenN ?_
             exact j11 _ (!(decide (t1 < 0))) a w (S.sb rfl (.c0 (.c0 .n))) h4
            refine h_runO S rfl ⟨_, _, rfl, rfl, c13⟩ ?_ ?_
            ·refine s_ldRA S (ty' := (Ty.atZ ch_0_3 Y30)) (i := x2) (off := 0) (fun c => ((Ty.atZ ch_0_3 Y30).segs (gt y79 x2) c)) rfl hA14 .h T30 c15.1 c15.2 rfl (fun _ => rfl) rfl fun ch15 a S => ?_
             refine CL.bk hw S .nil le fun hw => h_run' S rfl ⟨_, _, rfl, rfl, c13⟩ (s_ldRA S (ty' := (Ty.atZ ch_0_3 Y30)) (i := y97) (off := 0) (fun c => ((Ty.atZ ch_0_3 Y30).segs (gt y79 y97) c)) rfl hA13 .h T30 c14.1 c14.2 rfl (fun _ => rfl) rfl fun ch16 a S => ?_)
             refine CL.bk hw S .nil le fun hw => h_run' S rfl ⟨_, _, rfl, rfl, c13⟩ (s_callL S (ds' := [(.agg ((Ty.atZ ch_0_3 Y30).segs (gt y79 y97) ch16)), (.agg ((Ty.atZ ch_0_3 Y30).segs (gt y79 x2) ch15))]) (ds := [(.agg (Y30.segs (gt y79 y97) ch16)), (.agg (Y30.segs (gt y79 x2) ch15))]) (fun (ch : Unit) => ((.i t1) : D)) (fun _ _ _ h => h) (by obtain ⟨mm, g1, gZ, g2⟩ := S.plend .h1; exact ⟨mm, g1, g2, fun ok => ⟨(okA_lend gZ ok.1), (okA_lend gZ ok.2.1), trivial⟩⟩) N35 rfl rfl rfl (fun _ => store_Store_All_1.ok (gt y79 y97) (gt y79 x2) ch16.2.2.2.1.1 ch16.2.2.2.1.2 ch16.2.2.2.2.1 ch16.2.2.2.2.2 ch15.2.2.2.1.1 ch15.2.2.2.1.2 ch15.2.2.2.2.1 ch15.2.2.2.2.2 t1 et1 _ _) fun ch17 a w S => CL.bk hw S .nil le fun hw => ?_)
             replace CL := CL.add (t := 136) (d := (.i t1)) S rfl rfl
             refine h_bin S CL hw le (subR rfl) rfl rfl rfl rfl rfl ⟨_, _, rfl, rfl, c13⟩ fun a S CL => h_not S CL hw le (subR rfl) rfl rfl rfl ⟨_, _, rfl, rfl, c13⟩ fun a S CL => h_pick S CL hw le (subR rfl) (b := true) (hc_of rfl c13) rfl rfl rfl trivial fun a S CL => ?_
             refine h_done ?_; clear CL hw le
             refine x_thenN ?_
             exact j11 _ (!(decide (t1 < 0))) a w (S.sb rfl (.c0 (.c0 .n))) h4
            exact h_nil
           exact h_nil
          refine h_runO S rfl ⟨_, _, rfl, rfl, c13⟩ ?_ ?_
          ·refine s_iaddrO S (ty' := (Ty.atZ ch_0_3 Y30)) rfl .h rfl underlying32 T30 c15.1 c15.2 rfl fun g27 a hA13 S => CL.bk hw S .nil le fun hw => h_alts ?_
           refine h_runO S rfl ⟨_, _, rfl, rfl, c13⟩ ?_ ?_
           ·refine s_iaddrO S (ty' := (Ty.atZ ch_0_3 Y30)) rfl .h rfl underlying32 T30 c14.1 c14.2 rfl fun g28 a hA14 S => CL.bk hw S .nil le fun hw => h_alts ?_
            refine h_runO S rfl ⟨_, _, rfl, rfl, c13⟩ ?_ ?_
            ·refine s_ldRA S (ty' := (Ty.atZ ch_0_3 Y30)) (i := y97) (off := 0) (fun c => ((Ty.atZ ch_0_3 Y30).segs (gt y79 y97) c)) rfl hA14 .h T30 c14.1 c14.2 rfl (fun _ => rfl) rfl fun ch15 a S => ?_
             refine CL.bk hw S .nil le fun hw => h_run' S rfl ⟨_, _, rfl, rfl, c13⟩ (s_ldRA S (ty' := (Ty.atZ ch_0_3 Y30)) (i := x2) (off := 0) (fun c => ((Ty.atZ ch_0_3 Y30).segs (gt y79 x2) c)) rfl hA13 .h T30 c15.1 c15.2 rfl (fun _ => rfl) rfl fun ch16 a S => ?_)
             refine CL.bk hw S .nil le fun hw => h_run' S rfl ⟨_, _, rfl, rfl, c13⟩ (s_callL S (ds' := [(.agg ((Ty.atZ ch_0_3 Y30).segs (gt y79 y97) ch15)), (.agg ((Ty.atZ ch_0_3 Y30).segs (gt y79 x2) ch16))]) (ds := [(.agg (Y30.segs (gt y79 y97) ch15)), (.agg (Y30.segs (gt y79 x2) ch16))]) (fun (ch : Unit) => ((.i t1) : D)) (fun _ _ _ h => h) (by obtain ⟨mm, g1, gZ, g2⟩ := S.plend .h1; exact ⟨mm, g1, g2, fun ok => ⟨(okA_lend gZ ok.1), (okA_lend gZ ok.2.1), trivial⟩⟩) N35 rfl rfl rfl (fun _ => store_Store_All_1.ok (gt y79 y97) (gt y79 x2) ch15.2.2.2.1.1 ch15.2.2.2.1.2 ch15.2.2.2.2.1 ch15.2.2.2.2.2 ch16.2.2.2.1.1 ch16.2.2.2.1.2 ch16.2.2.2.2.1 ch16.2.2.2.2.2 t1 et1 _ _) fun ch17 a w S => CL.bk hw S .nil le fun hw => ?_)
             replace CL := CL.add (t := 136) (d := (.i t1)) S rfl rfl
             refine h_bin S CL hw le (subR rfl) rfl rfl rfl rfl rfl ⟨_, _, rfl, rfl, c13⟩ fun a S CL => h_not S CL hw le (subR rfl) rfl rfl rfl ⟨_, _, rfl, rfl, c13⟩ fun a S CL => h_pick S CL hw le (subR rfl) (b := true) (hc_of rfl c13) rfl rfl rfl trivial fun a S CL => ?_
             refine h_done ?_; clear CL hw le
             refine x_thenN ?_
             exact j11 _ (!(decide (t1 < 0))) a w (S.sb rfl (.c0 (.c0 .n))) h4
            refine h_runO S rfl ⟨_, _, rfl, rfl, c13⟩ ?_ ?_
            ·refine s_ldRA S (ty' := (Ty.atZ ch_0_3 Y30)) (i := x2) (off := 0) (fun c => ((Ty.atZ ch_0_3 Y30).segs (gt y79 x2) c)) rfl hA13 .h T30 c15.1 c15.2 rfl (fun _ => rfl) rfl fun ch15 a S => ?_
             refine CL.bk hw S .nil le fun hw => h_run' S rfl ⟨_, _, rfl, rfl, c13⟩ (s_ldRA S (ty' := (Ty.atZ ch_0_3 Y30)) (i := y97) (off := 0) (fun c => ((Ty.atZ ch_0_3 Y30).segs (gt y79 y97) c)) rfl hA14 .h T30 c14.1 c14.2 rfl (fun _ => rfl) rfl fun ch16 a S => ?_)
             refine CL.bk hw S .nil le fun hw => h_run' S rfl ⟨_, _, rfl, rfl, c13⟩ (s_callL S (ds' := [(.agg ((Ty.atZ ch_0_3 Y30).segs (gt y79 y97) ch16)), (.agg ((Ty.atZ ch_0_3 Y30).segs (gt y79 x2) ch15))]) (ds := [(.agg (Y30.segs (gt y79 y97) ch16)), (.agg (Y30.segs (gt y79 x2) ch15))]) (fun (ch : Unit) => ((.i t1) : D)) (fun _ _ _ h => h) (by obtain ⟨mm, g1, gZ, g2⟩ := S.plend .h1; exact ⟨mm, g1, g2, fun ok => ⟨(okA_lend gZ ok.1), (okA_lend gZ ok.2.1), trivial⟩⟩) N35 rfl rfl rfl (fun _ => store_Store_All_1.ok (gt y79 y97) (gt y79 x2) ch16.2.2.2.1.1 ch16.2.2.2.1.2 ch16.2.2.2.2.1 ch16.2.2.2.2.2 ch15.2.2.2.1.1 ch15.2.2.2.1.2 ch15.2.2.2.2.1 ch15.2.2.2.2.2 t1 et1 _ _) fun ch17 a w S => CL.bk hw S .nil le fun hw => ?_)
             replace CL := CL.add (t := 136) (d := (.i t1)) S rfl rfl
             refine h_bin S CL hw le (subR rfl) rfl rfl rfl rfl rfl ⟨_, _, rfl, rfl, c13⟩ fun a S CL => h_not S CL hw le (subR rfl) rfl rfl rfl ⟨_, _, rfl, rfl, c13⟩ fun a S CL => h_pick S CL hw le (subR rfl) (b := true) (hc_of rfl c13) rfl rfl rfl trivial fun a S CL => ?_
             refine h_done ?_; clear CL hw le
             refine x_thenN ?_
             exact j11 _ (!(decide (t1 < 0))) a w (S.sb rfl (.c0 (.c0 .n))) h4
            exact h_nil
           refine h_runO S rfl ⟨_, _, rfl, rfl, c13⟩ ?_ ?_
           ·refine s_ldRA S (ty' := (Ty.atZ ch_0_3 Y30)) (i := x2) (off := 0) (fun c => ((Ty.atZ ch_0_3 Y30).segs (gt y79 x2) c)) rfl hA13 .h T30 c15.1 c15.2 rfl (fun _ => rfl) rfl fun ch15 a S => ?_
            refine CL.bk hw S .nil le fun hw => h_run' S rfl ⟨_, _, rfl, rfl, c13⟩ (s_iaddrO S (ty' := (Ty.atZ ch_0_3 Y30)) rfl .h rfl underlying32 T30 c14.1 c14.2 rfl fun g28 a hA14 S => CL.bk hw S .nil le fun hw => h_run' S rfl ⟨_, _, rfl, rfl, c13⟩ (s_ldRA S (ty' := (Ty.atZ ch_0_3 Y30)) (i := y97) (off := 0) (fun c => ((Ty.atZ ch_0_3 Y30).segs (gt y79 y97) c)) rfl hA14 .h T30 c14.1 c14.2 rfl (fun _ => rfl) rfl fun ch16 a S => ?_))
            refine CL.bk hw S .nil le fun hw => h_run' S rfl ⟨_, _, rfl, rfl, c13⟩ (s_callL S (ds' := [(.agg ((Ty.atZ ch_0_3 Y30).segs (gt y79 y97) ch16)), (.agg ((Ty.atZ ch_0_3 Y30).segs (gt y79 x2) ch15))]) (ds := [(.agg (Y30.segs (gt y79 y97) ch16)), (.agg (Y30.segs (gt y79 x2) ch15))]) (fun (ch : Unit) => ((.i t1) : D)) (fun _ _ _ h => h) (by obtain ⟨mm, g1, gZ, g2⟩ := S.plend .h1; exact ⟨mm, g1, g2, fun ok => ⟨(okA_lend gZ ok.1), (okA_lend gZ ok.2.1), trivial⟩⟩) N35 rfl rfl rfl (fun _ => store_Store_All_1.ok (gt y79 y97) (gt y79 x2) ch16.2.2.2.1.1 ch16.2.2.2.1.2 ch16.2.2.2.2.1 ch16.2.2.2.2.2 ch15.2.2.2.1.1 ch15.2.2.2.1.2 ch15.2.2.2.2.1 ch15.2.2.2.2.2 t1 et1 _ _) fun ch17 a w S => CL.bk hw S .nil le fun hw => ?_)
            replace CL := CL.add (t := 136) (d := (.i t1)) S rfl rfl
            refine h_bin S CL hw le (subR rfl) rfl rfl rfl rfl rfl ⟨_, _, rfl, rfl, c13⟩ fun a S CL => h_not S CL hw le (subR rfl) rfl rfl rfl ⟨_, _, rfl, rfl, c13⟩ fun a S CL => h_pick S CL hw le (subR rfl) (b := true) (hc_of rfl c13) rfl rfl rfl trivial fun a S CL => ?_
            refine h_done ?_; clear CL hw le
            refine x_thenN ?_
            exact j11 _ (!(decide (t1 < 0))) a w (S.sb rfl (.c0 (.c0 .n))) h4
           exact h_nil
          exact h_nil
         ·refine h_skip S CL rfl rfl rfl (ne_bool c13) rfl fun a S CL => h_skip S CL rfl rfl rfl (ne_bool c13) rfl fun a S CL => h_skip S CL rfl rfl rfl (ne_bool c13) rfl fun a S CL => h_skip S CL rfl rfl rfl (ne_bool c13) rfl fun a S CL => h_skip S CL rfl rfl rfl (ne_bool c13) rfl fun a S CL => h_alts ?_
          refine h_skipOt S rfl rfl rfl (ne_bool c13) rfl ?_ ?_
          ·clear S a; intro a S
           refine CL.bk hw S .nil le fun hw => h_alts ?_
           refine h_skipOt S rfl rfl rfl (ne_bool c13) rfl ?_ ?_
           ·clear S a; intro a S
            refine CL.bk hw S .nil le fun hw => h_skipRt S rfl rfl rfl (ne_bool c13) rfl fun a S => CL.bk hw S .nil le fun hw => h_skipRt S rfl rfl rfl (ne_bool c13) rfl fun a S => CL.bk hw S .nil le fun hw => h_skipRt S rfl rfl rfl (ne_bool c13) rfl fun a S => CL.bk hw S .nil le fun hw => ?_
            replace CL := CL.add (t := 136) (d := .u) S rfl rfl
            refine h_skip S CL rfl rfl rfl (ne_bool c13) rfl fun a S CL => h_skip S CL rfl rfl rfl (ne_bool c13) rfl fun a S CL => h_pick S CL hw le (subR rfl) (b := false) (hc_of rfl c13) rfl rfl rfl trivial fun a S CL => ?_
            refine h_done ?_; clear CL hw le
            refine x_thenN ?_
            exact j11 _ false a w (S.sb rfl (.c0 (.c0 .n))) h1
           refine h_skipOt S rfl rfl rfl (ne_bool c13) rfl ?_ ?_
           ·clear S a; intro a S
            refine CL.bk hw S .nil le fun hw => h_alts ?_
            refine h_skipOt S rfl rfl rfl (ne_bool c13) rfl ?_ ?_
            ·clear S a; intro a S
             refine CL.bk hw S .nil le fun hw => h_skipRt S rfl rfl rfl (ne_bool c13) rfl fun a S => CL.bk hw S .nil le fun hw => h_skipRt S rfl rfl rfl (ne_bool c13) rfl fun a S => CL.bk hw S .nil le fun hw => ?_
             replace CL := CL.add (t := 136) (d := .u) S rfl rfl
             refine h_skip S CL rfl rfl rfl (ne_bool c13) rfl fun a S CL => h_skip S CL rfl rfl rfl (ne_bool c13) rfl fun a S CL => h_pick S CL hw le (subR rfl) (b := false) (hc_of rfl c13) rfl rfl rfl trivial fun a S CL => ?_
             refine h_done ?_; clear CL hw le
             refine x_thenN ?_
             exact j11 _ false a w (S.sb rfl (.c0 (.c0 .n))) h1
            refine h_skipOt S rfl rfl rfl (ne_bool c13) rfl ?_ ?_
            ·clear S a; intro a S
             refine CL.bk hw S .nil le fun hw => h_skipRt S rfl rfl rfl (ne_bool c13) rfl fun a S => CL.bk hw S .nil le fun hw => h_skipRt S rfl rfl rfl (ne_bool c13) rfl fun a S => CL.bk hw S .nil le fun hw => ?_
             replace CL := CL.add (t := 136) (d := .u) S rfl rfl
             refine h_skip S CL rfl rfl rfl (ne_bool c13) rfl fun a S CL => h_skip S CL rfl rfl rfl (ne_bool c13) rfl fun a S CL => h_pick S CL hw le (subR rfl) (b := false) (hc_of rfl c13) rfl rfl rfl trivial fun a S CL => ?_
             refine h_done ?_; clear CL hw le
             refine x_thenN ?_
             exact j11 _ false a w (S.sb rfl (.c0 (.c0 .n))) h1
            exact h_nil
           exact h_nil
          refine h_skipOt S rfl rfl rfl (ne_bool c13) rfl ?_ ?_
          ·clear S a; intro a S
           refine CL.bk hw S .nil le fun hw => h_alts ?_
           refine h_skipOt S rfl rfl rfl (ne_bool c13) rfl ?_ ?_
           ·clear S a; intro a S
            refine CL.bk hw S .nil le fun hw => h_alts ?_
            refine h_skipOt S rfl rfl rfl (ne_bool c13) rfl ?_ ?_
            ·clear S a; intro a S
             refine CL.bk hw S .nil le fun hw => h_skipRt S rfl rfl rfl (ne_bool c13) rfl fun a S => CL.bk hw S .nil le fun hw => h_skipRt S rfl rfl rfl (ne_bool c13) rfl fun a S => CL.bk hw S .nil le fun hw => ?_
             replace CL := CL.add (t := 136) (d := .u) S rfl rfl
             refine h_skip S CL rfl rfl rfl (ne_bool c13) rfl fun a S CL => h_skip S CL rfl rfl rfl (ne_bool c13) rfl fun a S CL => h_pick S CL hw le (subR rfl) (b := false) (hc_of rfl c13) rfl rfl rfl trivial fun a S CL => ?_
             refine h_done ?_; clear CL hw le
             refine x_thenN ?_
             exact j11 _ false a w (S.sb rfl (.c0 (.c0 .n))) h1
            refine h_skipOt S rfl rfl rfl (ne_bool c13) rfl ?_ ?_
            ·clear S a; intro a S
             refine CL.bk hw S .nil le fun hw => h_skipRt S rfl rfl rfl (ne_bool c13) rfl fun a S => CL.bk hw S .nil le fun hw => h_skipRt S rfl rfl rfl (ne_bool c13) rfl fun a S => CL.bk hw S .nil le fun hw => ?_
             replace CL := CL.add (t := 136) (d := .u) S rfl rfl
             refine h_skip S CL rfl rfl rfl (ne_bool c13) rfl fun a S CL => h_skip S CL rfl rfl rfl (ne_bool c13) rfl fun a S CL => h_pick S CL hw le (subR rfl) (b := false) (hc_of rfl c13) rfl rfl rfl trivial fun a S CL => ?_
             refine h_done ?_; clear CL hw le
             refine x_thenN ?_
             exact j11 _ false a w (S.sb rfl (.c0 (.c0 .n))) h1
            exact h_nil
           refine h_skipOt S rfl rfl rfl (ne_bool c13) rfl ?_ ?_
           ·clear S a; intro a S
            refine CL.bk hw S .nil le fun hw => h_skipRt S rfl rfl rfl (ne_bool c13) rfl fun a S => CL.bk hw S .nil le fun hw => h_skipRt S rfl rfl rfl (ne_bool c13) rfl fun a S => CL.bk hw S .nil le fun hw => h_skipRt S rfl rfl rfl (ne_bool c13) rfl fun a S => CL.bk hw S .nil le fun hw => ?_
            replace CL := CL.add (t := 136) (d := .u) S rfl rfl
            refine h_skip S CL rfl rfl rfl (ne_bool c13) rfl fun a S CL => h_skip S CL rfl rfl rfl (ne_bool c13) rfl fun a S CL => h_pick S CL hw le (subR rfl) (b := false) (hc_of rfl c13) rfl rfl rfl trivial fun a S CL => ?_
            refine h_done ?_; clear CL hw le
            refine x_thenN ?_
            exact j11 _ false a w (S.sb rfl (.c0 (.c0 .n))) h1
           exact h_nil
          exact h_nil
       refine wp_block ?_
       refine c_loop (fun q3 a w => ∃ m y102, St 178 m b0 [(13, (.i y80)), (12, (.i y102)), (0, (.s ch_0_0 ch_0_1 ch_0_2)), (1, (.i x2)), (4, (.v (.func (.func 35) #[] #[])))] [Res.row (Ty.atZ ch_0_3 Y30) 30 ch_0_0 ch_0_1 ch_0_2 y79, Res.priv ch_0_3] a w ∧ api_Account_n57_0z_4f35.l3 k x2 y79 y80 (api_Account_n57_0z_4f35.l1 k x2 q1) q3 y102 = some r) ?_ ?_ (k := k) ⟨_, y81, (S.sb rfl (.c0 (.c0 .n))), h0⟩
       ·rintro a w ⟨m, y102, S, h0⟩
        exact (nomatch (show (none : Option (Int × Bool × (List L30))) = some r from h0))
       ·clear S h0
        rintro q3 a w ⟨m, y102, S, h0⟩
        replace h0 : api_Account_n57_0z_4f35.b3 k x2 y79 y80 (api_Account_n57_0z_4f35.l1 k x2 q1) (api_Account_n57_0z_4f35.l3 k x2 y79 y80 (api_Account_n57_0z_4f35.l1 k x2 q1) q3) y102 = some r := h0
        delta api_Account_n57_0z_4f35.b3 at h0
        refine wp_seq (wp_seq_k fun K12 hK12 => ?_)
        have j12 : ∀ m y103 a w, St 178 m b0 [(120, (.b y103)), (13, (.i y80)), (12, (.i y102)), (0, (.s ch_0_0 ch_0_1 ch_0_2)), (1, (.i x2)), (4, (.v (.func (.func 35) #[] #[])))] [Res.row (Ty.atZ ch_0_3 Y30) 30 ch_0_0 ch_0_1 ch_0_2 y79, Res.priv ch_0_3] a w → api_Account_n57_0z_4f35.j12 k x2 y79 y80 (api_Account_n57_0z_4f35.l1 k x2 q1) y102 (api_Account_n57_0z_4f35.l3 k x2 y79 y80 (api_Account_n57_0z_4f35.l1 k x2 q1) q3) y103 = some r → K12 a w := by
         intro m y103 a w S h0
         delta api_Account_n57_0z_4f35.j12 at h0
         refine hK12 a w ?_
         rcases ite_of h0 with ⟨c16, h1⟩ | ⟨c16, h1⟩
         ·refine c_condT S rfl c16 (wp_skip (x_thenN (wp_block (c_region' (s_move S rfl rfl fun a S => s_bin S rfl rfl rfl rfl fun a S => s_assign S rfl rfl fun a S => c_end' (x_blockN (x_thenN ?_)))))))
          exact ⟨_, (wr .i64 (y102 + 1)), (S.sb rfl (.c0 (.c0 .n))), h1⟩
         ·refine c_condF S rfl c16 (wp_exit (x_thenX (x_thenX (x_blockX (x_thenN ?_)))))
          exact j8 _ y102 a w (S.sb rfl (.c0 (.c0 .n))) h1
        refine c_heldS S (.take 0 (.take 1 (.take 2 (.take 3 (.take 4 (.take 5 (.take 6 (.take 9 (.take 10 (.alts (.run 7 true (.alts (.run 8 true (.alts (.run 11 true (.alts (.run 12 true (.alts (.run 13 true (.take 14 (.take 15 .done)) .nil)) .nil)) .nil)) (.run 11 true (.alts (.run 8 true (.alts (.run 12 true (.alts (.run 13 true (.take 14 (.take 15 .done)) .nil)) .nil)) (.run 12 true (.alts (.run 8 true (.alts (.run 13 true (.take 14 (.take 15 .done)) .nil)) .nil)) .nil))) .nil))) (.run 11 true (.alts (.run 7 true (.alts (.run 8 true (.alts (.run 12 true (.alts (.run 13 true (.take 14 (.take 15 .done)) .nil)) .nil)) (.run 12 true (.alts (.run 8 true (.alts (.run 13 true (.take 14 (.take 15 .done)) .nil)) .nil)) .nil))) (.run 12 true (.alts (.run 7 true (.alts (.run 8 true (.alts (.run 13 true (.take 14 (.take 15 .done)) .nil)) .nil)) .nil)) .nil))) .nil)))))))))))) 16 [] .nil trivial [(13, (.i y80)), (12, (.i y102)), (0, (.s ch_0_0 ch_0_1 ch_0_2)), (1, (.i x2)), (4, (.v (.func (.func 35) #[] #[])))] (subR rfl) (by kernel_rfl) (by kernel_rfl) fun w S CL hw le => ?_
        refine h_move S CL hw le (subR rfl) rfl rfl rfl trivial fun a S CL => h_move S CL hw le (subR rfl) rfl rfl rfl trivial fun a S CL => h_bin S CL hw le (subR rfl) rfl rfl rfl rfl rfl trivial fun a S CL => h_move S CL hw le (subR rfl) rfl rfl rfl trivial fun a S CL => ?_
        rcases ite_of h0 with ⟨c17, h1⟩ | ⟨c17, h1⟩
        ·refine h_move S CL hw le (subR rfl) rfl rfl rfl ⟨_, _, rfl, rfl, c17⟩ fun a S CL => h_move S CL hw le (subR rfl) rfl rfl rfl ⟨_, _, rfl, rfl, c17⟩ fun a S CL => h_move S CL hw le (subR rfl) rfl rfl rfl ⟨_, _, rfl, rfl, c17⟩ fun a S CL => h_move S CL hw le (subR rfl) rfl rfl rfl ⟨_, _, rfl, rfl, c17⟩ fun a S CL => h_move S CL hw le (subR rfl) rfl rfl rfl ⟨_, _, rfl, rfl, c17⟩ fun a S CL => ?_
         obtain ⟨c18, h2⟩ := chk_of h1; clear h1
         obtain ⟨c19, h3⟩ := chk_of h2; clear h2
         refine bindX h3 fun t3 et3 h4 => h_alts ?_
         refine h_runO S rfl ⟨_, _, rfl, rfl, c17⟩ ?_ ?_
         ·refine s_iaddrO S (ty' := (Ty.atZ ch_0_3 Y30)) rfl .h rfl underlying32 T30 c18.1 c18.2 rfl fun g31 a hA15 S => CL.bk hw S .nil le fun hw => h_alts ?_
          refine h_runO S rfl ⟨_, _, rfl, rfl, c17⟩ ?_ ?_
          ·refine s_ldRA S (ty' := (Ty.atZ ch_0_3 Y30)) (i := y102) (off := 0) (fun c => ((Ty.atZ ch_0_3 Y30).segs (gt y79 y102) c)) rfl hA15 .h T30 c18.1 c18.2 rfl (fun _ => rfl) rfl fun ch20 a S => ?_
           refine CL.bk hw S .nil le fun hw => h_run' S rfl ⟨_, _, rfl, rfl, c17⟩ (s_iaddrO S (ty' := (Ty.atZ ch_0_3 Y30)) rfl .h rfl underlying32 T30 c19.1 c19.2 rfl fun g32 a hA16 S => CL.bk hw S .nil le fun hw => h_run' S rfl ⟨_, _, rfl, rfl, c17⟩ (s_ldRA S (ty' := (Ty.atZ ch_0_3 Y30)) (i := x2) (off := 0) (fun c => ((Ty.atZ ch_0_3 Y30).segs (gt y79 x2) c)) rfl hA16 .h T30 c19.1 c19.2 rfl (fun _ => rfl) rfl fun ch21 a S => ?_))
           refine CL.bk hw S .nil le fun hw => h_run' S rfl ⟨_, _, rfl, rfl, c17⟩ (s_callL S (ds' := [(.agg ((Ty.atZ ch_0_3 Y30).segs (gt y79 y102) ch20)), (.agg ((Ty.atZ ch_0_3 Y30).segs (gt y79 x2) ch21))]) (ds := [(.agg (Y30.segs (gt y79 y102) ch20)), (.agg (Y30.segs (gt y79 x2) ch21))]) (fun (ch : Unit) => ((.i t3) : D)) (fun _ _ _ h => h) (by obtain ⟨mm, g1, gZ, g2⟩ := S.plend .h1; exact ⟨mm, g1, g2, fun ok => ⟨(okA_lend gZ ok.1), (okA_lend gZ ok.2.1), trivial⟩⟩) N35 rfl rfl rfl (fun _ => store_Store_All_1.ok (gt y79 y102) (gt y79 x2) ch20.2.2.2.1.1 ch20.2.2.2.1.2 ch20.2.2.2.2.1 ch20.2.2.2.2.2 ch21.2.2.2.1.1 ch21.2.2.2.1.2 ch21.2.2.2.2.1 ch21.2.2.2.2.2 t3 et3 _ _) fun ch22 a w S => CL.bk hw S .nil le fun hw => ?_)
           replace CL := CL.add (t := 118) (d := (.i t3)) S rfl rfl
           refine h_bin S CL hw le (subR rfl) rfl rfl rfl rfl rfl ⟨_, _, rfl, rfl, c17⟩ fun a S CL => h_pick S CL hw le (subR rfl) (b := true) (hc_of rfl c17) rfl rfl rfl trivial fun a S CL => ?_
           refine h_done ?_; clear CL hw le
           refine x_thenN ?_
           exact j12 _ (decide (t3 < 0)) a w (S.sb rfl (.c0 (.c0 .n))) h4
          refine h_runO S rfl ⟨_, _, rfl, rfl, c17⟩ ?_ ?_
          ·refine s_iaddrO S (ty' := (Ty.atZ ch_0_3 Y30)) rfl .h rfl underlying32 T30 c19.1 c19.2 rfl fun g32 a hA16 S => CL.bk hw S .nil le fun hw => h_alts ?_
           refine h_runO S rfl ⟨_, _, rfl, rfl, c17⟩ ?_ ?_
           ·refine s_ldRA S (ty' := (Ty.atZ ch_0_3 Y30)) (i := y102) (off := 0) (fun c => ((Ty.atZ ch_0_3 Y30).segs (gt y79 y102) c)) rfl hA15 .h T30 c18.1 c18.2 rfl (fun _ => rfl) rfl fun ch20 a S => ?_
            refine CL.bk hw S .nil le fun hw => h_run' S rfl ⟨_, _, rfl, rfl, c17⟩ (s_ldRA S (ty' := (Ty.atZ ch_0_3 Y30)) (i := x2) (off := 0) (fun c => ((Ty.atZ ch_0_3 Y30).segs (gt y79 x2) c)) rfl hA16 .h T30 c19.1 c19.2 rfl (fun _ => rfl) rfl fun ch21 a S => ?_)
            refine CL.bk hw S .nil le fun hw => h_run' S rfl ⟨_, _, rfl, rfl, c17⟩ (s_callL S (ds' := [(.agg ((Ty.atZ ch_0_3 Y30).segs (gt y79 y102) ch20)), (.agg ((Ty.atZ ch_0_3 Y30).segs (gt y79 x2) ch21))]) (ds := [(.agg (Y30.segs (gt y79 y102) ch20)), (.agg (Y30.segs (gt y79 x2) ch21))]) (fun (ch : Unit) => ((.i t3) : D)) (fun _ _ _ h => h) (by obtain ⟨mm, g1, gZ, g2⟩ := S.plend .h1; exact ⟨mm, g1, g2, fun ok => ⟨(okA_lend gZ ok.1), (okA_lend gZ ok.2.1), trivial⟩⟩) N35 rfl rfl rfl (fun _ => store_Store_All_1.ok (gt y79 y102) (gt y79 x2) ch20.2.2.2.1.1 ch20.2.2.2.1.2 ch20.2.2.2.2.1 ch20.2.2.2.2.2 ch21.2.2.2.1.1 ch21.2.2.2.1.2 ch21.2.2.2.2.1 ch21.2.2.2.2.2 t3 et3 _ _) fun ch22 a w S => CL.bk hw S .nil le fun hw => ?_)
            replace CL := CL.add (t := 118) (d := (.i t3)) S rfl rfl
            refine h_bin S CL hw le (subR rfl) rfl rfl rfl rfl rfl ⟨_, _, rfl, rfl, c17⟩ fun a S CL => h_pick S CL hw le (subR rfl) (b := true) (hc_of rfl c17) rfl rfl rfl trivial fun a S CL => ?_
            refine h_done ?_; clear CL hw le
            refine x_thenN ?_
            exact j12 _ (decide (t3 < 0)) a w (S.sb rfl (.c0 (.c0 .n))) h4
           refine h_runO S rfl ⟨_, _, rfl, rfl, c17⟩ ?_ ?_
           ·refine s_ldRA S (ty' := (Ty.atZ ch_0_3 Y30)) (i := x2) (off := 0) (fun c => ((Ty.atZ ch_0_3 Y30).segs (gt y79 x2) c)) rfl hA16 .h T30 c19.1 c19.2 rfl (fun _ => rfl) rfl fun ch20 a S => ?_
            refine CL.bk hw S .nil le fun hw => h_run' S rfl ⟨_, _, rfl, rfl, c17⟩ (s_ldRA S (ty' := (Ty.atZ ch_0_3 Y30)) (i := y102) (off := 0) (fun c => ((Ty.atZ ch_0_3 Y30).segs (gt y79 y102) c)) rfl hA15 .h T30 c18.1 c18.2 rfl (fun _ => rfl) rfl fun ch21 a S => ?_)
            refine CL.bk hw S .nil le fun hw => h_run' S rfl ⟨_, _, rfl, rfl, c17⟩ (s_callL S (ds' := [(.agg ((Ty.atZ ch_0_3 Y30).segs (gt y79 y102) ch21)), (.agg ((Ty.atZ ch_0_3 Y30).segs (gt y79 x2) ch20))]) (ds := [(.agg (Y30.segs (gt y79 y102) ch21)), (.agg (Y30.segs (gt y79 x2) ch20))]) (fun (ch : Unit) => ((.i t3) : D)) (fun _ _ _ h => h) (by obtain ⟨mm, g1, gZ, g2⟩ := S.plend .h1; exact ⟨mm, g1, g2, fun ok => ⟨(okA_lend gZ ok.1), (okA_lend gZ ok.2.1), trivial⟩⟩) N35 rfl rfl rfl (fun _ => store_Store_All_1.ok (gt y79 y102) (gt y79 x2) ch21.2.2.2.1.1 ch21.2.2.2.1.2 ch21.2.2.2.2.1 ch21.2.2.2.2.2 ch20.2.2.2.1.1 ch20.2.2.2.1.2 ch20.2.2.2.2.1 ch20.2.2.2.2.2 t3 et3 _ _) fun ch22 a w S => CL.bk hw S .nil le fun hw => ?_)
            replace CL := CL.add (t := 118) (d := (.i t3)) S rfl rfl
            refine h_bin S CL hw le (subR rfl) rfl rfl rfl rfl rfl ⟨_, _, rfl, rfl, c17⟩ fun a S CL => h_pick S CL hw le (subR rfl) (b := true) (hc_of rfl c17) rfl rfl rfl trivial fun a S CL => ?_
            refine h_done ?_; clear CL hw le
            refine x_thenN ?_
            exact j12 _ (decide (t3 < 0)) a w (S.sb rfl (.c0 (.c0 .n))) h4
           exact h_nil
          exact h_nil
         refine h_runO S rfl ⟨_, _, rfl, rfl, c17⟩ ?_ ?_
         ·refine s_iaddrO S (ty' := (Ty.atZ ch_0_3 Y30)) rfl .h rfl underlying32 T30 c19.1 c19.2 rfl fun g31 a hA15 S => CL.bk hw S .nil le fun hw => h_alts ?_
          refine h_runO S rfl ⟨_, _, rfl, rfl, c17⟩ ?_ ?_
          ·refine s_iaddrO S (ty' := (Ty.atZ ch_0_3 Y30)) rfl .h rfl underlying32 T30 c18.1 c18.2 rfl fun g32 a hA16 S => CL.bk hw S .nil le fun hw => h_alts ?_
           refine h_runO S rfl ⟨_, _, rfl, rfl, c17⟩ ?_ ?_
           ·refine s_ldRA S (ty' := (Ty.atZ ch_0_3 Y30)) (i := y102) (off := 0) (fun c => ((Ty.atZ ch_0_3 Y30).segs (gt y79 y102) c)) rfl hA16 .h T30 c18.1 c18.2 rfl (fun _ => rfl) rfl fun ch20 a S => ?_
            refine CL.bk hw S .nil le fun hw => h_run' S rfl ⟨_, _, rfl, rfl, c17⟩ (s_ldRA S (ty' := (Ty.atZ ch_0_3 Y30)) (i := x2) (off := 0) (fun c => ((Ty.atZ ch_0_3 Y30).segs (gt y79 x2) c)) rfl hA15 .h T30 c19.1 c19.2 rfl (fun _ => rfl) rfl fun ch21 a S => ?_)
            refine CL.bk hw S .nil le fun hw => h_run' S rfl ⟨_, _, rfl, rfl, c17⟩ (s_callL S (ds' := [(.agg ((Ty.atZ ch_0_3 Y30).segs (gt y79 y102) ch20)), (.agg ((Ty.atZ ch_0_3 Y30).segs (gt y79 x2) ch21))]) (ds := [(.agg (Y30.segs (gt y79 y102) ch20)), (.agg (Y30.segs (gt y79 x2) ch21))]) (fun (ch : Unit) => ((.i t3) : D)) (fun _ _ _ h => h) (by obtain ⟨mm, g1, gZ, g2⟩ := S.plend .h1; exact ⟨mm, g1, g2, fun ok => ⟨(okA_lend gZ ok.1), (okA_lend gZ ok.2.1), trivial⟩⟩) N35 rfl rfl rfl (fun _ => store_Store_All_1.ok (gt y79 y102) (gt y79 x2) ch20.2.2.2.1.1 ch20.2.2.2.1.2 ch20.2.2.2.2.1 ch20.2.2.2.2.2 ch21.2.2.2.1.1 ch21.2.2.2.1.2 ch21.2.2.2.2.1 ch21.2.2.2.2.2 t3 et3 _ _) fun ch22 a w S => CL.bk hw S .nil le fun hw => ?_)
            replace CL := CL.add (t := 118) (d := (.i t3)) S rfl rfl
            refine h_bin S CL hw le (subR rfl) rfl rfl rfl rfl rfl ⟨_, _, rfl, rfl, c17⟩ fun a S CL => h_pick S CL hw le (subR rfl) (b := true) (hc_of rfl c17) rfl rfl rfl trivial fun a S CL => ?_
            refine h_done ?_; clear CL hw le
            refine x_thenN ?_
            exact j12 _ (decide (t3 < 0)) a w (S.sb rfl (.c0 (.c0 .n))) h4
           refine h_runO S rfl ⟨_, _, rfl, rfl, c17⟩ ?_ ?_
           ·refine s_ldRA S (ty' := (Ty.atZ ch_0_3 Y30)) (i := x2) (off := 0) (fun c => ((Ty.atZ ch_0_3 Y30).segs (gt y79 x2) c)) rfl hA15 .h T30 c19.1 c19.2 rfl (fun _ => rfl) rfl fun ch20 a S => ?_
            refine CL.bk hw S .nil le fun hw => h_run' S rfl ⟨_, _, rfl, rfl, c17⟩ (s_ldRA S (ty' := (Ty.atZ ch_0_3 Y30)) (i := y102) (off := 0) (fun c => ((Ty.atZ ch_0_3 Y30).segs (gt y79 y102) c)) rfl hA16 .h T30 c18.1 c18.2 rfl (fun _ => rfl) rfl fun ch21 a S => ?_)
            refine CL.bk hw S .nil le fun hw => h_run' S rfl ⟨_, _, rfl, rfl, c17⟩ (s_callL S (ds' := [(.agg ((Ty.atZ ch_0_3 Y30).segs (gt y79 y102) ch21)), (.agg ((Ty.atZ ch_0_3 Y30).segs (gt y79 x2) ch20))]) (ds := [(.agg (Y30.segs (gt y79 y102) ch21)), (.agg (Y30.segs (gt y79 x2) ch20))]) (fun (ch : Unit) => ((.i t3) : D)) (fun _ _ _ h => h) (by obtain ⟨mm, g1, gZ, g2⟩ := S.plend .h1; exact ⟨mm, g1, g2, fun ok => ⟨(okA_lend gZ ok.1), (okA_lend gZ ok.2.1), trivial⟩⟩) N35 rfl rfl rfl (fun _ => store_Store_All_1.ok (gt y79 y102) (gt y79 x2) ch21.2.2.2.1.1 ch21.2.2.2.1.2 ch21.2.2.2.2.1 ch21.2.2.2.2.2 ch20.2.2.2.1.1 ch20.2.2.2.1.2 ch20.2.2.2.2.1 ch20.2.2.2.2.2 t3 et3 _ _) fun ch22 a w S => CL.bk hw S .nil le fun hw => ?_)
            replace CL := CL.add (t := 118) (d := (.i t3)) S rfl rfl
            refine h_bin S CL hw le (subR rfl) rfl rfl rfl rfl rfl ⟨_, _, rfl, rfl, c17⟩ fun a S CL => h_pick S CL hw le (subR rfl) (b := true) (hc_of rfl c17) rfl rfl rfl trivial fun a S CL => ?_
            refine h_done ?_; clear CL hw le
            refine x_thenN ?_
            exact j12 _ (decide (t3 < 0)) a w (S.sb rfl (.c0 (.c0 .n))) h4
           exact h_nil
          refine h_runO S rfl ⟨_, _, rfl, rfl, c17⟩ ?_ ?_
          ·refine s_ldRA S (ty' := (Ty.atZ ch_0_3 Y30)) (i := x2) (off := 0) (fun c => ((Ty.atZ ch_0_3 Y30).segs (gt y79 x2) c)) rfl hA15 .h T30 c19.1 c19.2 rfl (fun _ => rfl) rfl fun ch20 a S => ?_
           refine CL.bk hw S .nil le fun hw => h_run' S rfl ⟨_, _, rfl, rfl, c17⟩ (s_iaddrO S (ty' := (Ty.atZ ch_0_3 Y30)) rfl .h rfl underlying32 T30 c18.1 c18.2 rfl fun g32 a hA16 S => CL.bk hw S .nil le fun hw => h_run' S rfl ⟨_, _, rfl, rfl, c17⟩ (s_ldRA S (ty' := (Ty.atZ ch_0_3 Y30)) (i := y102) (off := 0) (fun c => ((Ty.atZ ch_0_3 Y30).segs (gt y79 y102) c)) rfl hA16 .h T30 c18.1 c18.2 rfl (fun _ => rfl) rfl fun ch21 a S => ?_))
           refine CL.bk hw S .nil le fun hw => h_run' S rfl ⟨_, _, rfl, rfl, c17⟩ (s_callL S (ds' := [(.agg ((Ty.atZ ch_0_3 Y30).segs (gt y79 y102) ch21)), (.agg ((Ty.atZ ch_0_3 Y30).segs (gt y79 x2) ch20))]) (ds := [(.agg (Y30.segs (gt y79 y102) ch21)), (.agg (Y30.segs (gt y79 x2) ch20))]) (fun (ch : Unit) => ((.i t3) : D)) (fun _ _ _ h => h) (by obtain ⟨mm, g1, gZ, g2⟩ := S.plend .h1; exact ⟨mm, g1, g2, fun ok => ⟨(okA_lend gZ ok.1), (okA_lend gZ ok.2.1), trivial⟩⟩) N35 rfl rfl rfl (fun _ => store_Store_All_1.ok (gt y79 y102) (gt y79 x2) ch21.2.2.2.1.1 ch21.2.2.2.1.2 ch21.2.2.2.2.1 ch21.2.2.2.2.2 ch20.2.2.2.1.1 ch20.2.2.2.1.2 ch20.2.2.2.2.1 ch20.2.2.2.2.2 t3 et3 _ _) fun ch22 a w S => CL.bk hw S .nil le fun hw => ?_)
           replace CL := CL.add (t := 118) (d := (.i t3)) S rfl rfl
           refine h_bin S CL hw le (subR rfl) rfl rfl rfl rfl rfl ⟨_, _, rfl, rfl, c17⟩ fun a S CL => h_pick S CL hw le (subR rfl) (b := true) (hc_of rfl c17) rfl rfl rfl trivial fun a S CL => ?_
           refine h_done ?_; clear CL hw le
           refine x_thenN ?_
           exact j12 _ (decide (t3 < 0)) a w (S.sb rfl (.c0 (.c0 .n))) h4
          exact h_nil
         exact h_nil
        ·refine h_skip S CL rfl rfl rfl (ne_bool c17) rfl fun a S CL => h_skip S CL rfl rfl rfl (ne_bool c17) rfl fun a S CL => h_skip S CL rfl rfl rfl (ne_bool c17) rfl fun a S CL => h_skip S CL rfl rfl rfl (ne_bool c17) rfl fun a S CL => h_skip S CL rfl rfl rfl (ne_bool c17) rfl fun a S CL => h_alts ?_
         refine h_skipOt S rfl rfl rfl (ne_bool c17) rfl ?_ ?_
         ·clear S a; intro a S
          refine CL.bk hw S .nil le fun hw => h_alts ?_
          refine h_skipOt S rfl rfl rfl (ne_bool c17) rfl ?_ ?_
          ·clear S a; intro a S
           refine CL.bk hw S .nil le fun hw => h_skipRt S rfl rfl rfl (ne_bool c17) rfl fun a S => CL.bk hw S .nil le fun hw => h_skipRt S rfl rfl rfl (ne_bool c17) rfl fun a S => CL.bk hw S .nil le fun hw => h_skipRt S rfl rfl rfl (ne_bool c17) rfl fun a S => CL.bk hw S .nil le fun hw => ?_
           replace CL := CL.add (t := 118) (d := .u) S rfl rfl
           refine h_skip S CL rfl rfl rfl (ne_bool c17) rfl fun a S CL => h_pick S CL hw le (subR rfl) (b := false) (hc_of rfl c17) rfl rfl rfl trivial fun a S CL => ?_
           refine h_done ?_; clear CL hw le
           refine x_thenN ?_
           exact j12 _ false a w (S.sb rfl (.c0 (.c0 .n))) h1
          refine h_skipOt S rfl rfl rfl (ne_bool c17) rfl ?_ ?_
          ·clear S a; intro a S
           refine CL.bk hw S .nil le fun hw => h_alts ?_
           refine h_skipOt S rfl rfl rfl (ne_bool c17) rfl ?_ ?_
           ·clear S a; intro a S
            refine CL.bk hw S .nil le fun hw => h_skipRt S rfl rfl rfl (ne_bool c17) rfl fun a S => CL.bk hw S .nil le fun hw => h_skipRt S rfl rfl rfl (ne_bool c17) rfl fun a S => CL.bk hw S .nil le fun hw => ?_
            replace CL := CL.add (t := 118) (d := .u) S rfl rfl
            refine h_skip S CL rfl rfl rfl (ne_bool c17) rfl fun a S CL => h_pick S CL hw le (subR rfl) (b := false) (hc_of rfl c17) rfl rfl rfl trivial fun a S CL => ?_
            refine h_done ?_; clear CL hw le
            refine x_thenN ?_
            exact j12 _ false a w (S.sb rfl (.c0 (.c0 .n))) h1
           refine h_skipOt S rfl rfl rfl (ne_bool c17) rfl ?_ ?_
           ·clear S a; intro a S
            refine CL.bk hw S .nil le fun hw => h_skipRt S rfl rfl rfl (ne_bool c17) rfl fun a S => CL.bk hw S .nil le fun hw => h_skipRt S rfl rfl rfl (ne_bool c17) rfl fun a S => CL.bk hw S .nil le fun hw => ?_
            replace CL := CL.add (t := 118) (d := .u) S rfl rfl
            refine h_skip S CL rfl rfl rfl (ne_bool c17) rfl fun a S CL => h_pick S CL hw le (subR rfl) (b := false) (hc_of rfl c17) rfl rfl rfl trivial fun a S CL => ?_
            refine h_done ?_; clear CL hw le
            refine x_thenN ?_
            exact j12 _ false a w (S.sb rfl (.c0 (.c0 .n))) h1
           exact h_nil
          exact h_nil
         refine h_skipOt S rfl rfl rfl (ne_bool c17) rfl ?_ ?_
         ·clear S a; intro a S
          refine CL.bk hw S .nil le fun hw => h_alts ?_
          refine h_skipOt S rfl rfl rfl (ne_bool c17) rfl ?_ ?_
          ·clear S a; intro a S
           refine CL.bk hw S .nil le fun hw => h_alts ?_
           refine h_skipOt S rfl rfl rfl (ne_bool c17) rfl ?_ ?_
           ·clear S a; intro a S
            refine CL.bk hw S .nil le fun hw => h_skipRt S rfl rfl rfl (ne_bool c17) rfl fun a S => CL.bk hw S .nil le fun hw => h_skipRt S rfl rfl rfl (ne_bool c17) rfl fun a S => CL.bk hw S .nil le fun hw => ?_
            replace CL := CL.add (t := 118) (d := .u) S rfl rfl
            refine h_skip S CL rfl rfl rfl (ne_bool c17) rfl fun a S CL => h_pick S CL hw le (subR rfl) (b := false) (hc_of rfl c17) rfl rfl rfl trivial fun a S CL => ?_
            refine h_done ?_; clear CL hw le
            refine x_thenN ?_
            exact j12 _ false a w (S.sb rfl (.c0 (.c0 .n))) h1
           refine h_skipOt S rfl rfl rfl (ne_bool c17) rfl ?_ ?_
           ·clear S a; intro a S
            refine CL.bk hw S .nil le fun hw => h_skipRt S rfl rfl rfl (ne_bool c17) rfl fun a S => CL.bk hw S .nil le fun hw => h_skipRt S rfl rfl rfl (ne_bool c17) rfl fun a S => CL.bk hw S .nil le fun hw => ?_
            replace CL := CL.add (t := 118) (d := .u) S rfl rfl
            refine h_skip S CL rfl rfl rfl (ne_bool c17) rfl fun a S CL => h_pick S CL hw le (subR rfl) (b := false) (hc_of rfl c17) rfl rfl rfl trivial fun a S CL => ?_
            refine h_done ?_; clear CL hw le
            refine x_thenN ?_
            exact j12 _ false a w (S.sb rfl (.c0 (.c0 .n))) h1
           exact h_nil
          refine h_skipOt S rfl rfl rfl (ne_bool c17) rfl ?_ ?_
          ·clear S a; intro a S
           refine CL.bk hw S .nil le fun hw => h_skipRt S rfl rfl rfl (ne_bool c17) rfl fun a S => CL.bk hw S .nil le fun hw => h_skipRt S rfl rfl rfl (ne_bool c17) rfl fun a S => CL.bk hw S .nil le fun hw => h_skipRt S rfl rfl rfl (ne_bool c17) rfl fun a S => CL.bk hw S .nil le fun hw => ?_
           replace CL := CL.add (t := 118) (d := .u) S rfl rfl
           refine h_skip S CL rfl rfl rfl (ne_bool c17) rfl fun a S CL => h_pick S CL hw le (subR rfl) (b := false) (hc_of rfl c17) rfl rfl rfl trivial fun a S CL => ?_
           refine h_done ?_; clear CL hw le
           refine x_thenN ?_
           exact j12 _ false a w (S.sb rfl (.c0 (.c0 .n))) h1
          exact h_nil
         exact h_nil
     refine c_heldS S (.take 0 (.take 1 (.take 2 (.take 3 (.take 4 (.take 5 (.take 8 (.take 9 (.alts (.run 6 true (.alts (.run 7 true (.alts (.run 10 true (.alts (.run 11 true (.alts (.run 12 true (.alts (.run 13 true (.alts (.run 14 true (.alts (.run 15 false .done .nil)) .nil)) .nil)) .nil)) .nil)) .nil)) (.run 10 true (.alts (.run 7 true (.alts (.run 11 true (.alts (.run 12 true (.alts (.run 13 true (.alts (.run 14 true (.alts (.run 15 false .done .nil)) .nil)) .nil)) .nil)) .nil)) (.run 11 true (.alts (.run 7 true (.alts (.run 12 true (.alts (.run 13 true (.alts (.run 14 true (.alts (.run 15 false .done .nil)) .nil)) .nil)) .nil)) .nil)) .nil))) .nil))) (.run 10 true (.alts (.run 6 true (.alts (.run 7 true (.alts (.run 11 true (.alts (.run 12 true (.alts (.run 13 true (.alts (.run 14 true (.alts (.run 15 false .done .nil)) .nil)) .nil)) .nil)) .nil)) (.run 11 true (.alts (.run 7 true (.alts (.run 12 true (.alts (.run 13 true (.alts (.run 14 true (.alts (.run 15 false .done .nil)) .nil)) .nil)) .nil)) .nil)) .nil))) (.run 11 true (.alts (.run 6 true (.alts (.run 7 true (.alts (.run 12 true (.alts (.run 13 true (.alts (.run 14 true (.alts (.run 15 false .done .nil)) .nil)) .nil)) .nil)) .nil)) .nil)) .nil))) .nil))))))))))) 15 [] .nil trivial [(13, (.i y7)), (12, (.i y1)), (0, (.s ch_0_0 ch_0_1 ch_0_2))] (subR rfl) (by kernel_rfl) (by kernel_rfl) fun w S CL hw le => ?_
     refine h_move S CL hw le (subR rfl) rfl rfl rfl trivial fun a S CL => h_move S CL hw le (subR rfl) rfl rfl rfl trivial fun a S CL => h_move S CL hw le (subR rfl) rfl rfl rfl trivial fun a S CL => h_move S CL hw le (subR rfl) rfl rfl rfl trivial fun a S CL => h_move S CL hw le (subR rfl) rfl rfl rfl trivial fun a S CL => h_move S CL hw le (subR rfl) rfl rfl rfl trivial fun a S CL => h_move S CL hw le (subR rfl) rfl rfl rfl trivial fun a S CL => h_move S CL hw le (subR rfl) rfl rfl rfl trivial fun a S CL => ?_
     obtain ⟨c20, h2⟩ := chk_of h1; clear h1
     obtain ⟨c21, h3⟩ := chk_of h2; clear h2
     obtain ⟨c22, h4⟩ := chk_of h3; clear h3
     refine h_alts ?_
     refine h_runO S rfl trivial ?_ ?_
     ·refine s_iaddrO S (ty' := (Ty.atZ ch_0_3 Y30)) rfl .h rfl underlying32 T30 c20.1 c20.2 rfl fun g33 a hA17 S => CL.bk hw S .nil le fun hw => h_alts ?_
      refine h_runO S rfl trivial ?_ ?_
      ·refine s_ldRA S (ty' := (Ty.atZ ch_0_3 Y30)) (i := y7) (off := 0) (fun c => ((Ty.atZ ch_0_3 Y30).segs (gt ((x1.set (Int.toNat x2) (gt x1 x4)).set (Int.toNat x4) (gt x1 x2)) y7) c)) rfl hA17 .h T30 c20.1 c20.2 rfl (fun _ => rfl) rfl fun ch23 a S => ?_
       refine CL.br hw S .nil le rfl trivial fun hw => (s_iaddrO S (ty' := (Ty.atZ ch_0_3 Y30)) rfl .h rfl underlying32 T30 c21.1 c21.2 rfl fun g34 a hA18 S => CL.br hw S .nil le rfl trivial fun hw => (s_ldRA S (ty' := (Ty.atZ ch_0_3 Y30)) (i := y1) (off := 0) (fun c => ((Ty.atZ ch_0_3 Y30).segs (gt ((x1.set (Int.toNat x2) (gt x1 x4)).set (Int.toNat x4) (gt x1 x2)) y1) c)) rfl hA18 .h T30 c21.1 c21.2 rfl (fun _ => rfl) rfl fun ch24 a S => ?_))
       refine CL.br hw S .nil le rfl trivial fun hw => (s_iaddrO S (ty' := (Ty.atZ ch_0_3 Y30)) rfl .h rfl underlying32 T30 c21.1 c21.2 rfl fun g35 a hA19 S => CL.br hw S .nil le rfl trivial fun hw => (s_stR S (ty' := (Ty.atZ ch_0_3 Y30)) (i := y1) (off := 0) (u := gt ((x1.set (Int.toNat x2) (gt x1 x4)).set (Int.toNat x4) (gt x1 x2)) y7) (fun _ => ch23) rfl rfl rfl hA19 .h T30 c21.1 c21.2 rfl (show 0 + 27 ≤ (Y30).size by decide) rfl (fun _ => rfl) fun w S => CL.br hw S .nil le rfl trivial fun hw => (s_iaddrO S (ty' := (Ty.atZ ch_0_3 Y30)) rfl .h rfl underlying32 T30 c22.1 c22.2 rfl fun g36 a hA20 S => CL.br hw S .nil le rfl trivial fun hw => (s_stR S (ty' := (Ty.atZ ch_0_3 Y30)) (i := y7) (off := 0) (u := gt ((x1.set (Int.toNat x2) (gt x1 x4)).set (Int.toNat x4) (gt x1 x2)) y1) (fun _ => ch24) rfl rfl rfl hA20 .h T30 c22.1 c22.2 rfl (show 0 + 27 ≤ (Y30).size by decide) rfl (fun _ => rfl) fun w S => ?_))))
       refine h_back ⟨fun h => (nomatch h), ?_⟩
       refine h_done ?_; clear CL hw le
       refine x_thenN ?_
       exact j5 _ a w (S.sb rfl (.c0 (.c0 .n))) h4
      refine h_runO S rfl trivial ?_ ?_
      ·refine s_iaddrO S (ty' := (Ty.atZ ch_0_3 Y30)) rfl .h rfl underlying32 T30 c21.1 c21.2 rfl fun g34 a hA18 S => CL.bk hw S .nil le fun hw => h_alts ?_
       refine h_runO S rfl trivial ?_ ?_
       ·refine s_ldRA S (ty' := (Ty.atZ ch_0_3 Y30)) (i := y7) (off := 0) (fun c => ((Ty.atZ ch_0_3 Y30).segs (gt ((x1.set (Int.toNat x2) (gt x1 x4)).set (Int.toNat x4) (gt x1 x2)) y7) c)) rfl hA17 .h T30 c20.1 c20.2 rfl (fun _ => rfl) rfl fun ch23 a S => ?_
        refine CL.br hw S .nil le rfl trivial fun hw => (s_ldRA S (ty' := (Ty.atZ ch_0_3 Y30)) (i := y1) (off := 0) (fun c => ((Ty.atZ ch_0_3 Y30).segs (gt ((x1.set (Int.toNat x2) (gt x1 x4)).set (Int.toNat x4) (gt x1 x2)) y1) c)) rfl hA18 .h T30 c21.1 c21.2 rfl (fun _ => rfl) rfl fun ch24 a S => ?_)
        refine CL.br hw S .nil le rfl trivial fun hw => (s_iaddrO S (ty' := (Ty.atZ ch_0_3 Y30)) rfl .h rfl underlying32 T30 c21.1 c21.2 rfl fun g35 a hA19 S => CL.br hw S .nil le rfl trivial fun hw => (s_stR S (ty' := (Ty.atZ ch_0_3 Y30)) (i := y1) (off := 0) (u := gt ((x1.set (Int.toNat x2) (gt x1 x4)).set (Int.toNat x4) (gt x1 x2)) y7) (fun _ => ch23) rfl rfl rfl hA19 .h T30 c21.1 c21.2 rfl (show 0 + 27 ≤ (Y30).size by decide) rfl (fun _ => rfl) fun w S => CL.br hw S .nil le rfl trivial fun hw => (s_iaddrO S (ty' := (Ty.atZ ch_0_3 Y30)) rfl .h rfl underlying32 T30 c22.1 c22.2 rfl fun g36 a hA20 S => CL.br hw S .nil le rfl trivial fun hw => (s_stR S (ty' := (Ty.atZ ch_0_3 Y30)) (i := y7) (off := 0) (u := gt ((x1.set (Int.toNat x2) (gt x1 x4)).set (Int.toNat x4) (gt x1 x2)) y1) (fun _ => ch24) rfl rfl rfl hA20 .h T30 c22.1 c22.2 rfl (show 0 + 27 ≤ (Y30).size by decide) rfl (fun _ => rfl) fun w S => ?_))))
        refine h_back ⟨fun h => (nomatch h), ?_⟩
        refine h_done ?_; clear CL hw le
        refine x_thenN ?_
        exact j5 _ a w (S.sb rfl (.c0 (.c0 .n))) h4
       refine h_runO S rfl trivial ?_ ?_
       ·refine s_ldRA S (ty' := (Ty.atZ ch_0_3 Y30)) (i := y1) (off := 0) (fun c => ((Ty.atZ ch_0_3 Y30).segs (gt ((x1.set (Int.toNat x2) (gt x1 x4)).set (Int.toNat x4) (gt x1 x2)) y1) c)) rfl hA18 .h T30 c21.1 c21.2 rfl (fun _ => rfl) rfl fun ch23 a S => ?_
        refine CL.br hw S .nil le rfl trivial fun hw => (s_ldRA S (ty' := (Ty.atZ ch_0_3 Y30)) (i := y7) (off := 0) (fun c => ((Ty.atZ ch_0_3 Y30).segs (gt ((x1.set (Int.toNat x2) (gt x1 x4)).set (Int.toNat x4) (gt x1 x2)) y7) c)) rfl hA17 .h T30 c20.1 c20.2 rfl (fun _ => rfl) rfl fun ch24 a S => ?_)
        refine CL.br hw S .nil le rfl trivial fun hw => (s_iaddrO S (ty' := (Ty.atZ ch_0_3 Y30)) rfl .h rfl underlying32 T30 c21.1 c21.2 rfl fun g35 a hA19 S => CL.br hw S .nil le rfl trivial fun hw => (s_stR S (ty' := (Ty.atZ ch_0_3 Y30)) (i := y1) (off := 0) (u := gt ((x1.set (Int.toNat x2) (gt x1 x4)).set (Int.toNat x4) (gt x1 x2)) y7) (fun _ => ch24) rfl rfl rfl hA19 .h T30 c21.1 c21.2 rfl (show 0 + 27 ≤ (Y30).size by decide) rfl (fun _ => rfl) fun w S => CL.br hw S .nil le rfl trivial fun hw => (s_iaddrO S (ty' := (Ty.atZ ch_0_3 Y30)) rfl .h rfl underlying32 T30 c22.1 c22.2 rfl fun g36 a hA20 S => CL.br hw S .nil le rfl trivial fun hw => (s_stR S (ty' := (Ty.atZ ch_0_3 Y30)) (i := y7) (off := 0) (u := gt ((x1.set (Int.toNat x2) (gt x1 x4)).set (Int.toNat x4) (gt x1 x2)) y1) (fun _ => ch23) rfl rfl rfl hA20 .h T30 c22.1 c22.2 rfl (show 0 + 27 ≤ (Y30).size by decide) rfl (fun _ => rfl) fun w S => ?_))))
        refine h_back ⟨fun h => (nomatch h), ?_⟩
        refine h_done ?_; clear CL hw le
        refine x_thenN ?_
        exact j5 _ a w (S.sb rfl (.c0 (.c0 .n))) h4
       exact h_nil
      exact h_nil
     refine h_runO S rfl trivial ?_ ?_
     ·refine s_iaddrO S (ty' := (Ty.atZ ch_0_3 Y30)) rfl .h rfl underlying32 T30 c21.1 c21.2 rfl fun g33 a hA17 S => CL.bk hw S .nil le fun hw => h_alts ?_
      refine h_runO S rfl trivial ?_ ?_
      ·refine s_iaddrO S (ty' := (Ty.atZ ch_0_3 Y30)) rfl .h rfl underlying32 T30 c20.1 c20.2 rfl fun g34 a hA18 S => CL.bk hw S .nil le fun hw => h_alts ?_
       refine h_runO S rfl trivial ?_ ?_
       ·refine s_ldRA S (ty' := (Ty.atZ ch_0_3 Y30)) (i := y7) (off := 0) (fun c => ((Ty.atZ ch_0_3 Y30).segs (gt ((x1.set (Int.toNat x2) (gt x1 x4)).set (Int.toNat x4) (gt x1 x2)) y7) c)) rfl hA18 .h T30 c20.1 c20.2 rfl (fun _ => rfl) rfl fun ch23 a S => ?_
        refine CL.br hw S .nil le rfl trivial fun hw => (s_ldRA S (ty' := (Ty.atZ ch_0_3 Y30)) (i := y1) (off := 0) (fun c => ((Ty.atZ ch_0_3 Y30).segs (gt ((x1.set (Int.toNat x2) (gt x1 x4)).set (Int.toNat x4) (gt x1 x2)) y1) c)) rfl hA17 .h T30 c21.1 c21.2 rfl (fun _ => rfl) rfl fun ch24 a S => ?_)
        refine CL.br hw S .nil le rfl trivial fun hw => (s_iaddrO S (ty' := (Ty.atZ ch_0_3 Y30)) rfl .h rfl underlying32 T30 c21.1 c21.2 rfl fun g35 a hA19 S => CL.br hw S .nil le rfl trivial fun hw => (s_stR S (ty' := (Ty.atZ ch_0_3 Y30)) (i := y1) (off := 0) (u := gt ((x1.set (Int.toNat x2) (gt x1 x4)).set (Int.toNat x4) (gt x1 x2)) y7) (fun _ => ch23) rfl rfl rfl hA19 .h T30 c21.1 c21.2 rfl (show 0 + 27 ≤ (Y30).size by decide) rfl (fun _ => rfl) fun w S => CL.br hw S .nil le rfl trivial fun hw => (s_iaddrO S (ty' := (Ty.atZ ch_0_3 Y30)) rfl .h rfl underlying32 T30 c22.1 c22.2 rfl fun g36 a hA20 S => CL.br hw S .nil le rfl trivial fun hw => (s_stR S (ty' := (Ty.atZ ch_0_3 Y30)) (i := y7) (off := 0) (u := gt ((x1.set (Int.toNat x2) (gt x1 x4)).set (Int.toNat x4) (gt x1 x2)) y1) (fun _ => ch24) rfl rfl rfl hA20 .h T30 c22.1 c22.2 rfl (show 0 + 27 ≤ (Y30).size by decide) rfl (fun _ => rfl) fun w S => ?_))))
        refine h_back ⟨fun h => (nomatch h), ?_⟩
        refine h_done ?_; clear CL hw le
        refine x_thenN ?_
        exact j5 _ a w (S.sb rfl (.c0 (.c0 .n))) h4
       refine h_runO S rfl trivial ?_ ?_
       ·refine s_ldRA S (ty' := (Ty.atZ ch_0_3 Y30)) (i := y1) (off := 0) (fun c => ((Ty.atZ ch_0_3 Y30).segs (gt ((x1.set (Int.toNat x2) (gt x1 x4)).set (Int.toNat x4) (gt x1 x2)) y1) c)) rfl hA17 .h T30 c21.1 c21.2 rfl (fun _ => rfl) rfl fun ch23 a S => ?_
        refine CL.br hw S .nil le rfl trivial fun hw => (s_ldRA S (ty' := (Ty.atZ ch_0_3 Y30)) (i := y7) (off := 0) (fun c => ((Ty.atZ ch_0_3 Y30).segs (gt ((x1.set (Int.toNat x2) (gt x1 x4)).set (Int.toNat x4) (gt x1 x2)) y7) c)) rfl hA18 .h T30 c20.1 c20.2 rfl (fun _ => rfl) rfl fun ch24 a S => ?_)
        refine CL.br hw S .nil le rfl trivial fun hw => (s_iaddrO S (ty' := (Ty.atZ ch_0_3 Y30)) rfl .h rfl underlying32 T30 c21.1 c21.2 rfl fun g35 a hA19 S => CL.br hw S .nil le rfl trivial fun hw => (s_stR S (ty' := (Ty.atZ ch_0_3 Y30)) (i := y1) (off := 0) (u := gt ((x1.set (Int.toNat x2) (gt x1 x4)).set (Int.toNat x4) (gt x1 x2)) y7) (fun _ => ch24) rfl rfl rfl hA19 .h T30 c21.1 c21.2 rfl (show 0 + 27 ≤ (Y30).size by decide) rfl (fun _ => rfl) fun w S => CL.br hw S .nil le rfl trivial fun hw => (s_iaddrO S (ty' := (Ty.atZ ch_0_3 Y30)) rfl .h rfl underlying32 T30 c22.1 c22.2 rfl fun g36 a hA20 S => CL.br hw S .nil le rfl trivial fun hw => (s_stR S (ty' := (Ty.atZ ch_0_3 Y30)) (i := y7) (off := 0) (u := gt ((x1.set (Int.toNat x2) (gt x1 x4)).set (Int.toNat x4) (gt x1 x2)) y1) (fun _ => ch23) rfl rfl rfl hA20 .h T30 c22.1 c22.2 rfl (show 0 + 27 ≤ (Y30).size by decide) rfl (fun _ => rfl) fun w S => ?_))))
        refine h_back ⟨fun h => (nomatch h), ?_⟩
        refine h_done ?_; clear CL hw le
        refine x_thenN ?_
        exact j5 _ a w (S.sb rfl (.c0 (.c0 .n))) h4
       exact h_nil
      refine h_runO S rfl trivial ?_ ?_
      ·refine s_ldRA S (ty' := (Ty.atZ ch_0_3 Y30)) (i := y1) (off := 0) (fun c => ((Ty.atZ ch_0_3 Y30).segs (gt ((x1.set (Int.toNat x2) (gt x1 x4)).set (Int.toNat x4) (gt x1 x2)) y1) c)) rfl hA17 .h T30 c21.1 c21.2 rfl (fun _ => rfl) rfl fun ch23 a S => ?_
       refine CL.br hw S .nil le rfl trivial fun hw => (s_iaddrO S (ty' := (Ty.atZ ch_0_3 Y30)) rfl .h rfl underlying32 T30 c20.1 c20.2 rfl fun g34 a hA18 S => CL.br hw S .nil le rfl trivial fun hw => (s_ldRA S (ty' := (Ty.atZ ch_0_3 Y30)) (i := y7) (off := 0) (fun c => ((Ty.atZ ch_0_3 Y30).segs (gt ((x1.set (Int.toNat x2) (gt x1 x4)).set (Int.toNat x4) (gt x1 x2)) y7) c)) rfl hA18 .h T30 c20.1 c20.2 rfl (fun _ => rfl) rfl fun ch24 a S => ?_))
       refine CL.br hw S .nil le rfl trivial fun hw => (s_iaddrO S (ty' := (Ty.atZ ch_0_3 Y30)) rfl .h rfl underlying32 T30 c21.1 c21.2 rfl fun g35 a hA19 S => CL.br hw S .nil le rfl trivial fun hw => (s_stR S (ty' := (Ty.atZ ch_0_3 Y30)) (i := y1) (off := 0) (u := gt ((x1.set (Int.toNat x2) (gt x1 x4)).set (Int.toNat x4) (gt x1 x2)) y7) (fun _ => ch24) rfl rfl rfl hA19 .h T30 c21.1 c21.2 rfl (show 0 + 27 ≤ (Y30).size by decide) rfl (fun _ => rfl) fun w S => CL.br hw S .nil le rfl trivial fun hw => (s_iaddrO S (ty' := (Ty.atZ ch_0_3 Y30)) rfl .h rfl underlying32 T30 c22.1 c22.2 rfl fun g36 a hA20 S => CL.br hw S .nil le rfl trivial fun hw => (s_stR S (ty' := (Ty.atZ ch_0_3 Y30)) (i := y7) (off := 0) (u := gt ((x1.set (Int.toNat x2) (gt x1 x4)).set (Int.toNat x4) (gt x1 x2)) y1) (fun _ => ch23) rfl rfl rfl hA20 .h T30 c22.1 c22.2 rfl (show 0 + 27 ≤ (Y30).size by decide) rfl (fun _ => rfl) fun w S => ?_))))
       refine h_back ⟨fun h => (nomatch h), ?_⟩
       refine h_done ?_; clear CL hw le
       refine x_thenN ?_
       exact j5 _ a w (S.sb rfl (.c0 (.c0 .n))) h4
      exact h_nil
     exact h_nil
   refine wp_block ?_
   refine c_loop (fun q4 a w => ∃ m y107, St 178 m b0 [(13, (.i y107)), (12, (.i y1)), (0, (.s ch_0_0 ch_0_1 ch_0_2)), (1, (.i x2)), (4, (.v (.func (.func 35) #[] #[])))] [Res.row (Ty.atZ ch_0_3 Y30) 30 ch_0_0 ch_0_1 ch_0_2 ((x1.set (Int.toNat x2) (gt x1 x4)).set (Int.toNat x4) (gt x1 x2)), Res.priv ch_0_3] a w ∧ api_Account_n57_0z_4f35.l4 k x1 x2 x4 y1 q4 y107 = some r) ?_ ?_ (k := k) ⟨_, (wr .i64 (x3 - 1)), (S.sb rfl (.c0 (.c0 .n))), h0⟩
   ·rintro a w ⟨m, y107, S, h0⟩
    exact (nomatch (show (none : Option (Int × Bool × (List L30))) = some r from h0))
   ·clear S h0
    rintro q4 a w ⟨m, y107, S, h0⟩
    replace h0 : api_Account_n57_0z_4f35.b4 k x1 x2 x4 y1 (api_Account_n57_0z_4f35.l4 k x1 x2 x4 y1 q4) y107 = some r := h0
    delta api_Account_n57_0z_4f35.b4 at h0
    refine wp_seq (wp_seq_k fun K13 hK13 => ?_)
    have j13 : ∀ m y108 a w, St 178 m b0 [(66, (.b y108)), (13, (.i y107)), (12, (.i y1)), (0, (.s ch_0_0 ch_0_1 ch_0_2)), (1, (.i x2)), (4, (.v (.func (.func 35) #[] #[])))] [Res.row (Ty.atZ ch_0_3 Y30) 30 ch_0_0 ch_0_1 ch_0_2 ((x1.set (Int.toNat x2) (gt x1 x4)).set (Int.toNat x4) (gt x1 x2)), Res.priv ch_0_3] a w → api_Account_n57_0z_4f35.j13 k x1 x2 x4 y1 y107 (api_Account_n57_0z_4f35.l4 k x1 x2 x4 y1 q4) y108 = some r → K13 a w := by
     intro m y108 a w S h0
     delta api_Account_n57_0z_4f35.j13 at h0
     refine hK13 a w ?_
     rcases ite_of h0 with ⟨c23, h1⟩ | ⟨c23, h1⟩
     ·refine c_condT S rfl c23 (wp_skip (x_thenN (wp_block (c_region' (s_move S rfl rfl fun a S => s_bin S rfl rfl rfl rfl fun a S => s_assign S rfl rfl fun a S => c_end' (x_blockN (x_thenN ?_)))))))
      exact ⟨_, (wr .i64 (y107 - 1)), (S.sb rfl (.c0 (.c0 .n))), h1⟩
     ·refine c_condF S rfl c23 (wp_exit (x_thenX (x_thenX (x_blockX (x_thenN ?_)))))
      exact j3 _ y107 a w (S.sb rfl (.c0 (.c0 .n))) h1
    refine c_heldS S (.take 0 (.take 1 (.take 2 (.take 3 (.take 4 (.take 5 (.take 6 (.take 9 (.take 10 (.alts (.run 7 true (.alts (.run 8 true (.alts (.run 11 true (.alts (.run 12 true (.alts (.run 13 true (.take 14 (.take 15 (.take 16 .done))) .nil)) .nil)) .nil)) (.run 11 true (.alts (.run 8 true (.alts (.run 12 true (.alts (.run 13 true (.take 14 (.take 15 (.take 16 .done))) .nil)) .nil)) (.run 12 true (.alts (.run 8 true (.alts (.run 13 true (.take 14 (.take 15 (.take 16 .done))) .nil)) .nil)) .nil))) .nil))) (.run 11 true (.alts (.run 7 true (.alts (.run 8 true (.alts (.run 12 true (.alts (.run 13 true (.take 14 (.take 15 (.take 16 .done))) .nil)) .nil)) (.run 12 true (.alts (.run 8 true (.alts (.run 13 true (.take 14 (.take 15 (.take 16 .done))) .nil)) .nil)) .nil))) (.run 12 true (.alts (.run 7 true (.alts (.run 8 true (.alts (.run 13 true (.take 14 (.take 15 (.take 16 .done))) .nil)) .nil)) .nil)) .nil))) .nil)))))))))))) 17 [] .nil trivial [(13, (.i y107)), (12, (.i y1)), (0, (.s ch_0_0 ch_0_1 ch_0_2)), (1, (.i x2)), (4, (.v (.func (.func 35) #[] #[])))] (subR rfl) (by kernel_rfl) (by kernel_rfl) fun w S CL hw le => ?_
    refine h_move S CL hw le (subR rfl) rfl rfl rfl trivial fun a S CL => h_move S CL hw le (subR rfl) rfl rfl rfl trivial fun a S CL => h_bin S CL hw le (subR rfl) rfl rfl rfl rfl rfl trivial fun a S CL => h_move S CL hw le (subR rfl) rfl rfl rfl trivial fun a S CL => ?_
    rcases ite_of h0 with ⟨c24, h1⟩ | ⟨c24, h1⟩
    ·refine h_move S CL hw le (subR rfl) rfl rfl rfl ⟨_, _, rfl, rfl, c24⟩ fun a S CL => h_move S CL hw le (subR rfl) rfl rfl rfl ⟨_, _, rfl, rfl, c24⟩ fun a S CL => h_move S CL hw le (subR rfl) rfl rfl rfl ⟨_, _, rfl, rfl, c24⟩ fun a S CL => h_move S CL hw le (subR rfl) rfl rfl rfl ⟨_, _, rfl, rfl, c24⟩ fun a S CL => h_move S CL hw le (subR rfl) rfl rfl rfl ⟨_, _, rfl, rfl, c24⟩ fun a S CL => ?_
     obtain ⟨c25, h2⟩ := chk_of h1; clear h1
     obtain ⟨c26, h3⟩ := chk_of h2; clear h2
     refine bindX h3 fun t5 et5 h4 => h_alts ?_
     refine h_runO S rfl ⟨_, _, rfl, rfl, c24⟩ ?_ ?_
     ·refine s_iaddrO S (ty' := (Ty.atZ ch_0_3 Y30)) rfl .h rfl underlying32 T30 c25.1 c25.2 rfl fun g39 a hA21 S => CL.bk hw S .nil le fun hw => h_alts ?_
      refine h_runO S rfl ⟨_, _, rfl, rfl, c24⟩ ?_ ?_
      ·refine s_ldRA S (ty' := (Ty.atZ ch_0_3 Y30)) (i := y107) (off := 0) (fun c => ((Ty.atZ ch_0_3 Y30).segs (gt ((x1.set (Int.toNat x2) (gt x1 x4)).set (Int.toNat x4) (gt x1 x2)) y107) c)) rfl hA21 .h T30 c25.1 c25.2 rfl (fun _ => rfl) rfl fun ch27 a S => ?_
       refine CL.bk hw S .nil le fun hw => h_run' S rfl ⟨_, _, rfl, rfl, c24⟩ (s_iaddrO S (ty' := (Ty.atZ ch_0_3 Y30)) rfl .h rfl underlying32 T30 c26.1 c26.2 rfl fun g40 a hA22 S => CL.bk hw S .nil le fun hw => h_run' S rfl ⟨_, _, rfl, rfl, c24⟩ (s_ldRA S (ty' := (Ty.atZ ch_0_3 Y30)) (i := x2) (off := 0) (fun c => ((Ty.atZ ch_0_3 Y30).segs (gt ((x1.set (Int.toNat x2) (gt x1 x4)).set (Int.toNat x4) (gt x1 x2)) x2) c)) rfl hA22 .h T30 c26.1 c26.2 rfl (fun _ => rfl) rfl fun ch28 a S => ?_))
       refine CL.bk hw S .nil le fun hw => h_run' S rfl ⟨_, _, rfl, rfl, c24⟩ (s_callL S (ds' := [(.agg ((Ty.atZ ch_0_3 Y30).segs (gt ((x1.set (Int.toNat x2) (gt x1 x4)).set (Int.toNat x4) (gt x1 x2)) y107) ch27)), (.agg ((Ty.atZ ch_0_3 Y30).segs (gt ((x1.set (Int.toNat x2) (gt x1 x4)).set (Int.toNat x4) (gt x1 x2)) x2) ch28))]) (ds := [(.agg (Y30.segs (gt ((x1.set (Int.toNat x2) (gt x1 x4)).set (Int.toNat x4) (gt x1 x2)) y107) ch27)), (.agg (Y30.segs (gt ((x1.set (Int.toNat x2) (gt x1 x4)).set (Int.toNat x4) (gt x1 x2)) x2) ch28))]) (fun (ch : Unit) => ((.i t5) : D)) (fun _ _ _ h => h) (by obtain ⟨mm, g1, gZ, g2⟩ := S.plend .h1; exact ⟨mm, g1, g2, fun ok => ⟨(okA_lend gZ ok.1), (okA_lend gZ ok.2.1), trivial⟩⟩) N35 rfl rfl rfl (fun _ => store_Store_All_1.ok (gt ((x1.set (Int.toNat x2) (gt x1 x4)).set (Int.toNat x4) (gt x1 x2)) y107) (gt ((x1.set (Int.toNat x2) (gt x1 x4)).set (Int.toNat x4) (gt x1 x2)) x2) ch27.2.2.2.1.1 ch27.2.2.2.1.2 ch27.2.2.2.2.1 ch27.2.2.2.2.2 ch28.2.2.2.1.1 ch28.2.2.2.1.2 ch28.2.2.2.2.1 ch28.2.2.2.2.2 t5 et5 _ _) fun ch29 a w S => CL.bk hw S .nil le fun hw => ?_)
       replace CL := CL.add (t := 63) (d := (.i t5)) S rfl rfl
       refine h_bin S CL hw le (subR rfl) rfl rfl rfl rfl rfl ⟨_, _, rfl, rfl, c24⟩ fun a S CL => h_not S CL hw le (subR rfl) rfl rfl rfl ⟨_, _, rfl, rfl, c24⟩ fun a S CL => h_pick S CL hw le (subR rfl) (b := true) (hc_of rfl c24) rfl rfl rfl trivial fun a S CL => ?_
       refine h_done ?_; clear CL hw le
       refine x_thenN ?_
       exact j13 _ (!(decide (t5 < 0))) a w (S.sb rfl (.c0 (.c0 .n))) h4
      refine h_runO S rfl ⟨_, _, rfl, rfl, c24⟩ ?_ ?_
      ·refine s_iaddrO S (ty' := (Ty.atZ ch_0_3 Y30)) rfl .h rfl underlying32 T30 c26.1 c26.2 rfl fun g40 a hA22 S => CL.bk hw S .nil le fun hw => h_alts ?_
       refine h_runO S rfl ⟨_, _, rfl, rfl, c24⟩ ?_ ?_
       ·refine s_ldRA S (ty' := (Ty.atZ ch_0_3 Y30)) (i := y107) (off := 0) (fun c => ((Ty.atZ ch_0_3 Y30).segs (gt ((x1.set (Int.toNat x2) (gt x1 x4)).set (Int.toNat x4) (gt x1 x2)) y107) c)) rfl hA21 .h T30 c25.1 c25.2 rfl (fun _ => rfl) rfl fun ch27 a S => ?_
        refine CL.bk hw S .nil le fun hw => h_run' S rfl ⟨_, _, rfl, rfl, c24⟩ (s_ldRA S (ty' := (Ty.atZ ch_0_3 Y30)) (i := x2) (off := 0) (fun c => ((Ty.atZ ch_0_3 Y30).segs (gt ((x1.set (Int.toNat x2) (gt x1 x4)).set (Int.toNat x4) (gt x1 x2)) x2) c)) rfl hA22 .h T30 c26.1 c26.2 rfl (fun _ => rfl) rfl fun ch28 a S => ?_)
        refine CL.bk hw S .nil le fun hw => h_run' S rfl ⟨_, _, rfl, rfl, c24⟩ (s_callL S (ds' := [(.agg ((Ty.atZ ch_0_3 Y30).segs (gt ((x1.set (Int.toNat x2) (gt x1 x4)).set (Int.toNat x4) (gt x1 x2)) y107) ch27)), (.agg ((Ty.atZ ch_0_3 Y30).segs (gt ((x1.set (Int.toNat x2) (gt x1 x4)).set (Int.toNat x4) (gt x1 x2)) x2) ch28))]) (ds := [(.agg (Y30.segs (gt ((x1.set (Int.toNat x2) (gt x1 x4)).set (Int.toNat x4) (gt x1 x2)) y107) ch27)), (.agg (Y30.segs (gt ((x1.set (Int.toNat x2) (gt x1 x4)).set (Int.toNat x4) (gt x1 x2)) x2) ch28))]) (fun (ch : Unit) => ((.i t5) : D)) (fun _ _ _ h => h) (by obtain ⟨mm, g1, gZ, g2⟩ := S.plend .h1; exact ⟨mm, g1, g2, fun ok => ⟨(okA_lend gZ ok.1), (okA_lend gZ ok.2.1), trivial⟩⟩) N35 rfl rfl rfl (fun _ => store_Store_All_1.ok (gt ((x1.set (Int.toNat x2) (gt x1 x4)).set (Int.toNat x4) (gt x1 x2)) y107) (gt ((x1.set (Int.toNat x2) (gt x1 x4)).set (Int.toNat x4) (gt x1 x2)) x2) ch27.2.2.2.1.1 ch27.2.2.2.1.2 ch27.2.2.2.2.1 ch27.2.2.2.2.2 ch28.2.2.2.1.1 ch28.2.2.2.1.2 ch28.2.2.2.2.1 ch28.2.2.2.2.2 t5 et5 _ _) fun ch29 a w S => CL.bk hw S .nil le fun hw => ?_)
        replace CL := CL.add (t := 63) (d := (.i t5)) S rfl rfl
        refine h_bin S CL hw le (subR rfl) rfl rfl rfl rfl rfl ⟨_, _, rfl, rfl, c24⟩ fun a S CL => h_not S CL hw le (subR rfl) rfl rfl rfl ⟨_, _, rfl, rfl, c24⟩ fun a S CL => h_pick S CL hw le (subR rfl) (b := true) (hc_of rfl c24) rfl rfl rfl trivial fun a S CL => ?_
        refine h_done ?_; clear CL hw le
        refine x_thenN ?_
        exact j13 _ (!(decide (t5 < 0))) a w (S.sb rfl (.c0 (.c0 .n))) h4
       refine h_runO S rfl ⟨_, _, rfl, rfl, c24⟩ ?_ ?_
       ·refine s_ldRA S (ty' := (Ty.atZ ch_0_3 Y30)) (i := x2) (off := 0) (fun c => ((Ty.atZ ch_0_3 Y30).segs (gt ((x1.set (Int.toNat x2) (gt x1 x4)).set (Int.toNat x4) (gt x1 x2)) x2) c)) rfl hA22 .h T30 c26.1 c26.2 rfl (fun _ => rfl) rfl fun ch27 a S => ?_
        refine CL.bk hw S .nil le fun hw => h_run' S rfl ⟨_, _, rfl, rfl, c24⟩ (s_ldRA S (ty' := (Ty.atZ ch_0_3 Y30)) (i := y107) (off := 0) (fun c => ((Ty.atZ ch_0_3 Y30).segs (gt ((x1.set (Int.toNat x2) (gt x1 x4)).set (Int.toNat x4) (gt x1 x2)) y107) c)) rfl hA21 .h T30 c25.1 c25.2 rfl (fun _ => rfl) rfl fun ch28 a S => ?_)
        refine CL.bk hw S .nil le fun hw => h_run' S rfl ⟨_, _, rfl, rfl, c24⟩ (s_callL S (ds' := [(.agg ((Ty.atZ ch_0_3 Y30).segs (gt ((x1.set (Int.toNat x2) (gt x1 x4)).set (Int.toNat x4) (gt x1 x2)) y107) ch28)), (.agg ((Ty.atZ ch_0_3 Y30).segs (gt ((x1.set (Int.toNat x2) (gt x1 x4)).set (Int.toNat x4) (gt x1 x2)) x2) ch27))]) (ds := [(.agg (Y30.segs (gt ((x1.set (Int.toNat x2) (gt x1 x4)).set (Int.toNat x4) (gt x1 x2)) y107) ch28)), (.agg (Y30.segs (gt ((x1.set (Int.toNat x2) (gt x1 x4)).set (Int.toNat x4) (gt x1 x2)) x2) ch27))]) (fun (ch : Unit) => ((.i t5) : D)) (fun _ _ _ h => h) (by obtain ⟨mm, g1, gZ, g2⟩ := S.plend .h1; exact ⟨mm, g1, g2, fun ok => ⟨(okA_lend gZ ok.1), (okA_lend gZ ok.2.1), trivial⟩⟩) N35 rfl rfl rfl (fun _ => store_Store_All_1.ok (gt ((x1.set (Int.toNat x2) (gt x1 x4)).set (Int.toNat x4) (gt x1 x2)) y107) (gt ((x1.set (Int.toNat x2) (gt x1 x4)).set (Int.toNat x4) (gt x1 x2)) x2) ch28.2.2.2.1.1 ch28.2.2.2.1.2 ch28.2.2.2.2.1 ch28.2.2.2.2.2 ch27.2.2.2.1.1 ch27.2.2.2.1.2 ch27.2.2.2.2.1 ch27.2.2.2.2.2 t5 et5 _ _) fun ch29 a w S => CL.bk hw S .nil le fun hw => ?_)
        replace CL := CL.add (t := 63) (d := (.i t5)) S rfl rfl
        refine h_bin S CL hw le (subR rfl) rfl rfl rfl rfl rfl ⟨_, _, rfl, rfl, c24⟩ fun a S CL => h_not S CL hw le (subR rfl) rfl rfl rfl ⟨_, _, rfl, rfl, c24⟩ fun a S CL => h_pick S CL hw le (subR rfl) (b := true) (hc_of rfl c24) rfl rfl rfl trivial fun a S CL => ?_
        refine h_done ?_; clear CL hw le
        refine x_thenN ?_
        exact j13 _ (!(decide (t5 < 0))) a w (S.sb rfl (.c0 (.c0 .n))) h4
       exact h_nil
      exact h_nil
     refine h_runO S rfl ⟨_, _, rfl, rfl, c24⟩ ?_ ?_
     ·refine s_iaddrO S (ty' := (Ty.atZ ch_0_3 Y30)) rfl .h rfl underlying32 T30 c26.1 c26.2 rfl fun g39 a hA21 S => CL.bk hw S .nil le fun hw => h_alts ?_
      refine h_runO S rfl ⟨_, _, rfl, rfl, c24⟩ ?_ ?_
      ·refine s_iaddrO S (ty' := (Ty.atZ ch_0_3 Y30)) rfl .h rfl underlying32 T30 c25.1 c25.2 rfl fun g40 a hA22 S => CL.bk hw S .nil le fun hw => h_alts ?_
       refine h_runO S rfl ⟨_, _, rfl, rfl, c24⟩ ?_ ?_
       ·refine s_ldRA S (ty' := (Ty.atZ ch_0_3 Y30)) (i := y107) (off := 0) (fun c => ((Ty.atZ ch_0_3 Y30).segs (gt ((x1.set (Int.toNat x2) (gt x1 x4)).set (Int.toNat x4) (gt x1 x2)) y107) c)) rfl hA22 .h T30 c25.1 c25.2 rfl (fun _ => rfl) rfl fun ch27 a S => ?_
        refine CL.bk hw S .nil le fun hw => h_run' S rfl ⟨_, _, rfl, rfl, c24⟩ (s_ldRA S (ty' := (Ty.atZ ch_0_3 Y30)) (i := x2) (off := 0) (fun c => ((Ty.atZ ch_0_3 Y30).segs (gt ((x1.set (Int.toNat x2) (gt x1 x4)).set (Int.toNat x4) (gt x1 x2)) x2) c)) rfl hA21 .h T30 c26.1 c26.2 rfl (fun _ => rfl) rfl fun ch28 a S => ?_)
        refine CL.bk hw S .nil le fun hw => h_run' S rfl ⟨_, _, rfl, rfl, c24⟩ (s_callL S (ds' := [(.agg ((Ty.atZ ch_0_3 Y30).segs (gt ((x1.set (Int.toNat x2) (gt x1 x4)).set (Int.toNat x4) (gt x1 x2)) y107) ch27)), (.agg ((Ty.atZ ch_0_3 Y30).segs (gt ((x1.set (Int.toNat x2) (gt x1 x4)).set (Int.toNat x4) (gt x1 x2)) x2) ch28))]) (ds := [(.agg (Y30.segs (gt ((x1.set (Int.toNat x2) (gt x1 x4)).set (Int.toNat x4) (gt x1 x2)) y107) ch27)), (.agg (Y30.segs (gt ((x1.set (Int.toNat x2) (gt x1 x4)).set (Int.toNat x4) (gt x1 x2)) x2) ch28))]) (fun (ch : Unit) => ((.i t5) : D)) (fun _ _ _ h => h) (by obtain ⟨mm, g1, gZ, g2⟩ := S.plend .h1; exact ⟨mm, g1, g2, fun ok => ⟨(okA_lend gZ ok.1), (okA_lend gZ ok.2.1), trivial⟩⟩) N35 rfl rfl rfl (fun _ => store_Store_All_1.ok (gt ((x1.set (Int.toNat x2) (gt x1 x4)).set (Int.toNat x4) (gt x1 x2)) y107) (gt ((x1.set (Int.toNat x2) (gt x1 x4)).set (Int.toNat x4) (gt x1 x2)) x2) ch27.2.2.2.1.1 ch27.2.2.2.1.2 ch27.2.2.2.2.1 ch27.2.2.2.2.2 ch28.2.2.2.1.1 ch28.2.2.2.1.2 ch28.2.2.2.2.1 ch28.2.2.2.2.2 t5 et5 _ _) fun ch29 a w S => CL.bk hw S .nil le fun hw => ?_)
        replace CL := CL.add (t := 63) (d := (.i t5)) S rfl rfl
        refine h_bin S CL hw le (subR rfl) rfl rfl rfl rfl rfl ⟨_, _, rfl, rfl, c24⟩ fun a S CL => h_not S CL hw le (subR rfl) rfl rfl rfl ⟨_, _, rfl, rfl, c24⟩ fun a S CL => h_pick S CL hw le (subR rfl) (b := true) (hc_of rfl c24) rfl rfl rfl trivial fun a S CL => ?_
        refine h_done ?_; clear CL hw le
        refine x_thenN ?_
        exact j13 _ (!(decide (t5 < 0))) a w (S.sb rfl (.c0 (.c0 .n))) h4
       refine h_runO S rfl ⟨_, _, rfl, rfl, c24⟩ ?_ ?_
       ·refine s_ldRA S (ty' := (Ty.atZ ch_0_3 Y30)) (i := x2) (off := 0) (fun c => ((Ty.atZ ch_0_3 Y30).segs (gt ((x1.set (Int.toNat x2) (gt x1 x4)).set (Int.toNat x4) (gt x1 x2)) x2) c)) rfl hA21 .h T30 c26.1 c26.2 rfl (fun _ => rfl) rfl fun ch27 a S => ?_
        refine CL.bk hw S .nil le fun hw => h_run' S rfl ⟨_, _, rfl, rfl, c24⟩ (s_ldRA S (ty' := (Ty.atZ ch_0_3 Y30)) (i := y107) (off := 0) (fun c => ((Ty.atZ ch_0_3 Y30).segs (gt ((x1.set (Int.toNat x2) (gt x1 x4)).set (Int.toNat x4) (gt x1 x2)) y107) c)) rfl hA22 .h T30 c25.1 c25.2 rfl (fun _ => rfl) rfl fun ch28 a S => ?_)
        refine CL.bk hw S .nil le fun hw => h_run' S rfl ⟨_, _, rfl, rfl, c24⟩ (s_callL S (ds' := [(.agg ((Ty.atZ ch_0_3 Y30).segs (gt ((x1.set (Int.toNat x2) (gt x1 x4)).set (Int.toNat x4) (gt x1 x2)) y107) ch28)), (.agg ((Ty.atZ ch_0_3 Y30).segs (gt ((x1.set (Int.toNat x2) (gt x1 x4)).set (Int.toNat x4) (gt x1 x2)) x2) ch27))]) (ds := [(.agg (Y30.segs (gt ((x1.set (Int.toNat x2) (gt x1 x4)).set (Int.toNat x4) (gt x1 x2)) y107) ch28)), (.agg (Y30.segs (gt ((x1.set (Int.toNat x2) (gt x1 x4)).set (Int.toNat x4) (gt x1 x2)) x2) ch27))]) (fun (ch : Unit) => ((.i t5) : D)) (fun _ _ _ h => h) (by obtain ⟨mm, g1, gZ, g2⟩ := S.plend .h1; exact ⟨mm, g1, g2, fun ok => ⟨(okA_lend gZ ok.1), (okA_lend gZ ok.2.1), trivial⟩⟩) N35 rfl rfl rfl (fun _ => store_Store_All_1.ok (gt ((x1.set (Int.toNat x2) (gt x1 x4)).set (Int.toNat x4) (gt x1 x2)) y107) (gt ((x1.set (Int.toNat x2) (gt x1 x4)).set (Int.toNat x4) (gt x1 x2)) x2) ch28.2.2.2.1.1 ch28.2.2.2.1.2 ch28.2.2.2.2.1 ch28.2.2.2.2.2 ch27.2.2.2.1.1 ch27.2.2.2.1.2 ch27.2.2.2.2.1 ch27.2.2.2.2.2 t5 et5 _ _) fun ch29 a w S => CL.bk hw S .nil le fun hw => ?_)
        replace CL := CL.add (t := 63) (d := (.i t5)) S rfl rfl
        refine h_bin S CL hw le (subR rfl) rfl rfl rfl rfl rfl ⟨_, _, rfl, rfl, c24⟩ fun a S CL => h_not S CL hw le (subR rfl) rfl rfl rfl ⟨_, _, rfl, rfl, c24⟩ fun a S CL => h_pick S CL hw le (subR rfl) (b := true) (hc_of rfl c24) rfl rfl rfl trivial fun a S CL => ?_
        refine h_done ?_; clear CL hw le
        refine x_thenN ?_
        exact j13 _ (!(decide (t5 < 0))) a w (S.sb rfl (.c0 (.c0 .n))) h4
       exact h_nil
      refine h_runO S rfl ⟨_, _, rfl, rfl, c24⟩ ?_ ?_
      ·refine s_ldRA S (ty' := (Ty.atZ ch_0_3 Y30)) (i := x2) (off := 0) (fun c => ((Ty.atZ ch_0_3 Y30).segs (gt ((x1.set (Int.toNat x2) (gt x1 x4)).set (Int.toNat x4) (gt x1 x2)) x2) c)) rfl hA21 .h T30 c26.1 c26.2 rfl (fun _ => rfl) rfl fun ch27 a S => ?_
       refine CL.bk hw S .nil le fun hw => h_run' S rfl ⟨_, _, rfl, rfl, c24⟩ (s_iaddrO S (ty' := (Ty.atZ ch_0_3 Y30)) rfl .h rfl underlying32 T30 c25.1 c25.2 rfl fun g40 a hA22 S => CL.bk hw S .nil le fun hw => h_run' S rfl ⟨_, _, rfl, rfl, c24⟩ (s_ldRA S (ty' := (Ty.atZ ch_0_3 Y30)) (i := y107) (off := 0) (fun c => ((Ty.atZ ch_0_3 Y30).segs (gt ((x1.set (Int.toNat x2) (gt x1 x4)).set (Int.toNat x4) (gt x1 x2)) y107) c)) rfl hA22 .h T30 c25.1 c25.2 rfl (fun _ => rfl) rfl fun ch28 a S => ?_))
       refine CL.bk hw S .nil le fun hw => h_run' S rfl ⟨_, _, rfl, rfl, c24⟩ (s_callL S (ds' := [(.agg ((Ty.atZ ch_0_3 Y30).segs (gt ((x1.set (Int.toNat x2) (gt x1 x4)).set (Int.toNat x4) (gt x1 x2)) y107) ch28)), (.agg ((Ty.atZ ch_0_3 Y30).segs (gt ((x1.set (Int.toNat x2) (gt x1 x4)).set (Int.toNat x4) (gt x1 x2)) x2) ch27))]) (ds := [(.agg (Y30.segs (gt ((x1.set (Int.toNat x2) (gt x1 x4)).set (Int.toNat x4) (gt x1 x2)) y107) ch28)), (.agg (Y30.segs (gt ((x1.set (Int.toNat x2) (gt x1 x4)).set (Int.toNat x4) (gt x1 x2)) x2) ch27))]) (fun (ch : Unit) => ((.i t5) : D)) (fun _ _ _ h => h) (by obtain ⟨mm, g1, gZ, g2⟩ := S.plend .h1; exact ⟨mm, g1, g2, fun ok => ⟨(okA_lend gZ ok.1), (okA_lend gZ ok.2.1), trivial⟩⟩) N35 rfl rfl rfl (fun _ => store_Store_All_1.ok (gt ((x1.set (Int.toNat x2) (gt x1 x4)).set (Int.toNat x4) (gt x1 x2)) y107) (gt ((x1.set (Int.toNat x2) (gt x1 x4)).set (Int.toNat x4) (gt x1 x2)) x2) ch28.2.2.2.1.1 ch28.2.2.2.1.2 ch28.2.2.2.2.1 ch28.2.2.2.2.2 ch27.2.2.2.1.1 ch27.2.2.2.1.2 ch27.2.2.2.2.1 ch27.2.2.2.2.2 t5 et5 _ _) fun ch29 a w S => CL.bk hw S .nil le fun hw => ?_)
       replace CL := CL.add (t := 63) (d := (.i t5)) S rfl rfl
       refine h_bin S CL hw le (subR rfl) rfl rfl rfl rfl rfl ⟨_, _, rfl, rfl, c24⟩ fun a S CL => h_not S CL hw le (subR rfl) rfl rfl rfl ⟨_, _, rfl, rfl, c24⟩ fun a S CL => h_pick S CL hw le (subR rfl) (b := true) (hc_of rfl c24) rfl rfl rfl trivial fun a S CL => ?_
       refine h_done ?_; clear CL hw le
       refine x_thenN ?_
       exact j13 _ (!(decide (t5 < 0))) a w (S.sb rfl (.c0 (.c0 .n))) h4
      exact h_nil
     exact h_nil
    ·refine h_skip S CL rfl rfl rfl (ne_bool c24) rfl fun a S CL => h_skip S CL rfl rfl rfl (ne_bool c24) rfl fun a S CL => h_skip S CL rfl rfl rfl (ne_bool c24) rfl fun a S CL => h_skip S CL rfl rfl rfl (ne_bool c24) rfl fun a S CL => h_skip S CL rfl rfl rfl (ne_bool c24) rfl fun a S CL => h_alts ?_
     refine h_skipOt S rfl rfl rfl (ne_bool c24) rfl ?_ ?_
     ·clear S a; intro a S
      refine CL.bk hw S .nil le fun hw => h_alts ?_
      refine h_skipOt S rfl rfl rfl (ne_bool c24) rfl ?_ ?_
      ·clear S a; intro a S
       refine CL.bk hw S .nil le fun hw => h_skipRt S rfl rfl rfl (ne_bool c24) rfl fun a S => CL.bk hw S .nil le fun hw => h_skipRt S rfl rfl rfl (ne_bool c24) rfl fun a S => CL.bk hw S .nil le fun hw => h_skipRt S rfl rfl rfl (ne_bool c24) rfl fun a S => CL.bk hw S .nil le fun hw => ?_
       replace CL := CL.add (t := 63) (d := .u) S rfl rfl
       refine h_skip S CL rfl rfl rfl (ne_bool c24) rfl fun a S CL => h_skip S CL rfl rfl rfl (ne_bool c24) rfl fun a S CL => h_pick S CL hw le (subR rfl) (b := false) (hc_of rfl c24) rfl rfl rfl trivial fun a S CL => ?_
       refine h_done ?_; clear CL hw le
       refine x_thenN ?_
       exact j13 _ false a w (S.sb rfl (.c0 (.c0 .n))) h1
      refine h_skipOt S rfl rfl rfl (ne_bool c24) rfl ?_ ?_
      ·clear S a; intro a S
       refine CL.bk hw S .nil le fun hw => h_alts ?_
       refine h_skipOt S rfl rfl rfl (ne_bool c24) rfl ?_ ?_
       ·clear S a; intro a S
        refine CL.bk hw S .nil le fun hw => h_skipRt S rfl rfl rfl (ne_bool c24) rfl fun a S => CL.bk hw S .nil le fun hw => h_skipRt S rfl rfl rfl (ne_bool c24) rfl fun a S => CL.bk hw S .nil le fun hw => ?_
        replace CL := CL.add (t := 63) (d := .u) S rfl rfl
        refine h_skip S CL rfl rfl rfl (ne_bool c24) rfl fun a S CL => h_skip S CL rfl rfl rfl (ne_bool c24) rfl fun a S CL => h_pick S CL hw le (subR rfl) (b := false) (hc_of rfl c24) rfl rfl rfl trivial fun a S CL => ?_
        refine h_done ?_; clear CL hw le
        refine x_thenN ?_
        exact j13 _ false a w (S.sb rfl (.c0 (.c0 .n))) h1
       refine h_skipOt S rfl rfl rfl (ne_bool c24) rfl ?_ ?_
       ·clear S a; intro a S
        refine CL.bk hw S .nil le fun hw => h_skipRt S rfl rfl rfl (ne_bool c24) rfl fun a S => CL.bk hw S .nil le fun hw => h_skipRt S rfl rfl rfl (ne_bool c24) rfl fun a S => CL.bk hw S .nil le fun hw => ?_
        replace CL := CL.add (t := 63) (d := .u) S rfl rfl
        refine h_skip S CL rfl rfl rfl (ne_bool c24) rfl fun a S CL => h_skip S CL rfl rfl rfl (ne_bool c24) rfl fun a S CL => h_pick S CL hw le (subR rfl) (b := false) (hc_of rfl c24) rfl rfl rfl trivial fun a S CL => ?_
        refine h_done ?_; clear CL hw le
        refine x_thenN ?_
        exact j13 _ false a w (S.sb rfl (.c0 (.c0 .n))) h1
       exact h_nil
      exact h_nil
     refine h_skipOt S rfl rfl rfl (ne_bool c24) rfl ?_ ?_
     ·clear S a; intro a S
      refine CL.bk hw S .nil le fun hw => h_alts ?_
      refine h_skipOt S rfl rfl rfl (ne_bool c24) rfl ?_ ?_
      ·clear S a; intro a S
       refine CL.bk hw S .nil le fun hw => h_alts ?_
       refine h_skipOt S rfl rfl rfl (ne_bool c24) rfl ?_ ?_
       ·clear S a; intro a S
        refine CL.bk hw S .nil le fun hw => h_skipRt S rfl rfl rfl (ne_bool c24) rfl fun a S => CL.bk hw S .nil le fun hw => h_skipRt S rfl rfl rfl (ne_bool c24) rfl fun a S => CL.bk hw S .nil le fun hw => ?_
        replace CL := CL.add (t := 63) (d := .u) S rfl rfl
        refine h_skip S CL rfl rfl rfl (ne_bool c24) rfl fun a S CL => h_skip S CL rfl rfl rfl (ne_bool c24) rfl fun a S CL => h_pick S CL hw le (subR rfl) (b := false) (hc_of rfl c24) rfl rfl rfl trivial fun a S CL => ?_
        refine h_done ?_; clear CL hw le
        refine x_thenN ?_
        exact j13 _ false a w (S.sb rfl (.c0 (.c0 .n))) h1
       refine h_skipOt S rfl rfl rfl (ne_bool c24) rfl ?_ ?_
       ·clear S a; intro a S
        refine CL.bk hw S .nil le fun hw => h_skipRt S rfl rfl rfl (ne_bool c24) rfl fun a S => CL.bk hw S .nil le fun hw => h_skipRt S rfl rfl rfl (ne_bool c24) rfl fun a S => CL.bk hw S .nil le fun hw => ?_
        replace CL := CL.add (t := 63) (d := .u) S rfl rfl
        refine h_skip S CL rfl rfl rfl (ne_bool c24) rfl fun a S CL => h_skip S CL rfl rfl rfl (ne_bool c24) rfl fun a S CL => h_pick S CL hw le (subR rfl) (b := false) (hc_of rfl c24) rfl rfl rfl trivial fun a S CL => ?_
        refine h_done ?_; clear CL hw le
        refine x_thenN ?_
        exact j13 _ false a w (S.sb rfl (.c0 (.c0 .n))) h1
       exact h_nil
      refine h_skipOt S rfl rfl rfl (ne_bool c24) rfl ?_ ?_
      ·clear S a; intro a S
       refine CL.bk hw S .nil le fun hw => h_skipRt S rfl rfl rfl (ne_bool c24) rfl fun a S => CL.bk hw S .nil le fun hw => h_skipRt S rfl rfl rfl (ne_bool c24) rfl fun a S => CL.bk hw S .nil le fun hw => h_skipRt S rfl rfl rfl (ne_bool c24) rfl fun a S => CL.bk hw S .nil le fun hw => ?_
       replace CL := CL.add (t := 63) (d := .u) S rfl rfl
       refine h_skip S CL rfl rfl rfl (ne_bool c24) rfl fun a S CL => h_skip S CL rfl rfl rfl (ne_bool c24) rfl fun a S CL => h_pick S CL hw le (subR rfl) (b := false) (hc_of rfl c24) rfl rfl rfl trivial fun a S CL => ?_
       refine h_done ?_; clear CL hw le
       refine x_thenN ?_
       exact j13 _ false a w (S.sb rfl (.c0 (.c0 .n))) h1
      exact h_nil
     exact h_nil
  refine wp_block ?_
  refine c_loop (fun q5 a w => ∃ m y112, St 178 m b0 [(13, (.i (wr .i64 (x3 - 1)))), (12, (.i y112)), (0, (.s ch_0_0 ch_0_1 ch_0_2)), (1, (.i x2)), (4, (.v (.func (.func 35) #[] #[])))] [Res.row (Ty.atZ ch_0_3 Y30) 30 ch_0_0 ch_0_1 ch_0_2 ((x1.set (Int.toNat x2) (gt x1 x4)).set (Int.toNat x4) (gt x1 x2)), Res.priv ch_0_3] a w ∧ api_Account_n57_0z_4f35.l5 k x1 x2 x3 x4 q5 y112 = some r) ?_ ?_ (k := k) ⟨_, (wr .i64 (x2 + 1)), (S.sb rfl (.c0 (.c0 .n))), h0⟩
  ·rintro a w ⟨m, y112, S, h0⟩
   exact (nomatch (show (none : Option (Int × Bool × (List L30))) = some r from h0))
  ·clear S h0
   rintro q5 a w ⟨m, y112, S, h0⟩
   replace h0 : api_Account_n57_0z_4f35.b5 k x1 x2 x3 x4 (api_Account_n57_0z_4f35.l5 k x1 x2 x3 x4 q5) y112 = some r := h0
   delta api_Account_n57_0z_4f35.b5 at h0
   refine wp_seq (wp_seq_k fun K14 hK14 => ?_)
   have j14 : ∀ m y113 a w, St 178 m b0 [(47, (.b y113)), (13, (.i (wr .i64 (x3 - 1)))), (12, (.i y112)), (0, (.s ch_0_0 ch_0_1 ch_0_2)), (1, (.i x2)), (4, (.v (.func (.func 35) #[] #[])))] [Res.row (Ty.atZ ch_0_3 Y30) 30 ch_0_0 ch_0_1 ch_0_2 ((x1.set (Int.toNat x2) (gt x1 x4)).set (Int.toNat x4) (gt x1 x2)), Res.priv ch_0_3] a w → api_Account_n57_0z_4f35.j14 k x1 x2 x3 x4 y112 (api_Account_n57_0z_4f35.l5 k x1 x2 x3 x4 q5) y113 = some r → K14 a w := by
    intro m y113 a w S h0
    delta api_Account_n57_0z_4f35.j14 at h0
    refine hK14 a w ?_
    rcases ite_of h0 with ⟨c27, h1⟩ | ⟨c27, h1⟩
    ·refine c_condT S rfl c27 (wp_skip (x_thenN (wp_block (c_region' (s_move S rfl rfl fun a S => s_bin S rfl rfl rfl rfl fun a S => s_assign S rfl rfl fun a S => c_end' (x_blockN (x_thenN ?_)))))))
     exact ⟨_, (wr .i64 (y112 + 1)), (S.sb rfl (.c0 (.c0 .n))), h1⟩
    ·refine c_condF S rfl c27 (wp_exit (x_thenX (x_thenX (x_blockX (x_thenN ?_)))))
     exact j2 _ y112 a w (S.sb rfl (.c0 (.c0 .n))) h1
   refine c_heldS S (.take 0 (.take 1 (.take 2 (.take 3 (.take 4 (.take 5 (.take 6 (.take 9 (.take 10 (.alts (.run 7 true (.alts (.run 8 true (.alts (.run 11 true (.alts (.run 12 true (.alts (.run 13 true (.take 14 (.take 15 .done)) .nil)) .nil)) .nil)) (.run 11 true (.alts (.run 8 true (.alts (.run 12 true (.alts (.run 13 true (.take 14 (.take 15 .done)) .nil)) .nil)) (.run 12 true (.alts (.run 8 true (.alts (.run 13 true (.take 14 (.take 15 .done)) .nil)) .nil)) .nil))) .nil))) (.run 11 true (.alts (.run 7 true (.alts (.run 8 true (.alts (.run 12 true (.alts (.run 13 true (.take 14 (.take 15 .done)) .nil)) .nil)) (.run 12 true (.alts (.run 8 true (.alts (.run 13 true (.take 14 (.take 15 .done)) .nil)) .nil)) .nil))) (.run 12 true (.alts (.run 7 true (.alts (.run 8 true (.alts (.run 13 true (.take 14 (.take 15 .done)) .nil)) .nil)) .nil)) .nil))) .nil)))))))))))) 16 [] .nil trivial [(13, (.i (wr .i64 (x3 - 1)))), (12, (.i y112)), (0, (.s ch_0_0 ch_0_1 ch_0_2)), (1, (.i x2)), (4, (.v (.func (.func 35) #[] #[])))] (subR rfl) (by kernel_rfl) (by kernel_rfl) fun w S CL hw le => ?_
   refine h_move S CL hw le (subR rfl) rfl rfl rfl trivial fun a S CL => h_move S CL hw le (subR rfl) rfl rfl rfl trivial fun a S CL => h_bin S CL hw le (subR rfl) rfl rfl rfl rfl rfl trivial fun a S CL => h_move S CL hw le (subR rfl) rfl rfl rfl trivial fun a S CL => ?_
   rcases ite_of h0 with ⟨c28, h1⟩ | ⟨c28, h1⟩
   ·refine h_move S CL hw le (subR rfl) rfl rfl rfl ⟨_, _, rfl, rfl, c28⟩ fun a S CL => h_move S CL hw le (subR rfl) rfl rfl rfl ⟨_, _, rfl, rfl, c28⟩ fun a S CL => h_move S CL hw le (subR rfl) rfl rfl rfl ⟨_, _, rfl, rfl, c28⟩ fun a S CL => h_move S CL hw le (subR rfl) rfl rfl rfl ⟨_, _, rfl, rfl, c28⟩ fun a S CL => h_move S CL hw le (subR rfl) rfl rfl rfl ⟨_, _, rfl, rfl, c28⟩ fun a S CL => ?_
    obtain ⟨c29, h2⟩ := chk_of h1; clear h1
    obtain ⟨c30, h3⟩ := chk_of h2; clear h2
    refine bindX h3 fun t7 et7 h4 => h_alts ?_
    refine h_runO S rfl ⟨_, _, rfl, rfl, c28⟩ ?_ ?_
    ·refine s_iaddrO S (ty' := (Ty.atZ ch_0_3 Y30)) rfl .h rfl underlying32 T30 c29.1 c29.2 rfl fun g43 a hA23 S => CL.bk hw S .nil le fun hw => h_alts ?_
     refine h_runO S rfl ⟨_, _, rfl, rfl, c28⟩ ?_ ?_
     ·refine s_ldRA S (ty' := (Ty.atZ ch_0_3 Y30)) (i := y112) (off := 0) (fun c => ((Ty.atZ ch_0_3 Y30).segs (gt ((x1.set (Int.toNat x2) (gt x1 x4)).set (Int.toNat x4) (gt x1 x2)) y112) c)) rfl hA23 .h T30 c29.1 c29.2 rfl (fun _ => rfl) rfl fun ch32 a S => ?_
      refine CL.bk hw S .nil le fun hw => h_run' S rfl ⟨_, _, rfl, rfl, c28⟩ (s_iaddrO S (ty' := (Ty.atZ ch_0_3 Y30)) rfl .h rfl underlying32 T30 c30.1 c30.2 rfl fun g44 a hA24 S => CL.bk hw S .nil le fun hw => h_run' S rfl ⟨_, _, rfl, rfl, c28⟩ (s_ldRA S (ty' := (Ty.atZ ch_0_3 Y30)) (i := x2) (off := 0) (fun c => ((Ty.atZ ch_0_3 Y30).segs (gt ((x1.set (Int.toNat x2) (gt x1 x4)).set (Int.toNat x4) (gt x1 x2)) x2) c)) rfl hA24 .h T30 c30.1 c30.2 rfl (fun _ => rfl) rfl fun ch33 a S => ?_))
      refine CL.bk hw S .nil le fun hw => h_run' S rfl ⟨_, _, rfl, rfl, c28⟩ (s_callL S (ds' := [(.agg ((Ty.atZ ch_0_3 Y30).segs (gt ((x1.set (Int.toNat x2) (gt x1 x4)).set (Int.toNat x4) (gt x1 x2)) y112) ch32)), (.agg ((Ty.atZ ch_0_3 Y30).segs (gt ((x1.set (Int.toNat x2) (gt x1 x4)).set (Int.toNat x4) (gt x1 x2)) x2) ch33))]) (ds := [(.agg (Y30.segs (gt ((x1.set (Int.toNat x2) (gt x1 x4)).set (Int.toNat x4) (gt x1 x2)) y112) ch32)), (.agg (Y30.segs (gt ((x1.set (Int.toNat x2) (gt x1 x4)).set (Int.toNat x4) (gt x1 x2)) x2) ch33))]) (fun (ch : Unit) => ((.i t7) : D)) (fun _ _ _ h => h) (by obtain ⟨mm, g1, gZ, g2⟩ := S.plend .h1; exact ⟨mm, g1, g2, fun ok => ⟨(okA_lend gZ ok.1), (okA_lend gZ ok.2.1), trivial⟩⟩) N35 rfl rfl rfl (fun _ => store_Store_All_1.ok (gt ((x1.set (Int.toNat x2) (gt x1 x4)).set (Int.toNat x4) (gt x1 x2)) y112) (gt ((x1.set (Int.toNat x2) (gt x1 x4)).set (Int.toNat x4) (gt x1 x2)) x2) ch32.2.2.2.1.1 ch32.2.2.2.1.2 ch32.2.2.2.2.1 ch32.2.2.2.2.2 ch33.2.2.2.1.1 ch33.2.2.2.1.2 ch33.2.2.2.2.1 ch33.2.2.2.2.2 t7 et7 _ _) fun ch34 a w S => CL.bk hw S .nil le fun hw => ?_)
      replace CL := CL.add (t := 45) (d := (.i t7)) S rfl rfl
      refine h_bin S CL hw le (subR rfl) rfl rfl rfl rfl rfl ⟨_, _, rfl, rfl, c28⟩ fun a S CL => h_pick S CL hw le (subR rfl) (b := true) (hc_of rfl c28) rfl rfl rfl trivial fun a S CL => ?_
      refine h_done ?_; clear CL hw le
      refine x_thenN ?_
      exact j14 _ (decide (t7 < 0)) a w (S.sb rfl (.c0 (.c0 .n))) h4
     refine h_runO S rfl ⟨_, _, rfl, rfl, c28⟩ ?_ ?_
     ·refine s_iaddrO S (ty' := (Ty.atZ ch_0_3 Y30)) rfl .h rfl underlying32 T30 c30.1 c30.2 rfl fun g44 a hA24 S => CL.bk hw S .nil le fun hw => h_alts ?_
      refine h_runO S rfl ⟨_, _, rfl, rfl, c28⟩ ?_ ?_
      ·refine s_ldRA S (ty' := (Ty.atZ ch_0_3 Y30)) (i := y112) (off := 0) (fun c => ((Ty.atZ ch_0_3 Y30).segs (gt ((x1.set (Int.toNat x2) (gt x1 x4)).set (Int.toNat x4) (gt x1 x2)) y112) c)) rfl hA23 .h T30 c29.1 c29.2 rfl (fun _ => rfl) rfl fun ch32 a S => ?_
       refine CL.bk hw S .nil le fun hw => h_run' S rfl ⟨_, _, rfl, rfl, c28⟩ (s_ldRA S (ty' := (Ty.atZ ch_0_3 Y30)) (i := x2) (off := 0) (fun c => ((Ty.atZ ch_0_3 Y30).segs (gt ((x1.set (Int.toNat x2) (gt x1 x4)).set (Int.toNat x4) (gt x1 x2)) x2) c)) rfl hA24 .h T30 c30.1 c30.2 rfl (fun _ => rfl) rfl fun ch33 a S => ?_)
       refine CL.bk hw S .nil le fun hw => h_run' S rfl ⟨_, _, rfl, rfl, c28⟩ (s_callL S (ds' := [(.agg ((Ty.atZ ch_0_3 Y30).segs (gt ((x1.set (Int.toNat x2) (gt x1 x4)).set (Int.toNat x4) (gt x1 x2)) y112) ch32)), (.agg ((Ty.atZ ch_0_3 Y30).segs (gt ((x1.set (Int.toNat x2) (gt x1 x4)).set (Int.toNat x4) (gt x1 x2)) x2) ch33))]) (ds := [(.agg (Y30.segs (gt ((x1.set (Int.toNat x2) (gt x1 x4)).set (Int.toNat x4) (gt x1 x2)) y112) ch32)), (.agg (Y30.segs (gt ((x1.set (Int.toNat x2) (gt x1 x4)).set (Int.toNat x4) (gt x1 x2)) x2) ch33))]) (fun (ch : Unit) => ((.i t7) : D)) (fun _ _ _ h => h) (by obtain ⟨mm, g1, gZ, g2⟩ := S.plend .h1; exact ⟨mm, g1, g2, fun ok => ⟨(okA_lend gZ ok.1), (okA_lend gZ ok.2.1), trivial⟩⟩) N35 rfl rfl rfl (fun _ => store_Store_All_1.ok (gt ((x1.set (Int.toNat x2) (gt x1 x4)).set (Int.toNat x4) (gt x1 x2)) y112) (gt ((x1.set (Int.toNat x2) (gt x1 x4)).set (Int.toNat x4) (gt x1 x2)) x2) ch32.2.2.2.1.1 ch32.2.2.2.1.2 ch32.2.2.2.2.1 ch32.2.2.2.2.2 ch33.2.2.2.1.1 ch33.2.2.2.1.2 ch33.2.2.2.2.1 ch33.2.2.2.2.2 t7 et7 _ _) fun ch34 a w S => CL.bk hw S .nil le fun hw => ?_)
       replace CL := CL.add (t := 45) (d := (.i t7)) S rfl rfl
       refine h_bin S CL hw le (subR rfl) rfl rfl rfl rfl rfl ⟨_, _, rfl, rfl, c28⟩ fun a S CL => h_pick S CL hw le (subR rfl) (b := true) (hc_of rfl c28) rfl rfl rfl trivial fun a S CL => ?_
       refine h_done ?_; clear CL hw le
       refine x_thenN ?_
       exact j14 _ (decide (t7 < 0)) a w (S.sb rfl (.c0 (.c0 .n))) h4
      refine h_runO S rfl ⟨_, _, rfl, rfl, c28⟩ ?_ ?_
      ·refine s_ldRA S (ty' := (Ty.atZ ch_0_3 Y30)) (i := x2) (off := 0) (fun c => ((Ty.atZ ch_0_3 Y30).segs (gt ((x1.set (Int.toNat x2) (gt x1 x4)).set (Int.toNat x4) (gt x1 x2)) x2) c)) rfl hA24 .h T30 c30.1 c30.2 rfl (fun _ => rfl) rfl fun ch32 a S => ?_
       refine CL.bk hw S .nil le fun hw => h_run' S rfl ⟨_, _, rfl, rfl, c28⟩ (s_ldRA S (ty' := (Ty.atZ ch_0_3 Y30)) (i := y112) (off := 0) (fun c => ((Ty.atZ ch_0_3 Y30).segs (gt ((x1.set (Int.toNat x2) (gt x1 x4)).set (Int.toNat x4) (gt x1 x2)) y112) c)) rfl hA23 .h T30 c29.1 c29.2 rfl (fun _ => rfl) rfl fun ch33 a S => ?_)
       refine CL.bk hw S .nil le fun hw => h_run' S rfl ⟨_, _, rfl, rfl, c28⟩ (s_callL S (ds' := [(.agg ((Ty.atZ ch_0_3 Y30).segs (gt ((x1.set (Int.toNat x2) (gt x1 x4)).set (Int.toNat x4) (gt x1 x2)) y112) ch33)), (.agg ((Ty.atZ ch_0_3 Y30).segs (gt ((x1.set (Int.toNat x2) (gt x1 x4)).set (Int.toNat x4) (gt x1 x2)) x2) ch32))]) (ds := [(.agg (Y30.segs (gt ((x1.set (Int.toNat x2) (gt x1 x4)).set (Int.toNat x4) (gt x1 x2)) y112) ch33)), (.agg (Y30.segs (gt ((x1.set (Int.toNat x2) (gt x1 x4)).set (Int.toNat x4) (gt x1 x2)) x2) ch32))]) (fun (ch : Unit) => ((.i t7) : D)) (fun _ _ _ h => h) (by obtain ⟨mm, g1, gZ, g2⟩ := S.plend .h1; exact ⟨mm, g1, g2, fun ok => ⟨(okA_lend gZ ok.1), (okA_lend gZ ok.2.1), trivial⟩⟩) N35 rfl rfl rfl (fun _ => store_Store_All_1.ok (gt ((x1.set (Int.toNat x2) (gt x1 x4)).set (Int.toNat x4) (gt x1 x2)) y112) (gt ((x1.set (Int.toNat x2) (gt x1 x4)).set (Int.toNat x4) (gt x1 x2)) x2) ch33.2.2.2.1.1 ch33.2.2.2.1.2 ch33.2.2.2.2.1 ch33.2.2.2.2.2 ch32.2.2.2.1.1 ch32.2.2.2.1.2 ch32.2.2.2.2.1 ch32.2.2.2.2.2 t7 et7 _ _) fun ch34 a w S => CL.bk hw S .nil le fun hw => ?_)
       replace CL := CL.add (t := 45) (d := (.i t7)) S rfl rfl
       refine h_bin S CL hw le (subR rfl) rfl rfl rfl rfl rfl ⟨_, _, rfl, rfl, c28⟩ fun a S CL => h_pick S CL hw le (subR rfl) (b := true) (hc_of rfl c28) rfl rfl rfl trivial fun a S CL => ?_
       refine h_done ?_; clear CL hw le
       refine x_thenN ?_
       exact j14 _ (decide (t7 < 0)) a w (S.sb rfl (.c0 (.c0 .n))) h4
      exact h_nil
     exact h_nil
    refine h_runO S rfl ⟨_, _, rfl, rfl, c28⟩ ?_ ?_
    ·refine s_iaddrO S (ty' := (Ty.atZ ch_0_3 Y30)) rfl .h rfl underlying32 T30 c30.1 c30.2 rfl fun g43 a hA23 S => CL.bk hw S .nil le fun hw => h_alts ?_
     refine h_runO S rfl ⟨_, _, rfl, rfl, c28⟩ ?_ ?_
     ·refine s_iaddrO S (ty' := (Ty.atZ ch_0_3 Y30)) rfl .h rfl underlying32 T30 c29.1 c29.2 rfl fun g44 a hA24 S => CL.bk hw S .nil le fun hw => h_alts ?_
      refine h_runO S rfl ⟨_, _, rfl, rfl, c28⟩ ?_ ?_
      ·refine s_ldRA S (ty' := (Ty.atZ ch_0_3 Y30)) (i := y112) (off := 0) (fun c => ((Ty.atZ ch_0_3 Y30).segs (gt ((x1.set (Int.toNat x2) (gt x1 x4)).set (Int.toNat x4) (gt x1 x2)) y112) c)) rfl hA24 .h T30 c29.1 c29.2 rfl (fun _ => rfl) rfl fun ch32 a S => ?_
       refine CL.bk hw S .nil le fun hw => h_run' S rfl ⟨_, _, rfl, rfl, c28⟩ (s_ldRA S (ty' := (Ty.atZ ch_0_3 Y30)) (i := x2) (off := 0) (fun c => ((Ty.atZ ch_0_3 Y30).segs (gt ((x1.set (Int.toNat x2) (gt x1 x4)).set (Int.toNat x4) (gt x1 x2)) x2) c)) rfl hA23 .h T30 c30.1 c30.2 rfl (fun _ => rfl) rfl fun ch33 a S => ?_)
       refine CL.bk hw S .nil le fun hw => h_run' S rfl ⟨_, _, rfl, rfl, c28⟩ (s_callL S (ds' := [(.agg ((Ty.atZ ch_0_3 Y30).segs (gt ((x1.set (Int.toNat x2) (gt x1 x4)).set (Int.toNat x4) (gt x1 x2)) y112) ch32)), (.agg ((Ty.atZ ch_0_3 Y30).segs (gt ((x1.set (Int.toNat x2) (gt x1 x4)).set (Int.toNat x4) (gt x1 x2)) x2) ch33))]) (ds := [(.agg (Y30.segs (gt ((x1.set (Int.toNat x2) (gt x1 x4)).set (Int.toNat x4) (gt x1 x2)) y112) ch32)), (.agg (Y30.segs (gt ((x1.set (Int.toNat x2) (gt x1 x4)).set (Int.toNat x4) (gt x1 x2)) x2) ch33))]) (fun (ch : Unit) => ((.i t7) : D)) (fun _ _ _ h => h) (by obtain ⟨mm, g1, gZ, g2⟩ := S.plend .h1; exact ⟨mm, g1, g2, fun ok => ⟨(okA_lend gZ ok.1), (okA_lend gZ ok.2.1), trivial⟩⟩) N35 rfl rfl rfl (fun _ => store_Store_All_1.ok (gt ((x1.set (Int.toNat x2) (gt x1 x4)).set (Int.toNat x4) (gt x1 x2)) y112) (gt ((x1.set (Int.toNat x2) (gt x1 x4)).set (Int.toNat x4) (gt x1 x2)) x2) ch32.2.2.2.1.1 ch32.2.2.2.1.2 ch32.2.2.2.2.1 ch32.2.2.2.2.2 ch33.2.2.2.1.1 ch33.2.2.2.1.2 ch33.2.2.2.2.1 ch33.2.2.2.2.2 t7 et7 _ _) fun ch34 a w S => CL.bk hw S .nil le fun hw => ?_)
       replace CL := CL.add (t := 45) (d := (.i t7)) S rfl rfl
       refine h_bin S CL hw le (subR rfl) rfl rfl rfl rfl rfl ⟨_, _, rfl, rfl, c28⟩ fun a S CL => h_pick S CL hw le (subR rfl) (b := true) (hc_of rfl c28) rfl rfl rfl trivial fun a S CL => ?_
       refine h_done ?_; clear CL hw le
       refine x_thenN ?_
       exact j14 _ (decide (t7 < 0)) a w (S.sb rfl (.c0 (.c0 .n))) h4
      refine h_runO S rfl ⟨_, _, rfl, rfl, c28⟩ ?_ ?_
      ·refine s_ldRA S (ty' := (Ty.atZ ch_0_3 Y30)) (i := x2) (off := 0) (fun c => ((Ty.atZ ch_0_3 Y30).segs (gt ((x1.set (Int.toNat x2) (gt x1 x4)).set (Int.toNat x4) (gt x1 x2)) x2) c)) rfl hA23 .h T30 c30.1 c30.2 rfl (fun _ => rfl) rfl fun ch32 a S => ?_
       refine CL.bk hw S .nil le fun hw => h_run' S rfl ⟨_, _, rfl, rfl, c28⟩ (s_ldRA S (ty' := (Ty.atZ ch_0_3 Y30)) (i := y112) (off := 0) (fun c => ((Ty.atZ ch_0_3 Y30).segs (gt ((x1.set (Int.toNat x2) (gt x1 x4)).set (Int.toNat x4) (gt x1 x2)) y112) c)) rfl hA24 .h T30 c29.1 c29.2 rfl (fun _ => rfl) rfl fun ch33 a S => ?_)
       refine CL.bk hw S .nil le fun hw => h_run' S rfl ⟨_, _, rfl, rfl, c28⟩ (s_callL S (ds' := [(.agg ((Ty.atZ ch_0_3 Y30).segs (gt ((x1.set (Int.toNat x2) (gt x1 x4)).set (Int.toNat x4) (gt x1 x2)) y112) ch33)), (.agg ((Ty.atZ ch_0_3 Y30).segs (gt ((x1.set (Int.toNat x2) (gt x1 x4)).set (Int.toNat x4) (gt x1 x2)) x2) ch32))]) (ds := [(.agg (Y30.segs (gt ((x1.set (Int.toNat x2) (gt x1 x4)).set (Int.toNat x4) (gt x1 x2)) y112) ch33)), (.agg (Y30.segs (gt ((x1.set (Int.toNat x2) (gt x1 x4)).set (Int.toNat x4) (gt x1 x2)) x2) ch32))]) (fun (ch : Unit) => ((.i t7) : D)) (fun _ _ _ h => h) (by obtain ⟨mm, g1, gZ, g2⟩ := S.plend .h1; exact ⟨mm, g1, g2, fun ok => ⟨(okA_lend gZ ok.1), (okA_lend gZ ok.2.1), trivial⟩⟩) N35 rfl rfl rfl (fun _ => store_Store_All_1.ok (gt ((x1.set (Int.toNat x2) (gt x1 x4)).set (Int.toNat x4) (gt x1 x2)) y112) (gt ((x1.set (Int.toNat x2) (gt x1 x4)).set (Int.toNat x4) (gt x1 x2)) x2) ch33.2.2.2.1.1 ch33.2.2.2.1.2 ch33.2.2.2.2.1 ch33.2.2.2.2.2 ch32.2.2.2.1.1 ch32.2.2.2.1.2 ch32.2.2.2.2.1 ch32.2.2.2.2.2 t7 et7 _ _) fun ch34 a w S => CL.bk hw S .nil le fun hw => ?_)
       replace CL := CL.add (t := 45) (d := (.i t7)) S rfl rfl
       refine h_bin S CL hw le (subR rfl) rfl rfl rfl rfl rfl ⟨_, _, rfl, rfl, c28⟩ fun a S CL => h_pick S CL hw le (subR rfl) (b := true) (hc_of rfl c28) rfl rfl rfl trivial fun a S CL => ?_
       refine h_done ?_; clear CL hw le
       refine x_thenN ?_
       exact j14 _ (decide (t7 < 0)) a w (S.sb rfl (.c0 (.c0 .n))) h4
      exact h_nil
     refine h_runO S rfl ⟨_, _, rfl, rfl, c28⟩ ?_ ?_
     ·refine s_ldRA S (ty' := (Ty.atZ ch_0_3 Y30)) (i := x2) (off := 0) (fun c => ((Ty.atZ ch_0_3 Y30).segs (gt ((x1.set (Int.toNat x2) (gt x1 x4)).set (Int.toNat x4) (gt x1 x2)) x2) c)) rfl hA23 .h T30 c30.1 c30.2 rfl (fun _ => rfl) rfl fun ch32 a S => ?_
      refine CL.bk hw S .nil le fun hw => h_run' S rfl ⟨_, _, rfl, rfl, c28⟩ (s_iaddrO S (ty' := (Ty.atZ ch_0_3 Y30)) rfl .h rfl underlying32 T30 c29.1 c29.2 rfl fun g44 a hA24 S => CL.bk hw S .nil le fun hw => h_run' S rfl ⟨_, _, rfl, rfl, c28⟩ (s_ldRA S (ty' := (Ty.atZ ch_0_3 Y30)) (i := y112) (off := 0) (fun c => ((Ty.atZ ch_0_3 Y30).segs (gt ((x1.set (Int.toNat x2) (gt x1 x4)).set (Int.toNat x4) (gt x1 x2)) y112) c)) rfl hA24 .h T30 c29.1 c29.2 rfl (fun _ => rfl) rfl fun ch33 a S => ?_))
      refine CL.bk hw S .nil le fun hw => h_run' S rfl ⟨_, _, rfl, rfl, c28⟩ (s_callL S (ds' := [(.agg ((Ty.atZ ch_0_3 Y30).segs (gt ((x1.set (Int.toNat x2) (gt x1 x4)).set (Int.toNat x4) (gt x1 x2)) y112) ch33)), (.agg ((Ty.atZ ch_0_3 Y30).segs (gt ((x1.set (Int.toNat x2) (gt x1 x4)).set (Int.toNat x4) (gt x1 x2)) x2) ch32))]) (ds := [(.agg (Y30.segs (gt ((x1.set (Int.toNat x2) (gt x1 x4)).set (Int.toNat x4) (gt x1 x2)) y112) ch33)), (.agg (Y30.segs (gt ((x1.set (Int.toNat x2) (gt x1 x4)).set (Int.toNat x4) (gt x1 x2)) x2) ch32))]) (fun (ch : Unit) => ((.i t7) : D)) (fun _ _ _ h => h) (by obtain ⟨mm, g1, gZ, g2⟩ := S.plend .h1; exact ⟨mm, g1, g2, fun ok => ⟨(okA_lend gZ ok.1), (okA_lend gZ ok.2.1), trivial⟩⟩) N35 rfl rfl rfl (fun _ => store_Store_All_1.ok (gt ((x1.set (Int.toNat x2) (gt x1 x4)).set (Int.toNat x4) (gt x1 x2)) y112) (gt ((x1.set (Int.toNat x2) (gt x1 x4)).set (Int.toNat x4) (gt x1 x2)) x2) ch33.2.2.2.1.1 ch33.2.2.2.1.2 ch33.2.2.2.2.1 ch33.2.2.2.2.2 ch32.2.2.2.1.1 ch32.2.2.2.1.2 ch32.2.2.2.2.1 ch32.2.2.2.2.2 t7 et7 _ _) fun ch34 a w S => CL.bk hw S .nil le fun hw => ?_)
      replace CL := CL.add (t := 45) (d := (.i t7)) S rfl rfl
      refine h_bin S CL hw le (subR rfl) rfl rfl rfl rfl rfl ⟨_, _, rfl, rfl, c28⟩ fun a S CL => h_pick S CL hw le (subR rfl) (b := true) (hc_of rfl c28) rfl rfl rfl trivial fun a S CL => ?_
      refine h_done ?_; clear CL hw le
      refine x_thenN ?_
      exact j14 _ (decide (t7 < 0)) a w (S.sb rfl (.c0 (.c0 .n))) h4
     exact h_nil
    exact h_nil
   ·refine h_skip S CL rfl rfl rfl (ne_bool c28) rfl fun a S CL => h_skip S CL rfl rfl rfl (ne_bool c28) rfl fun a S CL => h_skip S CL rfl rfl rfl (ne_bool c28) rfl fun a S CL => h_skip S CL rfl rfl rfl (ne_bool c28) rfl fun a S CL => h_skip S CL rfl rfl rfl (ne_bool c28) rfl fun a S CL => h_alts ?_
    refine h_skipOt S rfl rfl rfl (ne_bool c28) rfl ?_ ?_
    ·clear S a; intro a S
     refine CL.bk hw S .nil le fun hw => h_alts ?_
     refine h_skipOt S rfl rfl rfl (ne_bool c28) rfl ?_ ?_
     ·clear S a; intro a S
      refine CL.bk hw S .nil le fun hw => h_skipRt S rfl rfl rfl (ne_bool c28) rfl fun a S => CL.bk hw S .nil le fun hw => h_skipRt S rfl rfl rfl (ne_bool c28) rfl fun a S => CL.bk hw S .nil le fun hw => h_skipRt S rfl rfl rfl (ne_bool c28) rfl fun a S => CL.bk hw S .nil le fun hw => ?_
      replace CL := CL.add (t := 45) (d := .u) S rfl rfl
      refine h_skip S CL rfl rfl rfl (ne_bool c28) rfl fun a S CL => h_pick S CL hw le (subR rfl) (b := false) (hc_of rfl c28) rfl rfl rfl trivial fun a S CL => ?_
      refine h_done ?_; clear CL hw le
      refine x_thenN ?_
      exact j14 _ false a w (S.sb rfl (.c0 (.c0 .n))) h1
     refine h_skipOt S rfl rfl rfl (ne_bool c28) rfl ?_ ?_
     ·clear S a; intro a S
      refine CL.bk hw S .nil le fun hw => h_alts ?_
      refine h_skipOt S rfl rfl rfl (ne_bool c28) rfl ?_ ?_
      ·clear S a; intro a S
       refine CL.bk hw S .nil le fun hw => h_skipRt S rfl rfl rfl (ne_bool c28) rfl fun a S => CL.bk hw S .nil le fun hw => h_skipRt S rfl rfl rfl (ne_bool c28) rfl fun a S => CL.bk hw S .nil le fun hw => ?_
       replace CL := CL.add (t := 45) (d := .u) S rfl rfl
       refine h_skip S CL rfl rfl rfl (ne_bool c28) rfl fun a S CL => h_pick S CL hw le (subR rfl) (b := false) (hc_of rfl c28) rfl rfl rfl trivial fun a S CL => ?_
       refine h_done ?_; clear CL hw le
       refine x_thenN ?_
       exact j14 _ false a w (S.sb rfl (.c0 (.c0 .n))) h1
      refine h_skipOt S rfl rfl rfl (ne_bool c28) rfl ?_ ?_
      ·clear S a; intro a S
       refine CL.bk hw S .nil le fun hw => h_skipRt S rfl rfl rfl (ne_bool c28) rfl fun a S => CL.bk hw S .nil le fun hw => h_skipRt S rfl rfl rfl (ne_bool c28) rfl fun a S => CL.bk hw S .nil le fun hw => ?_
       replace CL := CL.add (t := 45) (d := .u) S rfl rfl
       refine h_skip S CL rfl rfl rfl (ne_bool c28) rfl fun a S CL => h_pick S CL hw le (subR rfl) (b := false) (hc_of rfl c28) rfl rfl rfl trivial fun a S CL => ?_
       refine h_done ?_; clear CL hw le
       refine x_thenN ?_
       exact j14 _ false a w (S.sb rfl (.c0 (.c0 .n))) h1
      exact h_nil
     exact h_nil
    refine h_skipOt S rfl rfl rfl (ne_bool c28) rfl ?_ ?_
    ·clear S a; intro a S
     refine CL.bk hw S .nil le fun hw => h_alts ?_
     refine h_skipOt S rfl rfl rfl (ne_bool c28) rfl ?_ ?_
     ·clear S a; intro a S
      refine CL.bk hw S .nil le fun hw => h_alts ?_
      refine h_skipOt S rfl rfl rfl (ne_bool c28) rfl ?_ ?_
      ·clear S a; intro a S
       refine CL.bk hw S .nil le fun hw => h_skipRt S rfl rfl rfl (ne_bool c28) rfl fun a S => CL.bk hw S .nil le fun hw => h_skipRt S rfl rfl rfl (ne_bool c28) rfl fun a S => CL.bk hw S .nil le fun hw => ?_
       replace CL := CL.add (t := 45) (d := .u) S rfl rfl
       refine h_skip S CL rfl rfl rfl (ne_bool c28) rfl fun a S CL => h_pick S CL hw le (subR rfl) (b := false) (hc_of rfl c28) rfl rfl rfl trivial fun a S CL => ?_
       refine h_done ?_; clear CL hw le
       refine x_thenN ?_
       exact j14 _ false a w (S.sb rfl (.c0 (.c0 .n))) h1
      refine h_skipOt S rfl rfl rfl (ne_bool c28) rfl ?_ ?_
      ·clear S a; intro a S
       refine CL.bk hw S .nil le fun hw => h_skipRt S rfl rfl rfl (ne_bool c28) rfl fun a S => CL.bk hw S .nil le fun hw => h_skipRt S rfl rfl rfl (ne_bool c28) rfl fun a S => CL.bk hw S .nil le fun hw => ?_
       replace CL := CL.add (t := 45) (d := .u) S rfl rfl
       refine h_skip S CL rfl rfl rfl (ne_bool c28) rfl fun a S CL => h_pick S CL hw le (subR rfl) (b := false) (hc_of rfl c28) rfl rfl rfl trivial fun a S CL => ?_
       refine h_done ?_; clear CL hw le
       refine x_thenN ?_
       exact j14 _ false a w (S.sb rfl (.c0 (.c0 .n))) h1
      exact h_nil
     refine h_skipOt S rfl rfl rfl (ne_bool c28) rfl ?_ ?_
     ·clear S a; intro a S
      refine CL.bk hw S .nil le fun hw => h_skipRt S rfl rfl rfl (ne_bool c28) rfl fun a S => CL.bk hw S .nil le fun hw => h_skipRt S rfl rfl rfl (ne_bool c28) rfl fun a S => CL.bk hw S .nil le fun hw => h_skipRt S rfl rfl rfl (ne_bool c28) rfl fun a S => CL.bk hw S .nil le fun hw => ?_
      replace CL := CL.add (t := 45) (d := .u) S rfl rfl
      refine h_skip S CL rfl rfl rfl (ne_bool c28) rfl fun a S CL => h_pick S CL hw le (subR rfl) (b := false) (hc_of rfl c28) rfl rfl rfl trivial fun a S CL => ?_
      refine h_done ?_; clear CL hw le
      refine x_thenN ?_
      exact j14 _ false a w (S.sb rfl (.c0 (.c0 .n))) h1
     exact h_nil
    exact h_nil
 refine c_heldS S (.take 0 (.take 1 (.take 2 (.take 3 (.take 4 (.take 5 (.take 8 (.take 9 (.alts (.run 6 true (.alts (.run 7 true (.alts (.run 10 true (.alts (.run 11 true (.alts (.run 12 true (.alts (.run 13 true (.alts (.run 14 true (.alts (.run 15 false .done .nil)) .nil)) .nil)) .nil)) .nil)) .nil)) (.run 10 true (.alts (.run 7 true (.alts (.run 11 true (.alts (.run 12 true (.alts (.run 13 true (.alts (.run 14 true (.alts (.run 15 false .done .nil)) .nil)) .nil)) .nil)) .nil)) (.run 11 true (.alts (.run 7 true (.alts (.run 12 true (.alts (.run 13 true (.alts (.run 14 true (.alts (.run 15 false .done .nil)) .nil)) .nil)) .nil)) .nil)) .nil))) .nil))) (.run 10 true (.alts (.run 6 true (.alts (.run 7 true (.alts (.run 11 true (.alts (.run 12 true (.alts (.run 13 true (.alts (.run 14 true (.alts (.run 15 false .done .nil)) .nil)) .nil)) .nil)) .nil)) (.run 11 true (.alts (.run 7 true (.alts (.run 12 true (.alts (.run 13 true (.alts (.run 14 true (.alts (.run 15 false .done .nil)) .nil)) .nil)) .nil)) .nil)) .nil))) (.run 11 true (.alts (.run 6 true (.alts (.run 7 true (.alts (.run 12 true (.alts (.run 13 true (.alts (.run 14 true (.alts (.run 15 false .done .nil)) .nil)) .nil)) .nil)) .nil)) .nil)) .nil))) .nil))))))))))) 15 [] .nil trivial [(0, (.s ch_0_0 ch_0_1 ch_0_2)), (1, (.i x2)), (3, (.i x4))] (subR rfl) (by kernel_rfl) (by kernel_rfl) fun w S CL hw le => ?_
 refine h_move S CL hw le (subR rfl) rfl rfl rfl trivial fun a S CL => h_move S CL hw le (subR rfl) rfl rfl rfl trivial fun a S CL => h_move S CL hw le (subR rfl) rfl rfl rfl trivial fun a S CL => h_move S CL hw le (subR rfl) rfl rfl rfl trivial fun a S CL => h_move S CL hw le (subR rfl) rfl rfl rfl trivial fun a S CL => h_move S CL hw le (subR rfl) rfl rfl rfl trivial fun a S CL => h_move S CL hw le (subR rfl) rfl rfl rfl trivial fun a S CL => h_move S CL hw le (subR rfl) rfl rfl rfl trivial fun a S CL => ?_
 obtain ⟨c31, h1⟩ := chk_of h0; clear h0
 obtain ⟨c32, h2⟩ := chk_of h1; clear h1
 obtain ⟨c33, h3⟩ := chk_of h2; clear h2
 refine h_alts ?_
 refine h_runO S rfl trivial ?_ ?_
 ·refine s_iaddrO S (ty' := (Ty.atZ ch_0_3 Y30)) rfl .h rfl underlying32 T30 c31.1 c31.2 rfl fun g45 a hA25 S => CL.bk hw S .nil le fun hw => h_alts ?_
  refine h_runO S rfl trivial ?_ ?_
  ·refine s_ldRA S (ty' := (Ty.atZ ch_0_3 Y30)) (i := x4) (off := 0) (fun c => ((Ty.atZ ch_0_3 Y30).segs (gt x1 x4) c)) rfl hA25 .h T30 c31.1 c31.2 rfl (fun _ => rfl) rfl fun ch35 a S => ?_
   refine CL.br hw S .nil le rfl trivial fun hw => (s_iaddrO S (ty' := (Ty.atZ ch_0_3 Y30)) rfl .h rfl underlying32 T30 c32.1 c32.2 rfl fun g46 a hA26 S => CL.br hw S .nil le rfl trivial fun hw => (s_ldRA S (ty' := (Ty.atZ ch_0_3 Y30)) (i := x2) (off := 0) (fun c => ((Ty.atZ ch_0_3 Y30).segs (gt x1 x2) c)) rfl hA26 .h T30 c32.1 c32.2 rfl (fun _ => rfl) rfl fun ch36 a S => ?_))
   refine CL.br hw S .nil le rfl trivial fun hw => (s_iaddrO S (ty' := (Ty.atZ ch_0_3 Y30)) rfl .h rfl underlying32 T30 c32.1 c32.2 rfl fun g47 a hA27 S => CL.br hw S .nil le rfl trivial fun hw => (s_stR S (ty' := (Ty.atZ ch_0_3 Y30)) (i := x2) (off := 0) (u := gt x1 x4) (fun _ => ch35) rfl rfl rfl hA27 .h T30 c32.1 c32.2 rfl (show 0 + 27 ≤ (Y30).size by decide) rfl (fun _ => rfl) fun w S => CL.br hw S .nil le rfl trivial fun hw => (s_iaddrO S (ty' := (Ty.atZ ch_0_3 Y30)) rfl .h rfl underlying32 T30 c33.1 c33.2 rfl fun g48 a hA28 S => CL.br hw S .nil le rfl trivial fun hw => (s_stR S (ty' := (Ty.atZ ch_0_3 Y30)) (i := x4) (off := 0) (u := gt x1 x2) (fun _ => ch36) rfl rfl rfl hA28 .h T30 c33.1 c33.2 rfl (show 0 + 27 ≤ (Y30).size by decide) rfl (fun _ => rfl) fun w S => ?_))))
   refine h_back ⟨fun h => (nomatch h), ?_⟩
   refine h_done ?_; clear CL hw le
   refine x_thenN ?_
   exact j1 _ a w (S.sb rfl (.c0 (.c0 .n))) h3
  refine h_runO S rfl trivial ?_ ?_
  ·refine s_iaddrO S (ty' := (Ty.atZ ch_0_3 Y30)) rfl .h rfl underlying32 T30 c32.1 c32.2 rfl fun g46 a hA26 S => CL.bk hw S .nil le fun hw => h_alts ?_
   refine h_runO S rfl trivial ?_ ?_
   ·refine s_ldRA S (ty' := (Ty.atZ ch_0_3 Y30)) (i := x4) (off := 0) (fun c => ((Ty.atZ ch_0_3 Y30).segs (gt x1 x4) c)) rfl hA25 .h T30 c31.1 c31.2 rfl (fun _ => rfl) rfl fun ch35 a S => ?_
    refine CL.br hw S .nil le rfl trivial fun hw => (s_ldRA S (ty' := (Ty.atZ ch_0_3 Y30)) (i := x2) (off := 0) (fun c => ((Ty.atZ ch_0_3 Y30).segs (gt x1 x2) c)) rfl hA26 .h T30 c32.1 c32.2 rfl (fun _ => rfl) rfl fun ch36 a S => ?_)
    refine CL.br hw S .nil le rfl trivial fun hw => (s_iaddrO S (ty' := (Ty.atZ ch_0_3 Y30)) rfl .h rfl underlying32 T30 c32.1 c32.2 rfl fun g47 a hA27 S => CL.br hw S .nil le rfl trivial fun hw => (s_stR S (ty' := (Ty.atZ ch_0_3 Y30)) (i := x2) (off := 0) (u := gt x1 x4) (fun _ => ch35) rfl rfl rfl hA27 .h T30 c32.1 c32.2 rfl (show 0 + 27 ≤ (Y30).size by decide) rfl (fun _ => rfl) fun w S => CL.br hw S .nil le rfl trivial fun hw => (s_iaddrO S (ty' := (Ty.atZ ch_0_3 Y30)) rfl .h rfl underlying32 T30 c33.1 c33.2 rfl fun g48 a hA28 S => CL.br hw S .nil le rfl trivial fun hw => (s_stR S (ty' := (Ty.atZ ch_0_3 Y30)) (i := x4) (off := 0) (u := gt x1 x2) (fun _ => ch36) rfl rfl rfl hA28 .h T30 c33.1 c33.2 rfl (show 0 + 27 ≤ (Y30).size by decide) rfl (fun _ => rfl) fun w S => ?_))))
    refine h_back ⟨fun h => (nomatch h), ?_⟩
    refine h_done ?_; clear CL hw le
    refine x_thenN ?_
    exact j1 _ a w (S.sb rfl (.c0 (.c0 .n))) h3
   refine h_runO S rfl trivial ?_ ?_
   ·refine s_ldRA S (ty' := (Ty.atZ ch_0_3 Y30)) (i := x2) (off := 0) (fun c => ((Ty.atZ ch_0_3 Y30).segs (gt x1 x2) c)) rfl hA26 .h T30 c32.1 c32.2 rfl (fun _ => rfl) rfl fun ch35 a S => ?_
    refine CL.br hw S .nil le rfl trivial fun hw => (s_ldRA S (ty' := (Ty.atZ ch_0_3 Y30)) (i := x4) (off := 0) (fun c => ((Ty.atZ ch_0_3 Y30).segs (gt x1 x4) c)) rfl hA25 .h T30 c31.1 c31.2 rfl (fun _ => rfl) rfl fun ch36 a S => ?_)
    refine CL.br hw S .nil le rfl trivial fun hw => (s_iaddrO S (ty' := (Ty.atZ ch_0_3 Y30)) rfl .h rfl underlying32 T30 c32.1 c32.2 rfl fun g47 a hA27 S => CL.br hw S .nil le rfl trivial fun hw => (s_stR S (ty' := (Ty.atZ ch_0_3 Y30)) (i := x2) (off := 0) (u := gt x1 x4) (fun _ => ch36) rfl rfl rfl hA27 .h T30 c32.1 c32.2 rfl (show 0 + 27 ≤ (Y30).size by decide) rfl (fun _ => rfl) fun w S => CL.br hw S .nil le rfl trivial fun hw => (s_iaddrO S (ty' := (Ty.atZ ch_0_3 Y30)) rfl .h rfl underlying32 T30 c33.1 c33.2 rfl fun g48 a hA28 S => CL.br hw S .nil le rfl trivial fun hw => (s_stR S (ty' := (Ty.atZ ch_0_3 Y30)) (i := x4) (off := 0) (u := gt x1 x2) (fun _ => ch35) rfl rfl rfl hA28 .h T30 c33.1 c33.2 rfl (show 0 + 27 ≤ (Y30).size by decide) rfl (fun _ => rfl) fun w S => ?_))))
    refine h_back ⟨fun h => (nomatch h), ?_⟩
    refine h_done ?_; clear CL hw le
    refine x_thenN ?_
    exact j1 _ a w (S.sb rfl (.c0 (.c0 .n))) h3
   exact h_nil
  exact h_nil
 refine h_runO S rfl trivial ?_ ?_
 ·refine s_iaddrO S (ty' := (Ty.atZ ch_0_3 Y30)) rfl .h rfl underlying32 T30 c32.1 c32.2 rfl fun g45 a hA25 S => CL.bk hw S .nil le fun hw => h_alts ?_
  refine h_runO S rfl trivial ?_ ?_
  ·refine s_iaddrO S (ty' := (Ty.atZ ch_0_3 Y30)) rfl .h rfl underlying32 T30 c31.1 c31.2 rfl fun g46 a hA26 S => CL.bk hw S .nil le fun hw => h_alts ?_
   refine h_runO S rfl trivial ?_ ?_
   ·refine s_ldRA S (ty' := (Ty.atZ ch_0_3 Y30)) (i := x4) (off := 0) (fun c => ((Ty.atZ ch_0_3 Y30).segs (gt x1 x4) c)) rfl hA26 .h T30 c31.1 c31.2 rfl (fun _ => rfl) rfl fun ch35 a S => ?_
    refine CL.br hw S .nil le rfl trivial fun hw => (s_ldRA S (ty' := (Ty.atZ ch_0_3 Y30)) (i := x2) (off := 0) (fun c => ((Ty.atZ ch_0_3 Y30).segs (gt x1 x2) c)) rfl hA25 .h T30 c32.1 c32.2 rfl (fun _ => rfl) rfl fun ch36 a S => ?_)
    refine CL.br hw S .nil le rfl trivial fun hw => (s_iaddrO S (ty' := (Ty.atZ ch_0_3 Y30)) rfl .h rfl underlying32 T30 c32.1 c32.2 rfl fun g47 a hA27 S => CL.br hw S .nil le rfl trivial fun hw => (s_stR S (ty' := (Ty.atZ ch_0_3 Y30)) (i := x2) (off := 0) (u := gt x1 x4) (fun _ => ch35) rfl rfl rfl hA27 .h T30 c32.1 c32.2 rfl (show 0 + 27 ≤ (Y30).size by decide) rfl (fun _ => rfl) fun w S => CL.br hw S .nil le rfl trivial fun hw => (s_iaddrO S (ty' := (Ty.atZ ch_0_3 Y30)) rfl .h rfl underlying32 T30 c33.1 c33.2 rfl fun g48 a hA28 S => CL.br hw S .nil le rfl trivial fun hw => (s_stR S (ty' := (Ty.atZ ch_0_3 Y30)) (i := x4) (off := 0) (u := gt x1 x2) (fun _ => ch36) rfl rfl rfl hA28 .h T30 c33.1 c33.2 rfl (show 0 + 27 ≤ (Y30).size by decide) rfl (fun _ => rfl) fun w S => ?_))))
    refine h_back ⟨fun h => (nomatch h), ?_⟩
    refine h_done ?_; clear CL hw le
    refine x_thenN ?_
    exact j1 _ a w (S.sb rfl (.c0 (.c0 .n))) h3
   refine h_runO S rfl trivial ?_ ?_
   ·refine s_ldRA S (ty' := (Ty.atZ ch_0_3 Y30)) (i := x2) (off := 0) (fun c => ((Ty.atZ ch_0_3 Y30).segs (gt x1 x2) c)) rfl hA25 .h T30 c32.1 c32.2 rfl (fun _ => rfl) rfl fun ch35 a S => ?_
    refine CL.br hw S .nil le rfl trivial fun hw => (s_ldRA S (ty' := (Ty.atZ ch_0_3 Y30)) (i := x4) (off := 0) (fun c => ((Ty.atZ ch_0_3 Y30).segs (gt x1 x4) c)) rfl hA26 .h T30 c31.1 c31.2 rfl (fun _ => rfl) rfl fun ch36 a S => ?_)
    refine CL.br hw S .nil le rfl trivial fun hw => (s_iaddrO S (ty' := (Ty.atZ ch_0_3 Y30)) rfl .h rfl underlying32 T30 c32.1 c32.2 rfl fun g47 a hA27 S => CL.br hw S .nil le rfl trivial fun hw => (s_stR S (ty' := (Ty.atZ ch_0_3 Y30)) (i := x2) (off := 0) (u := gt x1 x4) (fun _ => ch36) rfl rfl rfl hA27 .h T30 c32.1 c32.2 rfl (show 0 + 27 ≤ (Y30).size by decide) rfl (fun _ => rfl) fun w S => CL.br hw S .nil le rfl trivial fun hw => (s_iaddrO S (ty' := (Ty.atZ ch_0_3 Y30)) rfl .h rfl underlying32 T30 c33.1 c33.2 rfl fun g48 a hA28 S => CL.br hw S .nil le rfl trivial fun hw => (s_stR S (ty' := (Ty.atZ ch_0_3 Y30)) (i := x4) (off := 0) (u := gt x1 x2) (fun _ => ch35) rfl rfl rfl hA28 .h T30 c33.1 c33.2 rfl (show 0 + 27 ≤ (Y30).size by decide) rfl (fun _ => rfl) fun w S => ?_))))
    refine h_back ⟨fun h => (nomatch h), ?_⟩
    refine h_done ?_; clear CL hw le
    refine x_thenN ?_
    exact j1 _ a w (S.sb rfl (.c0 (.c0 .n))) h3
   exact h_nil
  refine h_runO S rfl trivial ?_ ?_
  ·refine s_ldRA S (ty' := (Ty.atZ ch_0_3 Y30)) (i := x2) (off := 0) (fun c => ((Ty.atZ ch_0_3 Y30).segs (gt x1 x2) c)) rfl hA25 .h T30 c32.1 c32.2 rfl (fun _ => rfl) rfl fun ch35 a S => ?_
   refine CL.br hw S .nil le rfl trivial fun hw => (s_iaddrO S (ty' := (Ty.atZ ch_0_3 Y30)) rfl .h rfl underlying32 T30 c31.1 c31.2 rfl fun g46 a hA26 S => CL.br hw S .nil le rfl trivial fun hw => (s_ldRA S (ty' := (Ty.atZ ch_0_3 Y30)) (i := x4) (off := 0) (fun c => ((Ty.atZ ch_0_3 Y30).segs (gt x1 x4) c)) rfl hA26 .h T30 c31.1 c31.2 rfl (fun _ => rfl) rfl fun ch36 a S => ?_))
   refine CL.br hw S .nil le rfl trivial fun hw => (s_iaddrO S (ty' := (Ty.atZ ch_0_3 Y30)) rfl .h rfl underlying32 T30 c32.1 c32.2 rfl fun g47 a hA27 S => CL.br hw S .nil le rfl trivial fun hw => (s_stR S (ty' := (Ty.atZ ch_0_3 Y30)) (i := x2) (off := 0) (u := gt x1 x4) (fun _ => ch36) rfl rfl rfl hA27 .h T30 c32.1 c32.2 rfl (show 0 + 27 ≤ (Y30).size by decide) rfl (fun _ => rfl) fun w S => CL.br hw S .nil le rfl trivial fun hw => (s_iaddrO S (ty' := (Ty.atZ ch_0_3 Y30)) rfl .h rfl underlying32 T30 c33.1 c33.2 rfl fun g48 a hA28 S => CL.br hw S .nil le rfl trivial fun hw => (s_stR S (ty' := (Ty.atZ ch_0_3 Y30)) (i := x4) (off := 0) (u := gt x1 x2) (fun _ => ch35) rfl rfl rfl hA28 .h T30 c33.1 c33.2 rfl (show 0 + 27 ≤ (Y30).size by decide) rfl (fun _ => rfl) fun w S => ?_))))
   refine h_back ⟨fun h => (nomatch h), ?_⟩
   refine h_done ?_; clear CL hw le
   refine x_thenN ?_
   exact j1 _ a w (S.sb rfl (.c0 (.c0 .n))) h3
  exact h_nil
 exact h_nil
end
end GW
