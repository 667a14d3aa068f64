import Derived.Test.YtmidfllhoogifaaProg
import Derived.Test.YtmidfllhoogifaaGF
set_option linter.unusedVariables false
set_option linter.unusedSimpArgs false
set_option maxRecDepth 10000
set_option maxHeartbeats 4000000
namespace GW
open Go Go.RowKit Go.Proofs Go.Proofs.Try
noncomputable section
abbrev slices_nextPowerOfTwo.Ty : Type := Int → Option Int
def slices_nextPowerOfTwo.Ctr (s : slices_nextPowerOfTwo.Ty) : Prop := ∀ (x1 : Int) (r : Int), Ct (C := Unit) Try.prog 62 (s x1 = some r) [] [(.i x1)] (fun _ => (.w r)) fun _ => []
def slices_nextPowerOfTwo.f (x1 : Int) : Option Int := (bits_Len.f (wr .u64 x1)).bind fun t1 => (if (0 : Int) ≤ t1 then (some (shl .u64 1 (min (Int.toNat t1) 64))) else none)
theorem slices_nextPowerOfTwo.ok : slices_nextPowerOfTwo.Ctr (slices_nextPowerOfTwo.f) := by
 intro x1 r h0 mi w0 ok hm
 delta slices_nextPowerOfTwo.f at h0
 refine c_enterZ (n := 7) ok hm func62 rfl rfl rfl fun b0 hb a S => c_region (s_assign S rfl rfl fun a S => c_end (c_region (s_move S rfl rfl fun a S => s_conv S rfl rfl underlying94 rfl fun a S => bindX h0 fun t1 et1 h1 => s_callP S _ N47 rfl rfl (bits_Len.ok (wr .u64 x1) t1 et1 _ _) fun ch1 m le1 a w S => ?_)))
 obtain ⟨c1, h2⟩ := chk_of h1; clear h1
 refine s_shl S (e := (min (Int.toNat t1) 64)) rfl rfl c1 rfl rfl fun a S => s_assign S rfl rfl fun a S => c_end (wp_ret ?_)
 obtain rfl := Option.some.inj h2
 exact b_ret1 (d := (.w (shl .u64 1 (min (Int.toNat t1) 64)))) S rfl rfl (S.rt hb)
abbrev slices_xorshift_Next.Ty : Type := Int → Option (Int × Int)
def slices_xorshift_Next.Ctr (s : slices_xorshift_Next.Ty) : Prop := ∀ (x1 : Int) (ch_0_0 : Nat) (r : Int × Int), Ct (C := Unit) Try.prog 63 (s x1 = some r) [Res.cells ch_0_0 107 [.w x1]] [(.p ch_0_0)] (fun _ => (.w r.1)) fun _ => [Res.cells ch_0_0 107 [.w r.2]]
def slices_xorshift_Next.f (x1 : Int) : Option (Int × Int) := some (bits .xor .u64 (bits .xor .u64 (bits .xor .u64 x1 (shl .u64 x1 13)) (shr (bits .xor .u64 x1 (shl .u64 x1 13)) 7)) (shl .u64 (bits .xor .u64 (bits .xor .u64 x1 (shl .u64 x1 13)) (shr (bits .xor .u64 x1 (shl .u64 x1 13)) 7)) 17), bits .xor .u64 (bits .xor .u64 (bits .xor .u64 x1 (shl .u64 x1 13)) (shr (bits .xor .u64 x1 (shl .u64 x1 13)) 7)) (shl .u64 (bits .xor .u64 (bits .xor .u64 x1 (shl .u64 x1 13)) (shr (bits .xor .u64 x1 (shl .u64 x1 13)) 7)) 17))
theorem slices_xorshift_Next.ok : slices_xorshift_Next.Ctr (slices_xorshift_Next.f) := by
 intro x1 ch_0_0 r h0 mi w0 ok hm
 delta slices_xorshift_Next.f at h0
 refine c_enterZ (n := 33) ok hm func63 rfl rfl rfl fun b0 hb a S => c_region (s_assign S rfl rfl fun a S => c_end ?_)
 refine wp_seq (c_heldS S (.take 0 (.take 1 (.take 2 (.take 3 (.take 4 (.take 5 (.take 6 (.take 7 (.take 8 (.alts (.run 9 false .done .nil))))))))))) 9 [Res.cells ch_0_0 107 [.w x1]] (.c0 .n) ⟨Res.stay_cells, trivial⟩ [(0, (.p ch_0_0))] ⟨rfl, trivial⟩ (by kernel_rfl) (by kernel_rfl) ?_); clear S; intro w S CL hw le
 refine h_move S CL hw le ⟨rfl, trivial⟩ rfl rfl rfl trivial fun a S CL => h_nilchk S CL hw le (subR rfl) rfl rfl rfl rfl trivial fun a S CL => h_load1 S CL hw le (subR rfl) rfl .h T107 (v := (.int .u64 x1)) rfl rfl rfl trivial fun a S CL => h_move S CL hw le (subR rfl) rfl rfl rfl trivial fun a S CL => h_nilchk S CL hw le (subR rfl) rfl rfl rfl rfl trivial fun a S CL => h_load1 S CL hw le (subR rfl) rfl .h T107 (v := (.int .u64 x1)) rfl rfl rfl trivial fun a S CL => h_shl S CL hw le (subR rfl) (e := 13) rfl rfl (by decide) rfl rfl rfl trivial fun a S CL => h_bin S CL hw le (subR rfl) rfl rfl rfl rfl rfl trivial fun a S CL => h_nilchk S CL hw le (subR rfl) rfl rfl rfl rfl trivial fun a S CL => h_run' S rfl trivial (s_store S rfl rfl rfl (s' := [.w (bits .xor .u64 x1 (shl .u64 x1 13))]) .h T107 rfl rfl fun w S => ?_)
 refine h_back ⟨fun h => (nomatch h), ?_⟩
 refine h_done ?_; clear CL hw le
 refine x_thenN ?_
 refine wp_seq (c_heldS S (.take 0 (.take 1 (.take 2 (.take 3 (.take 4 (.take 5 (.take 6 (.take 7 (.take 8 (.alts (.run 9 false .done .nil))))))))))) 9 [Res.cells ch_0_0 107 [.w (bits .xor .u64 x1 (shl .u64 x1 13))]] (.c0 .n) ⟨Res.stay_cells, trivial⟩ [(0, (.p ch_0_0))] ⟨rfl, trivial⟩ (by kernel_rfl) (by kernel_rfl) ?_); clear S; intro w S CL hw le
 refine h_move S CL hw le ⟨rfl, trivial⟩ rfl rfl rfl trivial fun a S CL => h_nilchk S CL hw le (subR rfl) rfl rfl rfl rfl trivial fun a S CL => h_load1 S CL hw le (subR rfl) rfl .h T107 (v := (.int .u64 (bits .xor .u64 x1 (shl .u64 x1 13)))) rfl rfl rfl trivial fun a S CL => h_move S CL hw le (subR rfl) rfl rfl rfl trivial fun a S CL => h_nilchk S CL hw le (subR rfl) rfl rfl rfl rfl trivial fun a S CL => h_load1 S CL hw le (subR rfl) rfl .h T107 (v := (.int .u64 (bits .xor .u64 x1 (shl .u64 x1 13)))) rfl rfl rfl trivial fun a S CL => h_shr S CL hw le (subR rfl) (e := 7) rfl rfl (by decide) rfl rfl rfl trivial fun a S CL => h_bin S CL hw le (subR rfl) rfl rfl rfl rfl rfl trivial fun a S CL => h_nilchk S CL hw le (subR rfl) rfl rfl rfl rfl trivial fun a S CL => h_run' S rfl trivial (s_store S rfl rfl rfl (s' := [.w (bits .xor .u64 (bits .xor .u64 x1 (shl .u64 x1 13)) (shr (bits .xor .u64 x1 (shl .u64 x1 13)) 7))]) .h T107 rfl rfl fun w S => ?_)
 refine h_back ⟨fun h => (nomatch h), ?_⟩
 refine h_done ?_; clear CL hw le
 refine x_thenN ?_
 refine wp_seq (c_heldS S (.take 0 (.take 1 (.take 2 (.take 3 (.take 4 (.take 5 (.take 6 (.take 7 (.take 8 (.alts (.run 9 false .done .nil))))))))))) 9 [Res.cells ch_0_0 107 [.w (bits .xor .u64 (bits .xor .u64 x1 (shl .u64 x1 13)) (shr (bits .xor .u64 x1 (shl .u64 x1 13)) 7))]] (.c0 .n) ⟨Res.stay_cells, trivial⟩ [(0, (.p ch_0_0))] ⟨rfl, trivial⟩ (by kernel_rfl) (by kernel_rfl) ?_); clear S; intro w S CL hw le
 refine h_move S CL hw le ⟨rfl, trivial⟩ rfl rfl rfl trivial fun a S CL => h_nilchk S CL hw le (subR rfl) rfl rfl rfl rfl trivial fun a S CL => h_load1 S CL hw le (subR rfl) rfl .h T107 (v := (.int .u64 (bits .xor .u64 (bits .xor .u64 x1 (shl .u64 x1 13)) (shr (bits .xor .u64 x1 (shl .u64 x1 13)) 7)))) rfl rfl rfl trivial fun a S CL => h_move S CL hw le (subR rfl) rfl rfl rfl trivial fun a S CL => h_nilchk S CL hw le (subR rfl) rfl rfl rfl rfl trivial fun a S CL => h_load1 S CL hw le (subR rfl) rfl .h T107 (v := (.int .u64 (bits .xor .u64 (bits .xor .u64 x1 (shl .u64 x1 13)) (shr (bits .xor .u64 x1 (shl .u64 x1 13)) 7)))) rfl rfl rfl trivial fun a S CL => h_shl S CL hw le (subR rfl) (e := 17) rfl rfl (by decide) rfl rfl rfl trivial fun a S CL => h_bin S CL hw le (subR rfl) rfl rfl rfl rfl rfl trivial fun a S CL => h_nilchk S CL hw le (subR rfl) rfl rfl rfl rfl trivial fun a S CL => h_run' S rfl trivial (s_store S rfl rfl rfl (s' := [.w (bits .xor .u64 (bits .xor .u64 (bits .xor .u64 x1 (shl .u64 x1 13)) (shr (bits .xor .u64 x1 (shl .u64 x1 13)) 7)) (shl .u64 (bits .xor .u64 (bits .xor .u64 x1 (shl .u64 x1 13)) (shr (bits .xor .u64 x1 (shl .u64 x1 13)) 7)) 17))]) .h T107 rfl rfl fun w S => ?_)
 refine h_back ⟨fun h => (nomatch h), ?_⟩
 refine h_done ?_; clear CL hw le
 refine x_thenN (c_region (s_move S rfl rfl fun a S => s_nilchk S rfl rfl fun a S => s_load1 S rfl .h T107 (v := (.int .u64 (bits .xor .u64 (bits .xor .u64 (bits .xor .u64 x1 (shl .u64 x1 13)) (shr (bits .xor .u64 x1 (shl .u64 x1 13)) 7)) (shl .u64 (bits .xor .u64 (bits .xor .u64 x1 (shl .u64 x1 13)) (shr (bits .xor .u64 x1 (shl .u64 x1 13)) 7)) 17)))) rfl rfl fun a S => s_assign S rfl rfl fun a S => c_end (wp_ret ?_)))
 obtain rfl := Option.some.inj h0
 exact b_ret1 (d := (.w (bits .xor .u64 (bits .xor .u64 (bits .xor .u64 x1 (shl .u64 x1 13)) (shr (bits .xor .u64 x1 (shl .u64 x1 13)) 7)) (shl .u64 (bits .xor .u64 (bits .xor .u64 x1 (shl .u64 x1 13)) (shr (bits .xor .u64 x1 (shl .u64 x1 13)) 7)) 17)))) S rfl rfl fun ok => S.retX (Hx := []) hb _ _ (() : Unit) (.c0 .n) ok
abbrev api_Account_n52_0z_3f35.Ty : Type := (List L30) → Int → Int → Option ((List L30))
def api_Account_n52_0z_3f35.Ctr (s : api_Account_n52_0z_3f35.Ty) : Prop := ∀ (x1 : List L30) (x2 : Int) (x3 : Int) (ch_0_0 : Option Addr) (ch_0_1 : Nat) (ch_0_2 : Nat) (ch_0_3 : Mem) (r : (List L30)), Ct (C := Unit) Try.prog 52 (s x1 x2 x3 = some r) [Res.row (Ty.atZ ch_0_3 Y30) 30 ch_0_0 ch_0_1 ch_0_2 x1, Res.priv ch_0_3] [(.s ch_0_0 ch_0_1 ch_0_2), (.i x2), (.i x3), (.v (.func (.func 35) #[] #[]))] (fun _ => (.tup [])) fun _ => [Res.row (Ty.atZ ch_0_3 Y30) 30 ch_0_0 ch_0_1 ch_0_2 r, Res.priv ch_0_3]
def api_Account_n52_0z_3f35.j1 (y2 : Int) (rec1 : (List L30) → Int → Int → Option ((List L30))) (y5 : List L30) (y6 : Int) : Option ((List L30)) := rec1 y5 (wr .i64 (y2 + 1)) y6
def api_Account_n52_0z_3f35.j2 (x2 : Int) (y1 : List L30) (y2 : Int) (rec1 : (List L30) → Int → Int → Option ((List L30))) (t3 : Int × Int) (y7 : Int) : Option ((List L30)) := if (0 : Int) ≤ (wr .i64 (x2 + y7)) ∧ (wr .i64 (x2 + y7)) < ((y1).length : Int) then (if (0 : Int) ≤ y2 ∧ y2 < ((y1).length : Int) then (if (0 : Int) ≤ (wr .i64 (x2 + y7)) ∧ (wr .i64 (x2 + y7)) < ((y1.set (Int.toNat y2) (gt y1 (wr .i64 (x2 + y7)))).length : Int) then (api_Account_n52_0z_3f35.j1 y2 rec1 ((y1.set (Int.toNat y2) (gt y1 (wr .i64 (x2 + y7)))).set (Int.toNat (wr .i64 (x2 + y7))) (gt y1 y2)) t3.2) else none) else none) else none
def api_Account_n52_0z_3f35.b1 (x2 : Int) (x3 : Int) (t1 : Int) (rec1 : (List L30) → Int → Int → Option ((List L30))) (y1 : List L30) (y2 : Int) (y3 : Int) : Option ((List L30)) := if (decide (y2 ≤ (wr .i64 ((wr .i64 (x2 + (wr .i64 ((wr .i64 (Int.tdiv (wr .i64 (x3 - x2)) 4)) * 2)))) + 1)))) = true then ((slices_xorshift_Next.f y3).bind fun t3 => (if (decide ((wr .i64 (x3 - x2)) ≤ (wr .i64 (bits .and .u64 t3.1 (wr .u64 (t1 - 1)))))) = true then (api_Account_n52_0z_3f35.j2 x2 y1 y2 rec1 t3 (wr .i64 ((wr .i64 (bits .and .u64 t3.1 (wr .u64 (t1 - 1)))) - (wr .i64 (x3 - x2))))) else (api_Account_n52_0z_3f35.j2 x2 y1 y2 rec1 t3 (wr .i64 (bits .and .u64 t3.1 (wr .u64 (t1 - 1))))))) else (some y1)
def api_Account_n52_0z_3f35.l1 (x2 : Int) (x3 : Int) (t1 : Int) : Nat → (List L30) → Int → Int → Option ((List L30))
  | 0, _, _, _ => none
  | q + 1, y1, y2, y3 => api_Account_n52_0z_3f35.b1 x2 x3 t1 (api_Account_n52_0z_3f35.l1 x2 x3 t1 q) y1 y2 y3
def api_Account_n52_0z_3f35.f (k : Nat) (x1 : List L30) (x2 : Int) (x3 : Int) : Option ((List L30)) := if (decide (8 ≤ (wr .i64 (x3 - x2)))) = true then ((slices_nextPowerOfTwo.f (wr .i64 (x3 - x2))).bind fun t1 => (api_Account_n52_0z_3f35.l1 x2 x3 t1 k x1 (wr .i64 ((wr .i64 (x2 + (wr .i64 ((wr .i64 (Int.tdiv (wr .i64 (x3 - x2)) 4)) * 2)))) - 1)) (wr .u64 (wr .i64 (x3 - x2))))) else (some x1)
theorem api_Account_n52_0z_3f35.ok (k : Nat) : api_Account_n52_0z_3f35.Ctr (api_Account_n52_0z_3f35.f k) := by
 intro x1 x2 x3 ch_0_0 ch_0_1 ch_0_2 ch_0_3 r h0 mi w0 ok hm
 delta api_Account_n52_0z_3f35.f at h0
 refine c_enterZ (n := 67) ok hm func52 rfl rfl rfl fun b0 hb a S => c_region (s_move S rfl rfl fun a S => s_move S rfl rfl fun a S => s_bin S rfl rfl rfl rfl fun a S => s_assign S rfl rfl fun a S => c_end (c_region (s_move S rfl rfl fun a S => s_bin S rfl rfl rfl rfl fun a S => c_end ?_)))
 rcases ite_of h0 with ⟨c1, h1⟩ | ⟨c1, h1⟩
 ·refine c_condT S rfl c1 (c_region (s_move S rfl rfl fun a S => s_conv S rfl rfl underlying107 rfl fun a S => s_alloc S Z107 rfl rfl rfl fun g1 a w S => s_store S rfl rfl rfl (s' := [.w (wr .u64 (wr .i64 (x3 - x2)))]) .h T107 rfl rfl fun w S => c_end (c_region (s_move S rfl rfl fun a S => bindX h1 fun t1 et1 h2 => s_callP S _ N62 rfl rfl (slices_nextPowerOfTwo.ok (wr .i64 (x3 - x2)) t1 et1 _ _) fun ch1 m le1 a w S => s_assign S rfl rfl fun a S => c_end (c_region (s_move S rfl rfl fun a S => s_move S rfl rfl fun a S => s_quo S rfl rfl (by decide) rfl fun a S => s_bin S rfl rfl rfl rfl fun a S => s_bin S rfl rfl rfl rfl fun a S => s_bin S rfl rfl rfl rfl fun a S => s_assign S rfl rfl fun a S => c_end (wp_block ?_)))))))
  refine c_loop (fun q1 a w => ∃ m y1 y2 g16 y3, St 67 m b0 [(11, (.i y2)), (10, (.w t1)), (9, (.p g16)), (8, (.i (wr .i64 (x3 - x2)))), (0, (.s ch_0_0 ch_0_1 ch_0_2)), (1, (.i x2))] [Res.cells g16 107 [.w y3], Res.row (Ty.atZ ch_0_3 Y30) 30 ch_0_0 ch_0_1 ch_0_2 y1, Res.priv ch_0_3] a w ∧ api_Account_n52_0z_3f35.l1 x2 x3 t1 q1 y1 y2 y3 = some r) ?_ ?_ (k := k) ⟨_, x1, (wr .i64 ((wr .i64 (x2 + (wr .i64 ((wr .i64 (Int.tdiv (wr .i64 (x3 - x2)) 4)) * 2)))) - 1)), g1, (wr .u64 (wr .i64 (x3 - x2))), (S.sb rfl (.c0 (.c0 (.c0 .n)))), h2⟩
  ·rintro a w ⟨m, y1, y2, g16, y3, S, h0⟩
   exact (nomatch (show (none : Option ((List L30))) = some r from h0))
  ·clear S h2
   rintro q1 a w ⟨m, y1, y2, g16, y3, S, h0⟩
   replace h0 : api_Account_n52_0z_3f35.b1 x2 x3 t1 (api_Account_n52_0z_3f35.l1 x2 x3 t1 q1) y1 y2 y3 = some r := h0
   delta api_Account_n52_0z_3f35.b1 at h0
   refine wp_seq (c_region (s_move S rfl rfl fun a S => s_move S rfl rfl fun a S => s_move S rfl rfl fun a S => s_quo S rfl rfl (by decide) rfl fun a S => s_bin S rfl rfl rfl rfl fun a S => s_bin S rfl rfl rfl rfl fun a S => s_bin S rfl rfl rfl rfl fun a S => s_bin S rfl rfl rfl rfl fun a S => c_end ?_))
   rcases ite_of h0 with ⟨c2, h1⟩ | ⟨c2, h1⟩
   ·refine c_condT S rfl c2 (wp_skip (x_thenN (wp_seq_k fun K1 hK1 => ?_)))
    have j1 : ∀ m y5 g22 y6 a w, St 67 m b0 [(11, (.i y2)), (10, (.w t1)), (9, (.p g22)), (8, (.i (wr .i64 (x3 - x2)))), (0, (.s ch_0_0 ch_0_1 ch_0_2)), (1, (.i x2))] [Res.cells g22 107 [.w y6], Res.row (Ty.atZ ch_0_3 Y30) 30 ch_0_0 ch_0_1 ch_0_2 y5, Res.priv ch_0_3] a w → api_Account_n52_0z_3f35.j1 y2 (api_Account_n52_0z_3f35.l1 x2 x3 t1 q1) y5 y6 = some r → K1 a w := by
     intro m y5 g22 y6 a w S h0
     delta api_Account_n52_0z_3f35.j1 at h0
     refine hK1 a w (c_region' (s_move S rfl rfl fun a S => s_bin S rfl rfl rfl rfl fun a S => s_assign S rfl rfl fun a S => c_end' (x_thenN ?_)))
     exact ⟨_, y5, (wr .i64 (y2 + 1)), g22, y6, (S.sb rfl (.c0 (.c0 (.c0 .n)))), h0⟩
    refine wp_block (c_region (bindX h1 fun t3 et3 h2 => s_callX S (ds' := [(.p g16)]) (ds := [(.p g16)]) [Res.cells g16 107 [.w y3]] [Res.row (Ty.atZ ch_0_3 Y30) 30 ch_0_0 ch_0_1 ch_0_2 y1, Res.priv ch_0_3] (fun (ch : Unit) => ((.w t3.1) : D)) (fun (ch : Unit) => [Res.cells g16 107 [.w t3.2]]) (fun (ch : Unit) => [Res.cells g16 107 [.w t3.2], Res.row (Ty.atZ ch_0_3 Y30) 30 ch_0_0 ch_0_1 ch_0_2 y1, Res.priv ch_0_3]) (fun _ => rfl) N63 rfl rfl (fun ok => ok) (.c0 (.c0 (.c0 .n))) rfl (slices_xorshift_Next.ok y3 g16 t3 et3 _ _) fun ch5 m le1 a w S => s_move S rfl rfl fun a S => s_bin S rfl rfl rfl rfl fun a S => s_bin S rfl rfl rfl rfl fun a S => s_conv S rfl rfl underlying3 rfl fun a S => s_assign S rfl rfl fun a S => c_end (wp_seq_k fun K2 hK2 => ?_)))
    have j2 : ∀ m y7 g23 a w, St 67 m b0 [(12, (.i y7)), (11, (.i y2)), (10, (.w t1)), (9, (.p g23)), (8, (.i (wr .i64 (x3 - x2)))), (0, (.s ch_0_0 ch_0_1 ch_0_2)), (1, (.i x2))] [Res.cells g23 107 [.w t3.2], Res.row (Ty.atZ ch_0_3 Y30) 30 ch_0_0 ch_0_1 ch_0_2 y1, Res.priv ch_0_3] a w → api_Account_n52_0z_3f35.j2 x2 y1 y2 (api_Account_n52_0z_3f35.l1 x2 x3 t1 q1) t3 y7 = some r → K2 a w := by
     intro m y7 g23 a w S h0
     delta api_Account_n52_0z_3f35.j2 at h0
     refine hK2 a w (c_heldS S (.take 0 (.take 1 (.take 2 (.take 3 (.take 4 (.take 5 (.take 6 (.take 7 (.take 8 (.take 9 (.take 12 (.take 13 (.alts (.run 10 true (.alts (.run 11 true (.alts (.run 14 true (.alts (.run 15 true (.alts (.run 16 true (.alts (.run 17 true (.alts (.run 18 true (.alts (.run 19 false .done .nil)) .nil)) .nil)) .nil)) .nil)) .nil)) (.run 14 true (.alts (.run 11 true (.alts (.run 15 true (.alts (.run 16 true (.alts (.run 17 true (.alts (.run 18 true (.alts (.run 19 false .done .nil)) .nil)) .nil)) .nil)) .nil)) (.run 15 true (.alts (.run 11 true (.alts (.run 16 true (.alts (.run 17 true (.alts (.run 18 true (.alts (.run 19 false .done .nil)) .nil)) .nil)) .nil)) .nil)) .nil))) .nil))) (.run 14 true (.alts (.run 10 true (.alts (.run 11 true (.alts (.run 15 true (.alts (.run 16 true (.alts (.run 17 true (.alts (.run 18 true (.alts (.run 19 false .done .nil)) .nil)) .nil)) .nil)) .nil)) (.run 15 true (.alts (.run 11 true (.alts (.run 16 true (.alts (.run 17 true (.alts (.run 18 true (.alts (.run 19 false .done .nil)) .nil)) .nil)) .nil)) .nil)) .nil))) (.run 15 true (.alts (.run 10 true (.alts (.run 11 true (.alts (.run 16 true (.alts (.run 17 true (.alts (.run 18 true (.alts (.run 19 false .done .nil)) .nil)) .nil)) .nil)) .nil)) .nil)) .nil))) .nil))))))))))))))) 19 [Res.cells g23 107 [.w t3.2]] (.c0 .n) ⟨Res.stay_cells, trivial⟩ [(12, (.i y7)), (11, (.i y2)), (0, (.s ch_0_0 ch_0_1 ch_0_2)), (1, (.i x2))] (subR rfl) (by kernel_rfl) (by kernel_rfl) fun w S CL hw le => ?_)
     refine h_move S CL hw le (subR rfl) rfl rfl rfl trivial fun a S CL => h_move S CL hw le (subR rfl) rfl rfl rfl trivial fun a S CL => h_move S CL hw le (subR rfl) rfl rfl rfl trivial fun a S CL => h_move S CL hw le (subR rfl) rfl rfl rfl trivial fun a S CL => h_move S CL hw le (subR rfl) rfl rfl rfl trivial fun a S CL => h_bin S CL hw le (subR rfl) rfl rfl rfl rfl rfl trivial fun a S CL => h_move S CL hw le (subR rfl) rfl rfl rfl trivial fun a S CL => h_move S CL hw le (subR rfl) rfl rfl rfl trivial fun a S CL => h_move S CL hw le (subR rfl) rfl rfl rfl trivial fun a S CL => h_bin S CL hw le (subR rfl) rfl rfl rfl rfl rfl trivial fun a S CL => h_move S CL hw le (subR rfl) rfl rfl rfl trivial fun a S CL => h_move S CL hw le (subR rfl) rfl rfl rfl trivial fun a S CL => ?_
     obtain ⟨c3, h1⟩ := chk_of h0; clear h0
     obtain ⟨c4, h2⟩ := chk_of h1; clear h1
     obtain ⟨c5, h3⟩ := chk_of h2; clear h2
     refine h_alts ?_
     refine h_runO S rfl trivial ?_ ?_
     ·refine s_iaddrO S (ty' := (Ty.atZ ch_0_3 Y30)) rfl .h1 rfl underlying32 T30 c3.1 c3.2 rfl fun g24 a hA1 S => CL.bk hw S (.c0 .n) le fun hw => h_alts ?_
      refine h_runO S rfl trivial ?_ ?_
      ·refine s_ldRA S (ty' := (Ty.atZ ch_0_3 Y30)) (i := (wr .i64 (x2 + y7))) (off := 0) (fun c => ((Ty.atZ ch_0_3 Y30).segs (gt y1 (wr .i64 (x2 + y7))) c)) rfl hA1 .h1 T30 c3.1 c3.2 rfl (fun _ => rfl) rfl fun ch6 a S => ?_
       refine CL.bk hw S (.c0 .n) le fun hw => h_run' S rfl trivial (s_iaddrO S (ty' := (Ty.atZ ch_0_3 Y30)) rfl .h1 rfl underlying32 T30 c4.1 c4.2 rfl fun g25 a hA2 S => CL.bk hw S (.c0 .n) le fun hw => h_run' S rfl trivial (s_ldRA S (ty' := (Ty.atZ ch_0_3 Y30)) (i := y2) (off := 0) (fun c => ((Ty.atZ ch_0_3 Y30).segs (gt y1 y2) c)) rfl hA2 .h1 T30 c4.1 c4.2 rfl (fun _ => rfl) rfl fun ch7 a S => ?_))
       refine CL.bk hw S (.c0 .n) le fun hw => h_run' S rfl trivial (s_iaddrO S (ty' := (Ty.atZ ch_0_3 Y30)) rfl .h1 rfl underlying32 T30 c4.1 c4.2 rfl fun g26 a hA3 S => CL.bk hw S (.c0 .n) le fun hw => h_run' S rfl trivial (s_stR S (ty' := (Ty.atZ ch_0_3 Y30)) (i := y2) (off := 0) (u := gt y1 (wr .i64 (x2 + y7))) (fun _ => ch6) rfl rfl rfl hA3 .h1 T30 c4.1 c4.2 rfl (show 0 + 27 ≤ (Y30).size by decide) rfl (fun _ => rfl) fun w S => CL.bk hw S (.c0 .n) le fun hw => h_run' S rfl trivial (s_iaddrO S (ty' := (Ty.atZ ch_0_3 Y30)) rfl .h1 rfl underlying32 T30 c5.1 c5.2 rfl fun g27 a hA4 S => CL.bk hw S (.c0 .n) le fun hw => h_run' S rfl trivial (s_stR S (ty' := (Ty.atZ ch_0_3 Y30)) (i := (wr .i64 (x2 + y7))) (off := 0) (u := gt y1 y2) (fun _ => ch7) rfl rfl rfl hA4 .h1 T30 c5.1 c5.2 rfl (show 0 + 27 ≤ (Y30).size by decide) rfl (fun _ => rfl) fun w S => ?_))))
       refine h_back ⟨fun h => (nomatch h), ?_⟩
       refine h_done ?_; clear CL hw le
       refine x_blockN (x_thenN ?_)
       exact j1 _ ((y1.set (Int.toNat y2) (gt y1 (wr .i64 (x2 + y7)))).set (Int.toNat (wr .i64 (x2 + y7))) (gt y1 y2)) g23 t3.2 a w (S.sb rfl (.c0 (.c0 (.c0 .n)))) h3
      refine h_runO S rfl trivial ?_ ?_
      ·refine s_iaddrO S (ty' := (Ty.atZ ch_0_3 Y30)) rfl .h1 rfl underlying32 T30 c4.1 c4.2 rfl fun g25 a hA2 S => CL.bk hw S (.c0 .n) le fun hw => h_alts ?_
       refine h_runO S rfl trivial ?_ ?_
       ·refine s_ldRA S (ty' := (Ty.atZ ch_0_3 Y30)) (i := (wr .i64 (x2 + y7))) (off := 0) (fun c => ((Ty.atZ ch_0_3 Y30).segs (gt y1 (wr .i64 (x2 + y7))) c)) rfl hA1 .h1 T30 c3.1 c3.2 rfl (fun _ => rfl) rfl fun ch6 a S => ?_
        refine CL.bk hw S (.c0 .n) le fun hw => h_run' S rfl trivial (s_ldRA S (ty' := (Ty.atZ ch_0_3 Y30)) (i := y2) (off := 0) (fun c => ((Ty.atZ ch_0_3 Y30).segs (gt y1 y2) c)) rfl hA2 .h1 T30 c4.1 c4.2 rfl (fun _ => rfl) rfl fun ch7 a S => ?_)
        refine CL.bk hw S (.c0 .n) le fun hw => h_run' S rfl trivial (s_iaddrO S (ty' := (Ty.atZ ch_0_3 Y30)) rfl .h1 rfl underlying32 T30 c4.1 c4.2 rfl fun g26 a hA3 S => CL.bk hw S (.c0 .n) le fun hw => h_run' S rfl trivial (s_stR S (ty' := (Ty.atZ ch_0_3 Y30)) (i := y2) (off := 0) (u := gt y1 (wr .i64 (x2 + y7))) (fun _ => ch6) rfl rfl rfl hA3 .h1 T30 c4.1 c4.2 rfl (show 0 + 27 ≤ (Y30).size by decide) rfl (fun _ => rfl) fun w S => CL.bk hw S (.c0 .n) le fun hw => h_run' S rfl trivial (s_iaddrO S (ty' := (Ty.atZ ch_0_3 Y30)) rfl .h1 rfl underlying32 T30 c5.1 c5.2 rfl fun g27 a hA4 S => CL.bk hw S (.c0 .n) le fun hw => h_run' S rfl trivial (s_stR S (ty' := (Ty.atZ ch_0_3 Y30)) (i := (wr .i64 (x2 + y7))) (off := 0) (u := gt y1 y2) (fun _ => ch7) rfl rfl rfl hA4 .h1 T30 c5.1 c5.2 rfl (show 0 + 27 ≤ (Y30).size by decide) rfl (fun _ => rfl) fun w S => ?_))))
        refine h_back ⟨fun h => (nomatch h), ?_⟩
        refine h_done ?_; clear CL hw le
        refine x_blockN (x_thenN ?_)
        exact j1 _ ((y1.set (Int.toNat y2) (gt y1 (wr .i64 (x2 + y7)))).set (Int.toNat (wr .i64 (x2 + y7))) (gt y1 y2)) g23 t3.2 a w (S.sb rfl (.c0 (.c0 (.c0 .n)))) h3
       refine h_runO S rfl trivial ?_ ?_
       ·refine s_ldRA S (ty' := (Ty.atZ ch_0_3 Y30)) (i := y2) (off := 0) (fun c => ((Ty.atZ ch_0_3 Y30).segs (gt y1 y2) c)) rfl hA2 .h1 T30 c4.1 c4.2 rfl (fun _ => rfl) rfl fun ch6 a S => ?_
        refine CL.bk hw S (.c0 .n) le fun hw => h_run' S rfl trivial (s_ldRA S (ty' := (Ty.atZ ch_0_3 Y30)) (i := (wr .i64 (x2 + y7))) (off := 0) (fun c => ((Ty.atZ ch_0_3 Y30).segs (gt y1 (wr .i64 (x2 + y7))) c)) rfl hA1 .h1 T30 c3.1 c3.2 rfl (fun _ => rfl) rfl fun ch7 a S => ?_)
        refine CL.bk hw S (.c0 .n) le fun hw => h_run' S rfl trivial (s_iaddrO S (ty' := (Ty.atZ ch_0_3 Y30)) rfl .h1 rfl underlying32 T30 c4.1 c4.2 rfl fun g26 a hA3 S => CL.bk hw S (.c0 .n) le fun hw => h_run' S rfl trivial (s_stR S (ty' := (Ty.atZ ch_0_3 Y30)) (i := y2) (off := 0) (u := gt y1 (wr .i64 (x2 + y7))) (fun _ => ch7) rfl rfl rfl hA3 .h1 T30 c4.1 c4.2 rfl (show 0 + 27 ≤ (Y30).size by decide) rfl (fun _ => rfl) fun w S => CL.bk hw S (.c0 .n) le fun hw => h_run' S rfl trivial (s_iaddrO S (ty' := (Ty.atZ ch_0_3 Y30)) rfl .h1 rfl underlying32 T30 c5.1 c5.2 rfl fun g27 a hA4 S => CL.bk hw S (.c0 .n) le fun hw => h_run' S rfl trivial (s_stR S (ty' := (Ty.atZ ch_0_3 Y30)) (i := (wr .i64 (x2 + y7))) (off := 0) (u := gt y1 y2) (fun _ => ch6) rfl rfl rfl hA4 .h1 T30 c5.1 c5.2 rfl (show 0 + 27 ≤ (Y30).size by decide) rfl (fun _ => rfl) fun w S => ?_))))
        refine h_back ⟨fun h => (nomatch h), ?_⟩
        refine h_done ?_; clear CL hw le
        refine x_blockN (x_thenN ?_)
        exact j1 _ ((y1.set (Int.toNat y2) (gt y1 (wr .i64 (x2 + y7)))).set (Int.toNat (wr .i64 (x2 + y7))) (gt y1 y2)) g23 t3.2 a w (S.sb rfl (.c0 (.c0 (.c0 .n)))) h3
       exact h_nil
      exact h_nil
     refine h_runO S rfl trivial ?_ ?_
     ·refine s_iaddrO S (ty' := (Ty.atZ ch_0_3 Y30)) rfl .h1 rfl underlying32 T30 c4.1 c4.2 rfl fun g24 a hA1 S => CL.bk hw S (.c0 .n) le fun hw => h_alts ?_
      refine h_runO S rfl trivial ?_ ?_
      ·refine s_iaddrO S (ty' := (Ty.atZ ch_0_3 Y30)) rfl .h1 rfl underlying32 T30 c3.1 c3.2 rfl fun g25 a hA2 S => CL.bk hw S (.c0 .n) le fun hw => h_alts ?_
       refine h_runO S rfl trivial ?_ ?_
       ·refine s_ldRA S (ty' := (Ty.atZ ch_0_3 Y30)) (i := (wr .i64 (x2 + y7))) (off := 0) (fun c => ((Ty.atZ ch_0_3 Y30).segs (gt y1 (wr .i64 (x2 + y7))) c)) rfl hA2 .h1 T30 c3.1 c3.2 rfl (fun _ => rfl) rfl fun ch6 a S => ?_
        refine CL.bk hw S (.c0 .n) le fun hw => h_run' S rfl trivial (s_ldRA S (ty' := (Ty.atZ ch_0_3 Y30)) (i := y2) (off := 0) (fun c => ((Ty.atZ ch_0_3 Y30).segs (gt y1 y2) c)) rfl hA1 .h1 T30 c4.1 c4.2 rfl (fun _ => rfl) rfl fun ch7 a S => ?_)
        refine CL.bk hw S (.c0 .n) le fun hw => h_run' S rfl trivial (s_iaddrO S (ty' := (Ty.atZ ch_0_3 Y30)) rfl .h1 rfl underlying32 T30 c4.1 c4.2 rfl fun g26 a hA3 S => CL.bk hw S (.c0 .n) le fun hw => h_run' S rfl trivial (s_stR S (ty' := (Ty.atZ ch_0_3 Y30)) (i := y2) (off := 0) (u := gt y1 (wr .i64 (x2 + y7))) (fun _ => ch6) rfl rfl rfl hA3 .h1 T30 c4.1 c4.2 rfl (show 0 + 27 ≤ (Y30).size by decide) rfl (fun _ => rfl) fun w S => CL.bk hw S (.c0 .n) le fun hw => h_run' S rfl trivial (s_iaddrO S (ty' := (Ty.atZ ch_0_3 Y30)) rfl .h1 rfl underlying32 T30 c5.1 c5.2 rfl fun g27 a hA4 S => CL.bk hw S (.c0 .n) le fun hw => h_run' S rfl trivial (s_stR S (ty' := (Ty.atZ ch_0_3 Y30)) (i := (wr .i64 (x2 + y7))) (off := 0) (u := gt y1 y2) (fun _ => ch7) rfl rfl rfl hA4 .h1 T30 c5.1 c5.2 rfl (show 0 + 27 ≤ (Y30).size by decide) rfl (fun _ => rfl) fun w S => ?_))))
        refine h_back ⟨fun h => (nomatch h), ?_⟩
        refine h_done ?_; clear CL hw le
        refine x_blockN (x_thenN ?_)
        exact j1 _ ((y1.set (Int.toNat y2) (gt y1 (wr .i64 (x2 + y7)))).set (Int.toNat (wr .i64 (x2 + y7))) (gt y1 y2)) g23 t3.2 a w (S.sb rfl (.c0 (.c0 (.c0 .n)))) h3
       refine h_runO S rfl trivial ?_ ?_
       ·refine s_ldRA S (ty' := (Ty.atZ ch_0_3 Y30)) (i := y2) (off := 0) (fun c => ((Ty.atZ ch_0_3 Y30).segs (gt y1 y2) c)) rfl hA1 .h1 T30 c4.1 c4.2 rfl (fun _ => rfl) rfl fun ch6 a S => ?_
        refine CL.bk hw S (.c0 .n) le fun hw => h_run' S rfl trivial (s_ldRA S (ty' := (Ty.atZ ch_0_3 Y30)) (i := (wr .i64 (x2 + y7))) (off := 0) (fun c => ((Ty.atZ ch_0_3 Y30).segs (gt y1 (wr .i64 (x2 + y7))) c)) rfl hA2 .h1 T30 c3.1 c3.2 rfl (fun _ => rfl) rfl fun ch7 a S => ?_)
        refine CL.bk hw S (.c0 .n) le fun hw => h_run' S rfl trivial (s_iaddrO S (ty' := (Ty.atZ ch_0_3 Y30)) rfl .h1 rfl underlying32 T30 c4.1 c4.2 rfl fun g26 a hA3 S => CL.bk hw S (.c0 .n) le fun hw => h_run' S rfl trivial (s_stR S (ty' := (Ty.atZ ch_0_3 Y30)) (i := y2) (off := 0) (u := gt y1 (wr .i64 (x2 + y7))) (fun _ => ch7) rfl rfl rfl hA3 .h1 T30 c4.1 c4.2 rfl (show 0 + 27 ≤ (Y30).size by decide) rfl (fun _ => rfl) fun w S => CL.bk hw S (.c0 .n) le fun hw => h_run' S rfl trivial (s_iaddrO S (ty' := (Ty.atZ ch_0_3 Y30)) rfl .h1 rfl underlying32 T30 c5.1 c5.2 rfl fun g27 a hA4 S => CL.bk hw S (.c0 .n) le fun hw => h_run' S rfl trivial (s_stR S (ty' := (Ty.atZ ch_0_3 Y30)) (i := (wr .i64 (x2 + y7))) (off := 0) (u := gt y1 y2) (fun _ => ch6) rfl rfl rfl hA4 .h1 T30 c5.1 c5.2 rfl (show 0 + 27 ≤ (Y30).size by decide) rfl (fun _ => rfl) fun w S => ?_))))
        refine h_back ⟨fun h => (nomatch h), ?_⟩
        refine h_done ?_; clear CL hw le
        refine x_blockN (x_thenN ?_)
        exact j1 _ ((y1.set (Int.toNat y2) (gt y1 (wr .i64 (x2 + y7)))).set (Int.toNat (wr .i64 (x2 + y7))) (gt y1 y2)) g23 t3.2 a w (S.sb rfl (.c0 (.c0 (.c0 .n)))) h3
       exact h_nil
      refine h_runO S rfl trivial ?_ ?_
      ·refine s_ldRA S (ty' := (Ty.atZ ch_0_3 Y30)) (i := y2) (off := 0) (fun c => ((Ty.atZ ch_0_3 Y30).segs (gt y1 y2) c)) rfl hA1 .h1 T30 c4.1 c4.2 rfl (fun _ => rfl) rfl fun ch6 a S => ?_
       refine CL.bk hw S (.c0 .n) le fun hw => h_run' S rfl trivial (s_iaddrO S (ty' := (Ty.atZ ch_0_3 Y30)) rfl .h1 rfl underlying32 T30 c3.1 c3.2 rfl fun g25 a hA2 S => CL.bk hw S (.c0 .n) le fun hw => h_run' S rfl trivial (s_ldRA S (ty' := (Ty.atZ ch_0_3 Y30)) (i := (wr .i64 (x2 + y7))) (off := 0) (fun c => ((Ty.atZ ch_0_3 Y30).segs (gt y1 (wr .i64 (x2 + y7))) c)) rfl hA2 .h1 T30 c3.1 c3.2 rfl (fun _ => rfl) rfl fun ch7 a S => ?_))
       refine CL.bk hw S (.c0 .n) le fun hw => h_run' S rfl trivial (s_iaddrO S (ty' := (Ty.atZ ch_0_3 Y30)) rfl .h1 rfl underlying32 T30 c4.1 c4.2 rfl fun g26 a hA3 S => CL.bk hw S (.c0 .n) le fun hw => h_run' S rfl trivial (s_stR S (ty' := (Ty.atZ ch_0_3 Y30)) (i := y2) (off := 0) (u := gt y1 (wr .i64 (x2 + y7))) (fun _ => ch7) rfl rfl rfl hA3 .h1 T30 c4.1 c4.2 rfl (show 0 + 27 ≤ (Y30).size by decide) rfl (fun _ => rfl) fun w S => CL.bk hw S (.c0 .n) le fun hw => h_run' S rfl trivial (s_iaddrO S (ty' := (Ty.atZ ch_0_3 Y30)) rfl .h1 rfl underlying32 T30 c5.1 c5.2 rfl fun g27 a hA4 S => CL.bk hw S (.c0 .n) le fun hw => h_run' S rfl trivial (s_stR S (ty' := (Ty.atZ ch_0_3 Y30)) (i := (wr .i64 (x2 + y7))) (off := 0) (u := gt y1 y2) (fun _ => ch6) rfl rfl rfl hA4 .h1 T30 c5.1 c5.2 rfl (show 0 + 27 ≤ (Y30).size by decide) rfl (fun _ => rfl) fun w S => ?_))))
       refine h_back ⟨fun h => (nomatch h), ?_⟩
       refine h_done ?_; clear CL hw le
       refine x_blockN (x_thenN ?_)
       exact j1 _ ((y1.set (Int.toNat y2) (gt y1 (wr .i64 (x2 + y7)))).set (Int.toNat (wr .i64 (x2 + y7))) (gt y1 y2)) g23 t3.2 a w (S.sb rfl (.c0 (.c0 (.c0 .n)))) h3
      exact h_nil
     exact h_nil
    refine c_region (s_move S rfl rfl fun a S => s_move S rfl rfl fun a S => s_bin S rfl rfl rfl rfl fun a S => c_end ?_)
    rcases ite_of h2 with ⟨c6, h3⟩ | ⟨c6, h3⟩
    ·refine c_condT S rfl c6 (c_region' (s_move S rfl rfl fun a S => s_move S rfl rfl fun a S => s_bin S rfl rfl rfl rfl fun a S => s_assign S rfl rfl fun a S => c_end' (x_thenN ?_)))
     exact j2 _ (wr .i64 ((wr .i64 (bits .and .u64 t3.1 (wr .u64 (t1 - 1)))) - (wr .i64 (x3 - x2)))) g16 a w (S.sb rfl (.c0 (.c0 (.c0 .n)))) h3
    ·refine c_condF S rfl c6 (wp_skip (x_thenN ?_))
     exact j2 _ (wr .i64 (bits .and .u64 t3.1 (wr .u64 (t1 - 1)))) g16 a w (S.sb rfl (.c0 (.c0 (.c0 .n)))) h3
   ·refine c_condF S rfl c2 (wp_exit (x_thenX (x_thenX (x_blockX (b_end ?_)))))
    obtain rfl := Option.some.inj h1
    exact b_ret0 S rfl (S.retX (Hx := []) hb _ _ (() : Unit) (.c1 (.c1 .n)) trivial)
 ·refine c_condF S rfl c1 (wp_skip (b_end ?_))
  obtain rfl := Option.some.inj h1
  exact b_ret0 S rfl (S.retX (Hx := []) hb _ _ (() : Unit) (.c0 (.c0 .n)) trivial)
abbrev api_Account_n46_0z_4f35.Ty : Type := (List L30) → Int → Int → Int → Option ((List L30))
def api_Account_n46_0z_4f35.Ctr (s : api_Account_n46_0z_4f35.Ty) : Prop := ∀ (x1 : List L30) (x2 : Int) (x3 : Int) (x4 : Int) (ch_0_0 : Option Addr) (ch_0_1 : Nat) (ch_0_2 : Nat) (ch_0_3 : Mem) (r : (List L30)), Ct (C := Unit) Try.prog 46 (s x1 x2 x3 x4 = some r) [Res.row (Ty.atZ ch_0_3 Y30) 30 ch_0_0 ch_0_1 ch_0_2 x1, Res.priv ch_0_3] [(.s ch_0_0 ch_0_1 ch_0_2), (.i x2), (.i x3), (.i x4), (.v (.func (.func 35) #[] #[]))] (fun _ => (.tup [])) fun _ => [Res.row (Ty.atZ ch_0_3 Y30) 30 ch_0_0 ch_0_1 ch_0_2 r, Res.priv ch_0_3]
def api_Account_n46_0z_4f35.j4 (k : Nat) (self0 : api_Account_n46_0z_4f35.Ty) (y2 : Bool) (y3 : Bool) (y4 : Int) (y5 : Int) (rec1 : (List L30) → Bool → Bool → Int → Int → Int → Option ((List L30))) (y8 : Int) (y11 : Int) (y13 : List L30) (y14 : Bool) : Option ((List L30)) := if y14 = true then ((api_Account_n56_0z_4f35.f k y13 y4 y5 y11).bind fun t8 => (rec1 t8.2 y2 y3 t8.1 y5 y8)) else ((api_Account_n57_0z_4f35.f k y13 y4 y5 y11).bind fun t9 => (if (decide ((wr .i64 (t9.1 - y4)) < (wr .i64 (y5 - t9.1)))) = true then ((self0 t9.2.2 y4 t9.1 y8).bind fun t10 => (rec1 t10 t9.2.1 (decide ((wr .i64 (Int.tdiv (wr .i64 (y5 - y4)) 8)) ≤ (wr .i64 (t9.1 - y4)))) (wr .i64 (t9.1 + 1)) y5 y8)) else ((self0 t9.2.2 (wr .i64 (t9.1 + 1)) y5 y8).bind fun t11 => (rec1 t11 t9.2.1 (decide ((wr .i64 (Int.tdiv (wr .i64 (y5 - y4)) 8)) ≤ (wr .i64 (y5 - t9.1)))) y4 t9.1 y8))))
def api_Account_n46_0z_4f35.j3 (k : Nat) (self0 : api_Account_n46_0z_4f35.Ty) (y2 : Bool) (y3 : Bool) (y4 : Int) (y5 : Int) (rec1 : (List L30) → Bool → Bool → Int → Int → Int → Option ((List L30))) (y8 : Int) (y11 : Int) (y13 : List L30) : Option ((List L30)) := if (decide (0 < y4)) = true then (if (0 : Int) ≤ (wr .i64 (y4 - 1)) ∧ (wr .i64 (y4 - 1)) < ((y13).length : Int) then (if (0 : Int) ≤ y11 ∧ y11 < ((y13).length : Int) then ((store_Store_All_1.f (gt y13 (wr .i64 (y4 - 1))) (gt y13 y11)).bind fun t12 => (api_Account_n46_0z_4f35.j4 k self0 y2 y3 y4 y5 rec1 y8 y11 y13 (!(decide (t12 < 0))))) else none) else none) else (api_Account_n46_0z_4f35.j4 k self0 y2 y3 y4 y5 rec1 y8 y11 y13 false)
def api_Account_n46_0z_4f35.j5 (k : Nat) (self0 : api_Account_n46_0z_4f35.Ty) (y2 : Bool) (y3 : Bool) (y4 : Int) (y5 : Int) (rec1 : (List L30) → Bool → Bool → Int → Int → Int → Option ((List L30))) (y8 : Int) (y9 : List L30) (y11 : Int) (y15 : Bool) : Option ((List L30)) := if y15 = true then ((api_Account_n55_0z_3f35.f k y9 y4 y5).bind fun t13 => (if t13.1 = true then (some t13.2) else (api_Account_n46_0z_4f35.j3 k self0 y2 y3 y4 y5 rec1 y8 y11 t13.2))) else (api_Account_n46_0z_4f35.j3 k self0 y2 y3 y4 y5 rec1 y8 y11 y9)
def api_Account_n46_0z_4f35.j2 (k : Nat) (self0 : api_Account_n46_0z_4f35.Ty) (y2 : Bool) (y3 : Bool) (y4 : Int) (y5 : Int) (rec1 : (List L30) → Bool → Bool → Int → Int → Int → Option ((List L30))) (y8 : Int) (y9 : List L30) (y10 : Int) (y11 : Int) : Option ((List L30)) := if y3 = true then (if y2 = true then (api_Account_n46_0z_4f35.j5 k self0 y2 y3 y4 y5 rec1 y8 y9 y11 (y10 == 1)) else (api_Account_n46_0z_4f35.j5 k self0 y2 y3 y4 y5 rec1 y8 y9 y11 false)) else (api_Account_n46_0z_4f35.j5 k self0 y2 y3 y4 y5 rec1 y8 y9 y11 false)
def api_Account_n46_0z_4f35.j1 (k : Nat) (self0 : api_Account_n46_0z_4f35.Ty) (y2 : Bool) (y3 : Bool) (y4 : Int) (y5 : Int) (rec1 : (List L30) → Bool → Bool → Int → Int → Int → Option ((List L30))) (y7 : List L30) (y8 : Int) : Option ((List L30)) := (api_Account_n53_0z_3f35.f y7 y4 y5).bind fun t4 => (if (t4.2 == 2) = true then ((api_Account_n54_0z_3f35.f k y7 y4 y5).bind fun t14 => (api_Account_n46_0z_4f35.j2 k self0 y2 y3 y4 y5 rec1 y8 t14 1 (wr .i64 ((wr .i64 (y5 - 1)) - (wr .i64 (t4.1 - y4)))))) else (api_Account_n46_0z_4f35.j2 k self0 y2 y3 y4 y5 rec1 y8 y7 t4.2 t4.1))
def api_Account_n46_0z_4f35.b1 (k : Nat) (self0 : api_Account_n46_0z_4f35.Ty) (rec1 : (List L30) → Bool → Bool → Int → Int → Int → Option ((List L30))) (y1 : List L30) (y2 : Bool) (y3 : Bool) (y4 : Int) (y5 : Int) (y6 : Int) : Option ((List L30)) := if (decide ((wr .i64 (y5 - y4)) ≤ 12)) = true then ((api_Account_n50_0z_3f35.f k y1 y4 y5).bind fun t1 => (some t1)) else (if (y6 == 0) = true then ((api_Account_n51_0z_3f35.f k y1 y4 y5).bind fun t2 => (some t2)) else (if (!y3) = true then ((api_Account_n52_0z_3f35.f k y1 y4 y5).bind fun t15 => (api_Account_n46_0z_4f35.j1 k self0 y2 y3 y4 y5 rec1 t15 (wr .i64 (y6 - 1)))) else (api_Account_n46_0z_4f35.j1 k self0 y2 y3 y4 y5 rec1 y1 y6)))
def api_Account_n46_0z_4f35.l1 (k : Nat) (self0 : api_Account_n46_0z_4f35.Ty) : Nat → (List L30) → Bool → Bool → Int → Int → Int → Option ((List L30))
  | 0, _, _, _, _, _, _ => none
  | q + 1, y1, y2, y3, y4, y5, y6 => api_Account_n46_0z_4f35.b1 k self0 (api_Account_n46_0z_4f35.l1 k self0 q) y1 y2 y3 y4 y5 y6
def api_Account_n46_0z_4f35.body (self0 : api_Account_n46_0z_4f35.Ty) (k : Nat) (x1 : List L30) (x2 : Int) (x3 : Int) (x4 : Int) : Option ((List L30)) := api_Account_n46_0z_4f35.l1 k self0 k x1 true true x2 x3 x4
theorem api_Account_n46_0z_4f35.okb (self0 : api_Account_n46_0z_4f35.Ty) (c_0 : api_Account_n46_0z_4f35.Ctr self0) (k : Nat) : api_Account_n46_0z_4f35.Ctr (api_Account_n46_0z_4f35.body self0 k) := by
 intro x1 x2 x3 x4 ch_0_0 ch_0_1 ch_0_2 ch_0_3 r h0 mi w0 ok hm
 delta api_Account_n46_0z_4f35.body at h0
 refine c_enterZ (n := 148) ok hm func46 rfl rfl rfl fun b0 hb a S => c_region (s_assign S rfl rfl fun a S => c_end (c_region (s_assign S rfl rfl fun a S => c_end (wp_block ?_))))
 refine c_loop (fun q1 a w => ∃ m y1 y2 y3 y4 y5 y6, St 148 m b0 [(11, (.b y2)), (10, (.b y3)), (0, (.s ch_0_0 ch_0_1 ch_0_2)), (1, (.i y4)), (2, (.i y5)), (3, (.i y6)), (4, (.v (.func (.func 35) #[] #[])))] [Res.row (Ty.atZ ch_0_3 Y30) 30 ch_0_0 ch_0_1 ch_0_2 y1, Res.priv ch_0_3] a w ∧ api_Account_n46_0z_4f35.l1 k self0 q1 y1 y2 y3 y4 y5 y6 = some r) ?_ ?_ (k := k) ⟨_, x1, true, true, x2, x3, x4, (S.sb rfl (.c0 (.c0 .n))), h0⟩
 ·rintro a w ⟨m, y1, y2, y3, y4, y5, y6, S, h0⟩
  exact (nomatch (show (none : Option ((List L30))) = some r from h0))
 ·clear S h0
  rintro q1 a w ⟨m, y1, y2, y3, y4, y5, y6, S, h0⟩
  replace h0 : api_Account_n46_0z_4f35.b1 k self0 (api_Account_n46_0z_4f35.l1 k self0 q1) y1 y2 y3 y4 y5 y6 = some r := h0
  delta api_Account_n46_0z_4f35.b1 at h0
  refine wp_block (c_region (s_move S rfl rfl fun a S => s_move S rfl rfl fun a S => s_bin S rfl rfl rfl rfl fun a S => s_assign S rfl rfl fun a S => c_end (wp_seq (c_region (s_move S rfl rfl fun a S => s_bin S rfl rfl rfl rfl fun a S => c_end ?_)))))
  rcases ite_of h0 with ⟨c1, h1⟩ | ⟨c1, h1⟩
  ·refine c_condT S rfl c1 (c_region (s_move S rfl rfl fun a S => s_move S rfl rfl fun a S => s_move S rfl rfl fun a S => s_move S rfl rfl fun a S => bindX h1 fun t1 et1 h2 => s_callX S (ds' := [(.s ch_0_0 ch_0_1 ch_0_2), (.i y4), (.i y5), (.v (.func (.func 35) #[] #[]))]) (ds := [(.s ch_0_0 ch_0_1 ch_0_2), (.i y4), (.i y5), (.v (.func (.func 35) #[] #[]))]) [Res.row (Ty.atZ ch_0_3 Y30) 30 ch_0_0 ch_0_1 ch_0_2 y1, Res.priv ch_0_3] [] (fun (ch : Unit) => ((.tup []) : D)) (fun (ch : Unit) => [Res.row (Ty.atZ ch_0_3 Y30) 30 ch_0_0 ch_0_1 ch_0_2 t1, Res.priv ch_0_3]) (fun (ch : Unit) => [Res.row (Ty.atZ ch_0_3 Y30) 30 ch_0_0 ch_0_1 ch_0_2 t1, Res.priv ch_0_3]) (fun _ => rfl) N50 rfl rfl (fun ok => ok) (.c0 (.c0 .n)) rfl (api_Account_n50_0z_3f35.ok k y1 y4 y5 ch_0_0 ch_0_1 ch_0_2 ch_0_3 t1 et1 _ _) fun ch1 m le1 a w S => c_end (wp_ret (x_thenR (x_blockR (x_thenR (x_blockR ?_)))))))
   obtain rfl := Option.some.inj h2
   exact b_ret0 S rfl (S.retX (Hx := []) hb _ _ (() : Unit) (.c0 (.c0 .n)) trivial)
  ·refine c_condF S rfl c1 (wp_skip (x_thenN (wp_seq (c_region (s_move S rfl rfl fun a S => s_bin S rfl rfl rfl rfl fun a S => c_end ?_)))))
   rcases ite_of h1 with ⟨c2, h2⟩ | ⟨c2, h2⟩
   ·refine c_condT S rfl c2 (c_region (s_move S rfl rfl fun a S => s_move S rfl rfl fun a S => s_move S rfl rfl fun a S => s_move S rfl rfl fun a S => bindX h2 fun t2 et2 h3 => s_callX S (ds' := [(.s ch_0_0 ch_0_1 ch_0_2), (.i y4), (.i y5), (.v (.func (.func 35) #[] #[]))]) (ds := [(.s ch_0_0 ch_0_1 ch_0_2), (.i y4), (.i y5), (.v (.func (.func 35) #[] #[]))]) [Res.row (Ty.atZ ch_0_3 Y30) 30 ch_0_0 ch_0_1 ch_0_2 y1, Res.priv ch_0_3] [] (fun (ch : Unit) => ((.tup []) : D)) (fun (ch : Unit) => [Res.row (Ty.atZ ch_0_3 Y30) 30 ch_0_0 ch_0_1 ch_0_2 t2, Res.priv ch_0_3]) (fun (ch : Unit) => [Res.row (Ty.atZ ch_0_3 Y30) 30 ch_0_0 ch_0_1 ch_0_2 t2, Res.priv ch_0_3]) (fun _ => rfl) N51 rfl rfl (fun ok => ok) (.c0 (.c0 .n)) rfl (api_Account_n51_0z_3f35.ok k y1 y4 y5 ch_0_0 ch_0_1 ch_0_2 ch_0_3 t2 et2 _ _) fun ch2 m le1 a w S => c_end (wp_ret (x_thenR (x_blockR (x_thenR (x_blockR ?_)))))))
    obtain rfl := Option.some.inj h3
    exact b_ret0 S rfl (S.retX (Hx := []) hb _ _ (() : Unit) (.c0 (.c0 .n)) trivial)
   ·refine c_condF S rfl c2 (wp_skip (x_thenN (wp_seq_k fun K1 hK1 => ?_)))
    have j1 : ∀ m y7 y8 a w, St 148 m b0 [(3, (.i y8)), (12, (.i (wr .i64 (y5 - y4)))), (11, (.b y2)), (10, (.b y3)), (0, (.s ch_0_0 ch_0_1 ch_0_2)), (1, (.i y4)), (2, (.i y5)), (4, (.v (.func (.func 35) #[] #[])))] [Res.row (Ty.atZ ch_0_3 Y30) 30 ch_0_0 ch_0_1 ch_0_2 y7, Res.priv ch_0_3] a w → api_Account_n46_0z_4f35.j1 k self0 y2 y3 y4 y5 (api_Account_n46_0z_4f35.l1 k self0 q1) y7 y8 = some r → K1 a w := by
     intro m y7 y8 a w S h0
     delta api_Account_n46_0z_4f35.j1 at h0
     refine hK1 a w (c_region (s_move S rfl rfl fun a S => s_move S rfl rfl fun a S => s_move S rfl rfl fun a S => s_move S rfl rfl fun a S => bindX h0 fun t4 et4 h1 => s_callX S (ds' := [(.s ch_0_0 ch_0_1 ch_0_2), (.i y4), (.i y5), (.v (.func (.func 35) #[] #[]))]) (ds := [(.s ch_0_0 ch_0_1 ch_0_2), (.i y4), (.i y5), (.v (.func (.func 35) #[] #[]))]) [Res.row (Ty.atZ ch_0_3 Y30) 30 ch_0_0 ch_0_1 ch_0_2 y7, Res.priv ch_0_3] [] (fun (ch : Unit) => ((.tup [(false, [.i t4.1]), (false, [.i t4.2])]) : D)) (fun (ch : Unit) => [Res.row (Ty.atZ ch_0_3 Y30) 30 ch_0_0 ch_0_1 ch_0_2 y7, Res.priv ch_0_3]) (fun (ch : Unit) => [Res.row (Ty.atZ ch_0_3 Y30) 30 ch_0_0 ch_0_1 ch_0_2 y7, Res.priv ch_0_3]) (fun _ => rfl) N53 rfl rfl (fun ok => ok) (.c0 (.c0 .n)) rfl (api_Account_n53_0z_3f35.ok y7 y4 y5 ch_0_0 ch_0_1 ch_0_2 ch_0_3 t4 et4 _ _) fun ch3 m le1 a w S => s_move S rfl rfl fun a S => s_extract S rfl rfl rfl rfl fun a S => s_extract S rfl rfl rfl rfl fun a S => s_assign S rfl rfl fun a S => s_assign S rfl rfl fun a S => c_end (wp_seq_k fun K2 hK2 => ?_)))
     have j2 : ∀ m y9 y10 y11 a w, St 148 m b0 [(14, (.i y10)), (13, (.i y11)), (3, (.i y8)), (12, (.i (wr .i64 (y5 - y4)))), (11, (.b y2)), (10, (.b y3)), (0, (.s ch_0_0 ch_0_1 ch_0_2)), (1, (.i y4)), (2, (.i y5)), (4, (.v (.func (.func 35) #[] #[])))] [Res.row (Ty.atZ ch_0_3 Y30) 30 ch_0_0 ch_0_1 ch_0_2 y9, Res.priv ch_0_3] a w → api_Account_n46_0z_4f35.j2 k self0 y2 y3 y4 y5 (api_Account_n46_0z_4f35.l1 k self0 q1) y8 y9 y10 y11 = some r → K2 a w := by
      intro m y9 y10 y11 a w S h0
      delta api_Account_n46_0z_4f35.j2 at h0
      refine hK2 a w (wp_seq_k fun K3 hK3 => ?_)
      have j3 : ∀ m y13 a w, St 148 m b0 [(13, (.i y11)), (3, (.i y8)), (12, (.i (wr .i64 (y5 - y4)))), (11, (.b y2)), (10, (.b y3)), (0, (.s ch_0_0 ch_0_1 ch_0_2)), (1, (.i y4)), (2, (.i y5)), (4, (.v (.func (.func 35) #[] #[])))] [Res.row (Ty.atZ ch_0_3 Y30) 30 ch_0_0 ch_0_1 ch_0_2 y13, Res.priv ch_0_3] a w → api_Account_n46_0z_4f35.j3 k self0 y2 y3 y4 y5 (api_Account_n46_0z_4f35.l1 k self0 q1) y8 y11 y13 = some r → K3 a w := by
       intro m y13 a w S h0
       delta api_Account_n46_0z_4f35.j3 at h0
       refine hK3 a w (wp_seq (wp_seq_k fun K4 hK4 => ?_))
       have j4 : ∀ m y14 a w, St 148 m b0 [(97, (.b y14)), (13, (.i y11)), (3, (.i y8)), (12, (.i (wr .i64 (y5 - y4)))), (11, (.b y2)), (10, (.b y3)), (0, (.s ch_0_0 ch_0_1 ch_0_2)), (1, (.i y4)), (2, (.i y5)), (4, (.v (.func (.func 35) #[] #[])))] [Res.row (Ty.atZ ch_0_3 Y30) 30 ch_0_0 ch_0_1 ch_0_2 y13, Res.priv ch_0_3] a w → api_Account_n46_0z_4f35.j4 k self0 y2 y3 y4 y5 (api_Account_n46_0z_4f35.l1 k self0 q1) y8 y11 y13 y14 = some r → K4 a w := by
        intro m y14 a w S h0
        delta api_Account_n46_0z_4f35.j4 at h0
        refine hK4 a w ?_
        rcases ite_of h0 with ⟨c3, h1⟩ | ⟨c3, h1⟩
        ·refine c_condT S rfl c3 (c_region (s_move S rfl rfl fun a S => s_move S rfl rfl fun a S => s_move S rfl rfl fun a S => s_move S rfl rfl fun a S => s_move S rfl rfl fun a S => bindX h1 fun t8 et8 h2 => s_callX S (ds' := [(.s ch_0_0 ch_0_1 ch_0_2), (.i y4), (.i y5), (.i y11), (.v (.func (.func 35) #[] #[]))]) (ds := [(.s ch_0_0 ch_0_1 ch_0_2), (.i y4), (.i y5), (.i y11), (.v (.func (.func 35) #[] #[]))]) [Res.row (Ty.atZ ch_0_3 Y30) 30 ch_0_0 ch_0_1 ch_0_2 y13, Res.priv ch_0_3] [] (fun (ch : Unit) => ((.i t8.1) : D)) (fun (ch : Unit) => [Res.row (Ty.atZ ch_0_3 Y30) 30 ch_0_0 ch_0_1 ch_0_2 t8.2, Res.priv ch_0_3]) (fun (ch : Unit) => [Res.row (Ty.atZ ch_0_3 Y30) 30 ch_0_0 ch_0_1 ch_0_2 t8.2, Res.priv ch_0_3]) (fun _ => rfl) N56 rfl rfl (fun ok => ok) (.c0 (.c0 .n)) rfl (api_Account_n56_0z_4f35.ok k y13 y4 y5 y11 ch_0_0 ch_0_1 ch_0_2 ch_0_3 t8 et8 _ _) fun ch6 m le1 a w S => s_assign S rfl rfl fun a S => c_end (c_region (s_move S rfl rfl fun a S => s_assign S rfl rfl fun a S => c_end (wp_exit (x_thenX (x_blockX (x_thenN ?_))))))))
         exact ⟨_, t8.2, y2, y3, t8.1, y5, y8, (S.sb rfl (.c0 (.c0 .n))), h2⟩
        ·refine c_condF S rfl c3 (wp_skip (x_thenN (c_region (s_move S rfl rfl fun a S => s_move S rfl rfl fun a S => s_move S rfl rfl fun a S => s_move S rfl rfl fun a S => s_move S rfl rfl fun a S => bindX h1 fun t9 et9 h2 => s_callX S (ds' := [(.s ch_0_0 ch_0_1 ch_0_2), (.i y4), (.i y5), (.i y11), (.v (.func (.func 35) #[] #[]))]) (ds := [(.s ch_0_0 ch_0_1 ch_0_2), (.i y4), (.i y5), (.i y11), (.v (.func (.func 35) #[] #[]))]) [Res.row (Ty.atZ ch_0_3 Y30) 30 ch_0_0 ch_0_1 ch_0_2 y13, Res.priv ch_0_3] [] (fun (ch : Unit) => ((.tup [(false, [.i t9.1]), (false, [.b t9.2.1])]) : D)) (fun (ch : Unit) => [Res.row (Ty.atZ ch_0_3 Y30) 30 ch_0_0 ch_0_1 ch_0_2 t9.2.2, Res.priv ch_0_3]) (fun (ch : Unit) => [Res.row (Ty.atZ ch_0_3 Y30) 30 ch_0_0 ch_0_1 ch_0_2 t9.2.2, Res.priv ch_0_3]) (fun _ => rfl) N57 rfl rfl (fun ok => ok) (.c0 (.c0 .n)) rfl (api_Account_n57_0z_4f35.ok k y13 y4 y5 y11 ch_0_0 ch_0_1 ch_0_2 ch_0_3 t9 et9 _ _) fun ch7 m le1 a w S => s_move S rfl rfl fun a S => s_extract S rfl rfl rfl rfl fun a S => s_extract S rfl rfl rfl rfl fun a S => s_assign S rfl rfl fun a S => s_assign S rfl rfl fun a S => c_end (c_region (s_move S rfl rfl fun a S => s_assign S rfl rfl fun a S => c_end (c_region (s_move S rfl rfl fun a S => s_move S rfl rfl fun a S => s_bin S rfl rfl rfl rfl fun a S => s_move S rfl rfl fun a S => s_move S rfl rfl fun a S => s_bin S rfl rfl rfl rfl fun a S => s_assign S rfl rfl fun a S => s_assign S rfl rfl fun a S => c_end (c_region (s_move S rfl rfl fun a S => s_quo S rfl rfl (by decide) rfl fun a S => s_assign S rfl rfl fun a S => c_end (c_region (s_move S rfl rfl fun a S => s_move S rfl rfl fun a S => s_bin S rfl rfl rfl rfl fun a S => c_end ?_))))))))))))
         rcases ite_of h2 with ⟨c4, h3⟩ | ⟨c4, h3⟩
         ·refine c_condT S rfl c4 (c_region (s_move S rfl rfl fun a S => s_move S rfl rfl fun a S => s_bin S rfl rfl rfl rfl fun a S => s_assign S rfl rfl fun a S => c_end (c_region (s_move S rfl rfl fun a S => s_move S rfl rfl fun a S => s_move S rfl rfl fun a S => s_move S rfl rfl fun a S => s_move S rfl rfl fun a S => bindX h3 fun t10 et10 h4 => s_callX S (ds' := [(.s ch_0_0 ch_0_1 ch_0_2), (.i y4), (.i t9.1), (.i y8), (.v (.func (.func 35) #[] #[]))]) (ds := [(.s ch_0_0 ch_0_1 ch_0_2), (.i y4), (.i t9.1), (.i y8), (.v (.func (.func 35) #[] #[]))]) [Res.row (Ty.atZ ch_0_3 Y30) 30 ch_0_0 ch_0_1 ch_0_2 t9.2.2, Res.priv ch_0_3] [] (fun (ch : Unit) => ((.tup []) : D)) (fun (ch : Unit) => [Res.row (Ty.atZ ch_0_3 Y30) 30 ch_0_0 ch_0_1 ch_0_2 t10, Res.priv ch_0_3]) (fun (ch : Unit) => [Res.row (Ty.atZ ch_0_3 Y30) 30 ch_0_0 ch_0_1 ch_0_2 t10, Res.priv ch_0_3]) (fun _ => rfl) N46 rfl rfl (fun ok => ok) (.c0 (.c0 .n)) rfl (c_0 t9.2.2 y4 t9.1 y8 ch_0_0 ch_0_1 ch_0_2 ch_0_3 t10 et10 _ _) fun ch8 m le1 a w S => c_end (c_region' (s_move S rfl rfl fun a S => s_bin S rfl rfl rfl rfl fun a S => s_assign S rfl rfl fun a S => c_end' (x_blockN (x_thenN ?_))))))))
          exact ⟨_, t10, t9.2.1, (decide ((wr .i64 (Int.tdiv (wr .i64 (y5 - y4)) 8)) ≤ (wr .i64 (t9.1 - y4)))), (wr .i64 (t9.1 + 1)), y5, y8, (S.sb rfl (.c0 (.c0 .n))), h4⟩
         ·refine c_condF S rfl c4 (c_region (s_move S rfl rfl fun a S => s_move S rfl rfl fun a S => s_bin S rfl rfl rfl rfl fun a S => s_assign S rfl rfl fun a S => c_end (c_region (s_move S rfl rfl fun a S => s_move S rfl rfl fun a S => s_bin S rfl rfl rfl rfl fun a S => s_move S rfl rfl fun a S => s_move S rfl rfl fun a S => s_move S rfl rfl fun a S => bindX h3 fun t11 et11 h4 => s_callX S (ds' := [(.s ch_0_0 ch_0_1 ch_0_2), (.i (wr .i64 (t9.1 + 1))), (.i y5), (.i y8), (.v (.func (.func 35) #[] #[]))]) (ds := [(.s ch_0_0 ch_0_1 ch_0_2), (.i (wr .i64 (t9.1 + 1))), (.i y5), (.i y8), (.v (.func (.func 35) #[] #[]))]) [Res.row (Ty.atZ ch_0_3 Y30) 30 ch_0_0 ch_0_1 ch_0_2 t9.2.2, Res.priv ch_0_3] [] (fun (ch : Unit) => ((.tup []) : D)) (fun (ch : Unit) => [Res.row (Ty.atZ ch_0_3 Y30) 30 ch_0_0 ch_0_1 ch_0_2 t11, Res.priv ch_0_3]) (fun (ch : Unit) => [Res.row (Ty.atZ ch_0_3 Y30) 30 ch_0_0 ch_0_1 ch_0_2 t11, Res.priv ch_0_3]) (fun _ => rfl) N46 rfl rfl (fun ok => ok) (.c0 (.c0 .n)) rfl (c_0 t9.2.2 (wr .i64 (t9.1 + 1)) y5 y8 ch_0_0 ch_0_1 ch_0_2 ch_0_3 t11 et11 _ _) fun ch9 m le1 a w S => c_end (c_region' (s_move S rfl rfl fun a S => s_assign S rfl rfl fun a S => c_end' (x_blockN (x_thenN ?_))))))))
          exact ⟨_, t11, t9.2.1, (decide ((wr .i64 (Int.tdiv (wr .i64 (y5 - y4)) 8)) ≤ (wr .i64 (y5 - t9.1)))), y4, t9.1, y8, (S.sb rfl (.c0 (.c0 .n))), h4⟩
       refine c_heldS S (.take 0 (.take 1 (.take 2 (.take 3 (.take 4 (.take 5 (.take 6 (.take 9 (.take 10 (.alts (.run 7 true (.alts (.run 8 true (.alts (.run 11 true (.alts (.run 12 true (.alts (.run 13 true (.take 14 (.take 15 (.take 16 .done))) .nil)) .nil)) .nil)) (.run 11 true (.alts (.run 8 true (.alts (.run 12 true (.alts (.run 13 true (.take 14 (.take 15 (.take 16 .done))) .nil)) .nil)) (.run 12 true (.alts (.run 8 true (.alts (.run 13 true (.take 14 (.take 15 (.take 16 .done))) .nil)) .nil)) .nil))) .nil))) (.run 11 true (.alts (.run 7 true (.alts (.run 8 true (.alts (.run 12 true (.alts (.run 13 true (.take 14 (.take 15 (.take 16 .done))) .nil)) .nil)) (.run 12 true (.alts (.run 8 true (.alts (.run 13 true (.take 14 (.take 15 (.take 16 .done))) .nil)) .nil)) .nil))) (.run 12 true (.alts (.run 7 true (.alts (.run 8 true (.alts (.run 13 true (.take 14 (.take 15 (.take 16 .done))) .nil)) .nil)) .nil)) .nil))) .nil)))))))))))) 17 [] .nil trivial [(13, (.i y11)), (0, (.s ch_0_0 ch_0_1 ch_0_2)), (1, (.i y4)), (4, (.v (.func (.func 35) #[] #[])))] (subR rfl) (by kernel_rfl) (by kernel_rfl) fun w S CL hw le => ?_
       refine h_move S CL hw le (subR rfl) rfl rfl rfl trivial fun a S CL => h_bin S CL hw le (subR rfl) rfl rfl rfl rfl rfl trivial fun a S CL => h_move S CL hw le (subR rfl) rfl rfl rfl trivial fun a S CL => ?_
       rcases ite_of h0 with ⟨c5, h1⟩ | ⟨c5, h1⟩
       ·refine h_move S CL hw le (subR rfl) rfl rfl rfl ⟨_, _, rfl, rfl, c5⟩ fun a S CL => h_move S CL hw le (subR rfl) rfl rfl rfl ⟨_, _, rfl, rfl, c5⟩ fun a S CL => h_move S CL hw le (subR rfl) rfl rfl rfl ⟨_, _, rfl, rfl, c5⟩ fun a S CL => h_bin S CL hw le (subR rfl) rfl rfl rfl rfl rfl ⟨_, _, rfl, rfl, c5⟩ fun a S CL => h_move S CL hw le (subR rfl) rfl rfl rfl ⟨_, _, rfl, rfl, c5⟩ fun a S CL => h_move S CL hw le (subR rfl) rfl rfl rfl ⟨_, _, rfl, rfl, c5⟩ fun a S CL => ?_
        obtain ⟨c6, h2⟩ := chk_of h1; clear h1
        obtain ⟨c7, h3⟩ := chk_of h2; clear h2
        refine bindX h3 fun t12 et12 h4 => h_alts ?_
        refine h_runO S rfl ⟨_, _, rfl, rfl, c5⟩ ?_ ?_
        ·refine s_iaddrO S (ty' := (Ty.atZ ch_0_3 Y30)) rfl .h rfl underlying32 T30 c6.1 c6.2 rfl fun g1 a hA1 S => CL.bk hw S .nil le fun hw => h_alts ?_
         refine h_runO S rfl ⟨_, _, rfl, rfl, c5⟩ ?_ ?_
         ·refine s_ldRA S (ty' := (Ty.atZ ch_0_3 Y30)) (i := (wr .i64 (y4 - 1))) (off := 0) (fun c => ((Ty.atZ ch_0_3 Y30).segs (gt y13 (wr .i64 (y4 - 1))) c)) rfl hA1 .h T30 c6.1 c6.2 rfl (fun _ => rfl) rfl fun ch10 a S => ?_
          refine CL.bk hw S .nil le fun hw => h_run' S rfl ⟨_, _, rfl, rfl, c5⟩ (s_iaddrO S (ty' := (Ty.atZ ch_0_3 Y30)) rfl .h rfl underlying32 T30 c7.1 c7.2 rfl fun g2 a hA2 S => CL.bk hw S .nil le fun hw => h_run' S rfl ⟨_, _, rfl, rfl, c5⟩ (s_ldRA S (ty' := (Ty.atZ ch_0_3 Y30)) (i := y11) (off := 0) (fun c => ((Ty.atZ ch_0_3 Y30).segs (gt y13 y11) c)) rfl hA2 .h T30 c7.1 c7.2 rfl (fun _ => rfl) rfl fun ch11 a S => ?_))
          refine CL.bk hw S .nil le fun hw => h_run' S rfl ⟨_, _, rfl, rfl, c5⟩ (s_callL S (ds' := [(.agg ((Ty.atZ ch_0_3 Y30).segs (gt y13 (wr .i64 (y4 - 1))) ch10)), (.agg ((Ty.atZ ch_0_3 Y30).segs (gt y13 y11) ch11))]) (ds := [(.agg (Y30.segs (gt y13 (wr .i64 (y4 - 1))) ch10)), (.agg (Y30.segs (gt y13 y11) ch11))]) (fun (ch : Unit) => ((.i t12) : D)) (fun _ _ _ h => h) (by obtain ⟨mm, g1, gZ, g2⟩ := S.plend .h1; exact ⟨mm, g1, g2, fun ok => ⟨(okA_lend gZ ok.1), (okA_lend gZ ok.2.1), trivial⟩⟩) N35 rfl rfl rfl (fun _ => store_Store_All_1.ok (gt y13 (wr .i64 (y4 - 1))) (gt y13 y11) ch10.2.2.2.1.1 ch10.2.2.2.1.2 ch10.2.2.2.2.1 ch10.2.2.2.2.2 ch11.2.2.2.1.1 ch11.2.2.2.1.2 ch11.2.2.2.2.1 ch11.2.2.2.2.2 t12 et12 _ _) fun ch12 a w S => CL.bk hw S .nil le fun hw => ?_)
          replace CL := CL.add (t := 94) (d := (.i t12)) S rfl rfl
          refine h_bin S CL hw le (subR rfl) rfl rfl rfl rfl rfl ⟨_, _, rfl, rfl, c5⟩ fun a S CL => h_not S CL hw le (subR rfl) rfl rfl rfl ⟨_, _, rfl, rfl, c5⟩ fun a S CL => h_pick S CL hw le (subR rfl) (b := true) (hc_of rfl c5) rfl rfl rfl trivial fun a S CL => ?_
          refine h_done ?_; clear CL hw le
          refine x_thenN ?_
          exact j4 _ (!(decide (t12 < 0))) a w (S.sb rfl (.c0 (.c0 .n))) h4
         refine h_runO S rfl ⟨_, _, rfl, rfl, c5⟩ ?_ ?_
         ·refine s_iaddrO S (ty' := (Ty.atZ ch_0_3 Y30)) rfl .h rfl underlying32 T30 c7.1 c7.2 rfl fun g2 a hA2 S => CL.bk hw S .nil le fun hw => h_alts ?_
          refine h_runO S rfl ⟨_, _, rfl, rfl, c5⟩ ?_ ?_
          ·refine s_ldRA S (ty' := (Ty.atZ ch_0_3 Y30)) (i := (wr .i64 (y4 - 1))) (off := 0) (fun c => ((Ty.atZ ch_0_3 Y30).segs (gt y13 (wr .i64 (y4 - 1))) c)) rfl hA1 .h T30 c6.1 c6.2 rfl (fun _ => rfl) rfl fun ch10 a S => ?_
           refine CL.bk hw S .nil le fun hw => h_run' S rfl ⟨_, _, rfl, rfl, c5⟩ (s_ldRA S (ty' := (Ty.atZ ch_0_3 Y30)) (i := y11) (off := 0) (fun c => ((Ty.atZ ch_0_3 Y30).segs (gt y13 y11) c)) rfl hA2 .h T30 c7.1 c7.2 rfl (fun _ => rfl) rfl fun ch11 a S => ?_)
           refine CL.bk hw S .nil le fun hw => h_run' S rfl ⟨_, _, rfl, rfl, c5⟩ (s_callL S (ds' := [(.agg ((Ty.atZ ch_0_3 Y30).segs (gt y13 (wr .i64 (y4 - 1))) ch10)), (.agg ((Ty.atZ ch_0_3 Y30).segs (gt y13 y11) ch11))]) (ds := [(.agg (Y30.segs (gt y13 (wr .i64 (y4 - 1))) ch10)), (.agg (Y30.segs (gt y13 y11) ch11))]) (fun (ch : Unit) => ((.i t12) : D)) (fun _ _ _ h => h) (by obtain ⟨mm, g1, gZ, g2⟩ := S.plend .h1; exact ⟨mm, g1, g2, fun ok => ⟨(okA_lend gZ ok.1), (okA_lend gZ ok.2.1), trivial⟩⟩) N35 rfl rfl rfl (fun _ => store_Store_All_1.ok (gt y13 (wr .i64 (y4 - 1))) (gt y13 y11) ch10.2.2.2.1.1 ch10.2.2.2.1.2 ch10.2.2.2.2.1 ch10.2.2.2.2.2 ch11.2.2.2.1.1 ch11.2.2.2.1.2 ch11.2.2.2.2.1 ch11.2.2.2.2.2 t12 et12 _ _) fun ch12 a w S => CL.bk hw S .nil le fun hw => ?_)
           replace CL := CL.add (t := 94) (d := (.i t12)) S rfl rfl
           refine h_bin S CL hw le (subR rfl) rfl rfl rfl rfl rfl ⟨_, _, rfl, rfl, c5⟩ fun a S CL => h_not S CL hw le (subR rfl) rfl rfl rfl ⟨_, _, rfl, rfl, c5⟩ fun a S CL => h_pick S CL hw le (subR rfl) (b := true) (hc_of rfl c5) rfl rfl rfl trivial fun a S CL => ?_
           refine h_done ?_; clear CL hw le
           refine x_thenN ?_
           exact j4 _ (!(decide (t12 < 0))) a w (S.sb rfl (.c0 (.c0 .n))) h4
          refine h_runO S rfl ⟨_, _, rfl, rfl, c5⟩ ?_ ?_
          ·refine s_ldRA S (ty' := (Ty.atZ ch_0_3 Y30)) (i := y11) (off := 0) (fun c => ((Ty.atZ ch_0_3 Y30).segs (gt y13 y11) c)) rfl hA2 .h T30 c7.1 c7.2 rfl (fun _ => rfl) rfl fun ch10 a S => ?_
           refine CL.bk hw S .nil le fun hw => h_run' S rfl ⟨_, _, rfl, rfl, c5⟩ (s_ldRA S (ty' := (Ty.atZ ch_0_3 Y30)) (i := (wr .i64 (y4 - 1))) (off := 0) (fun c => ((Ty.atZ ch_0_3 Y30).segs (gt y13 (wr .i64 (y4 - 1))) c)) rfl hA1 .h T30 c6.1 c6.2 rfl (fun _ => rfl) rfl fun ch11 a S => ?_)
           refine CL.bk hw S .nil le fun hw => h_run' S rfl ⟨_, _, rfl, rfl, c5⟩ (s_callL S (ds' := [(.agg ((Ty.atZ ch_0_3 Y30).segs (gt y13 (wr .i64 (y4 - 1))) ch11)), (.agg ((Ty.atZ ch_0_3 Y30).segs (gt y13 y11) ch10))]) (ds := [(.agg (Y30.segs (gt y13 (wr .i64 (y4 - 1))) ch11)), (.agg (Y30.segs (gt y13 y11) ch10))]) (fun (ch : Unit) => ((.i t12) : D)) (fun _ _ _ h => h) (by obtain ⟨mm, g1, gZ, g2⟩ := S.plend .h1; exact ⟨mm, g1, g2, fun ok => ⟨(okA_lend gZ ok.1), (okA_lend gZ ok.2.1), trivial⟩⟩) N35 rfl rfl rfl (fun _ => store_Store_All_1.ok (gt y13 (wr .i64 (y4 - 1))) (gt y13 y11) ch11.2.2.2.1.1 ch11.2.2.2.1.2 ch11.2.2.2.2.1 ch11.2.2.2.2.2 ch10.2.2.2.1.1 ch10.2.2.2.1.2 ch10.2.2.2.2.1 ch10.2.2.2.2.2 t12 et12 _ _) fun ch12 a w S => CL.bk hw S .nil le fun hw => ?_)
           replace CL := CL.add (t := 94) (d := (.i t12)) S rfl rfl
           refine h_bin S CL hw le (subR rfl) rfl rfl rfl rfl rfl ⟨_, _, rfl, rfl, c5⟩ fun a S CL => h_not S CL hw le (subR rfl) rfl rfl rfl ⟨_, _, rfl, rfl, c5⟩ fun a S CL => h_pick S CL hw le (subR rfl) (b := true) (hc_of rfl c5) rfl rfl rfl trivial fun a S CL => ?_
           refine h_done ?_; clear CL hw le
           refine x_thenN ?_
           exact j4 _ (!(decide (t12 < 0))) a w (S.sb rfl (.c0 (.c0 .n))) h4
          exact h_nil
         exact h_nil
        refine h_runO S rfl ⟨_, _, rfl, rfl, c5⟩ ?_ ?_
        ·refine s_iaddrO S (ty' := (Ty.atZ ch_0_3 Y30)) rfl .h rfl underlying32 T30 c7.1 c7.2 rfl fun g1 a hA1 S => CL.bk hw S .nil le fun hw => h_alts ?_
         refine h_runO S rfl ⟨_, _, rfl, rfl, c5⟩ ?_ ?_
         ·refine s_iaddrO S (ty' := (Ty.atZ ch_0_3 Y30)) rfl .h rfl underlying32 T30 c6.1 c6.2 rfl fun g2 a hA2 S => CL.bk hw S .nil le fun hw => h_alts ?_
          refine h_runO S rfl ⟨_, _, rfl, rfl, c5⟩ ?_ ?_
          ·refine s_ldRA S (ty' := (Ty.atZ ch_0_3 Y30)) (i := (wr .i64 (y4 - 1))) (off := 0) (fun c => ((Ty.atZ ch_0_3 Y30).segs (gt y13 (wr .i64 (y4 - 1))) c)) rfl hA2 .h T30 c6.1 c6.2 rfl (fun _ => rfl) rfl fun ch10 a S => ?_
           refine CL.bk hw S .nil le fun hw => h_run' S rfl ⟨_, _, rfl, rfl, c5⟩ (s_ldRA S (ty' := (Ty.atZ ch_0_3 Y30)) (i := y11) (off := 0) (fun c => ((Ty.atZ ch_0_3 Y30).segs (gt y13 y11) c)) rfl hA1 .h T30 c7.1 c7.2 rfl (fun _ => rfl) rfl fun ch11 a S => ?_)
           refine CL.bk hw S .nil le fun hw => h_run' S rfl ⟨_, _, rfl, rfl, c5⟩ (s_callL S (ds' := [(.agg ((Ty.atZ ch_0_3 Y30).segs (gt y13 (wr .i64 (y4 - 1))) ch10)), (.agg ((Ty.atZ ch_0_3 Y30).segs (gt y13 y11) ch11))]) (ds := [(.agg (Y30.segs (gt y13 (wr .i64 (y4 - 1))) ch10)), (.agg (Y30.segs (gt y13 y11) ch11))]) (fun (ch : Unit) => ((.i t12) : D)) (fun _ _ _ h => h) (by obtain ⟨mm, g1, gZ, g2⟩ := S.plend .h1; exact ⟨mm, g1, g2, fun ok => ⟨(okA_lend gZ ok.1), (okA_lend gZ ok.2.1), trivial⟩⟩) N35 rfl rfl rfl (fun _ => store_Store_All_1.ok (gt y13 (wr .i64 (y4 - 1))) (gt y13 y11) ch10.2.2.2.1.1 ch10.2.2.2.1.2 ch10.2.2.2.2.1 ch10.2.2.2.2.2 ch11.2.2.2.1.1 ch11.2.2.2.1.2 ch11.2.2.2.2.1 ch11.2.2.2.2.2 t12 et12 _ _) fun ch12 a w S => CL.bk hw S .nil le fun hw => ?_)
           replace CL := CL.add (t := 94) (d := (.i t12)) S rfl rfl
           refine h_bin S CL hw le (subR rfl) rfl rfl rfl rfl rfl ⟨_, _, rfl, rfl, c5⟩ fun a S CL => h_not S CL hw le (subR rfl) rfl rfl rfl ⟨_, _, rfl, rfl, c5⟩ fun a S CL => h_pick S CL hw le (subR rfl) (b := true) (hc_of rfl c5) rfl rfl rfl trivial fun a S CL => ?_
           refine h_done ?_; clear CL hw le
           refine x_thenN ?_
           exact j4 _ (!(decide (t12 < 0))) a w (S.sb rfl (.c0 (.c0 .n))) h4
          refine h_runO S rfl ⟨_, _, rfl, rfl, c5⟩ ?_ ?_
          ·refine s_ldRA S (ty' := (Ty.atZ ch_0_3 Y30)) (i := y11) (off := 0) (fun c => ((Ty.atZ ch_0_3 Y30).segs (gt y13 y11) c)) rfl hA1 .h T30 c7.1 c7.2 rfl (fun _ => rfl) rfl fun ch10 a S => ?_
           refine CL.bk hw S .nil le fun hw => h_run' S rfl ⟨_, _, rfl, rfl, c5⟩ (s_ldRA S (ty' := (Ty.atZ ch_0_3 Y30)) (i := (wr .i64 (y4 - 1))) (off := 0) (fun c => ((Ty.atZ ch_0_3 Y30).segs (gt y13 (wr .i64 (y4 - 1))) c)) rfl hA2 .h T30 c6.1 c6.2 rfl (fun _ => rfl) rfl fun ch11 a S => ?_)
           refine CL.bk hw S .nil le fun hw => h_run' S rfl ⟨_, _, rfl, rfl, c5⟩ (s_callL S (ds' := [(.agg ((Ty.atZ ch_0_3 Y30).segs (gt y13 (wr .i64 (y4 - 1))) ch11)), (.agg ((Ty.atZ ch_0_3 Y30).segs (gt y13 y11) ch10))]) (ds := [(.agg (Y30.segs (gt y13 (wr .i64 (y4 - 1))) ch11)), (.agg (Y30.segs (gt y13 y11) ch10))]) (fun (ch : Unit) => ((.i t12) : D)) (fun _ _ _ h => h) (by obtain ⟨mm, g1, gZ, g2⟩ := S.plend .h1; exact ⟨mm, g1, g2, fun ok => ⟨(okA_lend gZ ok.1), (okA_lend gZ ok.2.1), trivial⟩⟩) N35 rfl rfl rfl (fun _ => store_Store_All_1.ok (gt y13 (wr .i64 (y4 - 1))) (gt y13 y11) ch11.2.2.2.1.1 ch11.2.2.2.1.2 ch11.2.2.2.2.1 ch11.2.2.2.2.2 ch10.2.2.2.1.1 ch10.2.2.2.1.2 ch10.2.2.2.2.1 ch10.2.2.2.2.2 t12 et12 _ _) fun ch12 a w S => CL.bk hw S .nil le fun hw => ?_)
           replace CL := CL.add (t := 94) (d := (.i t12)) S rfl rfl
           refine h_bin S CL hw le (subR rfl) rfl rfl rfl rfl rfl ⟨_, _, rfl, rfl, c5⟩ fun a S CL => h_not S CL hw le (subR rfl) rfl rfl rfl ⟨_, _, rfl, rfl, c5⟩ fun a S CL => h_pick S CL hw le (subR rfl) (b := true) (hc_of rfl c5) rfl rfl rfl trivial fun a S CL => ?_
           refine h_done ?_; clear CL hw le
           refine x_thenN ?_
           exact j4 _ (!(decide (t12 < 0))) a w (S.sb rfl (.c0 (.c0 .n))) h4
          exact h_nil
         refine h_runO S rfl ⟨_, _, rfl, rfl, c5⟩ ?_ ?_
         ·refine s_ldRA S (ty' := (Ty.atZ ch_0_3 Y30)) (i := y11) (off := 0) (fun c => ((Ty.atZ ch_0_3 Y30).segs (gt y13 y11) c)) rfl hA1 .h T30 c7.1 c7.2 rfl (fun _ => rfl) rfl fun ch10 a S => ?_
          refine CL.bk hw S .nil le fun hw => h_run' S rfl ⟨_, _, rfl, rfl, c5⟩ (s_iaddrO S (ty' := (Ty.atZ ch_0_3 Y30)) rfl .h rfl underlying32 T30 c6.1 c6.2 rfl fun g2 a hA2 S => CL.bk hw S .nil le fun hw => h_run' S rfl ⟨_, _, rfl, rfl, c5⟩ (s_ldRA S (ty' := (Ty.atZ ch_0_3 Y30)) (i := (wr .i64 (y4 - 1))) (off := 0) (fun c => ((Ty.atZ ch_0_3 Y30).segs (gt y13 (wr .i64 (y4 - 1))) c)) rfl hA2 .h T30 c6.1 c6.2 rfl (fun _ => rfl) rfl fun ch11 a S => ?_))
          refine CL.bk hw S .nil le fun hw => h_run' S rfl ⟨_, _, rfl, rfl, c5⟩ (s_callL S (ds' := [(.agg ((Ty.atZ ch_0_3 Y30).segs (gt y13 (wr .i64 (y4 - 1))) ch11)), (.agg ((Ty.atZ ch_0_3 Y30).segs (gt y13 y11) ch10))]) (ds := [(.agg (Y30.segs (gt y13 (wr .i64 (y4 - 1))) ch11)), (.agg (Y30.segs (gt y13 y11) ch10))]) (fun (ch : Unit) => ((.i t12) : D)) (fun _ _ _ h => h) (by obtain ⟨mm, g1, gZ, g2⟩ := S.plend .h1; exact ⟨mm, g1, g2, fun ok => ⟨(okA_lend gZ ok.1), (okA_lend gZ ok.2.1), trivial⟩⟩) N35 rfl rfl rfl (fun _ => store_Store_All_1.ok (gt y13 (wr .i64 (y4 - 1))) (gt y13 y11) ch11.2.2.2.1.1 ch11.2.2.2.1.2 ch11.2.2.2.2.1 ch11.2.2.2.2.2 ch10.2.2.2.1.1 ch10.2.2.2.1.2 ch10.2.2.2.2.1 ch10.2.2.2.2.2 t12 et12 _ _) fun ch12 a w S => CL.bk hw S .nil le fun hw => ?_)
          replace CL := CL.add (t := 94) (d := (.i t12)) S rfl rfl
          refine h_bin S CL hw le (subR rfl) rfl rfl rfl rfl rfl ⟨_, _, rfl, rfl, c5⟩ fun a S CL => h_not S CL hw le (subR rfl) rfl rfl rfl ⟨_, _, rfl, rfl, c5⟩ fun a S CL => h_pick S CL hw le (subR rfl) (b := true) (hc_of rfl c5) rfl rfl rfl trivial fun a S CL => ?_
          refine h_done ?_; clear CL hw le
          refine x_thenN ?_
          exact j4 _ (!(decide (t12 < 0))) a w (S.sb rfl (.c0 (.c0 .n))) h4
         exact h_nil
        exact h_nil
       ·refine h_skip S CL rfl rfl rfl (ne_bool c5) rfl fun a S CL => h_skip S CL rfl rfl rfl (ne_bool c5) rfl fun a S CL => h_skip S CL rfl rfl rfl (ne_bool c5) rfl fun a S CL => h_skip S CL rfl rfl rfl (ne_bool c5) rfl fun a S CL => h_skip S CL rfl rfl rfl (ne_bool c5) rfl fun a S CL => h_skip S CL rfl rfl rfl (ne_bool c5) rfl fun a S CL => h_alts ?_
        refine h_skipOt S rfl rfl rfl (ne_bool c5) rfl ?_ ?_
        ·clear S a; intro a S
         refine CL.bk hw S .nil le fun hw => h_alts ?_
         refine h_skipOt S rfl rfl rfl (ne_bool c5) rfl ?_ ?_
         ·clear S a; intro a S
          refine CL.bk hw S .nil le fun hw => h_skipRt S rfl rfl rfl (ne_bool c5) rfl fun a S => CL.bk hw S .nil le fun hw => h_skipRt S rfl rfl rfl (ne_bool c5) rfl fun a S => CL.bk hw S .nil le fun hw => h_skipRt S rfl rfl rfl (ne_bool c5) rfl fun a S => CL.bk hw S .nil le fun hw => ?_
          replace CL := CL.add (t := 94) (d := .u) S rfl rfl
          refine h_skip S CL rfl rfl rfl (ne_bool c5) rfl fun a S CL => h_skip S CL rfl rfl rfl (ne_bool c5) rfl fun a S CL => h_pick S CL hw le (subR rfl) (b := false) (hc_of rfl c5) rfl rfl rfl trivial fun a S CL => ?_
          refine h_done ?_; clear CL hw le
          refine x_thenN ?_
          exact j4 _ false a w (S.sb rfl (.c0 (.c0 .n))) h1
         refine h_skipOt S rfl rfl rfl (ne_bool c5) rfl ?_ ?_
         ·clear S a; intro a S
          refine CL.bk hw S .nil le fun hw => h_alts ?_
          refine h_skipOt S rfl rfl rfl (ne_bool c5) rfl ?_ ?_
          ·clear S a; intro a S
           refine CL.bk hw S .nil le fun hw => h_skipRt S rfl rfl rfl (ne_bool c5) rfl fun a S => CL.bk hw S .nil le fun hw => h_skipRt S rfl rfl rfl (ne_bool c5) rfl fun a S => CL.bk hw S .nil le fun hw => ?_
           replace CL := CL.add (t := 94) (d := .u) S rfl rfl
           refine h_skip S CL rfl rfl rfl (ne_bool c5) rfl fun a S CL => h_skip S CL rfl rfl rfl (ne_bool c5) rfl fun a S CL => h_pick S CL hw le (subR rfl) (b := false) (hc_of rfl c5) rfl rfl rfl trivial fun a S CL => ?_
           refine h_done ?_; clear CL hw le
           refine x_thenN ?_
           exact j4 _ false a w (S.sb rfl (.c0 (.c0 .n))) h1
          refine h_skipOt S rfl rfl rfl (ne_bool c5) rfl ?_ ?_
          ·clear S a; intro a S
           refine CL.bk hw S .nil le fun hw => h_skipRt S rfl rfl rfl (ne_bool c5) rfl fun a S => CL.bk hw S .nil le fun hw => h_skipRt S rfl rfl rfl (ne_bool c5) rfl fun a S => CL.bk hw S .nil le fun hw => ?_
           replace CL := CL.add (t := 94) (d := .u) S rfl rfl
           refine h_skip S CL rfl rfl rfl (ne_bool c5) rfl fun a S CL => h_skip S CL rfl rfl rfl (ne_bool c5) rfl fun a S CL => h_pick S CL hw le (subR rfl) (b := false) (hc_of rfl c5) rfl rfl rfl trivial fun a S CL => ?_
           refine h_done ?_; clear CL hw le
           refine x_thenN ?_
           exact j4 _ false a w (S.sb rfl (.c0 (.c0 .n))) h1
          exact h_nil
         exact h_nil
        refine h_skipOt S rfl rfl rfl (ne_bool c5) rfl ?_ ?_
        ·clear S a; intro a S
         refine CL.bk hw S .nil le fun hw => h_alts ?_
         refine h_skipOt S rfl rfl rfl (ne_bool c5) rfl ?_ ?_
         ·clear S a; intro a S
          refine CL.bk hw S .nil le fun hw => h_alts ?_
          refine h_skipOt S rfl rfl rfl (ne_bool c5) rfl ?_ ?_
          ·clear S a; intro a S
           refine CL.bk hw S .nil le fun hw => h_skipRt S rfl rfl rfl (ne_bool c5) rfl fun a S => CL.bk hw S .nil le fun hw => h_skipRt S rfl rfl rfl (ne_bool c5) rfl fun a S => CL.bk hw S .nil le fun hw => ?_
           replace CL := CL.add (t := 94) (d := .u) S rfl rfl
           refine h_skip S CL rfl rfl rfl (ne_bool c5) rfl fun a S CL => h_skip S CL rfl rfl rfl (ne_bool c5) rfl fun a S CL => h_pick S CL hw le (subR rfl) (b := false) (hc_of rfl c5) rfl rfl rfl trivial fun a S CL => ?_
           refine h_done ?_; clear CL hw le
           refine x_thenN ?_
           exact j4 _ false a w (S.sb rfl (.c0 (.c0 .n))) h1
          refine h_skipOt S rfl rfl rfl (ne_bool c5) rfl ?_ ?_
          ·clear S a; intro a S
           refine CL.bk hw S .nil le fun hw => h_skipRt S rfl rfl rfl (ne_bool c5) rfl fun a S => CL.bk hw S .nil le fun hw => h_skipRt S rfl rfl rfl (ne_bool c5) rfl fun a S => CL.bk hw S .nil le fun hw => ?_
           replace CL := CL.add (t := 94) (d := .u) S rfl rfl
           refine h_skip S CL rfl rfl rfl (ne_bool c5) rfl fun a S CL => h_skip S CL rfl rfl rfl (ne_bool c5) rfl fun a S CL => h_pick S CL hw le (subR rfl) (b := false) (hc_of rfl c5) rfl rfl rfl trivial fun a S CL => ?_
           refine h_done ?_; clear CL hw le
           refine x_thenN ?_
           exact j4 _ false a w (S.sb rfl (.c0 (.c0 .n))) h1
          exact h_nil
         refine h_skipOt S rfl rfl rfl (ne_bool c5) rfl ?_ ?_
         ·clear S a; intro a S
          refine CL.bk hw S .nil le fun hw => h_skipRt S rfl rfl rfl (ne_bool c5) rfl fun a S => CL.bk hw S .nil le fun hw => h_skipRt S rfl rfl rfl (ne_bool c5) rfl fun a S => CL.bk hw S .nil le fun hw => h_skipRt S rfl rfl rfl (ne_bool c5) rfl fun a S => CL.bk hw S .nil le fun hw => ?_
          replace CL := CL.add (t := 94) (d := .u) S rfl rfl
          refine h_skip S CL rfl rfl rfl (ne_bool c5) rfl fun a S CL => h_skip S CL rfl rfl rfl (ne_bool c5) rfl fun a S CL => h_pick S CL hw le (subR rfl) (b := false) (hc_of rfl c5) rfl rfl rfl trivial fun a S CL => ?_
          refine h_done ?_; clear CL hw le
          refine x_thenN ?_
          exact j4 _ false a w (S.sb rfl (.c0 (.c0 .n))) h1
         exact h_nil
        exact h_nil
      refine wp_seq_k fun K5 hK5 => ?_
      have j5 : ∀ m y15 a w, St 148 m b0 [(75, (.b y15)), (13, (.i y11)), (3, (.i y8)), (12, (.i (wr .i64 (y5 - y4)))), (11, (.b y2)), (10, (.b y3)), (0, (.s ch_0_0 ch_0_1 ch_0_2)), (1, (.i y4)), (2, (.i y5)), (4, (.v (.func (.func 35) #[] #[])))] [Res.row (Ty.atZ ch_0_3 Y30) 30 ch_0_0 ch_0_1 ch_0_2 y9, Res.priv ch_0_3] a w → api_Account_n46_0z_4f35.j5 k self0 y2 y3 y4 y5 (api_Account_n46_0z_4f35.l1 k self0 q1) y8 y9 y11 y15 = some r → K5 a w := by
       intro m y15 a w S h0
       delta api_Account_n46_0z_4f35.j5 at h0
       refine hK5 a w ?_
       rcases ite_of h0 with ⟨c8, h1⟩ | ⟨c8, h1⟩
       ·refine c_condT S rfl c8 (c_region (s_move S rfl rfl fun a S => s_move S rfl rfl fun a S => s_move S rfl rfl fun a S => s_move S rfl rfl fun a S => bindX h1 fun t13 et13 h2 => s_callX S (ds' := [(.s ch_0_0 ch_0_1 ch_0_2), (.i y4), (.i y5), (.v (.func (.func 35) #[] #[]))]) (ds := [(.s ch_0_0 ch_0_1 ch_0_2), (.i y4), (.i y5), (.v (.func (.func 35) #[] #[]))]) [Res.row (Ty.atZ ch_0_3 Y30) 30 ch_0_0 ch_0_1 ch_0_2 y9, Res.priv ch_0_3] [] (fun (ch : Unit) => ((.b t13.1) : D)) (fun (ch : Unit) => [Res.row (Ty.atZ ch_0_3 Y30) 30 ch_0_0 ch_0_1 ch_0_2 t13.2, Res.priv ch_0_3]) (fun (ch : Unit) => [Res.row (Ty.atZ ch_0_3 Y30) 30 ch_0_0 ch_0_1 ch_0_2 t13.2, Res.priv ch_0_3]) (fun _ => rfl) N55 rfl rfl (fun ok => ok) (.c0 (.c0 .n)) rfl (api_Account_n55_0z_3f35.ok k y9 y4 y5 ch_0_0 ch_0_1 ch_0_2 ch_0_3 t13 et13 _ _) fun ch13 m le1 a w S => c_end ?_))
        rcases ite_of h2 with ⟨c9, h3⟩ | ⟨c9, h3⟩
        ·refine c_condT S rfl c9 (wp_ret (x_thenR (x_blockR (x_thenR (x_blockR ?_)))))
         obtain rfl := Option.some.inj h3
         exact b_ret0 S rfl (S.retX (Hx := []) hb _ _ (() : Unit) (.c0 (.c0 .n)) trivial)
        ·refine c_condF S rfl c9 (wp_skip (x_thenN ?_))
         exact j3 _ t13.2 a w (S.sb rfl (.c0 (.c0 .n))) h3
       ·refine c_condF S rfl c8 (wp_skip (x_thenN ?_))
        exact j3 _ y9 a w (S.sb rfl (.c0 (.c0 .n))) h1
      refine c_region' (s_move S rfl rfl fun a S => s_move S rfl rfl fun a S => ?_)
      rcases ite_of h0 with ⟨c10, h1⟩ | ⟨c10, h1⟩
      ·refine s_gT S (b := y3) rfl rfl c10 (s_move S rfl rfl fun a S => s_pick S (b := true) (hc_of rfl c10) rfl rfl fun a S => s_move S rfl rfl fun a S => ?_)
       rcases ite_of h1 with ⟨c11, h2⟩ | ⟨c11, h2⟩
       ·refine s_gT S (b := y2) rfl rfl c11 (s_move S rfl rfl fun a S => s_gT S (b := y2) rfl rfl c11 (s_bin S rfl rfl rfl rfl fun a S => s_pick S (b := true) (hc_of rfl c11) rfl rfl fun a S => c_end' (x_thenN ?_)))
        exact j5 _ (y10 == 1) a w (S.sb rfl (.c0 (.c0 .n))) h2
       ·refine s_gF S (b := y2) rfl rfl c11 rfl fun a S => s_gF S (b := y2) rfl rfl c11 rfl fun a S => s_pick S (b := false) (hc_of rfl c11) rfl rfl fun a S => c_end' (x_thenN ?_)
        exact j5 _ false a w (S.sb rfl (.c0 (.c0 .n))) h2
      ·refine s_gF S (b := y3) rfl rfl c10 rfl fun a S => s_pick S (b := false) (hc_of rfl c10) rfl rfl fun a S => s_move S rfl rfl fun a S => s_gF S (b := false) rfl rfl rfl rfl fun a S => s_gF S (b := false) rfl rfl rfl rfl fun a S => s_pick S (b := false) (hc_of rfl rfl) rfl rfl fun a S => c_end' (x_thenN ?_)
       exact j5 _ false a w (S.sb rfl (.c0 (.c0 .n))) h1
     refine c_region (s_move S rfl rfl fun a S => s_bin S rfl rfl rfl rfl fun a S => c_end ?_)
     rcases ite_of h1 with ⟨c12, h2⟩ | ⟨c12, h2⟩
     ·refine c_condT S rfl c12 (c_region (s_move S rfl rfl fun a S => s_move S rfl rfl fun a S => s_move S rfl rfl fun a S => s_move S rfl rfl fun a S => bindX h2 fun t14 et14 h3 => s_callX S (ds' := [(.s ch_0_0 ch_0_1 ch_0_2), (.i y4), (.i y5), (.v (.func (.func 35) #[] #[]))]) (ds := [(.s ch_0_0 ch_0_1 ch_0_2), (.i y4), (.i y5), (.v (.func (.func 35) #[] #[]))]) [Res.row (Ty.atZ ch_0_3 Y30) 30 ch_0_0 ch_0_1 ch_0_2 y7, Res.priv ch_0_3] [] (fun (ch : Unit) => ((.tup []) : D)) (fun (ch : Unit) => [Res.row (Ty.atZ ch_0_3 Y30) 30 ch_0_0 ch_0_1 ch_0_2 t14, Res.priv ch_0_3]) (fun (ch : Unit) => [Res.row (Ty.atZ ch_0_3 Y30) 30 ch_0_0 ch_0_1 ch_0_2 t14, Res.priv ch_0_3]) (fun _ => rfl) N54 rfl rfl (fun ok => ok) (.c0 (.c0 .n)) rfl (api_Account_n54_0z_3f35.ok k y7 y4 y5 ch_0_0 ch_0_1 ch_0_2 ch_0_3 t14 et14 _ _) fun ch14 m le1 a w S => c_end (c_region (s_move S rfl rfl fun a S => s_bin S rfl rfl rfl rfl fun a S => s_move S rfl rfl fun a S => s_move S rfl rfl fun a S => s_bin S rfl rfl rfl rfl fun a S => s_bin S rfl rfl rfl rfl fun a S => s_assign S rfl rfl fun a S => c_end (c_region' (s_assign S rfl rfl fun a S => c_end' (x_thenN ?_)))))))
      exact j2 _ t14 1 (wr .i64 ((wr .i64 (y5 - 1)) - (wr .i64 (t4.1 - y4)))) a w (S.sb rfl (.c0 (.c0 .n))) h3
     ·refine c_condF S rfl c12 (wp_skip (x_thenN ?_))
      exact j2 _ y7 t4.2 t4.1 a w (S.sb rfl (.c0 (.c0 .n))) h2
    refine c_region (s_move S rfl rfl fun a S => s_not S rfl rfl fun a S => c_end ?_)
    rcases ite_of h2 with ⟨c13, h3⟩ | ⟨c13, h3⟩
    ·refine c_condT S rfl c13 (c_region (s_move S rfl rfl fun a S => s_move S rfl rfl fun a S => s_move S rfl rfl fun a S => s_move S rfl rfl fun a S => bindX h3 fun t15 et15 h4 => s_callX S (ds' := [(.s ch_0_0 ch_0_1 ch_0_2), (.i y4), (.i y5), (.v (.func (.func 35) #[] #[]))]) (ds := [(.s ch_0_0 ch_0_1 ch_0_2), (.i y4), (.i y5), (.v (.func (.func 35) #[] #[]))]) [Res.row (Ty.atZ ch_0_3 Y30) 30 ch_0_0 ch_0_1 ch_0_2 y1, Res.priv ch_0_3] [] (fun (ch : Unit) => ((.tup []) : D)) (fun (ch : Unit) => [Res.row (Ty.atZ ch_0_3 Y30) 30 ch_0_0 ch_0_1 ch_0_2 t15, Res.priv ch_0_3]) (fun (ch : Unit) => [Res.row (Ty.atZ ch_0_3 Y30) 30 ch_0_0 ch_0_1 ch_0_2 t15, Res.priv ch_0_3]) (fun _ => rfl) N52 rfl rfl (fun ok => ok) (.c0 (.c0 .n)) rfl (api_Account_n52_0z_3f35.ok k y1 y4 y5 ch_0_0 ch_0_1 ch_0_2 ch_0_3 t15 et15 _ _) fun ch15 m le1 a w S => c_end (c_region' (s_move S rfl rfl fun a S => s_bin S rfl rfl rfl rfl fun a S => s_assign S rfl rfl fun a S => c_end' (x_thenN ?_)))))
     exact j1 _ t15 (wr .i64 (y6 - 1)) a w (S.sb rfl (.c0 (.c0 .n))) h4
    ·refine c_condF S rfl c13 (wp_skip (x_thenN ?_))
     exact j1 _ y1 y6 a w (S.sb rfl (.c0 (.c0 .n))) h3
def api_Account_n46_0z_4f35.f : Nat → api_Account_n46_0z_4f35.Ty
  | 0 => fun _ _ _ _ => none
  | k + 1 => api_Account_n46_0z_4f35.body (api_Account_n46_0z_4f35.f k) k
theorem api_Account_n46_0z_4f35.oks : ∀ k : Nat, api_Account_n46_0z_4f35.Ctr (api_Account_n46_0z_4f35.f k)
  | 0 => fun _ _ _ _ _ _ _ _ r h0 => (nomatch (show (none : Option ((List L30))) = some r from h0))
  | k + 1 => by
    have ih := api_Account_n46_0z_4f35.oks k
    exact api_Account_n46_0z_4f35.okb (api_Account_n46_0z_4f35.f k) ih k
theorem api_Account_n46_0z_4f35.ok (k : Nat) : api_Account_n46_0z_4f35.Ctr (api_Account_n46_0z_4f35.f k) := (api_Account_n46_0z_4f35.oks k)
abbrev api_Account_n34_0z_1f35.Ty : Type := (List L30) → Option ((List L30))
def api_Account_n34_0z_1f35.Ctr (s : api_Account_n34_0z_1f35.Ty) : Prop := ∀ (x1 : List L30) (ch_0_0 : Option Addr) (ch_0_1 : Nat) (ch_0_2 : Nat) (ch_0_3 : Mem) (r : (List L30)), Ct (C := Unit) Try.prog 34 (s x1 = some r) [Res.row (Ty.atZ ch_0_3 Y30) 30 ch_0_0 ch_0_1 ch_0_2 x1, Res.priv ch_0_3] [(.s ch_0_0 ch_0_1 ch_0_2), (.v (.func (.func 35) #[] #[]))] (fun _ => (.tup [])) fun _ => [Res.row (Ty.atZ ch_0_3 Y30) 30 ch_0_0 ch_0_1 ch_0_2 r, Res.priv ch_0_3]
def api_Account_n34_0z_1f35.f (k : Nat) (x1 : List L30) : Option ((List L30)) := (bits_Len.f (wr .u64 ((x1).length : Int))).bind fun t1 => ((api_Account_n46_0z_4f35.f k x1 0 ((x1).length : Int) t1).bind fun t2 => (some t2))
theorem api_Account_n34_0z_1f35.ok (k : Nat) : api_Account_n34_0z_1f35.Ctr (api_Account_n34_0z_1f35.f k) := by
 intro x1 ch_0_0 ch_0_1 ch_0_2 ch_0_3 r h0 mi w0 ok hm
 delta api_Account_n34_0z_1f35.f at h0
 refine c_enterZ (n := 14) ok hm func34 rfl rfl rfl fun b0 hb a S => c_region (s_move S rfl rfl fun a S => s_lenO S rfl .h underlying32 rfl fun a S => s_assign S rfl rfl fun a S => c_end (c_region' (s_move S rfl rfl fun a S => s_move S rfl rfl fun a S => s_move S rfl rfl fun a S => s_conv S rfl rfl underlying94 rfl fun a S => bindX h0 fun t1 et1 h1 => s_callP S _ N47 rfl rfl (bits_Len.ok (wr .u64 ((x1).length : Int)) t1 et1 _ _) fun ch1 m le1 a w S => s_move S rfl rfl fun a S => bindX h1 fun t2 et2 h2 => s_callX S (ds' := [(.s ch_0_0 ch_0_1 ch_0_2), (.i 0), (.i ((x1).length : Int)), (.i t1), (.v (.func (.func 35) #[] #[]))]) (ds := [(.s ch_0_0 ch_0_1 ch_0_2), (.i 0), (.i ((x1).length : Int)), (.i t1), (.v (.func (.func 35) #[] #[]))]) [Res.row (Ty.atZ ch_0_3 Y30) 30 ch_0_0 ch_0_1 ch_0_2 x1, Res.priv ch_0_3] [] (fun (ch : Unit) => ((.tup []) : D)) (fun (ch : Unit) => [Res.row (Ty.atZ ch_0_3 Y30) 30 ch_0_0 ch_0_1 ch_0_2 t2, Res.priv ch_0_3]) (fun (ch : Unit) => [Res.row (Ty.atZ ch_0_3 Y30) 30 ch_0_0 ch_0_1 ch_0_2 t2, Res.priv ch_0_3]) (fun _ => rfl) N46 rfl rfl (fun ok => ok) (.c0 (.c0 .n)) rfl (api_Account_n46_0z_4f35.ok k x1 0 ((x1).length : Int) t1 ch_0_0 ch_0_1 ch_0_2 ch_0_3 t2 et2 _ _) fun ch2 m le1 a w S => c_end' (b_end ?_))))
 obtain rfl := Option.some.inj h2
 exact b_ret0 S rfl (S.retX (Hx := []) hb _ _ (() : Unit) (.c0 (.c0 .n)) trivial)
abbrev store_Store_All.Ty : Type := L72 → Int → Option ((List L30))
def store_Store_All.Ctr (s : store_Store_All.Ty) : Prop := ∀ (x1 : L72) (x2 : Int) (ch_0_0 : Nat) (ch_0_1 : Option Addr) (ch_0_2 : Nat) (ch_0_3 : Nat) (r : (List L30)), Ct (C := ((Option Addr) × Nat × Nat × Mem)) Try.prog 18 (s x1 x2 = some r) [Res.cells ch_0_0 74 [.s ch_0_1 ch_0_2 ch_0_3], Res.row (Ty.prod yi Y69) 71 ch_0_1 ch_0_2 ch_0_3 x1] [(.p ch_0_0), (.i x2)] (fun ch => (.s ch.1 ch.2.1 ch.2.2.1)) fun ch => [Res.row (Ty.atZ ch.2.2.2 Y30) 30 ch.1 ch.2.1 ch.2.2.1 r, Res.priv ch.2.2.2, Res.cells ch_0_0 74 [.s ch_0_1 ch_0_2 ch_0_3], Res.row (Ty.prod yi Y69) 71 ch_0_1 ch_0_2 ch_0_3 x1]
def store_Store_All.j1 (k : Nat) (y1 : List L30) : Option ((List L30)) := (api_Account_n34_0z_1f35.f k y1).bind fun t2 => (some t2)
def store_Store_All.j2 (x1 : L72) (y31 : Int) (rec1 : (List L30) → (List ((List Int) × Bool)) → Int → Option ((List L30))) (y42 : List L30) (y43 : List ((List Int) × Bool)) : Option ((List L30)) := if (0 : Int) ≤ y31 ∧ y31 < ((x1).length : Int) then (rec1 y42 y43 ((gt x1 y31).1)) else none
def store_Store_All.j3 (y51 : List ((List Int) × L30)) (y53 : List ((List Int) × Bool)) (rec2 : (List ((List Int) × L30)) → (List L30) → (List ((List Int) × Bool)) → Option ((List L30))) (e1 : (List Int) × L30) (y55 : List L30) : Option ((List L30)) := rec2 (adel y51 e1.1) y55 (aput y53 e1.1 true)
def store_Store_All.j4 (y51 : List ((List Int) × L30)) (y52 : List L30) (y53 : List ((List Int) × Bool)) (rec2 : (List ((List Int) × L30)) → (List L30) → (List ((List Int) × Bool)) → Option ((List L30))) (e1 : (List Int) × L30) (y56 : Bool) : Option ((List L30)) := if y56 = true then ((store_own.f e1.2).bind fun t6 => (if ((y52).length + ([t6]).length) * 112 ≤ 140737488355328 then (store_Store_All.j3 y51 y53 rec2 e1 (y52 ++ [t6])) else none)) else (store_Store_All.j3 y51 y53 rec2 e1 y52)
def store_Store_All.b2 (x1 : L72) (y31 : Int) (rec1 : (List L30) → (List ((List Int) × Bool)) → Int → Option ((List L30))) (rec2 : (List ((List Int) × L30)) → (List L30) → (List ((List Int) × Bool)) → Option ((List L30))) (y51 : List ((List Int) × L30)) (y52 : List L30) (y53 : List ((List Int) × Bool)) : Option ((List L30)) := rngL y51 (store_Store_All.j2 x1 y31 rec1 y52 y53) fun e1 => if (!((lk (aget y53 e1.1) false).1)) = true then ((store_Empty.f e1.2).bind fun t7 => (store_Store_All.j4 y51 y52 y53 rec2 e1 (!t7))) else (store_Store_All.j4 y51 y52 y53 rec2 e1 false)
def store_Store_All.l2 (x1 : L72) (y31 : Int) (rec1 : (List L30) → (List ((List Int) × Bool)) → Int → Option ((List L30))) : Nat → (List ((List Int) × L30)) → (List L30) → (List ((List Int) × Bool)) → Option ((List L30))
  | 0, _, _, _ => none
  | q + 1, y51, y52, y53 => store_Store_All.b2 x1 y31 rec1 (store_Store_All.l2 x1 y31 rec1 q) y51 y52 y53
def store_Store_All.b1 (k : Nat) (x1 : L72) (rec1 : (List L30) → (List ((List Int) × Bool)) → Int → Option ((List L30))) (y29 : List L30) (y30 : List ((List Int) × Bool)) (y31 : Int) : Option ((List L30)) := if (decide (0 ≤ y31)) = true then (if (0 : Int) ≤ y31 ∧ y31 < ((x1).length : Int) then (store_Store_All.l2 x1 y31 rec1 k ((gt x1 y31).2) y29 y30) else none) else (store_Store_All.j1 k y29)
def store_Store_All.l1 (k : Nat) (x1 : L72) : Nat → (List L30) → (List ((List Int) × Bool)) → Int → Option ((List L30))
  | 0, _, _, _ => none
  | q + 1, y29, y30, y31 => store_Store_All.b1 k x1 (store_Store_All.l1 k x1 q) y29 y30 y31
def store_Store_All.f (k : Nat) (x1 : L72) (x2 : Int) : Option ((List L30)) := (store_Store_has.f (x1) x2).bind fun t1 => (if (!t1) = true then (some ([] : List L30)) else (store_Store_All.l1 k x1 k ([] : List L30) ([] : List ((List Int) × Bool)) x2))
theorem store_Store_All.ok (k : Nat) : store_Store_All.Ctr (store_Store_All.f k) := by
 intro x1 x2 ch_0_0 ch_0_1 ch_0_2 ch_0_3 r h0 mi w0 ok hm
 delta store_Store_All.f at h0
 refine c_enterZ (n := 58) ok hm func18 rfl rfl rfl fun b0 hb a S => c_region (s_assign S rfl rfl fun a S => c_end (c_region (s_assign S rfl rfl fun a S => c_end (wp_seq (c_region (s_move S rfl rfl fun a S => s_move S rfl rfl fun a S => bindX h0 fun t1 et1 h1 => s_callX S (ds' := [(.p ch_0_0), (.i x2)]) (ds := [(.p ch_0_0), (.i x2)]) [Res.cells ch_0_0 74 [.s ch_0_1 ch_0_2 ch_0_3], Res.row (Ty.prod yi Y69) 71 ch_0_1 ch_0_2 ch_0_3 x1] [] (fun (ch : Unit) => ((.b t1) : D)) (fun (ch : Unit) => [Res.cells ch_0_0 74 [.s ch_0_1 ch_0_2 ch_0_3], Res.row (Ty.prod yi Y69) 71 ch_0_1 ch_0_2 ch_0_3 x1]) (fun (ch : Unit) => [Res.cells ch_0_0 74 [.s ch_0_1 ch_0_2 ch_0_3], Res.row (Ty.prod yi Y69) 71 ch_0_1 ch_0_2 ch_0_3 x1]) (fun _ => rfl) N30 rfl rfl (fun ok => ok) (.c0 (.c0 .n)) rfl (store_Store_has.ok (x1) x2 ch_0_0 ch_0_1 ch_0_2 ch_0_3 t1 et1 _ _) fun ch1 m le1 a w S => s_not S rfl rfl fun a S => c_end ?_))))))
 rcases ite_of h1 with ⟨c1, h2⟩ | ⟨c1, h2⟩
 ·refine c_condT S rfl c1 (c_region (s_move S rfl rfl fun a S => s_assign S rfl rfl fun a S => c_end (wp_ret (x_thenR ?_))))
  replace S := S.privnew
  replace S := S.nilrow (Ty.atZ GW.m0 Y30) 30
  replace S := S.slot (u := 4) (d' := (.s none 0 0)) rfl rfl (S.get 4 (.s none 0 0) rfl).2
  obtain rfl := Option.some.inj h2
  exact b_ret1 (d := (.s none 0 0)) S rfl rfl fun ok => S.retX (Hx := []) hb _ _ ((none, 0, 0, GW.m0) : (Option Addr) × Nat × Nat × Mem) (.c0 (.c0 (.c0 (.c0 .n)))) ok
 ·refine c_condF S rfl c1 (wp_skip (x_thenN (c_region (s_makeMap S true (Ty.arr .u8 20) false Ty.bool rfl fun g1 a w S => s_assign S rfl rfl fun a S => c_end (wp_seq_k fun K1 hK1 => ?_)))))
  have j1 : ∀ m A1 nn1 cp1 y1 mz1 a w, St 58 m b0 [(5, (.s A1 nn1 cp1))] [Res.row (Ty.atZ mz1 Y30) 30 A1 nn1 cp1 y1, Res.priv mz1, Res.cells ch_0_0 74 [.s ch_0_1 ch_0_2 ch_0_3], Res.row (Ty.prod yi Y69) 71 ch_0_1 ch_0_2 ch_0_3 x1] a w → store_Store_All.j1 k y1 = some r → K1 a w := by
   intro m A1 nn1 cp1 y1 mz1 a w S h0
   delta store_Store_All.j1 at h0
   refine hK1 a w (c_region (s_move S rfl rfl fun a S => bindX h0 fun t2 et2 h1 => s_callX S (ds' := [(.s A1 nn1 cp1), (.v (.func (.func 35) #[] #[]))]) (ds := [(.s A1 nn1 cp1), (.v (.func (.func 35) #[] #[]))]) [Res.row (Ty.atZ mz1 Y30) 30 A1 nn1 cp1 y1, Res.priv mz1] [Res.cells ch_0_0 74 [.s ch_0_1 ch_0_2 ch_0_3], Res.row (Ty.prod yi Y69) 71 ch_0_1 ch_0_2 ch_0_3 x1] (fun (ch : Unit) => ((.tup []) : D)) (fun (ch : Unit) => [Res.row (Ty.atZ mz1 Y30) 30 A1 nn1 cp1 t2, Res.priv mz1]) (fun (ch : Unit) => [Res.row (Ty.atZ mz1 Y30) 30 A1 nn1 cp1 t2, Res.priv mz1, Res.cells ch_0_0 74 [.s ch_0_1 ch_0_2 ch_0_3], Res.row (Ty.prod yi Y69) 71 ch_0_1 ch_0_2 ch_0_3 x1]) (fun _ => rfl) N34 rfl rfl (fun ok => ok) (.c0 (.c0 (.c0 (.c0 .n)))) rfl (api_Account_n34_0z_1f35.ok k y1 A1 nn1 cp1 mz1 t2 et2 _ _) fun ch2 m le1 a w S => c_end (c_region (s_move S rfl rfl fun a S => s_assign S rfl rfl fun a S => c_end (wp_ret ?_)))))
   obtain rfl := Option.some.inj h1
   exact b_ret1 (d := (.s A1 nn1 cp1)) S rfl rfl fun ok => S.retX (Hx := []) hb _ _ ((A1, nn1, cp1, mz1) : (Option Addr) × Nat × Nat × Mem) (.c0 (.c0 (.c0 (.c0 .n)))) ok
  refine wp_block ?_
  replace S := S.privnew
  replace S := S.nilrow (Ty.atZ GW.m0 Y30) 30
  refine c_loop (fun q1 a w => ∃ m A2 nn13 cp25 y29 mz25 g127 y30 y31, St 58 m b0 [(5, (.s A2 nn13 cp25)), (6, (.v (.map (some g127)))), (0, (.p ch_0_0)), (1, (.i y31))] [Res.row (Ty.atZ mz25 Y30) 30 A2 nn13 cp25 y29, Res.priv mz25, Res.map true (Ty.arr .u8 20) false Ty.bool g127 y30, Res.cells ch_0_0 74 [.s ch_0_1 ch_0_2 ch_0_3], Res.row (Ty.prod yi Y69) 71 ch_0_1 ch_0_2 ch_0_3 x1] a w ∧ store_Store_All.l1 k x1 q1 y29 y30 y31 = some r) ?_ ?_ (k := k) ⟨_, none, 0, 0, ([] : List L30), GW.m0, g1, ([] : List ((List Int) × Bool)), x2, (S.sb rfl (.c0 (.c0 (.c0 (.c0 (.c0 .n)))))), h2⟩
  ·rintro a w ⟨m, A2, nn13, cp25, y29, mz25, g127, y30, y31, S, h0⟩
   exact (nomatch (show (none : Option ((List L30))) = some r from h0))
  ·clear S h2
   rintro q1 a w ⟨m, A2, nn13, cp25, y29, mz25, g127, y30, y31, S, h0⟩
   replace h0 : store_Store_All.b1 k x1 (store_Store_All.l1 k x1 q1) y29 y30 y31 = some r := h0
   delta store_Store_All.b1 at h0
   refine wp_seq (c_region (s_move S rfl rfl fun a S => s_bin S rfl rfl rfl rfl fun a S => c_end ?_))
   rcases ite_of h0 with ⟨c2, h1⟩ | ⟨c2, h1⟩
   ·refine c_condT S rfl c2 (wp_skip (x_thenN (wp_seq_k fun K2 hK2 => ?_)))
    have j2 : ∀ m A3 nn18 cp36 y42 mz36 g156 y43 a w, St 58 m b0 [(5, (.s A3 nn18 cp36)), (6, (.v (.map (some g156)))), (0, (.p ch_0_0)), (1, (.i y31))] [Res.row (Ty.atZ mz36 Y30) 30 A3 nn18 cp36 y42, Res.priv mz36, Res.map true (Ty.arr .u8 20) false Ty.bool g156 y43, Res.cells ch_0_0 74 [.s ch_0_1 ch_0_2 ch_0_3], Res.row (Ty.prod yi Y69) 71 ch_0_1 ch_0_2 ch_0_3 x1] a w → store_Store_All.j2 x1 y31 (store_Store_All.l1 k x1 q1) y42 y43 = some r → K2 a w := by
     intro m A3 nn18 cp36 y42 mz36 g156 y43 a w S h0
     delta store_Store_All.j2 at h0
     refine hK2 a w (c_region' (s_move S rfl rfl fun a S => s_nilchk S rfl rfl fun a S => s_fieldAddr S rfl I74_0 T72 (by decide) rfl rfl fun a S => s_load1 S rfl .h3 T72 (v := (.slice ch_0_1 ch_0_2 ch_0_3)) rfl rfl fun a S => s_move S rfl rfl fun a S => ?_))
     obtain ⟨c3, h1⟩ := chk_of h0; clear h0
     refine s_iaddrO S (ty' := (Ty.prod yi Y69)) rfl .h4 rfl underlying72 T71 c3.1 c3.2 rfl fun g157 a hA1 S => s_fieldAddr S rfl I71_0 T3 (by decide) rfl rfl fun a S => s_ldR1 S (ty' := (Ty.prod yi Y69)) (i := y31) (off := 0) (v := (.int .i64 ((gt x1 y31).1))) rfl hA1 .h4 T3 c3.1 c3.2 rfl (fun _ => rfl) rfl fun a S => s_assign S rfl rfl fun a S => c_end' (x_thenN ?_)
     exact ⟨_, A3, nn18, cp36, y42, mz36, g156, y43, ((gt x1 y31).1), (S.sb rfl (.c0 (.c0 (.c0 (.c0 (.c0 .n)))))), h1⟩
    refine wp_block (c_region (s_move S rfl rfl fun a S => s_nilchk S rfl rfl fun a S => s_fieldAddr S rfl I74_0 T72 (by decide) rfl rfl fun a S => s_load1 S rfl .h3 T72 (v := (.slice ch_0_1 ch_0_2 ch_0_3)) rfl rfl fun a S => s_move S rfl rfl fun a S => ?_))
    obtain ⟨c4, h2⟩ := chk_of h1; clear h1
    refine s_iaddrO S (ty' := (Ty.prod yi Y69)) rfl .h4 rfl underlying72 T71 c4.1 c4.2 rfl fun g158 a hA2 S => s_fieldAddr S rfl I71_1 T69 (by decide) rfl rfl fun a S => s_ldRM S (ty' := (Ty.prod yi Y69)) (i := y31) (off := 1) (fun (c : Unit × (Option Nat)) => c.2) rfl hA2 .h4 T69 c4.1 c4.2 rfl (fun _ => rfl) rfl fun mg1 a S => s_range S rfl underlying69 rfl fun g159 a w S => c_end (wp_block ?_)
    refine c_loop (fun q2 a w => ∃ m g184 mg4 y51 cu1 A4 nn22 cp46 y52 mz46 g185 y53, St 58 m b0 [(33, (.p g184)), (5, (.s A4 nn22 cp46)), (6, (.v (.map (some g185)))), (0, (.p ch_0_0)), (1, (.i y31))] [Res.iter true (Ty.arr .u8 20) true Y30 g184 mg4 ((gt x1 y31).2) y51 cu1, Res.row (Ty.atZ mz46 Y30) 30 A4 nn22 cp46 y52, Res.priv mz46, Res.map true (Ty.arr .u8 20) false Ty.bool g185 y53, Res.cells ch_0_0 74 [.s ch_0_1 ch_0_2 ch_0_3], Res.row (Ty.prod yi Y69) 71 ch_0_1 ch_0_2 ch_0_3 x1] a w ∧ store_Store_All.l2 x1 y31 (store_Store_All.l1 k x1 q1) q2 y51 y52 y53 = some r) ?_ ?_ (k := k) ⟨_, g159, mg1, ((gt x1 y31).2), none, A2, nn13, cp25, y29, mz25, g127, y30, (S.sb rfl (.c0 (.c0 (.c0 (.c0 (.c0 (.c0 .n))))))), h2⟩
    ·rintro a w ⟨m, g184, mg4, y51, cu1, A4, nn22, cp46, y52, mz46, g185, y53, S, h0⟩
     exact (nomatch (show (none : Option ((List L30))) = some r from h0))
    ·clear S h2
     rintro q2 a w ⟨m, g184, mg4, y51, cu1, A4, nn22, cp46, y52, mz46, g185, y53, S, h0⟩
     replace h0 : store_Store_All.b2 x1 y31 (store_Store_All.l1 k x1 q1) (store_Store_All.l2 x1 y31 (store_Store_All.l1 k x1 q1) q2) y51 y52 y53 = some r := h0
     delta store_Store_All.b2 at h0
     refine c_region ?_
     refine s_next S rfl (fun _ _ => .h) rfl ?_ ?_
     ·clear S a; intro hR a S
      have h1 := (rng_of h0).1 hR; clear h0
      refine s_extract S rfl rfl rfl rfl fun a S => c_end (wp_seq (c_condF S rfl rfl (wp_exit (x_thenX (x_thenX (x_blockX (x_blockN (x_thenN ?_))))))))
      exact j2 _ A4 nn22 cp46 y52 mz46 g185 y53 a w (S.sb rfl (.c1 (.c1 (.c1 (.c1 (.c1 .n)))))) h1
     ·clear S a w; intro e1 hee1 ch3 ch4 a w S
      have h1 := (rng_of h0).2 e1 hee1; clear h0
      refine s_extract S rfl rfl rfl rfl fun a S => c_end (wp_seq (c_condT S rfl rfl (wp_skip (x_thenN (wp_block (c_region (s_entry S rfl .h rfl fun ch5 ch6 a S => s_extract S rfl rfl rfl rfl fun a S => s_extract S rfl rfl rfl rfl fun a S => s_alloc S Z23 rfl ⟨rfl, trivial⟩ rfl fun g186 a w S => s_alloc S Z30 rfl ⟨rfl, rfl, rfl, rfl, rfl, trivial⟩ rfl fun g187 a w S => s_store S rfl rfl rfl (s' := [.b20 e1.1]) .h1 T23 rfl rfl fun w S => s_store S rfl rfl rfl (s' := [.b20 e1.2.1, .w e1.2.2.1, .w4 e1.2.2.2.1, .q yb ch6.2.2.2.1.1 ch6.2.2.2.1.2 e1.2.2.2.2.1, .q Y66 ch6.2.2.2.2.1 ch6.2.2.2.2.2 e1.2.2.2.2.2]) .h T30 rfl rfl fun w S => c_end (wp_seq_k fun K3 hK3 => ?_))))))))
      have j3 : ∀ m A5 nn23 cp50 y55 mz50 g193 g194 g195 a w, St 58 m b0 [(5, (.s A5 nn23 cp50)), (7, (.p g193)), (33, (.p g194)), (6, (.v (.map (some g195)))), (0, (.p ch_0_0)), (1, (.i y31))] [Res.cells g193 23 [.b20 e1.1], Res.iter true (Ty.arr .u8 20) true Y30 g194 mg4 ((gt x1 y31).2) (adel y51 e1.1) (some e1), Res.row (Ty.atZ mz50 Y30) 30 A5 nn23 cp50 y55, Res.priv mz50, Res.map true (Ty.arr .u8 20) false Ty.bool g195 y53, Res.cells ch_0_0 74 [.s ch_0_1 ch_0_2 ch_0_3], Res.row (Ty.prod yi Y69) 71 ch_0_1 ch_0_2 ch_0_3 x1] a w → store_Store_All.j3 y51 y53 (store_Store_All.l2 x1 y31 (store_Store_All.l1 k x1 q1) q2) e1 y55 = some r → K3 a w := by
       intro m A5 nn23 cp50 y55 mz50 g193 g194 g195 a w S h0
       delta store_Store_All.j3 at h0
       refine hK3 a w (c_region' (s_move S rfl rfl fun a S => s_loada S rfl .h T23 (s' := [.b20 e1.1]) rfl rfl fun a S => s_mapput S (k := e1.1) (y := true) rfl .h4 rfl (fun h => ⟨(), rfl, h⟩) rfl (fun h => ⟨(), rfl, h, trivial⟩) underlying78 KT23 fun w S => c_end' (x_blockN (x_thenN ?_))))
       exact ⟨_, g194, mg4, (adel y51 e1.1), (some e1), A5, nn23, cp50, y55, mz50, g195, (aput y53 e1.1 true), (S.sb rfl (.c1 (.c1 (.c1 (.c1 (.c1 (.c1 .n))))))), h0⟩
      refine wp_seq_k fun K4 hK4 => ?_
      have j4 : ∀ m y56 g196 g197 g198 g199 A6 cp51 A7 cp52 a w, St 58 m b0 [(47, (.b y56)), (8, (.p g196)), (7, (.p g197)), (33, (.p g198)), (5, (.s A4 nn22 cp46)), (6, (.v (.map (some g199)))), (0, (.p ch_0_0)), (1, (.i y31))] [Res.cells g196 30 (Y30.segs e1.2 ((), (), (), (A6, cp51), (A7, cp52))), Res.cells g197 23 [.b20 e1.1], Res.iter true (Ty.arr .u8 20) true Y30 g198 mg4 ((gt x1 y31).2) (adel y51 e1.1) (some e1), Res.row (Ty.atZ mz46 Y30) 30 A4 nn22 cp46 y52, Res.priv mz46, Res.map true (Ty.arr .u8 20) false Ty.bool g199 y53, Res.cells ch_0_0 74 [.s ch_0_1 ch_0_2 ch_0_3], Res.row (Ty.prod yi Y69) 71 ch_0_1 ch_0_2 ch_0_3 x1] a w → store_Store_All.j4 y51 y52 y53 (store_Store_All.l2 x1 y31 (store_Store_All.l1 k x1 q1) q2) e1 y56 = some r → K4 a w := by
       intro m y56 g196 g197 g198 g199 A6 cp51 A7 cp52 a w S h0
       delta store_Store_All.j4 at h0
       refine hK4 a w ?_
       rcases ite_of h0 with ⟨c5, h1⟩ | ⟨c5, h1⟩
       ·refine c_condT S rfl c5 (c_region' (s_move S rfl rfl fun a S => s_loada S rfl .h T30 (s' := (Y30.segs e1.2 ((), (), (), (A6, cp51), (A7, cp52)))) rfl rfl fun a S => bindX h1 fun t6 et6 h2 => s_callX S (ds' := [(.agg (Y30.segs e1.2 ((), (), (), (A6, cp51), (A7, cp52))))]) (ds := [(.agg (Y30.segs e1.2 ((), (), (), (A6, cp51), (A7, cp52))))]) [] [Res.cells g196 30 (Y30.segs e1.2 ((), (), (), (A6, cp51), (A7, cp52))), Res.cells g197 23 [.b20 e1.1], Res.iter true (Ty.arr .u8 20) true Y30 g198 mg4 ((gt x1 y31).2) (adel y51 e1.1) (some e1), Res.row (Ty.atZ mz46 Y30) 30 A4 nn22 cp46 y52, Res.priv mz46, Res.map true (Ty.arr .u8 20) false Ty.bool g199 y53, Res.cells ch_0_0 74 [.s ch_0_1 ch_0_2 ch_0_3], Res.row (Ty.prod yi Y69) 71 ch_0_1 ch_0_2 ch_0_3 x1] (fun (ch : (Option Addr) × Nat × Nat × (Option Addr) × Nat × Nat) => ((.agg [.b20 t6.1, .w t6.2.1, .w4 t6.2.2.1, .s ch.1 ch.2.1 ch.2.2.1, .s ch.2.2.2.1 ch.2.2.2.2.1 ch.2.2.2.2.2]) : D)) (fun (ch : (Option Addr) × Nat × Nat × (Option Addr) × Nat × Nat) => [Res.row yb 5 ch.1 ch.2.1 ch.2.2.1 t6.2.2.2.1, Res.row Y66 66 ch.2.2.2.1 ch.2.2.2.2.1 ch.2.2.2.2.2 t6.2.2.2.2]) (fun (ch : (Option Addr) × Nat × Nat × (Option Addr) × Nat × Nat) => [Res.row yb 5 ch.1 ch.2.1 ch.2.2.1 t6.2.2.2.1, Res.row Y66 66 ch.2.2.2.1 ch.2.2.2.2.1 ch.2.2.2.2.2 t6.2.2.2.2, Res.cells g196 30 (Y30.segs e1.2 ((), (), (), (A6, cp51), (A7, cp52))), Res.cells g197 23 [.b20 e1.1], Res.iter true (Ty.arr .u8 20) true Y30 g198 mg4 ((gt x1 y31).2) (adel y51 e1.1) (some e1), Res.row (Ty.atZ mz46 Y30) 30 A4 nn22 cp46 y52, Res.priv mz46, Res.map true (Ty.arr .u8 20) false Ty.bool g199 y53, Res.cells ch_0_0 74 [.s ch_0_1 ch_0_2 ch_0_3], Res.row (Ty.prod yi Y69) 71 ch_0_1 ch_0_2 ch_0_3 x1]) (fun _ => rfl) N33 rfl rfl (fun ok => ok) (.c0 (.c0 (.c0 (.c0 (.c0 (.c0 (.c0 (.c0 .n)))))))) rfl (store_own.ok e1.2 A6 cp51 A7 cp52 t6 et6 _ _) fun ch8 m le1 a w S => ?_))
        replace S := S.privnew
        replace S := S.privrow flatT_int .h1 (fun _ => .h)
        obtain ⟨mz51, le2, S, hro⟩ := S
        replace S := S.slot (u := 50) (d' := (.agg [.b20 t6.1, .w t6.2.1, .w4 t6.2.2.1, .sl ch8.1 (t6.2.2.2.1).length ch8.2.2.1 (atR mz51 (RdS yb ch8.1 t6.2.2.2.1)), .s ch8.2.2.2.1 ch8.2.2.2.2.1 ch8.2.2.2.2.2])) rfl (by simp [D.val, pd, cellsOf, Seg.cells, hro.2.1]) (by have h := (S.get 50 (.agg [.b20 t6.1, .w t6.2.1, .w4 t6.2.2.1, .s ch8.1 ch8.2.1 ch8.2.2.1, .s ch8.2.2.2.1 ch8.2.2.2.2.1 ch8.2.2.2.2.2]) rfl).2; exact ⟨h.1, h.2.1, h.2.2.1, (okz_of hro _), h.2.2.2.2.1, trivial⟩)
        replace S := S.privrow (flatT_prod flatT_arr flatT_arr) .h1 (fun _ => .h)
        obtain ⟨mz52, le2, S, hro⟩ := S
        replace S := S.slot (u := 50) (d' := (.agg [.b20 t6.1, .w t6.2.1, .w4 t6.2.2.1, .sl ch8.1 (t6.2.2.2.1).length ch8.2.2.1 (atR mz52 (RdS yb ch8.1 t6.2.2.2.1)), .s ch8.2.2.2.1 ch8.2.2.2.2.1 ch8.2.2.2.2.2])) rfl rfl (by have h := (S.get 50 (.agg [.b20 t6.1, .w t6.2.1, .w4 t6.2.2.1, .sl ch8.1 (t6.2.2.2.1).length ch8.2.2.1 (atR mz51 (RdS yb ch8.1 t6.2.2.2.1)), .s ch8.2.2.2.1 ch8.2.2.2.2.1 ch8.2.2.2.2.2]) rfl).2; exact ⟨h.1, h.2.1, h.2.2.1, (okz_up le2 h.2.2.2.1), h.2.2.2.2.1, trivial⟩)
        replace S := S.slot (u := 50) (d' := (.agg [.b20 t6.1, .w t6.2.1, .w4 t6.2.2.1, .sl ch8.1 (t6.2.2.2.1).length ch8.2.2.1 (atR mz52 (RdS yb ch8.1 t6.2.2.2.1)), .sl ch8.2.2.2.1 (t6.2.2.2.2).length ch8.2.2.2.2.2 (atR mz52 (RdS Y66 ch8.2.2.2.1 t6.2.2.2.2))])) rfl (by simp [D.val, pd, cellsOf, Seg.cells, hro.2.1]) (by have h := (S.get 50 (.agg [.b20 t6.1, .w t6.2.1, .w4 t6.2.2.1, .sl ch8.1 (t6.2.2.2.1).length ch8.2.2.1 (atR mz52 (RdS yb ch8.1 t6.2.2.2.1)), .s ch8.2.2.2.1 ch8.2.2.2.2.1 ch8.2.2.2.2.2]) rfl).2; exact ⟨h.1, h.2.1, h.2.2.1, h.2.2.2.1, (okz_of hro _), trivial⟩)
        refine s_bldSl S (ty' := (Ty.atZ mz52 Y30)) (ds := [(0, (.agg ((Ty.atZ mz52 Y30).segs t6 ((), (), (), (ch8.1, ch8.2.2.1), (ch8.2.2.2.1, ch8.2.2.2.2.2)))))]) (z := zt1) (c0 := ((), (), (), (none, 0), (none, 0))) (ys := [t6]) (cs := [((), (), (), (ch8.1, ch8.2.2.1), (ch8.2.2.2.1, ch8.2.2.2.2.2))]) rfl underlying32 J30 Z30 rfl ⟨rfl, rfl, rfl, okz_nil, okz_nil, trivial⟩ rfl rfl rfl rfl rfl rfl fun g200 a w S => ?_
        replace S := S.zmerge .h1 (fun _ => .h5)
        obtain ⟨mz53, le2, le3, S⟩ := S
        replace S := S.zup (Z' := mz53) .h4 le2
        replace S := S.zup (Z' := mz53) .h le3
        replace S := S.slot (u := 50) (d' := (.agg ((Ty.atZ mz53 Y30).segs t6 ((), (), (), (ch8.1, ch8.2.2.1), (ch8.2.2.2.1, ch8.2.2.2.2.2))))) rfl rfl (by have h := (S.get 50 (.agg ((Ty.atZ mz52 Y30).segs t6 ((), (), (), (ch8.1, ch8.2.2.1), (ch8.2.2.2.1, ch8.2.2.2.2.2)))) rfl).2; exact ⟨h.1, h.2.1, h.2.2.1, (okz_up le3 h.2.2.2.1), (okz_up le3 h.2.2.2.2.1), trivial⟩)
        obtain ⟨c6, h3⟩ := chk_of h2; clear h2
        refine s_app S (k2 := 1) (ys := [t6]) rfl (fun _ _ => .h4) rfl rfl (S.holds _ (Pull.mem .h).1).1 (Res.row.src (S.holds _ (Pull.mem .h).1)) underlying32 J30 c6 rfl fun A8 cp53 a w S => s_assign S rfl rfl fun a S => c_end' (x_thenN ?_)
        exact j3 _ A8 (nn22 + 1) cp53 (y52 ++ [t6]) mz53 g197 g198 g199 a w (S.sb rfl (.c2 (.c2 (.c2 (.c2 (.c2 (.c2 (.c2 .n)))))))) h3
       ·refine c_condF S rfl c5 (wp_skip (x_thenN ?_))
        exact j3 _ A4 nn22 cp46 y52 mz46 g197 g198 g199 a w (S.sb rfl (.c1 (.c1 (.c1 (.c1 (.c1 (.c1 (.c1 .n)))))))) h1
      refine c_region' (s_move S rfl rfl fun a S => s_loada S rfl .h1 T23 (s' := [.b20 e1.1]) rfl rfl fun a S => s_lookO1 S (z := false) (k := e1.1) rfl .h5 () rfl (fun h => ⟨(), rfl, h⟩) underlying78 KT23 Z4 ⟨rfl, trivial⟩ (fun x c h => ⟨rfl, h.1⟩) rfl fun ch9 a S => s_not S rfl rfl fun a S => s_move S rfl rfl fun a S => ?_)
      rcases ite_of h1 with ⟨c7, h2⟩ | ⟨c7, h2⟩
      ·refine s_gT S (b := (!((lk (aget y53 e1.1) false).1))) rfl rfl c7 (s_loada S rfl .h T30 (s' := (Y30.segs e1.2 ch6)) rfl rfl fun a S => s_gT S (b := (!((lk (aget y53 e1.1) false).1))) rfl rfl c7 (bindX h2 fun t7 et7 h3 => s_callP S _ N12 rfl rfl (store_Empty.ok e1.2 ch6.2.2.2.1.1 ch6.2.2.2.1.2 ch6.2.2.2.2.1 ch6.2.2.2.2.2 t7 et7 _ _) fun ch10 m le1 a w S => s_gT S (b := (!((lk (aget y53 e1.1) false).1))) rfl rfl c7 (s_not S rfl rfl fun a S => s_pick S (b := true) (hc_of rfl c7) rfl rfl fun a S => c_end' (x_thenN ?_))))
       exact j4 _ (!t7) g187 g186 g184 g185 ch6.2.2.2.1.1 ch6.2.2.2.1.2 ch6.2.2.2.2.1 ch6.2.2.2.2.2 a w (S.sb rfl (.c0 (.c0 (.c0 (.c0 (.c0 (.c0 (.c0 (.c0 .n))))))))) h3
      ·refine s_gF S (b := (!((lk (aget y53 e1.1) false).1))) rfl rfl c7 rfl fun a S => s_gF S (b := (!((lk (aget y53 e1.1) false).1))) rfl rfl c7 rfl fun a S => s_gF S (b := (!((lk (aget y53 e1.1) false).1))) rfl rfl c7 rfl fun a S => s_pick S (b := false) (hc_of rfl c7) rfl rfl fun a S => c_end' (x_thenN ?_)
       exact j4 _ false g187 g186 g184 g185 ch6.2.2.2.1.1 ch6.2.2.2.1.2 ch6.2.2.2.2.1 ch6.2.2.2.2.2 a w (S.sb rfl (.c0 (.c0 (.c0 (.c0 (.c0 (.c0 (.c0 (.c0 .n))))))))) h2
   ·refine c_condF S rfl c2 (wp_exit (x_thenX (x_thenX (x_blockX (x_thenN ?_)))))
    exact j1 _ A2 nn13 cp25 y29 mz25 a w (S.sub ⟨rfl, trivial⟩ (.c0 (.c0 (.c1 (.c1 .n))))) h1
abbrev store_Store_Commit_2z.Ty : Type := L72 → Int → (List L30) → Option (Int × Int × L72)
def store_Store_Commit_2z.Ctr (s : store_Store_Commit_2z.Ty) : Prop := ∀ (x1 : L72) (x2 : Int) (x3 : List L30) (ch_0_0 : Nat) (ch_0_1 : Option Addr) (ch_0_2 : Nat) (ch_0_3 : Nat) (ch_2_0 : Option Addr) (ch_2_1 : Nat) (ch_2_2 : Nat) (ch_2_3 : Mem) (r : Int × Int × L72), Ct (C := ((Option Addr) × Nat × Nat)) Try.prog 16 (s x1 x2 x3 = some r) [Res.cells ch_0_0 74 [.s ch_0_1 ch_0_2 ch_0_3], Res.row (Ty.prod yi Y69) 71 ch_0_1 ch_0_2 ch_0_3 x1, Res.row (Ty.atZ ch_2_3 Y30) 30 ch_2_0 ch_2_1 ch_2_2 x3, Res.priv ch_2_3] [(.p ch_0_0), (.i x2), (.s ch_2_0 ch_2_1 ch_2_2)] (fun _ => (.tup [(false, [.i r.1]), (false, [.i r.2.1])])) fun ch => [Res.cells ch_0_0 74 [.s ch.1 ch.2.1 ch.2.2], Res.row (Ty.prod yi Y69) 71 ch.1 ch.2.1 ch.2.2 r.2.2, Res.row (Ty.atZ ch_2_3 Y30) 30 ch_2_0 ch_2_1 ch_2_2 x3, Res.priv ch_2_3]
def store_Store_Commit_2z.j1 (x1 : L72) (x2 : Int) (y1 : List ((List Int) × L30)) : Option (Int × Int × L72) := if ((x1).length + ([(x2, y1)]).length) * 16 ≤ 140737488355328 then (some (wr .i64 (((x1 ++ [(x2, y1)]).length : Int) - 1), 0, (x1 ++ [(x2, y1)]))) else none
def store_Store_Commit_2z.b1 (x1 : L72) (x2 : Int) (x3 : List L30) (rec1 : Int → (List ((List Int) × L30)) → Option (Int × Int × L72)) (y4 : Int) (y5 : List ((List Int) × L30)) : Option (Int × Int × L72) := if (decide (y4 < ((x3).length : Int))) = true then (if (0 : Int) ≤ y4 ∧ y4 < ((x3).length : Int) then ((store_own.f (gt x3 y4)).bind fun t5 => (rec1 (wr .i64 (y4 + 1)) (aput y5 ((gt x3 y4).1) t5))) else none) else (store_Store_Commit_2z.j1 x1 x2 y5)
def store_Store_Commit_2z.l1 (x1 : L72) (x2 : Int) (x3 : List L30) : Nat → Int → (List ((List Int) × L30)) → Option (Int × Int × L72)
  | 0, _, _ => none
  | q + 1, y4, y5 => store_Store_Commit_2z.b1 x1 x2 x3 (store_Store_Commit_2z.l1 x1 x2 x3 q) y4 y5
def store_Store_Commit_2z.f (k : Nat) (x1 : L72) (x2 : Int) (x3 : List L30) : Option (Int × Int × L72) := (store_Store_has.f (x1) x2).bind fun t1 => (if (!t1) = true then (some (0, 12, (x1))) else ((api_Account_n31_1f32.f k x3).bind fun t2 => (if t2 = true then (some (0, 1, (x1))) else (if (((x1).length : Int) == 1048576) = true then (some (0, 11, (x1))) else (store_Store_Commit_2z.l1 x1 x2 x3 k 0 ([] : List ((List Int) × L30)))))))
theorem store_Store_Commit_2z.ok (k : Nat) : store_Store_Commit_2z.Ctr (store_Store_Commit_2z.f k) := by
 intro x1 x2 x3 ch_0_0 ch_0_1 ch_0_2 ch_0_3 ch_2_0 ch_2_1 ch_2_2 ch_2_3 r h0 mi w0 ok hm
 delta store_Store_Commit_2z.f at h0
 refine c_enterZ (n := 61) ok hm func16 rfl rfl rfl fun b0 hb a S => c_region (s_assign S rfl rfl fun a S => s_assign S rfl rfl fun a S => c_end (wp_seq (wp_block (c_region (s_move S rfl rfl fun a S => s_eqp S (b := false) rfl rfl underlying36 rfl rfl fun a S => s_assign S rfl rfl fun a S => c_end (c_condF S rfl rfl (c_region (s_move S rfl rfl fun a S => s_move S rfl rfl fun a S => bindX h0 fun t1 et1 h1 => s_callX S (ds' := [(.p ch_0_0), (.i x2)]) (ds := [(.p ch_0_0), (.i x2)]) [Res.cells ch_0_0 74 [.s ch_0_1 ch_0_2 ch_0_3], Res.row (Ty.prod yi Y69) 71 ch_0_1 ch_0_2 ch_0_3 x1] [Res.row (Ty.atZ ch_2_3 Y30) 30 ch_2_0 ch_2_1 ch_2_2 x3, Res.priv ch_2_3] (fun (ch : Unit) => ((.b t1) : D)) (fun (ch : Unit) => [Res.cells ch_0_0 74 [.s ch_0_1 ch_0_2 ch_0_3], Res.row (Ty.prod yi Y69) 71 ch_0_1 ch_0_2 ch_0_3 x1]) (fun (ch : Unit) => [Res.cells ch_0_0 74 [.s ch_0_1 ch_0_2 ch_0_3], Res.row (Ty.prod yi Y69) 71 ch_0_1 ch_0_2 ch_0_3 x1, Res.row (Ty.atZ ch_2_3 Y30) 30 ch_2_0 ch_2_1 ch_2_2 x3, Res.priv ch_2_3]) (fun _ => rfl) N30 rfl rfl (fun ok => ok) (.c0 (.c0 (.c0 (.c0 .n)))) rfl (store_Store_has.ok (x1) x2 ch_0_0 ch_0_1 ch_0_2 ch_0_3 t1 et1 _ _) fun ch1 m le1 a w S => s_not S rfl rfl fun a S => s_assign S rfl rfl fun a S => c_end ?_))))))))
 rcases ite_of h1 with ⟨c1, h2⟩ | ⟨c1, h2⟩
 ·refine c_condT S rfl c1 (c_region (s_assign S rfl rfl fun a S => s_assign S rfl rfl fun a S => c_end (wp_ret (x_blockR (x_thenR ?_)))))
  obtain rfl := Option.some.inj h2
  exact b_ret2 (d1 := (.i 0)) (d2 := (.i 12)) S rfl rfl rfl fun ok1 ok2 => S.retX (Hx := []) hb _ _ ((ch_0_1, ch_0_2, ch_0_3) : (Option Addr) × Nat × Nat) (.c0 (.c0 (.c0 (.c0 .n)))) ⟨⟨ok1, trivial⟩, ⟨ok2, trivial⟩, trivial⟩
 ·refine c_condF S rfl c1 (c_region (s_move S rfl rfl fun a S => bindX h2 fun t2 et2 h3 => s_callL S (ds' := [(.s ch_2_0 ch_2_1 ch_2_2), (.v (.func (.func 32) #[] #[]))]) (ds := [(.q Y30 ch_2_0 ch_2_2 x3), (.v (.func (.func 32) #[] #[]))]) (fun (ch : Unit) => ((.b t2) : D)) (fun _ _ _ h => h) (by obtain ⟨mm, g1, gZ, g2, g3⟩ := S.zlend .h3 .h2; exact ⟨mm, g1, g2, fun ok => ⟨⟨by have := g3.2.1; omega, g3.2.2, g3.1.1, RdS.mono _ _ _⟩, ok.2.1, trivial⟩⟩) N31 rfl (congrArg (fun z => [Value.slice ch_2_0 z ch_2_2, D.val (.v (.func (.func 32) #[] #[]))]) (S.holds _ (Pull.mem .h2).1).1.symm) rfl (fun _ => api_Account_n31_1f32.ok k x3 ch_2_0 ch_2_2 t2 et2 _ _) fun ch2 a w S => s_assign S rfl rfl fun a S => c_end ?_))
  rcases ite_of h3 with ⟨c2, h4⟩ | ⟨c2, h4⟩
  ·refine c_condT S rfl c2 (c_region (s_assign S rfl rfl fun a S => s_assign S rfl rfl fun a S => c_end (wp_ret (x_blockR (x_thenR ?_)))))
   obtain rfl := Option.some.inj h4
   exact b_ret2 (d1 := (.i 0)) (d2 := (.i 1)) S rfl rfl rfl fun ok1 ok2 => S.retX (Hx := []) hb _ _ ((ch_0_1, ch_0_2, ch_0_3) : (Option Addr) × Nat × Nat) (.c0 (.c0 (.c0 (.c0 .n)))) ⟨⟨ok1, trivial⟩, ⟨ok2, trivial⟩, trivial⟩
  ·refine c_condF S rfl c2 (c_region (s_move S rfl rfl fun a S => s_nilchk S rfl rfl fun a S => s_fieldAddr S rfl I74_0 T72 (by decide) rfl rfl fun a S => s_load1 S rfl .h T72 (v := (.slice ch_0_1 ch_0_2 ch_0_3)) rfl rfl fun a S => s_lenO S rfl .h1 underlying72 rfl fun a S => s_bin S rfl rfl rfl rfl fun a S => s_assign S rfl rfl fun a S => c_end ?_))
   rcases ite_of h4 with ⟨c3, h5⟩ | ⟨c3, h5⟩
   ·refine c_condT S rfl c3 (c_region (s_assign S rfl rfl fun a S => s_assign S rfl rfl fun a S => c_end (wp_ret (x_blockR (x_thenR ?_)))))
    obtain rfl := Option.some.inj h5
    exact b_ret2 (d1 := (.i 0)) (d2 := (.i 11)) S rfl rfl rfl fun ok1 ok2 => S.retX (Hx := []) hb _ _ ((ch_0_1, ch_0_2, ch_0_3) : (Option Addr) × Nat × Nat) (.c0 (.c0 (.c0 (.c0 .n)))) ⟨⟨ok1, trivial⟩, ⟨ok2, trivial⟩, trivial⟩
   ·refine c_condF S rfl c3 (wp_skip (x_blockN (x_thenN (c_region (s_move S rfl rfl fun a S => s_makeMap S true (Ty.arr .u8 20) true Y30 rfl fun g1 a w S => s_bldS S (ds := [(0, (.i x2)), (1, (.v (.map (some g1))))]) (zs := [.i 0, .one (.map none)]) (s' := [.i x2, .one (.map (some g1))]) rfl underlying71 P71 Z71 ⟨rfl, rfl, trivial⟩ rfl rfl fun a S => s_alloc S Z71 rfl ⟨rfl, rfl, trivial⟩ rfl fun g2 a w S => s_store S rfl rfl rfl (s' := [.i x2, .one (.map (some g1))]) .h T71 rfl rfl fun w S => c_end (wp_seq_k fun K1 hK1 => ?_))))))
    have j1 : ∀ m g13 g14 y1 a w, St 61 m b0 [(8, (.p g13)), (0, (.p ch_0_0))] [Res.cells g13 71 [.i x2, .one (.map (some g14))], Res.map true (Ty.arr .u8 20) true Y30 g14 y1, Res.cells ch_0_0 74 [.s ch_0_1 ch_0_2 ch_0_3], Res.row (Ty.prod yi Y69) 71 ch_0_1 ch_0_2 ch_0_3 x1, Res.row (Ty.atZ ch_2_3 Y30) 30 ch_2_0 ch_2_1 ch_2_2 x3, Res.priv ch_2_3] a w → store_Store_Commit_2z.j1 x1 x2 y1 = some r → K1 a w := by
     intro m g13 g14 y1 a w S h0
     delta store_Store_Commit_2z.j1 at h0
     refine hK1 a w ?_
     refine wp_seq (c_heldS S (.take 0 (.take 1 (.take 2 (.take 3 (.take 4 (.alts (.run 5 true (.alts (.run 6 true (.alts (.run 7 true (.take 8 (.take 9 (.alts (.run 10 false .done .nil)))) .nil)) .nil)) .nil))))))) 10 [Res.cells ch_0_0 74 [.s ch_0_1 ch_0_2 ch_0_3]] (.c2 .n) ⟨Res.stay_cells, trivial⟩ [(0, (.p ch_0_0))] ⟨rfl, trivial⟩ (by kernel_rfl) (by kernel_rfl) ?_); clear S; intro w S CL hw le
     refine h_move S CL hw le ⟨rfl, trivial⟩ rfl rfl rfl trivial fun a S CL => h_move S CL hw le (subR rfl) rfl rfl rfl trivial fun a S CL => h_nilchk S CL hw le (subR rfl) rfl rfl rfl rfl trivial fun a S CL => h_fieldAddr S CL hw le (subR rfl) rfl I74_0 T72 (by decide) rfl rfl rfl trivial fun a S CL => h_load1 S CL hw le (subR rfl) rfl .h T72 (v := (.slice ch_0_1 ch_0_2 ch_0_3)) rfl rfl rfl trivial fun a S CL => h_run' S rfl trivial (s_loada S rfl .h T71 (s' := [.i x2, .one (.map (some g14))]) rfl rfl fun a S => CL.bk hw S (.c2 .n) le fun hw => h_run' S rfl trivial ?_)
     replace S := S.mapfro .h1
     obtain ⟨m, le1, S, hro⟩ := S
     replace le := le.trans le1
     replace S := S.slot (u := 50) (d' := (.agg [.i x2, .rf (.map (some g14)) (RdM true (Ty.arr .u8 20) true Y30 (some g14) y1)])) rfl rfl (by have h := (S.get 50 (.agg [.i x2, .one (.map (some g14))]) rfl).2; exact ⟨h.1, (okm_of hro), trivial⟩)
     replace S := S.cellro (s' := [.i x2, .rf (.map (some g14)) (RdM true (Ty.arr .u8 20) true Y30 (some g14) y1)]) .h rfl (fun h => ⟨h.1, (okm_of hro), trivial⟩)
     refine s_bldSl S (ty' := (Ty.prod yi Y69)) (ds := [(0, (.agg [.i x2, .rf (.map (some g14)) (RdM true (Ty.arr .u8 20) true Y30 (some g14) y1)]))]) (z := (0, ([] : List ((List Int) × L30)))) (c0 := ((), none)) (ys := [(x2, y1)]) (cs := [((), (some g14))]) rfl underlying72 J71 Z71 rfl ⟨rfl, okm_nil, trivial⟩ rfl rfl rfl rfl rfl rfl fun g15 a w S => CL.bk hw S (.c2 .n) le fun hw => h_run' S rfl trivial ?_
     obtain ⟨c4, h1⟩ := chk_of h0; clear h0
     refine s_app S (k2 := 1) (ys := [(x2, y1)]) rfl (fun _ _ => .h3) rfl rfl (S.holds _ (Pull.mem .h).1).1 (Res.row.src (S.holds _ (Pull.mem .h).1)) underlying72 J71 c4 rfl fun A1 cp1 a w S => CL.bk hw S (.c2 .n) le fun hw => h_nilchk S CL hw le (subR rfl) rfl rfl rfl rfl trivial fun a S CL => h_fieldAddr S CL hw le (subR rfl) rfl I74_0 T72 (by decide) rfl rfl rfl trivial fun a S CL => h_run' S rfl trivial (s_store S rfl rfl rfl (s' := [.s A1 (ch_0_2 + 1) cp1]) .h2 T72 rfl rfl fun w S => ?_)
     refine h_back ⟨fun h => (nomatch h), ?_⟩
     refine h_done ?_; clear CL hw le
     refine x_thenN (c_region (s_move S rfl rfl fun a S => s_nilchk S rfl rfl fun a S => s_fieldAddr S rfl I74_0 T72 (by decide) rfl rfl fun a S => s_load1 S rfl .h2 T72 (v := (.slice A1 (ch_0_2 + 1) cp1)) rfl rfl fun a S => s_lenO S rfl .h3 underlying72 rfl fun a S => s_bin S rfl rfl rfl rfl fun a S => s_assign S rfl rfl fun a S => s_assign S rfl rfl fun a S => c_end (wp_ret ?_)))
     obtain rfl := Option.some.inj h1
     exact b_ret2 (d1 := (.i (wr .i64 (((x1 ++ [(x2, y1)]).length : Int) - 1)))) (d2 := (.i 0)) S rfl rfl rfl fun ok1 ok2 => S.retX (Hx := []) hb _ _ ((A1, ch_0_2 + 1, cp1) : (Option Addr) × Nat × Nat) (.c2 (.c2 (.c2 (.c2 .n)))) ⟨⟨ok1, trivial⟩, ⟨ok2, trivial⟩, trivial⟩
    refine c_region (s_move S rfl rfl fun a S => s_lenO S rfl .h4 underlying32 rfl fun a S => s_move S rfl rfl fun a S => c_end (wp_block ?_))
    refine c_loop (fun q1 a w => ∃ m y4 g24 g25 y5, St 61 m b0 [(34, (.i y4)), (33, (.i ((x3).length : Int))), (32, (.s ch_2_0 ch_2_1 ch_2_2)), (8, (.p g24)), (0, (.p ch_0_0))] [Res.cells g24 71 [.i x2, .one (.map (some g25))], Res.map true (Ty.arr .u8 20) true Y30 g25 y5, Res.cells ch_0_0 74 [.s ch_0_1 ch_0_2 ch_0_3], Res.row (Ty.prod yi Y69) 71 ch_0_1 ch_0_2 ch_0_3 x1, Res.row (Ty.atZ ch_2_3 Y30) 30 ch_2_0 ch_2_1 ch_2_2 x3, Res.priv ch_2_3] a w ∧ store_Store_Commit_2z.l1 x1 x2 x3 q1 y4 y5 = some r) ?_ ?_ (k := k) ⟨_, 0, g2, g1, ([] : List ((List Int) × L30)), (S.sb rfl (.c0 (.c0 (.c0 (.c0 (.c0 (.c0 .n))))))), h5⟩
    ·rintro a w ⟨m, y4, g24, g25, y5, S, h0⟩
     exact (nomatch (show (none : Option (Int × Int × L72)) = some r from h0))
    ·clear S h5
     rintro q1 a w ⟨m, y4, g24, g25, y5, S, h0⟩
     replace h0 : store_Store_Commit_2z.b1 x1 x2 x3 (store_Store_Commit_2z.l1 x1 x2 x3 q1) y4 y5 = some r := h0
     delta store_Store_Commit_2z.b1 at h0
     refine c_region (s_bin S rfl rfl rfl rfl fun a S => c_end (wp_seq ?_))
     rcases ite_of h0 with ⟨c5, h1⟩ | ⟨c5, h1⟩
     ·refine c_condT S rfl c5 (wp_skip (x_thenN (wp_seq (wp_block (c_region ?_)))))
      obtain ⟨c6, h2⟩ := chk_of h1; clear h1
      refine s_iaddrO S (ty' := (Ty.atZ ch_2_3 Y30)) rfl .h4 rfl underlying32 T30 c6.1 c6.2 rfl fun g26 a hA1 S => s_ldRA S (ty' := (Ty.atZ ch_2_3 Y30)) (i := y4) (off := 0) (fun c => ((Ty.atZ ch_2_3 Y30).segs (gt x3 y4) c)) rfl hA1 .h4 T30 c6.1 c6.2 rfl (fun _ => rfl) rfl fun ch7 a S => ?_
      refine s_alloc S Z30 rfl ⟨rfl, rfl, rfl, rfl, rfl, trivial⟩ rfl fun g27 a w S => s_store S rfl rfl rfl (s' := [.b20 ((gt x3 y4).1), .w ((gt x3 y4).2.1), .w4 ((gt x3 y4).2.2.1), .sl ch7.2.2.2.1.1 ((gt x3 y4).2.2.2.1).length ch7.2.2.2.1.2 (atR ch_2_3 (RdS yb ch7.2.2.2.1.1 ((gt x3 y4).2.2.2.1))), .sl ch7.2.2.2.2.1 ((gt x3 y4).2.2.2.2).length ch7.2.2.2.2.2 (atR ch_2_3 (RdS Y66 ch7.2.2.2.2.1 ((gt x3 y4).2.2.2.2)))]) .h T30 rfl rfl fun w S => c_end (c_heldS S (.take 0 (.take 1 (.take 2 (.take 3 (.take 4 (.alts (.run 5 true (.alts (.run 6 true .done .nil)) .nil))))))) 7 [Res.cells g27 30 ((Ty.atZ ch_2_3 Y30).segs (gt x3 y4) ch7), Res.cells g24 71 [.i x2, .one (.map (some g25))], Res.cells ch_0_0 74 [.s ch_0_1 ch_0_2 ch_0_3]] (.c0 (.c0 (.c1 .n))) ⟨Res.stay_cells, Res.stay_cells, Res.stay_cells, trivial⟩ [(10, (.p g27)), (8, (.p g24))] (subR rfl) (by kernel_rfl) (by kernel_rfl) fun w S CL hw le => ?_)
      refine h_fieldAddr S CL hw le (subR rfl) rfl I71_1 T69 (by decide) rfl rfl rfl trivial fun a S CL => h_load1 S CL hw le (subR rfl) rfl .h1 T69 (v := (.map (some g25))) rfl rfl rfl trivial fun a S CL => h_fieldAddr S CL hw le (subR rfl) rfl I30_0 T23 (by decide) rfl rfl rfl trivial fun a S CL => h_loada S CL hw le (subR rfl) rfl .h T23 (s' := [.b20 ((gt x3 y4).1)]) rfl rfl rfl trivial fun a S CL => h_loada S CL hw le (subR rfl) rfl .h T30 (s' := ((Ty.atZ ch_2_3 Y30).segs (gt x3 y4) ch7)) rfl rfl rfl trivial fun a S CL => h_run' S rfl trivial (bindX h2 fun t5 et5 h3 => s_callLX S (ds' := [(.agg ((Ty.atZ ch_2_3 Y30).segs (gt x3 y4) ch7))]) (ds := [(.agg (Y30.segs (gt x3 y4) ch7))]) (fun (ch : (Option Addr) × Nat × Nat × (Option Addr) × Nat × Nat) => ((.agg [.b20 t5.1, .w t5.2.1, .w4 t5.2.2.1, .s ch.1 ch.2.1 ch.2.2.1, .s ch.2.2.2.1 ch.2.2.2.2.1 ch.2.2.2.2.2]) : D)) (fun (ch : (Option Addr) × Nat × Nat × (Option Addr) × Nat × Nat) => [Res.row yb 5 ch.1 ch.2.1 ch.2.2.1 t5.2.2.2.1, Res.row Y66 66 ch.2.2.2.1 ch.2.2.2.2.1 ch.2.2.2.2.2 t5.2.2.2.2]) (fun _ _ _ h => h) (fun _ => ⟨Res.row_flat flatT_int, Res.row_flat (flatT_prod flatT_arr flatT_arr), trivial⟩) (by obtain ⟨mm, g1, gZ, g2⟩ := S.plend .h6; exact ⟨mm, g1, g2, fun ok => ⟨(okA_lend gZ ok.1), trivial⟩⟩) N33 rfl rfl rfl (fun _ => store_own.ok (gt x3 y4) ch7.2.2.2.1.1 ch7.2.2.2.1.2 ch7.2.2.2.2.1 ch7.2.2.2.2.2 t5 et5 _ _) fun ch8 a w S => CL.bk hw S (.c2 (.c2 (.c3 .n))) le fun hw => h_run' S rfl trivial ?_)
      replace S := S.rowfro .h
      obtain ⟨m, le1, S, hro⟩ := S
      replace le := le.trans le1
      replace S := S.slot (u := 43) (d' := (.agg [.b20 t5.1, .w t5.2.1, .w4 t5.2.2.1, .q yb ch8.1 ch8.2.2.1 t5.2.2.2.1, .s ch8.2.2.2.1 ch8.2.2.2.2.1 ch8.2.2.2.2.2])) rfl (by simp [D.val, pd, cellsOf, Seg.cells, hro.2.1]) (by have h := (S.get 43 (.agg [.b20 t5.1, .w t5.2.1, .w4 t5.2.2.1, .s ch8.1 ch8.2.1 ch8.2.2.1, .s ch8.2.2.2.1 ch8.2.2.2.2.1 ch8.2.2.2.2.2]) rfl).2; exact ⟨h.1, h.2.1, h.2.2.1, ⟨by have := hro.2.2.1; omega, hro.2.2.2, hro.1, RdS.mono _ _ _⟩, h.2.2.2.2.1, trivial⟩)
      replace S := S.rowfro .h
      obtain ⟨m, le1, S, hro⟩ := S
      replace le := le.trans le1
      replace S := S.slot (u := 43) (d' := (.agg [.b20 t5.1, .w t5.2.1, .w4 t5.2.2.1, .q yb ch8.1 ch8.2.2.1 t5.2.2.2.1, .q Y66 ch8.2.2.2.1 ch8.2.2.2.2.2 t5.2.2.2.2])) rfl (by simp [D.val, pd, cellsOf, Seg.cells, hro.2.1]) (by have h := (S.get 43 (.agg [.b20 t5.1, .w t5.2.1, .w4 t5.2.2.1, .q yb ch8.1 ch8.2.2.1 t5.2.2.2.1, .s ch8.2.2.2.1 ch8.2.2.2.2.1 ch8.2.2.2.2.2]) rfl).2; exact ⟨h.1, h.2.1, h.2.2.1, h.2.2.2.1, ⟨by have := hro.2.2.1; omega, hro.2.2.2, hro.1, RdS.mono _ _ _⟩, trivial⟩)
      refine s_mapput S (k := ((gt x3 y4).1)) (y := t5) rfl .h2 rfl (fun h => ⟨(), rfl, h⟩) rfl (fun h => ⟨((), (), (), (ch8.1, ch8.2.2.1), (ch8.2.2.2.1, ch8.2.2.2.2.2)), rfl, h⟩) underlying69 KT23 fun w S => CL.bk hw S (.c0 (.c0 (.c1 .n))) le fun hw => ?_
      refine h_done ?_; clear CL hw le
      refine x_blockN (x_thenN (c_region' (s_bin S rfl rfl rfl rfl fun a S => s_move S rfl rfl fun a S => c_end' (x_thenN ?_))))
      exact ⟨_, (wr .i64 (y4 + 1)), g24, g25, (aput y5 ((gt x3 y4).1) t5), (S.sb rfl (.c1 (.c1 (.c1 (.c1 (.c1 (.c1 .n))))))), h3⟩
     ·refine c_condF S rfl c5 (wp_exit (x_thenX (x_thenX (x_blockX (x_thenN ?_)))))
      exact j1 _ g24 g25 y5 a w (S.sb rfl (.c0 (.c0 (.c0 (.c0 (.c0 (.c0 .n))))))) h1
abbrev smithyref13_Same.Ty : Type := (L30) → (L30) → Option Bool
def smithyref13_Same.Ctr (s : smithyref13_Same.Ty) : Prop := ∀ (x1 : L30) (x2 : L30) (ch_0_0 : Option Addr) (ch_0_1 : Nat) (ch_0_2 : Option Addr) (ch_0_3 : Nat) (ch_1_0 : Option Addr) (ch_1_1 : Nat) (ch_1_2 : Option Addr) (ch_1_3 : Nat) (r : Bool), Ct (C := Unit) Try.prog 21 (s x1 x2 = some r) [] [(.agg (Y30.segs x1 ((), (), (), (ch_0_0, ch_0_1), (ch_0_2, ch_0_3)))), (.agg (Y30.segs x2 ((), (), (), (ch_1_0, ch_1_1), (ch_1_2, ch_1_3))))] (fun _ => (.b r)) fun _ => []
def smithyref13_Same.j2 : Option Bool := some true
def smithyref13_Same.b1 (x1 : L30) (x2 : L30) (rec1 : Int → Option Bool) (y5 : Int) : Option Bool := if (decide (y5 < ((x1.2.2.2.2).length : Int))) = true then (if (0 : Int) ≤ y5 ∧ y5 < ((x1.2.2.2.2).length : Int) then (if (0 : Int) ≤ y5 ∧ y5 < ((x2.2.2.2.2).length : Int) then (if (!(decide (gt x1.2.2.2.2 y5 = gt x2.2.2.2.2 y5))) = true then (some false) else (rec1 (wr .i64 (y5 + 1)))) else none) else none) else smithyref13_Same.j2
def smithyref13_Same.l1 (x1 : L30) (x2 : L30) : Nat → Int → Option Bool
  | 0, _ => none
  | q + 1, y5 => smithyref13_Same.b1 x1 x2 (smithyref13_Same.l1 x1 x2 q) y5
def smithyref13_Same.j1 (k : Nat) (x1 : L30) (x2 : L30) (y1 : Bool) : Option Bool := if y1 = true then (some false) else (smithyref13_Same.l1 x1 x2 k 0)
def smithyref13_Same.f (k : Nat) (x1 : L30) (x2 : L30) : Option Bool := if (!(decide (x1.1 = x2.1))) = true then (smithyref13_Same.j1 k x1 x2 true) else (if (x1.2.1 != x2.2.1) = true then (smithyref13_Same.j1 k x1 x2 true) else (if (!(decide (x1.2.2.1 = x2.2.2.1))) = true then (smithyref13_Same.j1 k x1 x2 true) else (if (!((bstr x1.2.2.2.1).toList == (bstr x2.2.2.2.1).toList)) = true then (smithyref13_Same.j1 k x1 x2 true) else (smithyref13_Same.j1 k x1 x2 (((x1.2.2.2.2).length : Int) != ((x2.2.2.2.2).length : Int))))))
theorem smithyref13_Same.ok (k : Nat) : smithyref13_Same.Ctr (smithyref13_Same.f k) := by
 intro x1 x2 ch_0_0 ch_0_1 ch_0_2 ch_0_3 ch_1_0 ch_1_1 ch_1_2 ch_1_3 r h0 mi w0 ok hm
 delta smithyref13_Same.f at h0
 refine c_enterZ (n := 61) ok hm func21 rfl rfl rfl fun b0 hb a S => c_region (s_box S rfl rfl rfl fun g1 a w S => s_box S rfl rfl rfl fun g2 a w S => s_assign S rfl rfl fun a S => c_end (wp_seq (wp_seq_k fun K1 hK1 => ?_)))
 have j1 : ∀ m y1 g3 g4 a w, St 61 m b0 [(42, (.b y1)), (3, (.p g3)), (2, (.p g4))] [Res.cells g3 30 (Y30.segs x2 ((), (), (), (ch_1_0, ch_1_1), (ch_1_2, ch_1_3))), Res.cells g4 30 (Y30.segs x1 ((), (), (), (ch_0_0, ch_0_1), (ch_0_2, ch_0_3)))] a w → smithyref13_Same.j1 k x1 x2 y1 = some r → K1 a w := by
  intro m y1 g3 g4 a w S h0
  delta smithyref13_Same.j1 at h0
  refine hK1 a w ?_
  rcases ite_of h0 with ⟨c1, h1⟩ | ⟨c1, h1⟩
  ·refine c_condT S rfl c1 (c_region (s_assign S rfl rfl fun a S => c_end (wp_ret (x_thenR ?_))))
   obtain rfl := Option.some.inj h1
   exact b_ret1 (d := (.b false)) S rfl rfl (S.rt hb)
  ·refine c_condF S rfl c1 (wp_skip (x_thenN (wp_seq_k fun K2 hK2 => ?_)))
   have j2 : ∀ m a w, St 61 m b0 [] [] a w → smithyref13_Same.j2 = some r → K2 a w := by
    intro m a w S h0
    delta smithyref13_Same.j2 at h0
    refine hK2 a w (c_region (s_assign S rfl rfl fun a S => c_end (wp_ret ?_)))
    obtain rfl := Option.some.inj h0
    exact b_ret1 (d := (.b true)) S rfl rfl (S.rt hb)
   refine c_region (s_fieldAddr S rfl I30_4 T28 (by decide) rfl rfl fun a S => s_loadSl S rfl .h1 T28 (A := ch_0_2) (len := (x1.2.2.2.2).length) (cap := ch_0_3) rfl rfl fun a S => s_lenS S rfl underlying28 rfl fun a S => s_move S rfl rfl fun a S => c_end (wp_block ?_))
   refine c_loop (fun q1 a w => ∃ m y5 g15 g16, St 61 m b0 [(46, (.i y5)), (45, (.i ((x1.2.2.2.2).length : Int))), (3, (.p g15)), (2, (.p g16))] [Res.cells g15 30 (Y30.segs x2 ((), (), (), (ch_1_0, ch_1_1), (ch_1_2, ch_1_3))), Res.cells g16 30 (Y30.segs x1 ((), (), (), (ch_0_0, ch_0_1), (ch_0_2, ch_0_3)))] a w ∧ smithyref13_Same.l1 x1 x2 q1 y5 = some r) ?_ ?_ (k := k) ⟨_, 0, g3, g4, (S.sb rfl (.c0 (.c0 .n))), h1⟩
   ·rintro a w ⟨m, y5, g15, g16, S, h0⟩
    exact (nomatch (show (none : Option Bool) = some r from h0))
   ·clear S h1
    rintro q1 a w ⟨m, y5, g15, g16, S, h0⟩
    replace h0 : smithyref13_Same.b1 x1 x2 (smithyref13_Same.l1 x1 x2 q1) y5 = some r := h0
    delta smithyref13_Same.b1 at h0
    refine c_region (s_bin S rfl rfl rfl rfl fun a S => c_end (wp_seq ?_))
    rcases ite_of h0 with ⟨c2, h1⟩ | ⟨c2, h1⟩
    ·refine c_condT S rfl c2 (wp_skip (x_thenN (wp_seq (wp_block (c_region (s_move S rfl rfl fun a S => s_assign S rfl rfl fun a S => c_end ?_))))))
     refine wp_seq (c_heldS S (.take 0 (.take 1 (.take 2 (.take 3 (.take 4 (.take 5 (.take 6 (.take 7 (.take 8 (.take 9 (.take 10 .done))))))))))) 11 [Res.cells g15 30 (Y30.segs x2 ((), (), (), (ch_1_0, ch_1_1), (ch_1_2, ch_1_3))), Res.cells g16 30 (Y30.segs x1 ((), (), (), (ch_0_0, ch_0_1), (ch_0_2, ch_0_3)))] (.c0 (.c0 .n)) ⟨Res.stay_cells, Res.stay_cells, trivial⟩ [(5, (.i y5)), (3, (.p g15)), (2, (.p g16))] (subR rfl) (by kernel_rfl) (by kernel_rfl) ?_); clear S; intro w S CL hw le
     refine h_fieldAddr S CL hw le (subR rfl) rfl I30_4 T28 (by decide) rfl rfl rfl trivial fun a S CL => h_loadSl S CL hw le (subR rfl) rfl .h1 T28 (A := ch_0_2) (len := (x1.2.2.2.2).length) (cap := ch_0_3) rfl rfl rfl trivial fun a S CL => h_move S CL hw le (subR rfl) rfl rfl rfl trivial fun a S CL => ?_
     obtain ⟨c3, h2⟩ := chk_of h1; clear h1
     refine h_iaddrS S CL hw le (subR rfl) rfl rfl rfl underlying28 T66 c3.1 c3.2 rfl rfl trivial fun p1 a S CL => h_ldA S CL hw le (subR rfl) (fun (c : Unit × Unit) => [.w4 ((gt x1.2.2.2.2 y5).1), .w4 ((gt x1.2.2.2.2 y5).2)]) rfl T66 (fun _ => rfl) rfl rfl trivial fun ch1 a S CL => ?_
     refine h_fieldAddr S CL hw le (subR rfl) rfl I30_4 T28 (by decide) rfl rfl rfl trivial fun a S CL => h_loadSl S CL hw le (subR rfl) rfl .h T28 (A := ch_1_2) (len := (x2.2.2.2.2).length) (cap := ch_1_3) rfl rfl rfl trivial fun a S CL => h_move S CL hw le (subR rfl) rfl rfl rfl trivial fun a S CL => ?_
     obtain ⟨c4, h3⟩ := chk_of h2; clear h2
     refine h_iaddrS S CL hw le (subR rfl) rfl rfl rfl underlying28 T66 c4.1 c4.2 rfl rfl trivial fun p2 a S CL => h_ldA S CL hw le (subR rfl) (fun (c : Unit × Unit) => [.w4 ((gt x2.2.2.2.2 y5).1), .w4 ((gt x2.2.2.2.2 y5).2)]) rfl T66 (fun _ => rfl) rfl rfl trivial fun ch2 a S CL => ?_
     refine h_neS S CL hw le (subR rfl) (ty' := Y66) (p := gt x1.2.2.2.2 y5) (q := gt x2.2.2.2.2 y5) ((), ()) ((), ()) rfl rfl E66 rfl Q66 rfl rfl trivial fun a S CL => ?_
     refine h_done ?_; clear CL hw le
     refine x_thenN ?_
     rcases ite_of h3 with ⟨c5, h4⟩ | ⟨c5, h4⟩
     ·refine c_condT S rfl c5 (c_region (s_assign S rfl rfl fun a S => c_end (wp_ret (x_blockR (x_thenR (x_thenR (x_blockR (x_thenR ?_))))))))
      obtain rfl := Option.some.inj h4
      exact b_ret1 (d := (.b false)) S rfl rfl (S.rt hb)
     ·refine c_condF S rfl c5 (wp_skip (x_blockN (x_thenN (c_region' (s_bin S rfl rfl rfl rfl fun a S => s_move S rfl rfl fun a S => c_end' (x_thenN ?_))))))
      exact ⟨_, (wr .i64 (y5 + 1)), g15, g16, (S.sb rfl (.c0 (.c0 .n))), h4⟩
    ·refine c_condF S rfl c2 (wp_exit (x_thenX (x_thenX (x_blockX (x_thenN ?_)))))
     exact j2 _ a w (S.sub trivial .nil) h1
 refine c_region' (s_fieldAddr S rfl I30_0 T23 (by decide) rfl rfl fun a S => s_loada S rfl .h1 T23 (s' := [.b20 x1.1]) rfl rfl fun a S => s_fieldAddr S rfl I30_0 T23 (by decide) rfl rfl fun a S => s_loada S rfl .h T23 (s' := [.b20 x2.1]) rfl rfl fun a S => s_nea S rfl rfl underlying23 underlying5 T5 Q23 rfl fun a S => s_move S rfl rfl fun a S => ?_)
 rcases ite_of h0 with ⟨c6, h1⟩ | ⟨c6, h1⟩
 ·refine s_gF S (b := (!(decide (x1.1 = x2.1)))) rfl rfl c6 rfl fun a S => s_gF S (b := (!(decide (x1.1 = x2.1)))) rfl rfl c6 rfl fun a S => s_gF S (b := (!(decide (x1.1 = x2.1)))) rfl rfl c6 rfl fun a S => s_gF S (b := (!(decide (x1.1 = x2.1)))) rfl rfl c6 rfl fun a S => s_gF S (b := (!(decide (x1.1 = x2.1)))) rfl rfl c6 rfl fun a S => s_pick S (b := true) (hc_of rfl c6) rfl rfl fun a S => s_move S rfl rfl fun a S => s_gF S (b := true) rfl rfl rfl rfl fun a S => s_gF S (b := true) rfl rfl rfl rfl fun a S => s_gF S (b := true) rfl rfl rfl rfl fun a S => s_gF S (b := true) rfl rfl rfl rfl fun a S => s_gF S (b := true) rfl rfl rfl rfl fun a S => s_pick S (b := true) (hc_of rfl rfl) rfl rfl fun a S => s_move S rfl rfl fun a S => s_gF S (b := true) rfl rfl rfl rfl fun a S => s_gF S (b := true) rfl rfl rfl rfl fun a S => s_gF S (b := true) rfl rfl rfl rfl fun a S => s_gF S (b := true) rfl rfl rfl rfl fun a S => s_gF S (b := true) rfl rfl rfl rfl fun a S => s_gF S (b := true) rfl rfl rfl rfl fun a S => s_gF S (b := true) rfl rfl rfl rfl fun a S => s_pick S (b := true) (hc_of rfl rfl) rfl rfl fun a S => s_move S rfl rfl fun a S => s_gF S (b := true) rfl rfl rfl rfl fun a S => s_gF S (b := true) rfl rfl rfl rfl fun a S => s_gF S (b := true) rfl rfl rfl rfl fun a S => s_gF S (b := true) rfl rfl rfl rfl fun a S => s_gF S (b := true) rfl rfl rfl rfl fun a S => s_gF S (b := true) rfl rfl rfl rfl fun a S => s_gF S (b := true) rfl rfl rfl rfl fun a S => s_pick S (b := true) (hc_of rfl rfl) rfl rfl fun a S => c_end' (x_thenN ?_)
  exact j1 _ true g2 g1 a w (S.sb rfl (.c0 (.c0 .n))) h1
 ·refine s_gT S (b := (!(decide (x1.1 = x2.1)))) rfl rfl c6 (s_fieldAddr S rfl I30_1 T24 (by decide) rfl rfl fun a S => s_gT S (b := (!(decide (x1.1 = x2.1)))) rfl rfl c6 (s_load1 S rfl .h1 T24 (v := (.int .u64 x1.2.1)) rfl rfl fun a S => s_gT S (b := (!(decide (x1.1 = x2.1)))) rfl rfl c6 (s_fieldAddr S rfl I30_1 T24 (by decide) rfl rfl fun a S => s_gT S (b := (!(decide (x1.1 = x2.1)))) rfl rfl c6 (s_load1 S rfl .h T24 (v := (.int .u64 x2.2.1)) rfl rfl fun a S => s_gT S (b := (!(decide (x1.1 = x2.1)))) rfl rfl c6 (s_bin S rfl rfl rfl rfl fun a S => s_pick S (b := false) (hc_of rfl c6) rfl rfl fun a S => s_move S rfl rfl fun a S => ?_)))))
  rcases ite_of h1 with ⟨c7, h2⟩ | ⟨c7, h2⟩
  ·refine s_gF S (b := (x1.2.1 != x2.2.1)) rfl rfl c7 rfl fun a S => s_gF S (b := (x1.2.1 != x2.2.1)) rfl rfl c7 rfl fun a S => s_gF S (b := (x1.2.1 != x2.2.1)) rfl rfl c7 rfl fun a S => s_gF S (b := (x1.2.1 != x2.2.1)) rfl rfl c7 rfl fun a S => s_gF S (b := (x1.2.1 != x2.2.1)) rfl rfl c7 rfl fun a S => s_pick S (b := true) (hc_of rfl c7) rfl rfl fun a S => s_move S rfl rfl fun a S => s_gF S (b := true) rfl rfl rfl rfl fun a S => s_gF S (b := true) rfl rfl rfl rfl fun a S => s_gF S (b := true) rfl rfl rfl rfl fun a S => s_gF S (b := true) rfl rfl rfl rfl fun a S => s_gF S (b := true) rfl rfl rfl rfl fun a S => s_gF S (b := true) rfl rfl rfl rfl fun a S => s_gF S (b := true) rfl rfl rfl rfl fun a S => s_pick S (b := true) (hc_of rfl rfl) rfl rfl fun a S => s_move S rfl rfl fun a S => s_gF S (b := true) rfl rfl rfl rfl fun a S => s_gF S (b := true) rfl rfl rfl rfl fun a S => s_gF S (b := true) rfl rfl rfl rfl fun a S => s_gF S (b := true) rfl rfl rfl rfl fun a S => s_gF S (b := true) rfl rfl rfl rfl fun a S => s_gF S (b := true) rfl rfl rfl rfl fun a S => s_gF S (b := true) rfl rfl rfl rfl fun a S => s_pick S (b := true) (hc_of rfl rfl) rfl rfl fun a S => c_end' (x_thenN ?_)
   exact j1 _ true g2 g1 a w (S.sb rfl (.c0 (.c0 .n))) h2
  ·refine s_gT S (b := (x1.2.1 != x2.2.1)) rfl rfl c7 (s_fieldAddr S rfl I30_2 T26 (by decide) rfl rfl fun a S => s_gT S (b := (x1.2.1 != x2.2.1)) rfl rfl c7 (s_loada S rfl .h1 T26 (s' := [.w4 x1.2.2.1]) rfl rfl fun a S => s_gT S (b := (x1.2.1 != x2.2.1)) rfl rfl c7 (s_fieldAddr S rfl I30_2 T26 (by decide) rfl rfl fun a S => s_gT S (b := (x1.2.1 != x2.2.1)) rfl rfl c7 (s_loada S rfl .h T26 (s' := [.w4 x2.2.2.1]) rfl rfl fun a S => s_gT S (b := (x1.2.1 != x2.2.1)) rfl rfl c7 (s_nea S rfl rfl underlying26 underlying24 T24 Q26 rfl fun a S => s_pick S (b := false) (hc_of rfl c7) rfl rfl fun a S => s_move S rfl rfl fun a S => ?_)))))
   rcases ite_of h2 with ⟨c8, h3⟩ | ⟨c8, h3⟩
   ·refine s_gF S (b := (!(decide (x1.2.2.1 = x2.2.2.1)))) rfl rfl c8 rfl fun a S => s_gF S (b := (!(decide (x1.2.2.1 = x2.2.2.1)))) rfl rfl c8 rfl fun a S => s_gF S (b := (!(decide (x1.2.2.1 = x2.2.2.1)))) rfl rfl c8 rfl fun a S => s_gF S (b := (!(decide (x1.2.2.1 = x2.2.2.1)))) rfl rfl c8 rfl fun a S => s_gF S (b := (!(decide (x1.2.2.1 = x2.2.2.1)))) rfl rfl c8 rfl fun a S => s_gF S (b := (!(decide (x1.2.2.1 = x2.2.2.1)))) rfl rfl c8 rfl fun a S => s_gF S (b := (!(decide (x1.2.2.1 = x2.2.2.1)))) rfl rfl c8 rfl fun a S => s_pick S (b := true) (hc_of rfl c8) rfl rfl fun a S => s_move S rfl rfl fun a S => s_gF S (b := true) rfl rfl rfl rfl fun a S => s_gF S (b := true) rfl rfl rfl rfl fun a S => s_gF S (b := true) rfl rfl rfl rfl fun a S => s_gF S (b := true) rfl rfl rfl rfl fun a S => s_gF S (b := true) rfl rfl rfl rfl fun a S => s_gF S (b := true) rfl rfl rfl rfl fun a S => s_gF S (b := true) rfl rfl rfl rfl fun a S => s_pick S (b := true) (hc_of rfl rfl) rfl rfl fun a S => c_end' (x_thenN ?_)
    exact j1 _ true g2 g1 a w (S.sb rfl (.c0 (.c0 .n))) h3
   ·refine s_gT S (b := (!(decide (x1.2.2.1 = x2.2.2.1)))) rfl rfl c8 (s_fieldAddr S rfl I30_3 T27 (by decide) rfl rfl fun a S => s_gT S (b := (!(decide (x1.2.2.1 = x2.2.2.1)))) rfl rfl c8 (s_loadSl S rfl .h1 T27 (A := ch_0_0) (len := (x1.2.2.2.1).length) (cap := ch_0_1) rfl rfl fun a S => s_gT S (b := (!(decide (x1.2.2.1 = x2.2.2.1)))) rfl rfl c8 (s_strS S rfl rfl underlying27 underlying5 underlying9 rfl fun a S => s_gT S (b := (!(decide (x1.2.2.1 = x2.2.2.1)))) rfl rfl c8 (s_fieldAddr S rfl I30_3 T27 (by decide) rfl rfl fun a S => s_gT S (b := (!(decide (x1.2.2.1 = x2.2.2.1)))) rfl rfl c8 (s_loadSl S rfl .h T27 (A := ch_1_0) (len := (x2.2.2.2.1).length) (cap := ch_1_1) rfl rfl fun a S => s_gT S (b := (!(decide (x1.2.2.1 = x2.2.2.1)))) rfl rfl c8 (s_strS S rfl rfl underlying27 underlying5 underlying9 rfl fun a S => s_gT S (b := (!(decide (x1.2.2.1 = x2.2.2.1)))) rfl rfl c8 (s_neT S rfl rfl rfl fun a S => s_pick S (b := false) (hc_of rfl c8) rfl rfl fun a S => s_move S rfl rfl fun a S => ?_)))))))
    rcases ite_of h3 with ⟨c9, h4⟩ | ⟨c9, h4⟩
    ·refine s_gF S (b := (!((bstr x1.2.2.2.1).toList == (bstr x2.2.2.2.1).toList))) rfl rfl c9 rfl fun a S => s_gF S (b := (!((bstr x1.2.2.2.1).toList == (bstr x2.2.2.2.1).toList))) rfl rfl c9 rfl fun a S => s_gF S (b := (!((bstr x1.2.2.2.1).toList == (bstr x2.2.2.2.1).toList))) rfl rfl c9 rfl fun a S => s_gF S (b := (!((bstr x1.2.2.2.1).toList == (bstr x2.2.2.2.1).toList))) rfl rfl c9 rfl fun a S => s_gF S (b := (!((bstr x1.2.2.2.1).toList == (bstr x2.2.2.2.1).toList))) rfl rfl c9 rfl fun a S => s_gF S (b := (!((bstr x1.2.2.2.1).toList == (bstr x2.2.2.2.1).toList))) rfl rfl c9 rfl fun a S => s_gF S (b := (!((bstr x1.2.2.2.1).toList == (bstr x2.2.2.2.1).toList))) rfl rfl c9 rfl fun a S => s_pick S (b := true) (hc_of rfl c9) rfl rfl fun a S => c_end' (x_thenN ?_)
     exact j1 _ true g2 g1 a w (S.sb rfl (.c0 (.c0 .n))) h4
    ·refine s_gT S (b := (!((bstr x1.2.2.2.1).toList == (bstr x2.2.2.2.1).toList))) rfl rfl c9 (s_fieldAddr S rfl I30_4 T28 (by decide) rfl rfl fun a S => s_gT S (b := (!((bstr x1.2.2.2.1).toList == (bstr x2.2.2.2.1).toList))) rfl rfl c9 (s_loadSl S rfl .h1 T28 (A := ch_0_2) (len := (x1.2.2.2.2).length) (cap := ch_0_3) rfl rfl fun a S => s_gT S (b := (!((bstr x1.2.2.2.1).toList == (bstr x2.2.2.2.1).toList))) rfl rfl c9 (s_lenS S rfl underlying28 rfl fun a S => s_gT S (b := (!((bstr x1.2.2.2.1).toList == (bstr x2.2.2.2.1).toList))) rfl rfl c9 (s_fieldAddr S rfl I30_4 T28 (by decide) rfl rfl fun a S => s_gT S (b := (!((bstr x1.2.2.2.1).toList == (bstr x2.2.2.2.1).toList))) rfl rfl c9 (s_loadSl S rfl .h T28 (A := ch_1_2) (len := (x2.2.2.2.2).length) (cap := ch_1_3) rfl rfl fun a S => s_gT S (b := (!((bstr x1.2.2.2.1).toList == (bstr x2.2.2.2.1).toList))) rfl rfl c9 (s_lenS S rfl underlying28 rfl fun a S => s_gT S (b := (!((bstr x1.2.2.2.1).toList == (bstr x2.2.2.2.1).toList))) rfl rfl c9 (s_bin S rfl rfl rfl rfl fun a S => s_pick S (b := false) (hc_of rfl c9) rfl rfl fun a S => c_end' (x_thenN ?_))))))))
     exact j1 _ (((x1.2.2.2.2).length : Int) != ((x2.2.2.2.2).length : Int)) g2 g1 a w (S.sb rfl (.c0 (.c0 .n))) h4
abbrev smithyref13_SameAll.Ty : Type := (List L30) → (List L30) → Option Bool
def smithyref13_SameAll.Ctr (s : smithyref13_SameAll.Ty) : Prop := ∀ (x1 : List L30) (x2 : List L30) (ch_0_0 : Option Addr) (ch_0_1 : Nat) (ch_1_0 : Option Addr) (ch_1_1 : Nat) (r : Bool), Ct (C := Unit) Try.prog 19 (s x1 x2 = some r) [] [(.q Y30 ch_0_0 ch_0_1 x1), (.q Y30 ch_1_0 ch_1_1 x2)] (fun _ => (.b r)) fun _ => []
def smithyref13_SameAll.j1 : Option Bool := some true
def smithyref13_SameAll.b1 (k : Nat) (x1 : List L30) (x2 : List L30) (rec1 : Int → Option Bool) (y1 : Int) : Option Bool := if (decide (y1 < ((x1).length : Int))) = true then (if (0 : Int) ≤ y1 ∧ y1 < ((x1).length : Int) then (if (0 : Int) ≤ y1 ∧ y1 < ((x2).length : Int) then ((smithyref13_Same.f k (gt x1 y1) (gt x2 y1)).bind fun t1 => (if (!t1) = true then (some false) else (rec1 (wr .i64 (y1 + 1))))) else none) else none) else smithyref13_SameAll.j1
def smithyref13_SameAll.l1 (k : Nat) (x1 : List L30) (x2 : List L30) : Nat → Int → Option Bool
  | 0, _ => none
  | q + 1, y1 => smithyref13_SameAll.b1 k x1 x2 (smithyref13_SameAll.l1 k x1 x2 q) y1
def smithyref13_SameAll.f (k : Nat) (x1 : List L30) (x2 : List L30) : Option Bool := if (((x1).length : Int) != ((x2).length : Int)) = true then (some false) else (smithyref13_SameAll.l1 k x1 x2 k 0)
theorem smithyref13_SameAll.ok (k : Nat) : smithyref13_SameAll.Ctr (smithyref13_SameAll.f k) := by
 intro x1 x2 ch_0_0 ch_0_1 ch_1_0 ch_1_1 r h0 mi w0 ok hm
 delta smithyref13_SameAll.f at h0
 refine c_enterZ (n := 27) ok hm func19 rfl rfl rfl fun b0 hb a S => c_region (s_assign S rfl rfl fun a S => c_end (wp_seq (c_region (s_move S rfl rfl fun a S => s_lenS S rfl underlying32 rfl fun a S => s_move S rfl rfl fun a S => s_lenS S rfl underlying32 rfl fun a S => s_bin S rfl rfl rfl rfl fun a S => c_end ?_))))
 rcases ite_of h0 with ⟨c1, h1⟩ | ⟨c1, h1⟩
 ·refine c_condT S rfl c1 (c_region (s_assign S rfl rfl fun a S => c_end (wp_ret (x_thenR ?_))))
  obtain rfl := Option.some.inj h1
  exact b_ret1 (d := (.b false)) S rfl rfl (S.rt hb)
 ·refine c_condF S rfl c1 (wp_skip (x_thenN (wp_seq_k fun K1 hK1 => ?_)))
  have j1 : ∀ m a w, St 27 m b0 [] [] a w → smithyref13_SameAll.j1 = some r → K1 a w := by
   intro m a w S h0
   delta smithyref13_SameAll.j1 at h0
   refine hK1 a w (c_region (s_assign S rfl rfl fun a S => c_end (wp_ret ?_)))
   obtain rfl := Option.some.inj h0
   exact b_ret1 (d := (.b true)) S rfl rfl (S.rt hb)
  refine c_region (s_move S rfl rfl fun a S => s_lenS S rfl underlying32 rfl fun a S => s_move S rfl rfl fun a S => c_end (wp_block ?_))
  refine c_loop (fun q1 a w => ∃ m y1, St 27 m b0 [(13, (.i y1)), (12, (.i ((x1).length : Int))), (0, (.q Y30 ch_0_0 ch_0_1 x1)), (1, (.q Y30 ch_1_0 ch_1_1 x2))] [] a w ∧ smithyref13_SameAll.l1 k x1 x2 q1 y1 = some r) ?_ ?_ (k := k) ⟨_, 0, (S.sb rfl .nil), h1⟩
  ·rintro a w ⟨m, y1, S, h0⟩
   exact (nomatch (show (none : Option Bool) = some r from h0))
  ·clear S h1
   rintro q1 a w ⟨m, y1, S, h0⟩
   replace h0 : smithyref13_SameAll.b1 k x1 x2 (smithyref13_SameAll.l1 k x1 x2 q1) y1 = some r := h0
   delta smithyref13_SameAll.b1 at h0
   refine c_region (s_bin S rfl rfl rfl rfl fun a S => c_end (wp_seq ?_))
   rcases ite_of h0 with ⟨c2, h1⟩ | ⟨c2, h1⟩
   ·refine c_condT S rfl c2 (wp_skip (x_thenN (wp_seq (wp_block (c_region (s_move S rfl rfl fun a S => s_assign S rfl rfl fun a S => c_end ?_))))))
    refine wp_seq (c_heldS S (.take 0 (.take 1 (.take 2 (.take 3 (.take 4 (.take 5 (.take 6 (.take 7 (.alts (.run 8 true (.take 9 .done) .nil)))))))))) 10 [] .nil trivial [(5, (.i y1)), (0, (.q Y30 ch_0_0 ch_0_1 x1)), (1, (.q Y30 ch_1_0 ch_1_1 x2))] (subR rfl) (by kernel_rfl) (by kernel_rfl) ?_); clear S; intro w S CL hw le
    refine h_move S CL hw le (subR rfl) rfl rfl rfl trivial fun a S CL => h_move S CL hw le (subR rfl) rfl rfl rfl trivial fun a S CL => ?_
    obtain ⟨c3, h2⟩ := chk_of h1; clear h1
    refine h_iaddrS S CL hw le (subR rfl) rfl rfl rfl underlying32 T30 c3.1 c3.2 rfl rfl trivial fun p1 a S CL => h_ldA S CL hw le (subR rfl) (fun (c : Unit × Unit × Unit × (Option Addr × Nat) × (Option Addr × Nat)) => (Y30.segs (gt x1 y1) c)) rfl T30 (fun _ => rfl) rfl rfl trivial fun ch1 a S CL => ?_
    refine h_move S CL hw le (subR rfl) rfl rfl rfl trivial fun a S CL => h_move S CL hw le (subR rfl) rfl rfl rfl trivial fun a S CL => ?_
    obtain ⟨c4, h3⟩ := chk_of h2; clear h2
    refine h_iaddrS S CL hw le (subR rfl) rfl rfl rfl underlying32 T30 c4.1 c4.2 rfl rfl trivial fun p2 a S CL => h_ldA S CL hw le (subR rfl) (fun (c : Unit × Unit × Unit × (Option Addr × Nat) × (Option Addr × Nat)) => (Y30.segs (gt x2 y1) c)) rfl T30 (fun _ => rfl) rfl rfl trivial fun ch2 a S CL => ?_
    refine h_run' S rfl trivial (bindX h3 fun t1 et1 h4 => s_callP S _ N21 rfl rfl (smithyref13_Same.ok k (gt x1 y1) (gt x2 y1) ch1.2.2.2.1.1 ch1.2.2.2.1.2 ch1.2.2.2.2.1 ch1.2.2.2.2.2 ch2.2.2.2.1.1 ch2.2.2.2.1.2 ch2.2.2.2.2.1 ch2.2.2.2.2.2 t1 et1 _ _) fun ch3 m le1 a w S => ?_)
    replace le := le.trans le1
    refine CL.bk hw S .nil le fun hw => ?_
    replace CL := CL.add (t := 24) (d := (.b t1)) S rfl rfl
    refine h_not S CL hw le (subR rfl) rfl rfl rfl trivial fun a S CL => ?_
    refine h_done ?_; clear CL hw le
    refine x_thenN ?_
    rcases ite_of h4 with ⟨c5, h5⟩ | ⟨c5, h5⟩
    ·refine c_condT S rfl c5 (c_region (s_assign S rfl rfl fun a S => c_end (wp_ret (x_blockR (x_thenR (x_thenR (x_blockR (x_thenR ?_))))))))
     obtain rfl := Option.some.inj h5
     exact b_ret1 (d := (.b false)) S rfl rfl (S.rt hb)
    ·refine c_condF S rfl c5 (wp_skip (x_blockN (x_thenN (c_region' (s_bin S rfl rfl rfl rfl fun a S => s_move S rfl rfl fun a S => c_end' (x_thenN ?_))))))
     exact ⟨_, (wr .i64 (y1 + 1)), (S.sb rfl .nil), h5⟩
   ·refine c_condF S rfl c2 (wp_exit (x_thenX (x_thenX (x_blockX (x_thenN ?_)))))
    exact j1 _ a w (S.sub trivial .nil) h1
end
end GW
