import Derived.Test.YtldbgghcailgfaaProg
import Derived.Test.YtldbgghcailgfaaGB
set_option linter.unusedVariables false
set_option linter.unusedSimpArgs false
set_option maxRecDepth 10000
set_option maxHeartbeats 4000000
namespace GW
open Go Go.RowKit Go.Proofs Go.Proofs.Try
noncomputable section
abbrev bits_Len64.Ty : Type := Int → Option Int
def bits_Len64.Ctr (s : bits_Len64.Ty) : Prop := ∀ (x1 : Int) (r : Int), Ct (C := Unit) Try.prog 59 (s x1 = some r) [] [(.w x1)] (fun _ => (.i r)) fun _ => []
def bits_Len64.j3 (y5 : Int) (y6 : Int) : Option Int := if (0 : Int) ≤ (wr .u8 y6) ∧ (wr .u8 y6) < (txt0.size : Int) then (some (wr .i64 (y5 + (wr .i64 (bt txt0 (wr .u8 y6)))))) else none
def bits_Len64.j2 (y3 : Int) (y4 : Int) : Option Int := if (decide (256 ≤ y4)) = true then (bits_Len64.j3 (wr .i64 (y3 + 8)) (shr y4 8)) else (bits_Len64.j3 y3 y4)
def bits_Len64.j1 (y1 : Int) (y2 : Int) : Option Int := if (decide (65536 ≤ y2)) = true then (bits_Len64.j2 (wr .i64 (y1 + 16)) (shr y2 16)) else (bits_Len64.j2 y1 y2)
def bits_Len64.f (x1 : Int) : Option Int := if (decide (4294967296 ≤ x1)) = true then (bits_Len64.j1 32 (shr x1 32)) else (bits_Len64.j1 0 x1)
theorem bits_Len64.ok : bits_Len64.Ctr (bits_Len64.f) := by
 intro x1 r h0 mi w0 ok hm
 delta bits_Len64.f at h0
 refine c_enterZ (n := 25) ok hm func59 rfl rfl rfl fun b0 hb a S => c_region (s_assign S rfl rfl fun a S => c_end (wp_seq_k fun K1 hK1 => ?_))
 have j1 : ∀ m y1 y2 a w, St 25 m b0 [(2, (.i y1)), (0, (.w y2))] [] a w → bits_Len64.j1 y1 y2 = some r → K1 a w := by
  intro m y1 y2 a w S h0
  delta bits_Len64.j1 at h0
  refine hK1 a w (wp_seq_k fun K2 hK2 => ?_)
  have j2 : ∀ m y3 y4 a w, St 25 m b0 [(2, (.i y3)), (0, (.w y4))] [] a w → bits_Len64.j2 y3 y4 = some r → K2 a w := by
   intro m y3 y4 a w S h0
   delta bits_Len64.j2 at h0
   refine hK2 a w (wp_seq_k fun K3 hK3 => ?_)
   have j3 : ∀ m y5 y6 a w, St 25 m b0 [(2, (.i y5)), (0, (.w y6))] [] a w → bits_Len64.j3 y5 y6 = some r → K3 a w := by
    intro m y5 y6 a w S h0
    delta bits_Len64.j3 at h0
    refine hK3 a w (c_region (s_move S rfl rfl fun a S => s_move S rfl rfl fun a S => s_conv S rfl rfl underlying5 rfl fun a S => ?_))
    obtain ⟨c1, h1⟩ := chk_of h0; clear h0
    refine s_indexT S rfl rfl underlying9 c1.1 c1.2 rfl fun a S => s_conv S rfl rfl underlying3 rfl fun a S => s_bin S rfl rfl rfl rfl fun a S => s_assign S rfl rfl fun a S => c_end (wp_ret ?_)
    obtain rfl := Option.some.inj h1
    exact b_ret1 (d := (.i (wr .i64 (y5 + (wr .i64 (bt txt0 (wr .u8 y6))))))) S rfl rfl (S.rt hb)
   refine c_region (s_move S rfl rfl fun a S => s_bin S rfl rfl rfl rfl fun a S => c_end ?_)
   rcases ite_of h0 with ⟨c2, h1⟩ | ⟨c2, h1⟩
   ·refine c_condT S rfl c2 (c_region (s_move S rfl rfl fun a S => s_shr S (e := 8) rfl rfl (by decide) rfl rfl fun a S => s_assign S rfl rfl fun a S => c_end (c_region' (s_move S rfl rfl fun a S => s_bin S rfl rfl rfl rfl fun a S => s_assign S rfl rfl fun a S => c_end' (x_thenN ?_)))))
    exact j3 _ (wr .i64 (y3 + 8)) (shr y4 8) a w (S.sb rfl .nil) h1
   ·refine c_condF S rfl c2 (wp_skip (x_thenN ?_))
    exact j3 _ y3 y4 a w (S.sb rfl .nil) h1
  refine c_region (s_move S rfl rfl fun a S => s_bin S rfl rfl rfl rfl fun a S => c_end ?_)
  rcases ite_of h0 with ⟨c3, h1⟩ | ⟨c3, h1⟩
  ·refine c_condT S rfl c3 (c_region (s_move S rfl rfl fun a S => s_shr S (e := 16) rfl rfl (by decide) rfl rfl fun a S => s_assign S rfl rfl fun a S => c_end (c_region' (s_move S rfl rfl fun a S => s_bin S rfl rfl rfl rfl fun a S => s_assign S rfl rfl fun a S => c_end' (x_thenN ?_)))))
   exact j2 _ (wr .i64 (y1 + 16)) (shr y2 16) a w (S.sb rfl .nil) h1
  ·refine c_condF S rfl c3 (wp_skip (x_thenN ?_))
   exact j2 _ y1 y2 a w (S.sb rfl .nil) h1
 refine c_region (s_move S rfl rfl fun a S => s_bin S rfl rfl rfl rfl fun a S => c_end ?_)
 rcases ite_of h0 with ⟨c4, h1⟩ | ⟨c4, h1⟩
 ·refine c_condT S rfl c4 (c_region (s_move S rfl rfl fun a S => s_shr S (e := 32) rfl rfl (by decide) rfl rfl fun a S => s_assign S rfl rfl fun a S => c_end (c_region' (s_assign S rfl rfl fun a S => c_end' (x_thenN ?_)))))
  exact j1 _ 32 (shr x1 32) a w0 (S.sb rfl .nil) h1
 ·refine c_condF S rfl c4 (wp_skip (x_thenN ?_))
  exact j1 _ 0 x1 a w0 (S.sb rfl .nil) h1
abbrev bits_Len.Ty : Type := Int → Option Int
def bits_Len.Ctr (s : bits_Len.Ty) : Prop := ∀ (x1 : Int) (r : Int), Ct (C := Unit) Try.prog 48 (s x1 = some r) [] [(.w x1)] (fun _ => (.i r)) fun _ => []
def bits_Len.f (x1 : Int) : Option Int := (bits_Len64.f x1).bind fun t1 => (some t1)
theorem bits_Len.ok : bits_Len.Ctr (bits_Len.f) := by
 intro x1 r h0 mi w0 ok hm
 delta bits_Len.f at h0
 refine c_enterZ (n := 8) ok hm func48 rfl rfl rfl fun b0 hb a S => c_region (s_assign S rfl rfl fun a S => c_end (wp_seq (c_condF S rfl rfl (wp_skip (x_thenN (c_region (s_move S rfl rfl fun a S => bindX h0 fun t1 et1 h1 => s_callP S _ N59 rfl rfl (bits_Len64.ok x1 t1 et1 _ _) fun ch1 m le1 a w S => s_assign S rfl rfl fun a S => c_end (wp_ret ?_))))))))
 obtain rfl := Option.some.inj h1
 exact b_ret1 (d := (.i t1)) S rfl rfl (S.rt hb)
abbrev bytes_Compare.Ty : Type := (List Int) → (List Int) → Option Int
def bytes_Compare.Ctr (s : bytes_Compare.Ty) : Prop := ∀ (x1 : List Int) (x2 : List Int) (ch_0_0 : Option Addr) (ch_0_1 : Nat) (ch_1_0 : Option Addr) (ch_1_1 : Nat) (r : Int), Ct (C := Unit) Try.prog 49 (s x1 x2 = some r) [] [(.q yb ch_0_0 ch_0_1 x1), (.q yb ch_1_0 ch_1_1 x2)] (fun _ => (.i r)) fun _ => []
def bytes_Compare.f (x1 : List Int) (x2 : List Int) : Option Int := some (Lib.compareBytes (u8s x1) (u8s x2))
theorem bytes_Compare.ok : bytes_Compare.Ctr (bytes_Compare.f) := by
 intro x1 x2 ch_0_0 ch_0_1 ch_1_0 ch_1_1 r h0 mi w0 ok hm
 delta bytes_Compare.f at h0
 refine c_enterZ (n := 8) ok hm func49 rfl rfl rfl fun b0 hb a S => c_region (s_assign S rfl rfl fun a S => c_end (c_region (s_move S rfl rfl fun a S => s_move S rfl rfl fun a S => s_extCmp S X60 rfl rfl rfl fun a S => s_assign S rfl rfl fun a S => c_end (wp_ret ?_))))
 obtain rfl := Option.some.inj h0
 exact b_ret1 (d := (.i (Lib.compareBytes (u8s x1) (u8s x2)))) S rfl rfl (S.rt hb)
abbrev addr_Compare.Ty : Type := (List Int) → (List Int) → Option Int
def addr_Compare.Ctr (s : addr_Compare.Ty) : Prop := ∀ (x1 : List Int) (x2 : List Int) (r : Int), Ct (C := Unit) Try.prog 39 (s x1 x2 = some r) [] [(.agg [.b20 x1]), (.agg [.b20 x2])] (fun _ => (.i r)) fun _ => []
def addr_Compare.f (x1 : List Int) (x2 : List Int) : Option Int := (bytes_Compare.f (((x1).drop 0).take 20) (((x2).drop 0).take 20)).bind fun t1 => (some t1)
theorem addr_Compare.ok : addr_Compare.Ctr (addr_Compare.f) := by
 intro x1 x2 r h0 mi w0 ok hm
 delta addr_Compare.f at h0
 refine c_enterZ (n := 8) ok hm func39 rfl rfl rfl fun b0 hb a S => c_region (s_box S rfl rfl rfl fun g1 a w S => s_box S rfl rfl rfl fun g2 a w S => s_assign S rfl rfl fun a S => c_end ?_)
 replace S := S.freeze .h
 obtain ⟨m, le1, S⟩ := S
 replace S := S.freeze .h1
 obtain ⟨m, le1, S⟩ := S
 refine wp_seq (c_heldS S (.take 0 (.take 1 (.alts (.run 2 true (.take 3 .done) .nil)))) 4 [Res.fro g2 28 [.b20 x2], Res.fro g1 28 [.b20 x1]] (.c0 (.c0 .n)) ⟨Res.stay_fro, Res.stay_fro, trivial⟩ [(3, (.p g2)), (2, (.p g1))] (subR rfl) (by kernel_rfl) (by kernel_rfl) ?_); clear S; intro w S CL hw le
 refine h_sliceA S CL hw le (subR rfl) (i := 0) (j := 20) (o' := 0) (len := 20) (cap := 20) rfl underlying28 T5 (.inl ⟨rfl, rfl⟩) (.inl ⟨rfl, rfl⟩) (by decide) rfl rfl rfl rfl rfl trivial fun a S CL => h_sliceA S CL hw le (subR rfl) (i := 0) (j := 20) (o' := 0) (len := 20) (cap := 20) rfl underlying28 T5 (.inl ⟨rfl, rfl⟩) (.inl ⟨rfl, rfl⟩) (by decide) rfl rfl rfl rfl rfl trivial fun a S CL => h_run' S rfl trivial ?_
 replace S := (S.slup' (u := 5) (lo := 0) (c := 20) (ys := ((x1).drop 0).take 20) rfl (Pull.mem .h1).1 .h (.inl rfl) (by decide) (by decide) rfl).2
 replace S := (S.slup' (u := 6) (lo := 0) (c := 20) (ys := ((x2).drop 0).take 20) rfl (Pull.mem .h).1 .h (.inl rfl) (by decide) (by decide) rfl).2
 replace CL := CL.drop (lq' := [(3, (.p g2)), (2, (.p g1))]) (subR rfl)
 refine bindX h0 fun t1 et1 h1 => s_callP S _ N49 rfl rfl (bytes_Compare.ok (((x1).drop 0).take 20) (((x2).drop 0).take 20) (ad g1) 20 (ad g2) 20 t1 et1 _ _) fun ch1 m le1 a w S => ?_
 replace le := le.trans le1
 replace hw := CL.again hw S (.c0 (.c0 .n)) le
 refine h_back ⟨fun _ => hw, ?_⟩
 replace CL := CL.add (t := 7) (d := (.i t1)) S rfl rfl
 refine h_assign S CL hw le (subR rfl) rfl rfl rfl trivial fun a S CL => ?_
 refine h_done ?_; clear CL hw le
 refine x_thenN (wp_ret ?_)
 obtain rfl := Option.some.inj h1
 exact b_ret1 (d := (.i t1)) S rfl rfl (S.rt hb)
end
end GW
