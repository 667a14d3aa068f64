import Derived.Test.YtjgdpkmbnooemaaDoorProg
import Derived.Test.YtjgdpkmbnooemaaDoorGE
set_option linter.unusedVariables false
set_option linter.unusedSimpArgs false
set_option maxRecDepth 10000
set_option maxHeartbeats 4000000
namespace GW
open Go Go.RowKit Go.Proofs Go.Proofs.Tryd
noncomputable section
abbrev fc7_.Ty : Type := ((List Int) × Int × L38 × Bool) → Int → Option ((Unit × Int × L38 × Bool))
def fc7_.Ctr (s : fc7_.Ty) : Prop := ∀ (x1 : (List Int) × Int × L38 × Bool) (x2 : Int) (ch_0_0 : Nat) (ch_0_1 : Option Addr) (ch_0_2 : Nat) (ch_0_3 : Option Addr) (ch_0_4 : Nat) (ch_0_5 : Nat) (r : (Unit × Int × L38 × Bool)), Ct (C := ((Option Addr) × Nat × Nat)) Tryd.prog 58 (s x1 x2 = some r) [Res.cells ch_0_0 80 [.q yb ch_0_1 ch_0_2 x1.1, .i x1.2.1, .s ch_0_3 ch_0_4 ch_0_5, .b x1.2.2.2], Res.row Y56 56 ch_0_3 ch_0_4 ch_0_5 x1.2.2.1] [(.p ch_0_0), (.i x2)] (fun _ => (.tup [])) fun ch => [Res.cells ch_0_0 80 [.q yb ch_0_1 ch_0_2 x1.1, .i r.2.1, .s ch.1 ch.2.1 ch.2.2, .b r.2.2.2], Res.row Y56 56 ch.1 ch.2.1 ch.2.2 r.2.2.1]
def fc7_.j1 (x1 : (List Int) × Int × L38 × Bool) (x2 : Int) (t1 : Int × (Unit × Unit × L38 × Bool)) (y1 : Bool) : Option ((Unit × Int × L38 × Bool)) := if y1 = true then (some ((), x1.2.1, t1.2.2.2.1, true)) else (if (0 : Int) ≤ (wr .i64 (x2 + 32)) ∧ ((wr .i64 (x2 + 32)) : Int) ≤ (wr .i64 ((wr .i64 (x2 + 32)) + t1.1)) ∧ (wr .i64 ((wr .i64 (x2 + 32)) + t1.1)) ≤ ((x1.1).length : Int) then ((fa4_.f ((x1.1.take (Int.toNat (wr .i64 ((wr .i64 (x2 + 32)) + t1.1)))).drop (Int.toNat (wr .i64 (x2 + 32))))).bind fun t3 => (if ((t1.2.2.2.1).length + ([([0, 0, 0, 0], t3, 0)]).length) * 64 ≤ 140737488355328 then (some ((), wr .i64 ((wr .i64 (x2 + 32)) + (wr .i64 ((wr .i64 (Int.tdiv (wr .i64 (t1.1 + 31)) 32)) * 32))), t1.2.2.2.1 ++ [([0, 0, 0, 0], t3, 0)], t1.2.2.2.2)) else none)) else none)
def fc7_.f (k : Nat) (x1 : (List Int) × Int × L38 × Bool) (x2 : Int) : Option ((Unit × Int × L38 × Bool)) := (fd0_.f k x1 x2).bind fun t1 => (if t1.2.2.2.2 = true then (fc7_.j1 x1 x2 t1 true) else (if (decide (((x1.1).length : Int) < (wr .i64 ((wr .i64 (x2 + 32)) + (wr .i64 ((wr .i64 (Int.tdiv (wr .i64 (t1.1 + 31)) 32)) * 32)))))) = true then (fc7_.j1 x1 x2 t1 true) else (if (0 : Int) ≤ (wr .i64 ((wr .i64 (x2 + 32)) + t1.1)) ∧ ((wr .i64 ((wr .i64 (x2 + 32)) + t1.1)) : Int) ≤ (wr .i64 ((wr .i64 (x2 + 32)) + (wr .i64 ((wr .i64 (Int.tdiv (wr .i64 (t1.1 + 31)) 32)) * 32)))) ∧ (wr .i64 ((wr .i64 (x2 + 32)) + (wr .i64 ((wr .i64 (Int.tdiv (wr .i64 (t1.1 + 31)) 32)) * 32)))) ≤ ((x1.1).length : Int) then ((fa_.f k ((x1.1.take (Int.toNat (wr .i64 ((wr .i64 (x2 + 32)) + (wr .i64 ((wr .i64 (Int.tdiv (wr .i64 (t1.1 + 31)) 32)) * 32)))))).drop (Int.toNat (wr .i64 ((wr .i64 (x2 + 32)) + t1.1))))).bind fun t4 => (fc7_.j1 x1 x2 t1 t4)) else none)))
theorem fc7_.ok (k : Nat) : fc7_.Ctr (fc7_.f k) := by
 intro x1 x2 ch_0_0 ch_0_1 ch_0_2 ch_0_3 ch_0_4 ch_0_5 r h0 mi w0 ok hm
 delta fc7_.f at h0
 refine c_enterZ (n := 71) ok hm func58 rfl rfl rfl fun b0 hb a S => c_region (s_move S rfl rfl fun a S => s_move S rfl rfl fun a S => bindX h0 fun t1 et1 h1 => s_callX S (ds' := [(.p ch_0_0), (.i x2)]) (ds := [(.p ch_0_0), (.i x2)]) [Res.cells ch_0_0 80 [.q yb ch_0_1 ch_0_2 x1.1, .i x1.2.1, .s ch_0_3 ch_0_4 ch_0_5, .b x1.2.2.2], Res.row Y56 56 ch_0_3 ch_0_4 ch_0_5 x1.2.2.1] [] (fun (ch : (Option Addr) × Nat × Nat) => ((.i t1.1) : D)) (fun (ch : (Option Addr) × Nat × Nat) => [Res.cells ch_0_0 80 [.q yb ch_0_1 ch_0_2 x1.1, .i x1.2.1, .s ch.1 ch.2.1 ch.2.2, .b t1.2.2.2.2], Res.row Y56 56 ch.1 ch.2.1 ch.2.2 t1.2.2.2.1]) (fun (ch : (Option Addr) × Nat × Nat) => [Res.cells ch_0_0 80 [.q yb ch_0_1 ch_0_2 x1.1, .i x1.2.1, .s ch.1 ch.2.1 ch.2.2, .b t1.2.2.2.2], Res.row Y56 56 ch.1 ch.2.1 ch.2.2 t1.2.2.2.1]) (fun _ => rfl) N59 rfl rfl (fun ok => ok) (.c0 (.c0 .n)) rfl (fd0_.ok k x1 x2 ch_0_0 ch_0_1 ch_0_2 ch_0_3 ch_0_4 ch_0_5 t1 et1 _ _) fun ch1 m le1 a w S => s_assign S rfl rfl fun a S => c_end (c_region (s_move S rfl rfl fun a S => s_bin S rfl rfl rfl rfl fun a S => s_move S rfl rfl fun a S => s_bin S rfl rfl rfl rfl fun a S => s_quo S rfl rfl (by decide) rfl fun a S => s_bin S rfl rfl rfl rfl fun a S => s_bin S rfl rfl rfl rfl fun a S => s_assign S rfl rfl fun a S => c_end (wp_seq (wp_seq_k fun K1 hK1 => ?_)))))
 have j1 : ∀ m y1 A1 nn1 cp1 a w, St 71 m b0 [(41, (.b y1)), (5, (.i (wr .i64 ((wr .i64 (x2 + 32)) + (wr .i64 ((wr .i64 (Int.tdiv (wr .i64 (t1.1 + 31)) 32)) * 32)))))), (4, (.i t1.1)), (0, (.p ch_0_0)), (1, (.i x2))] [Res.cells ch_0_0 80 [.q yb ch_0_1 ch_0_2 x1.1, .i x1.2.1, .s A1 nn1 cp1, .b t1.2.2.2.2], Res.row Y56 56 A1 nn1 cp1 t1.2.2.2.1] a w → fc7_.j1 x1 x2 t1 y1 = some r → K1 a w := by
  intro m y1 A1 nn1 cp1 a w S h0
  delta fc7_.j1 at h0
  refine hK1 a w ?_
  rcases ite_of h0 with ⟨c1, h1⟩ | ⟨c1, h1⟩
  ·refine c_condT S rfl c1 (c_region (s_move S rfl rfl fun a S => s_nilchk S rfl rfl fun a S => s_fieldAddr S rfl I80_3 T4 (by decide) rfl rfl fun a S => s_store S rfl rfl rfl (s' := [.q yb ch_0_1 ch_0_2 x1.1, .i x1.2.1, .s A1 nn1 cp1, .b true]) .h T4 rfl rfl fun w S => c_end (wp_ret (x_thenR ?_))))
   obtain rfl := Option.some.inj h1
   exact b_ret0 S rfl (S.retX (Hx := []) hb _ _ ((A1, nn1, cp1) : (Option Addr) × Nat × Nat) (.c0 (.c0 .n)) trivial)
  ·refine c_condF S rfl c1 (wp_skip (x_thenN ?_))
   refine wp_seq (c_heldS S (.take 0 (.take 1 (.take 2 (.take 3 (.take 4 (.take 5 (.take 6 (.take 7 (.take 8 (.take 9 (.take 10 (.take 11 (.take 12 (.take 13 (.take 14 (.take 15 (.alts (.run 16 true (.take 17 (.alts (.run 18 true (.alts (.run 19 true (.take 20 (.take 21 (.alts (.run 22 false .done .nil)))) .nil)) .nil))) .nil)))))))))))))))))) 22 [Res.cells ch_0_0 80 [.q yb ch_0_1 ch_0_2 x1.1, .i x1.2.1, .s A1 nn1 cp1, .b t1.2.2.2.2]] (.c0 .n) ⟨Res.stay_cells, trivial⟩ [(4, (.i t1.1)), (0, (.p ch_0_0)), (1, (.i x2))] (subR rfl) (by kernel_rfl) (by kernel_rfl) ?_); clear S; intro w S CL hw le
   refine h_move S CL hw le (subR rfl) rfl rfl rfl trivial fun a S CL => h_move S CL hw le (subR rfl) rfl rfl rfl trivial fun a S CL => h_nilchk S CL hw le (subR rfl) rfl rfl rfl rfl trivial fun a S CL => h_fieldAddr S CL hw le (subR rfl) rfl I80_2 T38 (by decide) rfl rfl rfl trivial fun a S CL => h_load1 S CL hw le (subR rfl) rfl .h T38 (v := (.slice A1 nn1 cp1)) rfl rfl rfl trivial fun a S CL => h_move S CL hw le (subR rfl) rfl rfl rfl trivial fun a S CL => h_nilchk S CL hw le (subR rfl) rfl rfl rfl rfl trivial fun a S CL => h_fieldAddr S CL hw le (subR rfl) rfl I80_0 T26 (by decide) rfl rfl rfl trivial fun a S CL => h_loadSl S CL hw le (subR rfl) rfl .h T26 (A := ch_0_1) (len := (x1.1).length) (cap := ch_0_2) rfl rfl rfl trivial fun a S CL => h_move S CL hw le (subR rfl) rfl rfl rfl trivial fun a S CL => h_bin S CL hw le (subR rfl) rfl rfl rfl rfl rfl trivial fun a S CL => h_move S CL hw le (subR rfl) rfl rfl rfl trivial fun a S CL => h_bin S CL hw le (subR rfl) rfl rfl rfl rfl rfl trivial fun a S CL => h_move S CL hw le (subR rfl) rfl rfl rfl trivial fun a S CL => h_bin S CL hw le (subR rfl) rfl rfl rfl rfl rfl trivial fun a S CL => ?_
   obtain ⟨c2, h2⟩ := chk_of h1; clear h1
   refine h_cutS S CL hw le (subR rfl) (i := (wr .i64 (x2 + 32))) (j := (wr .i64 ((wr .i64 (x2 + 32)) + t1.1))) (ys := (x1.1.take (Int.toNat (wr .i64 ((wr .i64 (x2 + 32)) + t1.1)))).drop (Int.toNat (wr .i64 (x2 + 32)))) rfl rfl underlying26 T5 (.inr ⟨_, _, rfl, rfl⟩) (.inr ⟨_, _, rfl, rfl⟩) c2 rfl rfl rfl trivial fun A2 cp2 a S CL => h_run' S rfl trivial (bindX h2 fun t3 et3 h3 => s_callR S (fun (ch : (Option Addr) × Nat × Nat) => ((.s ch.1 ch.2.1 ch.2.2) : D)) (fun (ch : (Option Addr) × Nat × Nat) => Res.row yb 5 ch.1 ch.2.1 ch.2.2 t3) N78 rfl rfl (fa4_.ok ((x1.1.take (Int.toNat (wr .i64 ((wr .i64 (x2 + 32)) + t1.1)))).drop (Int.toNat (wr .i64 (x2 + 32)))) A2 cp2 t3 et3 _ _) fun ch2 m le1 a w S => ?_)
   replace le := le.trans le1
   refine CL.bk hw S (.c1 .n) le fun hw => ?_
   replace CL := CL.add (t := 61) (d := (.s ch2.1 ch2.2.1 ch2.2.2)) S rfl rfl
   refine h_bldS S CL hw le (subR rfl) (ds := [(1, (.s ch2.1 ch2.2.1 ch2.2.2))]) (zs := [.w4 [0, 0, 0, 0], .s none 0 0, .i 0]) (s' := [.w4 [0, 0, 0, 0], .s ch2.1 ch2.2.1 ch2.2.2, .i 0]) rfl underlying56 P56 Z56 ⟨rfl, rfl, rfl, trivial⟩ rfl rfl rfl trivial fun a S CL => h_run' S rfl trivial ?_
   replace S := S.rowfro .h
   obtain ⟨m, le1, S, hro⟩ := S
   replace le := le.trans le1
   replace S := S.slot (u := 62) (d' := (.agg [.w4 [0, 0, 0, 0], .q yb ch2.1 ch2.2.2 t3, .i 0])) rfl (by simp [D.val, pd, cellsOf, Seg.cells, hro.2.1]) (by have h := (S.get 62 (.agg [.w4 [0, 0, 0, 0], .s ch2.1 ch2.2.1 ch2.2.2, .i 0]) rfl).2; exact ⟨h.1, ⟨by have := hro.2.2.1; omega, hro.2.2.2, hro.1, RdS.mono _ _ _⟩, h.2.2.1, trivial⟩)
   replace S := S.slotro (u := 61) rfl hro
   replace CL := CL.drop (lq' := [(60, (.q yb A2 cp2 ((x1.1.take (Int.toNat (wr .i64 ((wr .i64 (x2 + 32)) + t1.1)))).drop (Int.toNat (wr .i64 (x2 + 32)))))), (59, (.i (wr .i64 ((wr .i64 (x2 + 32)) + t1.1)))), (58, (.i t1.1)), (57, (.i (wr .i64 (x2 + 32)))), (56, (.i x2)), (55, (.i (wr .i64 (x2 + 32)))), (54, (.i x2)), (53, (.q yb ch_0_1 ch_0_2 x1.1)), (52, (.p ch_0_0)), (51, (.p ch_0_0)), (50, (.p ch_0_0)), (49, (.s A1 nn1 cp1)), (48, (.o ch_0_0 2)), (47, (.p ch_0_0)), (46, (.p ch_0_0)), (45, (.p ch_0_0)), (4, (.i t1.1)), (0, (.p ch_0_0)), (1, (.i x2))]) (subR rfl)
   refine s_bldSl S (ty' := Y56) (ds := [(0, (.agg [.w4 [0, 0, 0, 0], .q yb ch2.1 ch2.2.2 t3, .i 0]))]) (z := ([0, 0, 0, 0], ([] : List Int), 0)) (c0 := ((), (none, 0), ())) (ys := [([0, 0, 0, 0], t3, 0)]) (cs := [((), (ch2.1, ch2.2.2), ())]) rfl underlying38 J56 Z56 rfl ⟨rfl, ⟨Nat.le_refl _, Nat.zero_le _, RdS.nil _ _ _, RdS.mono _ _ _⟩, rfl, trivial⟩ rfl rfl rfl rfl rfl rfl fun g1 a w S => CL.bk hw S (.c1 .n) le fun hw => h_run' S rfl trivial ?_
   obtain ⟨c3, h4⟩ := chk_of h3; clear h3
   refine s_app S (k2 := 1) (ys := [([0, 0, 0, 0], t3, 0)]) rfl (fun _ _ => .h2) rfl rfl (S.holds _ (Pull.mem .h).1).1 (Res.row.src (S.holds _ (Pull.mem .h).1)) underlying38 J56 c3 rfl fun A3 cp3 a w S => CL.bk hw S (.c1 .n) le fun hw => h_nilchk S CL hw le (subR rfl) rfl rfl rfl rfl trivial fun a S CL => h_fieldAddr S CL hw le (subR rfl) rfl I80_2 T38 (by decide) rfl rfl rfl trivial fun a S CL => h_run' S rfl trivial (s_store S rfl rfl rfl (s' := [.q yb ch_0_1 ch_0_2 x1.1, .i x1.2.1, .s A3 (nn1 + 1) cp3, .b t1.2.2.2.2]) .h1 T38 rfl rfl fun w S => ?_)
   refine h_back ⟨fun h => (nomatch h), ?_⟩
   refine h_done ?_; clear CL hw le
   refine x_thenN (c_region' (s_move S rfl rfl fun a S => s_move S rfl rfl fun a S => s_nilchk S rfl rfl fun a S => s_fieldAddr S rfl I80_1 T3 (by decide) rfl rfl fun a S => s_store S rfl rfl rfl (s' := [.q yb ch_0_1 ch_0_2 x1.1, .i (wr .i64 ((wr .i64 (x2 + 32)) + (wr .i64 ((wr .i64 (Int.tdiv (wr .i64 (t1.1 + 31)) 32)) * 32)))), .s A3 (nn1 + 1) cp3, .b t1.2.2.2.2]) .h1 T3 rfl rfl fun w S => c_end' (b_end ?_)))
   obtain rfl := Option.some.inj h4
   exact b_ret0 S rfl (S.retX (Hx := []) hb _ _ ((A3, nn1 + 1, cp3) : (Option Addr) × Nat × Nat) (.c1 (.c1 .n)) trivial)
 refine c_region' (s_move S rfl rfl fun a S => s_nilchk S rfl rfl fun a S => s_fieldAddr S rfl I80_3 T4 (by decide) rfl rfl fun a S => s_load1 S rfl .h T4 (v := (.bool t1.2.2.2.2)) rfl rfl fun a S => s_move S rfl rfl fun a S => ?_)
 rcases ite_of h1 with ⟨c4, h2⟩ | ⟨c4, h2⟩
 ·refine s_gF S (b := t1.2.2.2.2) rfl rfl c4 rfl fun a S => s_gF S (b := t1.2.2.2.2) rfl rfl c4 rfl fun a S => s_gF S (b := t1.2.2.2.2) rfl rfl c4 rfl fun a S => s_gF S (b := t1.2.2.2.2) rfl rfl c4 rfl fun a S => s_gF S (b := t1.2.2.2.2) rfl rfl c4 rfl fun a S => s_gF S (b := t1.2.2.2.2) rfl rfl c4 rfl fun a S => s_gF S (b := t1.2.2.2.2) rfl rfl c4 rfl fun a S => s_pick S (b := true) (hc_of rfl c4) rfl rfl fun a S => s_move S rfl rfl fun a S => s_gF S (b := true) rfl rfl rfl rfl fun a S => s_gF S (b := true) rfl rfl rfl rfl fun a S => s_gF S (b := true) rfl rfl rfl rfl fun a S => s_gF S (b := true) rfl rfl rfl rfl fun a S => s_gF S (b := true) rfl rfl rfl rfl fun a S => s_gF S (b := true) rfl rfl rfl rfl fun a S => s_gF S (b := true) rfl rfl rfl rfl fun a S => s_gF S (b := true) rfl rfl rfl rfl fun a S => s_gF S (b := true) rfl rfl rfl rfl fun a S => s_gF S (b := true) rfl rfl rfl rfl fun a S => s_gF S (b := true) rfl rfl rfl rfl fun a S => s_pick S (b := true) (hc_of rfl rfl) rfl rfl fun a S => c_end' (x_thenN ?_)
  exact j1 _ true ch1.1 ch1.2.1 ch1.2.2 a w (S.sb rfl (.c0 (.c0 .n))) h2
 ·refine s_gT S (b := t1.2.2.2.2) rfl rfl c4 (s_move S rfl rfl fun a S => s_gT S (b := t1.2.2.2.2) rfl rfl c4 (s_move S rfl rfl fun a S => s_gT S (b := t1.2.2.2.2) rfl rfl c4 (s_nilchk S rfl rfl fun a S => s_gT S (b := t1.2.2.2.2) rfl rfl c4 (s_fieldAddr S rfl I80_0 T26 (by decide) rfl rfl fun a S => s_gT S (b := t1.2.2.2.2) rfl rfl c4 (s_loadSl S rfl .h T26 (A := ch_0_1) (len := (x1.1).length) (cap := ch_0_2) rfl rfl fun a S => s_gT S (b := t1.2.2.2.2) rfl rfl c4 (s_lenS S rfl underlying26 rfl fun a S => s_gT S (b := t1.2.2.2.2) rfl rfl c4 (s_bin S rfl rfl rfl rfl fun a S => s_pick S (b := false) (hc_of rfl c4) rfl rfl fun a S => s_move S rfl rfl fun a S => ?_)))))))
  rcases ite_of h2 with ⟨c5, h3⟩ | ⟨c5, h3⟩
  ·refine s_gF S (b := (decide (((x1.1).length : Int) < (wr .i64 ((wr .i64 (x2 + 32)) + (wr .i64 ((wr .i64 (Int.tdiv (wr .i64 (t1.1 + 31)) 32)) * 32))))))) rfl rfl c5 rfl fun a S => s_gF S (b := (decide (((x1.1).length : Int) < (wr .i64 ((wr .i64 (x2 + 32)) + (wr .i64 ((wr .i64 (Int.tdiv (wr .i64 (t1.1 + 31)) 32)) * 32))))))) rfl rfl c5 rfl fun a S => s_gF S (b := (decide (((x1.1).length : Int) < (wr .i64 ((wr .i64 (x2 + 32)) + (wr .i64 ((wr .i64 (Int.tdiv (wr .i64 (t1.1 + 31)) 32)) * 32))))))) rfl rfl c5 rfl fun a S => s_gF S (b := (decide (((x1.1).length : Int) < (wr .i64 ((wr .i64 (x2 + 32)) + (wr .i64 ((wr .i64 (Int.tdiv (wr .i64 (t1.1 + 31)) 32)) * 32))))))) rfl rfl c5 rfl fun a S => s_gF S (b := (decide (((x1.1).length : Int) < (wr .i64 ((wr .i64 (x2 + 32)) + (wr .i64 ((wr .i64 (Int.tdiv (wr .i64 (t1.1 + 31)) 32)) * 32))))))) rfl rfl c5 rfl fun a S => s_gF S (b := (decide (((x1.1).length : Int) < (wr .i64 ((wr .i64 (x2 + 32)) + (wr .i64 ((wr .i64 (Int.tdiv (wr .i64 (t1.1 + 31)) 32)) * 32))))))) rfl rfl c5 rfl fun a S => s_gF S (b := (decide (((x1.1).length : Int) < (wr .i64 ((wr .i64 (x2 + 32)) + (wr .i64 ((wr .i64 (Int.tdiv (wr .i64 (t1.1 + 31)) 32)) * 32))))))) rfl rfl c5 rfl fun a S => s_gF S (b := (decide (((x1.1).length : Int) < (wr .i64 ((wr .i64 (x2 + 32)) + (wr .i64 ((wr .i64 (Int.tdiv (wr .i64 (t1.1 + 31)) 32)) * 32))))))) rfl rfl c5 rfl fun a S => s_gF S (b := (decide (((x1.1).length : Int) < (wr .i64 ((wr .i64 (x2 + 32)) + (wr .i64 ((wr .i64 (Int.tdiv (wr .i64 (t1.1 + 31)) 32)) * 32))))))) rfl rfl c5 rfl fun a S => s_gF S (b := (decide (((x1.1).length : Int) < (wr .i64 ((wr .i64 (x2 + 32)) + (wr .i64 ((wr .i64 (Int.tdiv (wr .i64 (t1.1 + 31)) 32)) * 32))))))) rfl rfl c5 rfl fun a S => s_gF S (b := (decide (((x1.1).length : Int) < (wr .i64 ((wr .i64 (x2 + 32)) + (wr .i64 ((wr .i64 (Int.tdiv (wr .i64 (t1.1 + 31)) 32)) * 32))))))) rfl rfl c5 rfl fun a S => s_pick S (b := true) (hc_of rfl c5) rfl rfl fun a S => c_end' (x_thenN ?_)
   exact j1 _ true ch1.1 ch1.2.1 ch1.2.2 a w (S.sb rfl (.c0 (.c0 .n))) h3
  ·refine s_gT S (b := (decide (((x1.1).length : Int) < (wr .i64 ((wr .i64 (x2 + 32)) + (wr .i64 ((wr .i64 (Int.tdiv (wr .i64 (t1.1 + 31)) 32)) * 32))))))) rfl rfl c5 (s_move S rfl rfl fun a S => s_gT S (b := (decide (((x1.1).length : Int) < (wr .i64 ((wr .i64 (x2 + 32)) + (wr .i64 ((wr .i64 (Int.tdiv (wr .i64 (t1.1 + 31)) 32)) * 32))))))) rfl rfl c5 (s_nilchk S rfl rfl fun a S => s_gT S (b := (decide (((x1.1).length : Int) < (wr .i64 ((wr .i64 (x2 + 32)) + (wr .i64 ((wr .i64 (Int.tdiv (wr .i64 (t1.1 + 31)) 32)) * 32))))))) rfl rfl c5 (s_fieldAddr S rfl I80_0 T26 (by decide) rfl rfl fun a S => s_gT S (b := (decide (((x1.1).length : Int) < (wr .i64 ((wr .i64 (x2 + 32)) + (wr .i64 ((wr .i64 (Int.tdiv (wr .i64 (t1.1 + 31)) 32)) * 32))))))) rfl rfl c5 (s_loadSl S rfl .h T26 (A := ch_0_1) (len := (x1.1).length) (cap := ch_0_2) rfl rfl fun a S => s_gT S (b := (decide (((x1.1).length : Int) < (wr .i64 ((wr .i64 (x2 + 32)) + (wr .i64 ((wr .i64 (Int.tdiv (wr .i64 (t1.1 + 31)) 32)) * 32))))))) rfl rfl c5 (s_move S rfl rfl fun a S => s_gT S (b := (decide (((x1.1).length : Int) < (wr .i64 ((wr .i64 (x2 + 32)) + (wr .i64 ((wr .i64 (Int.tdiv (wr .i64 (t1.1 + 31)) 32)) * 32))))))) rfl rfl c5 (s_bin S rfl rfl rfl rfl fun a S => s_gT S (b := (decide (((x1.1).length : Int) < (wr .i64 ((wr .i64 (x2 + 32)) + (wr .i64 ((wr .i64 (Int.tdiv (wr .i64 (t1.1 + 31)) 32)) * 32))))))) rfl rfl c5 (s_move S rfl rfl fun a S => s_gT S (b := (decide (((x1.1).length : Int) < (wr .i64 ((wr .i64 (x2 + 32)) + (wr .i64 ((wr .i64 (Int.tdiv (wr .i64 (t1.1 + 31)) 32)) * 32))))))) rfl rfl c5 (s_bin S rfl rfl rfl rfl fun a S => s_gT S (b := (decide (((x1.1).length : Int) < (wr .i64 ((wr .i64 (x2 + 32)) + (wr .i64 ((wr .i64 (Int.tdiv (wr .i64 (t1.1 + 31)) 32)) * 32))))))) rfl rfl c5 (s_move S rfl rfl fun a S => s_gT S (b := (decide (((x1.1).length : Int) < (wr .i64 ((wr .i64 (x2 + 32)) + (wr .i64 ((wr .i64 (Int.tdiv (wr .i64 (t1.1 + 31)) 32)) * 32))))))) rfl rfl c5 ?_)))))))))
   obtain ⟨c6, h4⟩ := chk_of h3; clear h3
   refine s_cutS S (i := (wr .i64 ((wr .i64 (x2 + 32)) + t1.1))) (j := (wr .i64 ((wr .i64 (x2 + 32)) + (wr .i64 ((wr .i64 (Int.tdiv (wr .i64 (t1.1 + 31)) 32)) * 32))))) (ys := (x1.1.take (Int.toNat (wr .i64 ((wr .i64 (x2 + 32)) + (wr .i64 ((wr .i64 (Int.tdiv (wr .i64 (t1.1 + 31)) 32)) * 32)))))).drop (Int.toNat (wr .i64 ((wr .i64 (x2 + 32)) + t1.1)))) rfl rfl underlying26 T5 (.inr ⟨_, _, rfl, rfl⟩) (.inr ⟨_, _, rfl, rfl⟩) c6 rfl rfl fun A4 cp4 a S => s_gT S (b := (decide (((x1.1).length : Int) < (wr .i64 ((wr .i64 (x2 + 32)) + (wr .i64 ((wr .i64 (Int.tdiv (wr .i64 (t1.1 + 31)) 32)) * 32))))))) rfl rfl c5 (bindX h4 fun t4 et4 h5 => s_callP S _ N76 rfl rfl (fa_.ok k ((x1.1.take (Int.toNat (wr .i64 ((wr .i64 (x2 + 32)) + (wr .i64 ((wr .i64 (Int.tdiv (wr .i64 (t1.1 + 31)) 32)) * 32)))))).drop (Int.toNat (wr .i64 ((wr .i64 (x2 + 32)) + t1.1)))) A4 cp4 t4 et4 _ _) fun ch3 m le1 a w S => s_pick S (b := false) (hc_of rfl c5) rfl rfl fun a S => c_end' (x_thenN ?_))
   exact j1 _ t4 ch1.1 ch1.2.1 ch1.2.2 a w (S.sb rfl (.c0 (.c0 .n))) h5
abbrev fd2_.Ty : Type := ((List Int) × Int × L38 × Bool) → PT61 → Int → Option ((Unit × Int × L38 × Bool))
def fd2_.Ctr (s : fd2_.Ty) : Prop := ∀ (x1 : (List Int) × Int × L38 × Bool) (x2 : PT61) (x3 : Int) (ch_0_0 : Nat) (ch_0_1 : Option Addr) (ch_0_2 : Nat) (ch_0_3 : Option Addr) (ch_0_4 : Nat) (ch_0_5 : Nat) (ch_1_0 : Option Addr) (r : (Unit × Int × L38 × Bool)), Ct (C := ((Option Addr) × Nat × Nat)) Tryd.prog 35 (s x1 x2 x3 = some r) [Res.cells ch_0_0 80 [.q yb ch_0_1 ch_0_2 x1.1, .i x1.2.1, .s ch_0_3 ch_0_4 ch_0_5, .b x1.2.2.2], Res.row Y56 56 ch_0_3 ch_0_4 ch_0_5 x1.2.2.1] [(.p ch_0_0), (.rf (.pointer ch_1_0) (PR61 ch_1_0 x2)), (.i x3)] (fun _ => (.tup [])) fun ch => [Res.cells ch_0_0 80 [.q yb ch_0_1 ch_0_2 x1.1, .i r.2.1, .s ch.1 ch.2.1 ch.2.2, .b r.2.2.2], Res.row Y56 56 ch.1 ch.2.1 ch.2.2 r.2.2.1]
abbrev fe1_.Ty : Type := ((List Int) × Int × L38 × Bool) → PT61 → Int → Int → Option ((Unit × Int × L38 × Bool))
def fe1_.Ctr (s : fe1_.Ty) : Prop := ∀ (x1 : (List Int) × Int × L38 × Bool) (x2 : PT61) (x3 : Int) (x4 : Int) (ch_0_0 : Nat) (ch_0_1 : Option Addr) (ch_0_2 : Nat) (ch_0_3 : Option Addr) (ch_0_4 : Nat) (ch_0_5 : Nat) (ch_1_0 : Option Addr) (r : (Unit × Int × L38 × Bool)), Ct (C := ((Option Addr) × Nat × Nat)) Tryd.prog 60 (s x1 x2 x3 x4 = some r) [Res.cells ch_0_0 80 [.q yb ch_0_1 ch_0_2 x1.1, .i x1.2.1, .s ch_0_3 ch_0_4 ch_0_5, .b x1.2.2.2], Res.row Y56 56 ch_0_3 ch_0_4 ch_0_5 x1.2.2.1] [(.p ch_0_0), (.rf (.pointer ch_1_0) (PR61 ch_1_0 x2)), (.i x3), (.i x4)] (fun _ => (.tup [])) fun ch => [Res.cells ch_0_0 80 [.q yb ch_0_1 ch_0_2 x1.1, .i r.2.1, .s ch.1 ch.2.1 ch.2.2, .b r.2.2.2], Res.row Y56 56 ch.1 ch.2.1 ch.2.2 r.2.2.1]
def fd2_.j1 (x1 : (List Int) × Int × L38 × Bool) (x3 : Int) (t1 : (List Int) × (Unit × Unit × L38 × Bool)) (y1 : Bool) : Option ((Unit × Int × L38 × Bool)) := if ((t1.2.2.2.1).length + ([(t1.1, ([] : List Int), 0)]).length) * 64 ≤ 140737488355328 then (some ((), imax x1.2.1 (wr .i64 (x3 + 32)), t1.2.2.2.1 ++ [(t1.1, ([] : List Int), 0)], y1)) else none
def fd2_.body (self0 : fd2_.Ty) (self1 : fe1_.Ty) (k : Nat) (x1 : (List Int) × Int × L38 × Bool) (x2 : PT61) (x3 : Int) : Option ((Unit × Int × L38 × Bool)) := if x1.2.2.2 = true then (some ((), x1.2.1, x1.2.2.1, x1.2.2.2)) else (if PT61.nn x2 = true then (if (decide (((PT61.to x2).1) < 3)) = true then ((fd7_.f k x1 x3).bind fun t1 => (if t1.2.2.2.2 = true then (fd2_.j1 x1 x3 t1 true) else ((fe0_.f k x2 t1.1).bind fun t3 => (fd2_.j1 x1 x3 t1 (!t3))))) else (if (((PT61.to x2).1) == 3) = true then ((fc7_.f k x1 x3).bind fun t4 => (some ((), t4.2.1, t4.2.2.1, t4.2.2.2))) else (if (((PT61.to x2).1) == 4) = true then ((fd0_.f k x1 x3).bind fun t5 => ((self1 (x1.1, imax x1.2.1 (wr .i64 (x3 + 32)), t5.2.2.2.1, t5.2.2.2.2) x2 t5.1 (wr .i64 (x3 + 32))).bind fun t6 => (some ((), t6.2.1, t6.2.2.1, t6.2.2.2)))) else (if (((PT61.to x2).1) == 5) = true then ((self1 x1 x2 ((PT61.to x2).2.1) x3).bind fun t7 => (some ((), t7.2.1, t7.2.2.1, t7.2.2.2))) else ((self1 x1 x2 (((PT61.to x2).2.2).length : Int) x3).bind fun t8 => (some ((), t8.2.1, t8.2.2.1, t8.2.2.2))))))) else none)
theorem fd2_.okb (self0 : fd2_.Ty) (self1 : fe1_.Ty) (c_0 : fd2_.Ctr self0) (c_1 : fe1_.Ctr self1) (k : Nat) : fd2_.Ctr (fd2_.body self0 self1 k) := by
 intro x1 x2 x3 ch_0_0 ch_0_1 ch_0_2 ch_0_3 ch_0_4 ch_0_5 ch_1_0 r h0 mi w0 ok hm
 delta fd2_.body at h0
 refine c_enterZ (n := 113) ok hm func35 rfl rfl rfl fun b0 hb a S => wp_block (c_region (s_move S rfl rfl fun a S => s_nilchk S rfl rfl fun a S => s_fieldAddr S rfl I80_3 T4 (by decide) rfl rfl fun a S => s_load1 S rfl .h T4 (v := (.bool x1.2.2.2)) rfl rfl fun a S => s_assign S rfl rfl fun a S => c_end ?_))
 rcases ite_of h0 with ⟨c1, h1⟩ | ⟨c1, h1⟩
 ·refine c_condT S rfl c1 (wp_ret (x_blockR ?_))
  obtain rfl := Option.some.inj h1
  exact b_ret0 S rfl (S.retX (Hx := []) hb _ _ ((ch_0_3, ch_0_4, ch_0_5) : (Option Addr) × Nat × Nat) (.c0 (.c0 .n)) trivial)
 ·refine c_condF S rfl c1 (c_region (s_move S rfl rfl fun a S => ?_))
  obtain ⟨c2, h2⟩ := chk_of h1; clear h1
  refine s_nilQ S rfl PH61 c2 rfl fun a S => s_faddrP S (tF := yb) (y := (PT61.to x2).1) rfl I67_0 T64 (by decide) (fun m h => (at_fst (at_0 h))) rfl fun a S => s_ld1 S (v := (.int .u8 ((PT61.to x2).1))) rfl T64 (fun _ => rfl) rfl fun a S => s_bin S rfl rfl rfl rfl fun a S => s_assign S rfl rfl fun a S => c_end ?_
  rcases ite_of h2 with ⟨c3, h3⟩ | ⟨c3, h3⟩
  ·refine c_condT S rfl c3 (c_region (s_move S rfl rfl fun a S => s_move S rfl rfl fun a S => bindX h3 fun t1 et1 h4 => s_callX S (ds' := [(.p ch_0_0), (.i x3)]) (ds := [(.p ch_0_0), (.i x3)]) [Res.cells ch_0_0 80 [.q yb ch_0_1 ch_0_2 x1.1, .i x1.2.1, .s ch_0_3 ch_0_4 ch_0_5, .b x1.2.2.2], Res.row Y56 56 ch_0_3 ch_0_4 ch_0_5 x1.2.2.1] [] (fun (ch : (Option Addr) × Nat × Nat) => ((.a4 t1.1) : D)) (fun (ch : (Option Addr) × Nat × Nat) => [Res.cells ch_0_0 80 [.q yb ch_0_1 ch_0_2 x1.1, .i x1.2.1, .s ch.1 ch.2.1 ch.2.2, .b t1.2.2.2.2], Res.row Y56 56 ch.1 ch.2.1 ch.2.2 t1.2.2.2.1]) (fun (ch : (Option Addr) × Nat × Nat) => [Res.cells ch_0_0 80 [.q yb ch_0_1 ch_0_2 x1.1, .i x1.2.1, .s ch.1 ch.2.1 ch.2.2, .b t1.2.2.2.2], Res.row Y56 56 ch.1 ch.2.1 ch.2.2 t1.2.2.2.1]) (fun _ => rfl) N57 rfl rfl (fun ok => ok) (.c0 (.c0 .n)) rfl (fd7_.ok k x1 x3 ch_0_0 ch_0_1 ch_0_2 ch_0_3 ch_0_4 ch_0_5 t1 et1 _ _) fun ch1 m le1 a w S => s_alloc S Z54 rfl ⟨rfl, trivial⟩ rfl fun g1 a w S => s_store S rfl rfl rfl (s' := [.w4 t1.1]) .h T54 rfl rfl fun w S => c_end (wp_seq_k fun K1 hK1 => ?_)))
   have j1 : ∀ m g2 A1 nn1 cp1 y1 a w, St 113 m b0 [(6, (.p g2)), (0, (.p ch_0_0)), (2, (.i x3))] [Res.cells g2 54 [.w4 t1.1], Res.cells ch_0_0 80 [.q yb ch_0_1 ch_0_2 x1.1, .i x1.2.1, .s A1 nn1 cp1, .b y1], Res.row Y56 56 A1 nn1 cp1 t1.2.2.2.1] a w → fd2_.j1 x1 x3 t1 y1 = some r → K1 a w := by
    intro m g2 A1 nn1 cp1 y1 a w S h0
    delta fd2_.j1 at h0
    refine hK1 a w ?_
    refine wp_seq (c_heldS S (.take 0 (.take 1 (.take 2 (.take 3 (.take 4 (.take 5 (.take 6 (.alts (.run 7 true (.alts (.run 8 true (.take 9 (.take 10 (.alts (.run 11 false .done .nil)))) .nil)) .nil))))))))) 11 [Res.cells g2 54 [.w4 t1.1], Res.cells ch_0_0 80 [.q yb ch_0_1 ch_0_2 x1.1, .i x1.2.1, .s A1 nn1 cp1, .b y1]] (.c0 (.c0 .n)) ⟨Res.stay_cells, Res.stay_cells, trivial⟩ [(6, (.p g2)), (0, (.p ch_0_0))] (subR rfl) (by kernel_rfl) (by kernel_rfl) ?_); clear S; intro w S CL hw le
    refine h_move S CL hw le (subR rfl) rfl rfl rfl trivial fun a S CL => h_move S CL hw le (subR rfl) rfl rfl rfl trivial fun a S CL => h_nilchk S CL hw le (subR rfl) rfl rfl rfl rfl trivial fun a S CL => h_fieldAddr S CL hw le (subR rfl) rfl I80_2 T38 (by decide) rfl rfl rfl trivial fun a S CL => h_load1 S CL hw le (subR rfl) rfl .h1 T38 (v := (.slice A1 nn1 cp1)) rfl rfl rfl trivial fun a S CL => h_loada S CL hw le (subR rfl) rfl .h T54 (s' := [.w4 t1.1]) rfl rfl rfl trivial fun a S CL => h_bldS S CL hw le (subR rfl) (ds := [(0, (.a4 t1.1))]) (zs := [.w4 [0, 0, 0, 0], .s none 0 0, .i 0]) (s' := [.w4 t1.1, .s none 0 0, .i 0]) rfl underlying56 P56 Z56 ⟨rfl, rfl, rfl, trivial⟩ rfl rfl rfl trivial fun a S CL => h_run' S rfl trivial ?_
    replace S := S.slot (u := 50) (d' := (.agg [.w4 t1.1, .q yb none 0 ([] : List Int), .i 0])) rfl rfl (by have h := (S.get 50 (.agg [.w4 t1.1, .s none 0 0, .i 0]) rfl).2; exact ⟨h.1, ok_nil, h.2.2.1, trivial⟩)
    replace CL := CL.drop (lq' := [(49, (.a4 t1.1)), (48, (.s A1 nn1 cp1)), (47, (.o ch_0_0 2)), (46, (.p ch_0_0)), (45, (.p ch_0_0)), (44, (.p ch_0_0)), (6, (.p g2)), (0, (.p ch_0_0))]) (subR rfl)
    refine s_bldSl S (ty' := Y56) (ds := [(0, (.agg [.w4 t1.1, .q yb none 0 ([] : List Int), .i 0]))]) (z := ([0, 0, 0, 0], ([] : List Int), 0)) (c0 := ((), (none, 0), ())) (ys := [(t1.1, ([] : List Int), 0)]) (cs := [((), (none, 0), ())]) rfl underlying38 J56 Z56 rfl ⟨rfl, ⟨Nat.le_refl _, Nat.zero_le _, RdS.nil _ _ _, RdS.mono _ _ _⟩, rfl, trivial⟩ rfl rfl rfl rfl rfl rfl fun g3 a w S => CL.bk hw S (.c1 (.c1 .n)) le fun hw => h_run' S rfl trivial ?_
    obtain ⟨c4, h1⟩ := chk_of h0; clear h0
    refine s_app S (k2 := 1) (ys := [(t1.1, ([] : List Int), 0)]) rfl (fun _ _ => .h3) rfl rfl (S.holds _ (Pull.mem .h).1).1 (Res.row.src (S.holds _ (Pull.mem .h).1)) underlying38 J56 c4 rfl fun A2 cp2 a w S => CL.bk hw S (.c1 (.c1 .n)) le fun hw => h_nilchk S CL hw le (subR rfl) rfl rfl rfl rfl trivial fun a S CL => h_fieldAddr S CL hw le (subR rfl) rfl I80_2 T38 (by decide) rfl rfl rfl trivial fun a S CL => h_run' S rfl trivial (s_store S rfl rfl rfl (s' := [.q yb ch_0_1 ch_0_2 x1.1, .i x1.2.1, .s A2 (nn1 + 1) cp2, .b y1]) .h2 T38 rfl rfl fun w S => ?_)
    refine h_back ⟨fun h => (nomatch h), ?_⟩
    refine h_done ?_; clear CL hw le
    refine x_thenN (c_region' (s_move S rfl rfl fun a S => s_move S rfl rfl fun a S => s_nilchk S rfl rfl fun a S => s_fieldAddr S rfl I80_1 T3 (by decide) rfl rfl fun a S => s_load1 S rfl .h2 T3 (v := (.int .i64 x1.2.1)) rfl rfl fun a S => s_move S rfl rfl fun a S => s_bin S rfl rfl rfl rfl fun a S => s_max2 S rfl rfl rfl fun a S => s_nilchk S rfl rfl fun a S => s_fieldAddr S rfl I80_1 T3 (by decide) rfl rfl fun a S => s_store S rfl rfl rfl (s' := [.q yb ch_0_1 ch_0_2 x1.1, .i (imax x1.2.1 (wr .i64 (x3 + 32))), .s A2 (nn1 + 1) cp2, .b y1]) .h2 T3 rfl rfl fun w S => c_end' (x_blockN (b_end ?_))))
    obtain rfl := Option.some.inj h1
    exact b_ret0 S rfl (S.retX (Hx := []) hb _ _ ((A2, nn1 + 1, cp2) : (Option Addr) × Nat × Nat) (.c2 (.c2 .n)) trivial)
   refine c_region' (s_move S rfl rfl fun a S => s_move S rfl rfl fun a S => s_nilchk S rfl rfl fun a S => s_fieldAddr S rfl I80_3 T4 (by decide) rfl rfl fun a S => s_load1 S rfl .h1 T4 (v := (.bool t1.2.2.2.2)) rfl rfl fun a S => s_move S rfl rfl fun a S => ?_)
   rcases ite_of h4 with ⟨c5, h5⟩ | ⟨c5, h5⟩
   ·refine s_gF S (b := t1.2.2.2.2) rfl rfl c5 rfl fun a S => s_gF S (b := t1.2.2.2.2) rfl rfl c5 rfl fun a S => s_gF S (b := t1.2.2.2.2) rfl rfl c5 rfl fun a S => s_gF S (b := t1.2.2.2.2) rfl rfl c5 rfl fun a S => s_pick S (b := true) (hc_of rfl c5) rfl rfl fun a S => s_nilchk S rfl rfl fun a S => s_fieldAddr S rfl I80_3 T4 (by decide) rfl rfl fun a S => s_store S rfl rfl rfl (s' := [.q yb ch_0_1 ch_0_2 x1.1, .i x1.2.1, .s ch1.1 ch1.2.1 ch1.2.2, .b true]) .h1 T4 rfl rfl fun w S => c_end' (x_thenN ?_)
    exact j1 _ g1 ch1.1 ch1.2.1 ch1.2.2 true a w (S.sb rfl (.c0 (.c0 (.c0 .n)))) h5
   ·refine s_gT S (b := t1.2.2.2.2) rfl rfl c5 (s_move S rfl rfl fun a S => s_gT S (b := t1.2.2.2.2) rfl rfl c5 (s_loada S rfl .h T54 (s' := [.w4 t1.1]) rfl rfl fun a S => s_gT S (b := t1.2.2.2.2) rfl rfl c5 (bindX h5 fun t3 et3 h6 => s_callP S _ N48 rfl rfl (fe0_.ok k x2 t1.1 ch_1_0 t3 et3 _ _) fun ch2 m le1 a w S => s_gT S (b := t1.2.2.2.2) rfl rfl c5 (s_not S rfl rfl fun a S => s_pick S (b := false) (hc_of rfl c5) rfl rfl fun a S => s_nilchk S rfl rfl fun a S => s_fieldAddr S rfl I80_3 T4 (by decide) rfl rfl fun a S => s_store S rfl rfl rfl (s' := [.q yb ch_0_1 ch_0_2 x1.1, .i x1.2.1, .s ch1.1 ch1.2.1 ch1.2.2, .b (!t3)]) .h1 T4 rfl rfl fun w S => c_end' (x_thenN ?_)))))
    exact j1 _ g1 ch1.1 ch1.2.1 ch1.2.2 (!t3) a w (S.sb rfl (.c0 (.c0 (.c0 .n)))) h6
  ·refine c_condF S rfl c3 (c_region (s_move S rfl rfl fun a S => s_nilQ S rfl PH61 c2 rfl fun a S => s_faddrP S (tF := yb) (y := (PT61.to x2).1) rfl I67_0 T64 (by decide) (fun m h => (at_fst (at_0 h))) rfl fun a S => s_ld1 S (v := (.int .u8 ((PT61.to x2).1))) rfl T64 (fun _ => rfl) rfl fun a S => s_bin S rfl rfl rfl rfl fun a S => s_assign S rfl rfl fun a S => c_end ?_))
   rcases ite_of h3 with ⟨c6, h4⟩ | ⟨c6, h4⟩
   ·refine c_condT S rfl c6 (c_region' (s_move S rfl rfl fun a S => s_move S rfl rfl fun a S => bindX h4 fun t4 et4 h5 => s_callX S (ds' := [(.p ch_0_0), (.i x3)]) (ds := [(.p ch_0_0), (.i x3)]) [Res.cells ch_0_0 80 [.q yb ch_0_1 ch_0_2 x1.1, .i x1.2.1, .s ch_0_3 ch_0_4 ch_0_5, .b x1.2.2.2], Res.row Y56 56 ch_0_3 ch_0_4 ch_0_5 x1.2.2.1] [] (fun (ch : (Option Addr) × Nat × Nat) => ((.tup []) : D)) (fun (ch : (Option Addr) × Nat × Nat) => [Res.cells ch_0_0 80 [.q yb ch_0_1 ch_0_2 x1.1, .i t4.2.1, .s ch.1 ch.2.1 ch.2.2, .b t4.2.2.2], Res.row Y56 56 ch.1 ch.2.1 ch.2.2 t4.2.2.1]) (fun (ch : (Option Addr) × Nat × Nat) => [Res.cells ch_0_0 80 [.q yb ch_0_1 ch_0_2 x1.1, .i t4.2.1, .s ch.1 ch.2.1 ch.2.2, .b t4.2.2.2], Res.row Y56 56 ch.1 ch.2.1 ch.2.2 t4.2.2.1]) (fun _ => rfl) N58 rfl rfl (fun ok => ok) (.c0 (.c0 .n)) rfl (fc7_.ok k x1 x3 ch_0_0 ch_0_1 ch_0_2 ch_0_3 ch_0_4 ch_0_5 t4 et4 _ _) fun ch3 m le1 a w S => c_end' (x_blockN (b_end ?_))))
    obtain rfl := Option.some.inj h5
    exact b_ret0 S rfl (S.retX (Hx := []) hb _ _ ((ch3.1, ch3.2.1, ch3.2.2) : (Option Addr) × Nat × Nat) (.c0 (.c0 .n)) trivial)
   ·refine c_condF S rfl c6 (c_region (s_move S rfl rfl fun a S => s_nilQ S rfl PH61 c2 rfl fun a S => s_faddrP S (tF := yb) (y := (PT61.to x2).1) rfl I67_0 T64 (by decide) (fun m h => (at_fst (at_0 h))) rfl fun a S => s_ld1 S (v := (.int .u8 ((PT61.to x2).1))) rfl T64 (fun _ => rfl) rfl fun a S => s_bin S rfl rfl rfl rfl fun a S => s_assign S rfl rfl fun a S => c_end ?_))
    rcases ite_of h4 with ⟨c7, h5⟩ | ⟨c7, h5⟩
    ·refine c_condT S rfl c7 (c_region (s_move S rfl rfl fun a S => s_move S rfl rfl fun a S => bindX h5 fun t5 et5 h6 => s_callX S (ds' := [(.p ch_0_0), (.i x3)]) (ds := [(.p ch_0_0), (.i x3)]) [Res.cells ch_0_0 80 [.q yb ch_0_1 ch_0_2 x1.1, .i x1.2.1, .s ch_0_3 ch_0_4 ch_0_5, .b x1.2.2.2], Res.row Y56 56 ch_0_3 ch_0_4 ch_0_5 x1.2.2.1] [] (fun (ch : (Option Addr) × Nat × Nat) => ((.i t5.1) : D)) (fun (ch : (Option Addr) × Nat × Nat) => [Res.cells ch_0_0 80 [.q yb ch_0_1 ch_0_2 x1.1, .i x1.2.1, .s ch.1 ch.2.1 ch.2.2, .b t5.2.2.2.2], Res.row Y56 56 ch.1 ch.2.1 ch.2.2 t5.2.2.2.1]) (fun (ch : (Option Addr) × Nat × Nat) => [Res.cells ch_0_0 80 [.q yb ch_0_1 ch_0_2 x1.1, .i x1.2.1, .s ch.1 ch.2.1 ch.2.2, .b t5.2.2.2.2], Res.row Y56 56 ch.1 ch.2.1 ch.2.2 t5.2.2.2.1]) (fun _ => rfl) N59 rfl rfl (fun ok => ok) (.c0 (.c0 .n)) rfl (fd0_.ok k x1 x3 ch_0_0 ch_0_1 ch_0_2 ch_0_3 ch_0_4 ch_0_5 t5 et5 _ _) fun ch4 m le1 a w S => s_assign S rfl rfl fun a S => c_end (c_region (s_move S rfl rfl fun a S => s_move S rfl rfl fun a S => s_nilchk S rfl rfl fun a S => s_fieldAddr S rfl I80_1 T3 (by decide) rfl rfl fun a S => s_load1 S rfl .h T3 (v := (.int .i64 x1.2.1)) rfl rfl fun a S => s_move S rfl rfl fun a S => s_bin S rfl rfl rfl rfl fun a S => s_max2 S rfl rfl rfl fun a S => s_nilchk S rfl rfl fun a S => s_fieldAddr S rfl I80_1 T3 (by decide) rfl rfl fun a S => s_store S rfl rfl rfl (s' := [.q yb ch_0_1 ch_0_2 x1.1, .i (imax x1.2.1 (wr .i64 (x3 + 32))), .s ch4.1 ch4.2.1 ch4.2.2, .b t5.2.2.2.2]) .h T3 rfl rfl fun w S => c_end (c_region' (s_move S rfl rfl fun a S => s_move S rfl rfl fun a S => s_move S rfl rfl fun a S => s_move S rfl rfl fun a S => s_bin S rfl rfl rfl rfl fun a S => bindX h6 fun t6 et6 h7 => s_callX S (ds' := [(.p ch_0_0), (.rf (.pointer ch_1_0) (PR61 ch_1_0 x2)), (.i t5.1), (.i (wr .i64 (x3 + 32)))]) (ds := [(.p ch_0_0), (.rf (.pointer ch_1_0) (PR61 ch_1_0 x2)), (.i t5.1), (.i (wr .i64 (x3 + 32)))]) [Res.cells ch_0_0 80 [.q yb ch_0_1 ch_0_2 x1.1, .i (imax x1.2.1 (wr .i64 (x3 + 32))), .s ch4.1 ch4.2.1 ch4.2.2, .b t5.2.2.2.2], Res.row Y56 56 ch4.1 ch4.2.1 ch4.2.2 t5.2.2.2.1] [] (fun (ch : (Option Addr) × Nat × Nat) => ((.tup []) : D)) (fun (ch : (Option Addr) × Nat × Nat) => [Res.cells ch_0_0 80 [.q yb ch_0_1 ch_0_2 x1.1, .i t6.2.1, .s ch.1 ch.2.1 ch.2.2, .b t6.2.2.2], Res.row Y56 56 ch.1 ch.2.1 ch.2.2 t6.2.2.1]) (fun (ch : (Option Addr) × Nat × Nat) => [Res.cells ch_0_0 80 [.q yb ch_0_1 ch_0_2 x1.1, .i t6.2.1, .s ch.1 ch.2.1 ch.2.2, .b t6.2.2.2], Res.row Y56 56 ch.1 ch.2.1 ch.2.2 t6.2.2.1]) (fun _ => rfl) N60 rfl rfl (fun ok => ok) (.c0 (.c0 .n)) rfl (c_1 (x1.1, imax x1.2.1 (wr .i64 (x3 + 32)), t5.2.2.2.1, t5.2.2.2.2) x2 t5.1 (wr .i64 (x3 + 32)) ch_0_0 ch_0_1 ch_0_2 ch4.1 ch4.2.1 ch4.2.2 ch_1_0 t6 et6 _ _) fun ch5 m le1 a w S => c_end' (x_blockN (b_end ?_))))))))
     obtain rfl := Option.some.inj h7
     exact b_ret0 S rfl (S.retX (Hx := []) hb _ _ ((ch5.1, ch5.2.1, ch5.2.2) : (Option Addr) × Nat × Nat) (.c0 (.c0 .n)) trivial)
    ·refine c_condF S rfl c7 (c_region (s_move S rfl rfl fun a S => s_nilQ S rfl PH61 c2 rfl fun a S => s_faddrP S (tF := yb) (y := (PT61.to x2).1) rfl I67_0 T64 (by decide) (fun m h => (at_fst (at_0 h))) rfl fun a S => s_ld1 S (v := (.int .u8 ((PT61.to x2).1))) rfl T64 (fun _ => rfl) rfl fun a S => s_bin S rfl rfl rfl rfl fun a S => s_assign S rfl rfl fun a S => c_end ?_))
     rcases ite_of h5 with ⟨c8, h6⟩ | ⟨c8, h6⟩
     ·refine c_condT S rfl c8 (c_region' (s_move S rfl rfl fun a S => s_move S rfl rfl fun a S => s_move S rfl rfl fun a S => s_nilQ S rfl PH61 c2 rfl fun a S => s_faddrP S (tF := yi) (y := (PT61.to x2).2.1) rfl I67_1 T3 (by decide) (fun m h => (at_fst (at_snd (at_0 h)))) rfl fun a S => s_ld1 S (v := (.int .i64 ((PT61.to x2).2.1))) rfl T3 (fun _ => rfl) rfl fun a S => s_move S rfl rfl fun a S => bindX h6 fun t7 et7 h7 => s_callX S (ds' := [(.p ch_0_0), (.rf (.pointer ch_1_0) (PR61 ch_1_0 x2)), (.i ((PT61.to x2).2.1)), (.i x3)]) (ds := [(.p ch_0_0), (.rf (.pointer ch_1_0) (PR61 ch_1_0 x2)), (.i ((PT61.to x2).2.1)), (.i x3)]) [Res.cells ch_0_0 80 [.q yb ch_0_1 ch_0_2 x1.1, .i x1.2.1, .s ch_0_3 ch_0_4 ch_0_5, .b x1.2.2.2], Res.row Y56 56 ch_0_3 ch_0_4 ch_0_5 x1.2.2.1] [] (fun (ch : (Option Addr) × Nat × Nat) => ((.tup []) : D)) (fun (ch : (Option Addr) × Nat × Nat) => [Res.cells ch_0_0 80 [.q yb ch_0_1 ch_0_2 x1.1, .i t7.2.1, .s ch.1 ch.2.1 ch.2.2, .b t7.2.2.2], Res.row Y56 56 ch.1 ch.2.1 ch.2.2 t7.2.2.1]) (fun (ch : (Option Addr) × Nat × Nat) => [Res.cells ch_0_0 80 [.q yb ch_0_1 ch_0_2 x1.1, .i t7.2.1, .s ch.1 ch.2.1 ch.2.2, .b t7.2.2.2], Res.row Y56 56 ch.1 ch.2.1 ch.2.2 t7.2.2.1]) (fun _ => rfl) N60 rfl rfl (fun ok => ok) (.c0 (.c0 .n)) rfl (c_1 x1 x2 ((PT61.to x2).2.1) x3 ch_0_0 ch_0_1 ch_0_2 ch_0_3 ch_0_4 ch_0_5 ch_1_0 t7 et7 _ _) fun ch6 m le1 a w S => c_end' (x_blockN (b_end ?_))))
      obtain rfl := Option.some.inj h7
      exact b_ret0 S rfl (S.retX (Hx := []) hb _ _ ((ch6.1, ch6.2.1, ch6.2.2) : (Option Addr) × Nat × Nat) (.c0 (.c0 .n)) trivial)
     ·refine c_condF S rfl c8 (c_region' (s_move S rfl rfl fun a S => s_move S rfl rfl fun a S => s_move S rfl rfl fun a S => s_nilQ S rfl PH61 c2 rfl fun a S => s_faddrP S (tF := (Ty.slice PY61)) (y := (PT61.to x2).2.2) rfl I67_2 T65 (by decide) (fun m h => (at_snd (at_snd (at_0 h)))) rfl fun a S => s_ldS S (fun c => c) rfl T65 (fun _ => rfl) rfl fun A3 cp3 a S => s_lenS S rfl underlying65 rfl fun a S => s_move S rfl rfl fun a S => bindX h6 fun t8 et8 h7 => s_callX S (ds' := [(.p ch_0_0), (.rf (.pointer ch_1_0) (PR61 ch_1_0 x2)), (.i (((PT61.to x2).2.2).length : Int)), (.i x3)]) (ds := [(.p ch_0_0), (.rf (.pointer ch_1_0) (PR61 ch_1_0 x2)), (.i (((PT61.to x2).2.2).length : Int)), (.i x3)]) [Res.cells ch_0_0 80 [.q yb ch_0_1 ch_0_2 x1.1, .i x1.2.1, .s ch_0_3 ch_0_4 ch_0_5, .b x1.2.2.2], Res.row Y56 56 ch_0_3 ch_0_4 ch_0_5 x1.2.2.1] [] (fun (ch : (Option Addr) × Nat × Nat) => ((.tup []) : D)) (fun (ch : (Option Addr) × Nat × Nat) => [Res.cells ch_0_0 80 [.q yb ch_0_1 ch_0_2 x1.1, .i t8.2.1, .s ch.1 ch.2.1 ch.2.2, .b t8.2.2.2], Res.row Y56 56 ch.1 ch.2.1 ch.2.2 t8.2.2.1]) (fun (ch : (Option Addr) × Nat × Nat) => [Res.cells ch_0_0 80 [.q yb ch_0_1 ch_0_2 x1.1, .i t8.2.1, .s ch.1 ch.2.1 ch.2.2, .b t8.2.2.2], Res.row Y56 56 ch.1 ch.2.1 ch.2.2 t8.2.2.1]) (fun _ => rfl) N60 rfl rfl (fun ok => ok) (.c0 (.c0 .n)) rfl (c_1 x1 x2 (((PT61.to x2).2.2).length : Int) x3 ch_0_0 ch_0_1 ch_0_2 ch_0_3 ch_0_4 ch_0_5 ch_1_0 t8 et8 _ _) fun ch7 m le1 a w S => c_end' (x_blockN (b_end ?_))))
      obtain rfl := Option.some.inj h7
      exact b_ret0 S rfl (S.retX (Hx := []) hb _ _ ((ch7.1, ch7.2.1, ch7.2.2) : (Option Addr) × Nat × Nat) (.c0 (.c0 .n)) trivial)
def fe1_.j3 (k : Nat) (t1 : (List PT61)) (y29 : Int) (y30 : Int) (rec1 : Int → Int → Int → (List ((List Int) × (List Int) × Int)) → Bool → Option ((Unit × Int × L38 × Bool))) (y36 : Int) (y37 : List ((List Int) × (List Int) × Int)) (y38 : Bool) : Option ((Unit × Int × L38 × Bool)) := (fe4_.f k (gt t1 y29)).bind fun t16 => (rec1 (wr .i64 (y29 + 1)) (wr .i64 (y30 + t16)) y36 y37 y38)
def fe1_.j4 (k : Nat) (self0 : fd2_.Ty) (x1 : (List Int) × Int × L38 × Bool) (t1 : (List PT61)) (y29 : Int) (y30 : Int) (y31 : Int) (rec1 : Int → Int → Int → (List ((List Int) × (List Int) × Int)) → Bool → Option ((Unit × Int × L38 × Bool))) (y39 : Bool) (y40 : List ((List Int) × (List Int) × Int)) (y41 : Bool) : Option ((Unit × Int × L38 × Bool)) := if y39 = true then (fe1_.j3 k t1 y29 y30 rec1 y31 y40 true) else ((self0 (x1.1, y31, y40, y41) (gt t1 y29) y31).bind fun t20 => (fe1_.j3 k t1 y29 y30 rec1 t20.2.1 t20.2.2.1 t20.2.2.2))
def fe1_.b1 (k : Nat) (self0 : fd2_.Ty) (x1 : (List Int) × Int × L38 × Bool) (x4 : Int) (t1 : (List PT61)) (rec1 : Int → Int → Int → (List ((List Int) × (List Int) × Int)) → Bool → Option ((Unit × Int × L38 × Bool))) (y29 : Int) (y30 : Int) (y31 : Int) (y32 : List ((List Int) × (List Int) × Int)) (y33 : Bool) : Option ((Unit × Int × L38 × Bool)) := if (decide (y29 < ((t1).length : Int))) = true then (if (0 : Int) ≤ y29 ∧ y29 < ((t1).length : Int) then (if y33 = true then (some ((), y31, y32, y33)) else ((fb5_.f k (gt t1 y29)).bind fun t17 => (if (!t17) = true then ((self0 (x1.1, y31, y32, y33) (gt t1 y29) y30).bind fun t18 => (fe1_.j3 k t1 y29 y30 rec1 t18.2.1 t18.2.2.1 t18.2.2.2)) else ((fd0_.f k (x1.1, y31, y32, y33) y30).bind fun t21 => (fe1_.j4 k self0 x1 t1 y29 y30 y31 rec1 (t21.1 != (wr .i64 (y31 - x4))) t21.2.2.2.1 t21.2.2.2.2))))) else none) else (some ((), y31, y32, y33))
def fe1_.l1 (k : Nat) (self0 : fd2_.Ty) (x1 : (List Int) × Int × L38 × Bool) (x4 : Int) (t1 : (List PT61)) : Nat → Int → Int → Int → (List ((List Int) × (List Int) × Int)) → Bool → Option ((Unit × Int × L38 × Bool))
  | 0, _, _, _, _, _ => none
  | q + 1, y29, y30, y31, y32, y33 => fe1_.b1 k self0 x1 x4 t1 (fe1_.l1 k self0 x1 x4 t1 q) y29 y30 y31 y32 y33
def fe1_.j2 (k : Nat) (self0 : fd2_.Ty) (x1 : (List Int) × Int × L38 × Bool) (x3 : Int) (x4 : Int) (t1 : (List PT61)) (y12 : Int) (y13 : Bool) : Option ((Unit × Int × L38 × Bool)) := fe1_.l1 k self0 x1 x4 t1 k 0 x4 (imax x1.2.1 y12) (x1.2.2.1 ++ [([0, 0, 0, 0], ([] : List Int), x3)]) y13
def fe1_.j5 (y49 : Int) (rec2 : Int → Int → Bool → Option ((Unit × Int × L38 × Bool))) (y52 : Int) (y53 : Bool) : Option ((Unit × Int × L38 × Bool)) := rec2 (wr .i64 (y49 + 1)) y52 y53
def fe1_.b2 (k : Nat) (self0 : fd2_.Ty) (x1 : (List Int) × Int × L38 × Bool) (x3 : Int) (x4 : Int) (t1 : (List PT61)) (rec2 : Int → Int → Bool → Option ((Unit × Int × L38 × Bool))) (y49 : Int) (y50 : Int) (y51 : Bool) : Option ((Unit × Int × L38 × Bool)) := if (decide (y49 < ((t1).length : Int))) = true then (if (0 : Int) ≤ y49 ∧ y49 < ((t1).length : Int) then ((fe4_.f k (gt t1 y49)).bind fun t23 => (if y51 = true then (fe1_.j5 y49 rec2 (wr .i64 (y50 + t23)) true) else (fe1_.j5 y49 rec2 (wr .i64 (y50 + t23)) (decide (((x1.1).length : Int) < (wr .i64 (y50 + t23))))))) else none) else (fe1_.j2 k self0 x1 x3 x4 t1 y50 y51)
def fe1_.l2 (k : Nat) (self0 : fd2_.Ty) (x1 : (List Int) × Int × L38 × Bool) (x3 : Int) (x4 : Int) (t1 : (List PT61)) : Nat → Int → Int → Bool → Option ((Unit × Int × L38 × Bool))
  | 0, _, _, _ => none
  | q + 1, y49, y50, y51 => fe1_.b2 k self0 x1 x3 x4 t1 (fe1_.l2 k self0 x1 x3 x4 t1 q) y49 y50 y51
def fe1_.j1 (k : Nat) (self0 : fd2_.Ty) (x1 : (List Int) × Int × L38 × Bool) (x2 : PT61) (x3 : Int) (x4 : Int) (y1 : Bool) : Option ((Unit × Int × L38 × Bool)) := if y1 = true then (some ((), x1.2.1, x1.2.2.1 ++ [([0, 0, 0, 0], ([] : List Int), x3)], true)) else ((fa8_.f k x2 x3).bind fun t1 => (fe1_.l2 k self0 x1 x3 x4 t1 k 0 x4 x1.2.2.2))
def fe1_.body (self0 : fd2_.Ty) (self1 : fe1_.Ty) (k : Nat) (x1 : (List Int) × Int × L38 × Bool) (x2 : PT61) (x3 : Int) (x4 : Int) : Option ((Unit × Int × L38 × Bool)) := if ((x1.2.2.1).length + ([([0, 0, 0, 0], ([] : List Int), x3)]).length) * 64 ≤ 140737488355328 then (if x1.2.2.2 = true then (fe1_.j1 k self0 x1 x2 x3 x4 true) else (fe1_.j1 k self0 x1 x2 x3 x4 (decide ((wr .i64 (Int.tdiv ((x1.1).length : Int) 32)) < x3)))) else none
theorem fe1_.okb (self0 : fd2_.Ty) (self1 : fe1_.Ty) (c_0 : fd2_.Ctr self0) (c_1 : fe1_.Ctr self1) (k : Nat) : fe1_.Ctr (fe1_.body self0 self1 k) := by
 intro x1 x2 x3 x4 ch_0_0 ch_0_1 ch_0_2 ch_0_3 ch_0_4 ch_0_5 ch_1_0 r h0 mi w0 ok hm
 delta fe1_.body at h0
 refine c_enterZ (n := 125) ok hm func60 rfl rfl rfl fun b0 hb a S => c_region (s_move S rfl rfl fun a S => s_move S rfl rfl fun a S => s_nilchk S rfl rfl fun a S => s_fieldAddr S rfl I80_2 T38 (by decide) rfl rfl fun a S => s_load1 S rfl .h T38 (v := (.slice ch_0_3 ch_0_4 ch_0_5)) rfl rfl fun a S => s_move S rfl rfl fun a S => s_bldS S (ds := [(2, (.i x3))]) (zs := [.w4 [0, 0, 0, 0], .s none 0 0, .i 0]) (s' := [.w4 [0, 0, 0, 0], .s none 0 0, .i x3]) rfl underlying56 P56 Z56 ⟨rfl, rfl, rfl, trivial⟩ rfl rfl fun a S => ?_)
 replace S := S.slot (u := 20) (d' := (.agg [.w4 [0, 0, 0, 0], .q yb none 0 ([] : List Int), .i x3])) rfl rfl (by have h := (S.get 20 (.agg [.w4 [0, 0, 0, 0], .s none 0 0, .i x3]) rfl).2; exact ⟨h.1, ok_nil, h.2.2.1, trivial⟩)
 refine s_bldSl S (ty' := Y56) (ds := [(0, (.agg [.w4 [0, 0, 0, 0], .q yb none 0 ([] : List Int), .i x3]))]) (z := ([0, 0, 0, 0], ([] : List Int), 0)) (c0 := ((), (none, 0), ())) (ys := [([0, 0, 0, 0], ([] : List Int), x3)]) (cs := [((), (none, 0), ())]) rfl underlying38 J56 Z56 rfl ⟨rfl, ⟨Nat.le_refl _, Nat.zero_le _, RdS.nil _ _ _, RdS.mono _ _ _⟩, rfl, trivial⟩ rfl rfl rfl rfl rfl rfl fun g1 a w S => ?_
 obtain ⟨c1, h1⟩ := chk_of h0; clear h0
 refine s_app S (k2 := 1) (ys := [([0, 0, 0, 0], ([] : List Int), x3)]) rfl (fun _ _ => .h2) rfl rfl (S.holds _ (Pull.mem .h).1).1 (Res.row.src (S.holds _ (Pull.mem .h).1)) underlying38 J56 c1 rfl fun A1 cp1 a w S => s_nilchk S rfl rfl fun a S => s_fieldAddr S rfl I80_2 T38 (by decide) rfl rfl fun a S => s_store S rfl rfl rfl (s' := [.q yb ch_0_1 ch_0_2 x1.1, .i x1.2.1, .s A1 (ch_0_4 + 1) cp1, .b x1.2.2.2]) .h1 T38 rfl rfl fun w S => c_end (wp_seq (wp_seq_k fun K1 hK1 => ?_))
 have j1 : ∀ m y1 A2 cp2 a w, St 125 m b0 [(38, (.b y1)), (0, (.p ch_0_0)), (1, (.rf (.pointer ch_1_0) (PR61 ch_1_0 x2))), (2, (.i x3)), (3, (.i x4))] [Res.cells ch_0_0 80 [.q yb ch_0_1 ch_0_2 x1.1, .i x1.2.1, .s A2 (ch_0_4 + 1) cp2, .b x1.2.2.2], Res.row Y56 56 A2 (ch_0_4 + 1) cp2 (x1.2.2.1 ++ [([0, 0, 0, 0], ([] : List Int), x3)])] a w → fe1_.j1 k self0 x1 x2 x3 x4 y1 = some r → K1 a w := by
  intro m y1 A2 cp2 a w S h0
  delta fe1_.j1 at h0
  refine hK1 a w ?_
  rcases ite_of h0 with ⟨c2, h1⟩ | ⟨c2, h1⟩
  ·refine c_condT S rfl c2 (c_region (s_move S rfl rfl fun a S => s_nilchk S rfl rfl fun a S => s_fieldAddr S rfl I80_3 T4 (by decide) rfl rfl fun a S => s_store S rfl rfl rfl (s' := [.q yb ch_0_1 ch_0_2 x1.1, .i x1.2.1, .s A2 (ch_0_4 + 1) cp2, .b true]) .h T4 rfl rfl fun w S => c_end (wp_ret (x_thenR ?_))))
   obtain rfl := Option.some.inj h1
   exact b_ret0 S rfl (S.retX (Hx := []) hb _ _ ((A2, ch_0_4 + 1, cp2) : (Option Addr) × Nat × Nat) (.c0 (.c0 .n)) trivial)
  ·refine c_condF S rfl c2 (wp_skip (x_thenN (c_region (s_move S rfl rfl fun a S => s_move S rfl rfl fun a S => bindX h1 fun t1 et1 h2 => s_callP S _ N44 rfl rfl (fa8_.ok k x2 x3 ch_1_0 t1 et1 _ _) fun ch1 m le1 a w S => s_assign S rfl rfl fun a S => c_end (c_region (s_move S rfl rfl fun a S => s_assign S rfl rfl fun a S => c_end (wp_seq_k fun K2 hK2 => ?_)))))))
   have j2 : ∀ m y12 A3 cp9 y13 a w, St 125 m b0 [(9, (.i y12)), (8, (.q PY61 A3 cp9 t1)), (0, (.p ch_0_0)), (3, (.i x4))] [Res.cells ch_0_0 80 [.q yb ch_0_1 ch_0_2 x1.1, .i x1.2.1, .s A2 (ch_0_4 + 1) cp2, .b y13], Res.row Y56 56 A2 (ch_0_4 + 1) cp2 (x1.2.2.1 ++ [([0, 0, 0, 0], ([] : List Int), x3)])] a w → fe1_.j2 k self0 x1 x3 x4 t1 y12 y13 = some r → K2 a w := by
    intro m y12 A3 cp9 y13 a w S h0
    delta fe1_.j2 at h0
    refine hK2 a w (c_region (s_move S rfl rfl fun a S => s_move S rfl rfl fun a S => s_nilchk S rfl rfl fun a S => s_fieldAddr S rfl I80_1 T3 (by decide) rfl rfl fun a S => s_load1 S rfl .h T3 (v := (.int .i64 x1.2.1)) rfl rfl fun a S => s_move S rfl rfl fun a S => s_max2 S rfl rfl rfl fun a S => s_nilchk S rfl rfl fun a S => s_fieldAddr S rfl I80_1 T3 (by decide) rfl rfl fun a S => s_store S rfl rfl rfl (s' := [.q yb ch_0_1 ch_0_2 x1.1, .i (imax x1.2.1 y12), .s A2 (ch_0_4 + 1) cp2, .b y13]) .h T3 rfl rfl fun w S => c_end (c_region (s_move S rfl rfl fun a S => s_assign S rfl rfl fun a S => c_end (c_region (s_move S rfl rfl fun a S => s_lenS S rfl underlying65 rfl fun a S => s_move S rfl rfl fun a S => c_end (wp_block ?_)))))))
    refine c_loop (fun q1 a w => ∃ m y29 y30 y31 A4 nn1 cp15 y32 y33, St 125 m b0 [(85, (.i y29)), (84, (.i ((t1).length : Int))), (83, (.q PY61 A3 cp9 t1)), (9, (.i y30)), (0, (.p ch_0_0)), (3, (.i x4))] [Res.cells ch_0_0 80 [.q yb ch_0_1 ch_0_2 x1.1, .i y31, .s A4 nn1 cp15, .b y33], Res.row Y56 56 A4 nn1 cp15 y32] a w ∧ fe1_.l1 k self0 x1 x4 t1 q1 y29 y30 y31 y32 y33 = some r) ?_ ?_ (k := k) ⟨_, 0, x4, (imax x1.2.1 y12), A2, (ch_0_4 + 1), cp2, (x1.2.2.1 ++ [([0, 0, 0, 0], ([] : List Int), x3)]), y13, (S.sb rfl (.c0 (.c0 .n))), h0⟩
    ·rintro a w ⟨m, y29, y30, y31, A4, nn1, cp15, y32, y33, S, h0⟩
     exact (nomatch (show (none : Option ((Unit × Int × L38 × Bool))) = some r from h0))
    ·clear S h0
     rintro q1 a w ⟨m, y29, y30, y31, A4, nn1, cp15, y32, y33, S, h0⟩
     replace h0 : fe1_.b1 k self0 x1 x4 t1 (fe1_.l1 k self0 x1 x4 t1 q1) y29 y30 y31 y32 y33 = some r := h0
     delta fe1_.b1 at h0
     refine c_region (s_bin S rfl rfl rfl rfl fun a S => c_end (wp_seq ?_))
     rcases ite_of h0 with ⟨c3, h1⟩ | ⟨c3, h1⟩
     ·refine c_condT S rfl c3 (wp_skip (x_thenN (wp_seq (wp_block (c_region ?_)))))
      obtain ⟨c4, h2⟩ := chk_of h1; clear h1
      refine s_iaddrS S rfl rfl rfl underlying65 T61 c4.1 c4.2 rfl fun p1 a S => s_ldF S (fun c => .pointer c) (fun c => PR61 c (gt t1 y29)) rfl T61 (fun _ => rfl) rfl fun ch2 a S => s_assign S rfl rfl fun a S => c_end (wp_seq (c_region (s_move S rfl rfl fun a S => s_nilchk S rfl rfl fun a S => s_fieldAddr S rfl I80_3 T4 (by decide) rfl rfl fun a S => s_load1 S rfl .h T4 (v := (.bool y33)) rfl rfl fun a S => c_end ?_)))
      rcases ite_of h2 with ⟨c5, h3⟩ | ⟨c5, h3⟩
      ·refine c_condT S rfl c5 (wp_ret (x_thenR (x_blockR (x_thenR (x_thenR (x_blockR ?_))))))
       obtain rfl := Option.some.inj h3
       exact b_ret0 S rfl (S.retX (Hx := []) hb _ _ ((A4, nn1, cp15) : (Option Addr) × Nat × Nat) (.c0 (.c0 .n)) trivial)
      ·refine c_condF S rfl c5 (wp_skip (x_thenN (wp_seq_k fun K3 hK3 => ?_)))
       have j3 : ∀ m cq1 y36 A5 nn3 cp17 y37 y38 a w, St 125 m b0 [(13, (.rf (.pointer cq1) (PR61 cq1 (gt t1 y29)))), (85, (.i y29)), (84, (.i ((t1).length : Int))), (83, (.q PY61 A3 cp9 t1)), (9, (.i y30)), (0, (.p ch_0_0)), (3, (.i x4))] [Res.cells ch_0_0 80 [.q yb ch_0_1 ch_0_2 x1.1, .i y36, .s A5 nn3 cp17, .b y38], Res.row Y56 56 A5 nn3 cp17 y37] a w → fe1_.j3 k t1 y29 y30 (fe1_.l1 k self0 x1 x4 t1 q1) y36 y37 y38 = some r → K3 a w := by
        intro m cq1 y36 A5 nn3 cp17 y37 y38 a w S h0
        delta fe1_.j3 at h0
        refine hK3 a w (c_region' (s_move S rfl rfl fun a S => s_move S rfl rfl fun a S => bindX h0 fun t16 et16 h1 => s_callP S _ N28 rfl rfl (fe4_.ok k (gt t1 y29) cq1 t16 et16 _ _) fun ch7 m le1 a w S => s_bin S rfl rfl rfl rfl fun a S => s_assign S rfl rfl fun a S => c_end' (x_blockN (x_thenN (c_region' (s_bin S rfl rfl rfl rfl fun a S => s_move S rfl rfl fun a S => c_end' (x_thenN ?_)))))))
        exact ⟨_, (wr .i64 (y29 + 1)), (wr .i64 (y30 + t16)), y36, A5, nn3, cp17, y37, y38, (S.sb rfl (.c0 (.c0 .n))), h1⟩
       refine c_region (s_move S rfl rfl fun a S => bindX h3 fun t17 et17 h4 => s_callP S _ N27 rfl rfl (fb5_.ok k (gt t1 y29) ch2 t17 et17 _ _) fun ch8 m le1 a w S => s_not S rfl rfl fun a S => c_end ?_)
       rcases ite_of h4 with ⟨c6, h5⟩ | ⟨c6, h5⟩
       ·refine c_condT S rfl c6 (c_region' (s_move S rfl rfl fun a S => s_move S rfl rfl fun a S => s_move S rfl rfl fun a S => bindX h5 fun t18 et18 h6 => s_callX S (ds' := [(.p ch_0_0), (.rf (.pointer ch2) (PR61 ch2 (gt t1 y29))), (.i y30)]) (ds := [(.p ch_0_0), (.rf (.pointer ch2) (PR61 ch2 (gt t1 y29))), (.i y30)]) [Res.cells ch_0_0 80 [.q yb ch_0_1 ch_0_2 x1.1, .i y31, .s A4 nn1 cp15, .b y33], Res.row Y56 56 A4 nn1 cp15 y32] [] (fun (ch : (Option Addr) × Nat × Nat) => ((.tup []) : D)) (fun (ch : (Option Addr) × Nat × Nat) => [Res.cells ch_0_0 80 [.q yb ch_0_1 ch_0_2 x1.1, .i t18.2.1, .s ch.1 ch.2.1 ch.2.2, .b t18.2.2.2], Res.row Y56 56 ch.1 ch.2.1 ch.2.2 t18.2.2.1]) (fun (ch : (Option Addr) × Nat × Nat) => [Res.cells ch_0_0 80 [.q yb ch_0_1 ch_0_2 x1.1, .i t18.2.1, .s ch.1 ch.2.1 ch.2.2, .b t18.2.2.2], Res.row Y56 56 ch.1 ch.2.1 ch.2.2 t18.2.2.1]) (fun _ => rfl) N35 rfl rfl (fun ok => ok) (.c0 (.c0 .n)) rfl (c_0 (x1.1, y31, y32, y33) (gt t1 y29) y30 ch_0_0 ch_0_1 ch_0_2 A4 nn1 cp15 ch2 t18 et18 _ _) fun ch9 m le1 a w S => c_end' (x_thenN ?_)))
        exact j3 _ ch2 t18.2.1 ch9.1 ch9.2.1 ch9.2.2 t18.2.2.1 t18.2.2.2 a w (S.sb rfl (.c0 (.c0 .n))) h6
       ·refine c_condF S rfl c6 (wp_seq_k fun K4 hK4 => ?_)
        have j4 : ∀ m y39 cq2 A6 nn4 cp18 y40 y41 a w, St 125 m b0 [(109, (.b y39)), (13, (.rf (.pointer cq2) (PR61 cq2 (gt t1 y29)))), (85, (.i y29)), (84, (.i ((t1).length : Int))), (83, (.q PY61 A3 cp9 t1)), (9, (.i y30)), (0, (.p ch_0_0)), (3, (.i x4))] [Res.cells ch_0_0 80 [.q yb ch_0_1 ch_0_2 x1.1, .i y31, .s A6 nn4 cp18, .b y41], Res.row Y56 56 A6 nn4 cp18 y40] a w → fe1_.j4 k self0 x1 t1 y29 y30 y31 (fe1_.l1 k self0 x1 x4 t1 q1) y39 y40 y41 = some r → K4 a w := by
         intro m y39 cq2 A6 nn4 cp18 y40 y41 a w S h0
         delta fe1_.j4 at h0
         refine hK4 a w ?_
         rcases ite_of h0 with ⟨c7, h1⟩ | ⟨c7, h1⟩
         ·refine c_condT S rfl c7 (c_region' (s_move S rfl rfl fun a S => s_nilchk S rfl rfl fun a S => s_fieldAddr S rfl I80_3 T4 (by decide) rfl rfl fun a S => s_store S rfl rfl rfl (s' := [.q yb ch_0_1 ch_0_2 x1.1, .i y31, .s A6 nn4 cp18, .b true]) .h T4 rfl rfl fun w S => c_end' (x_thenN ?_)))
          exact j3 _ cq2 y31 A6 nn4 cp18 y40 true a w (S.sb rfl (.c0 (.c0 .n))) h1
         ·refine c_condF S rfl c7 (c_region' (s_move S rfl rfl fun a S => s_move S rfl rfl fun a S => s_move S rfl rfl fun a S => s_nilchk S rfl rfl fun a S => s_fieldAddr S rfl I80_1 T3 (by decide) rfl rfl fun a S => s_load1 S rfl .h T3 (v := (.int .i64 y31)) rfl rfl fun a S => bindX h1 fun t20 et20 h2 => s_callX S (ds' := [(.p ch_0_0), (.rf (.pointer cq2) (PR61 cq2 (gt t1 y29))), (.i y31)]) (ds := [(.p ch_0_0), (.rf (.pointer cq2) (PR61 cq2 (gt t1 y29))), (.i y31)]) [Res.cells ch_0_0 80 [.q yb ch_0_1 ch_0_2 x1.1, .i y31, .s A6 nn4 cp18, .b y41], Res.row Y56 56 A6 nn4 cp18 y40] [] (fun (ch : (Option Addr) × Nat × Nat) => ((.tup []) : D)) (fun (ch : (Option Addr) × Nat × Nat) => [Res.cells ch_0_0 80 [.q yb ch_0_1 ch_0_2 x1.1, .i t20.2.1, .s ch.1 ch.2.1 ch.2.2, .b t20.2.2.2], Res.row Y56 56 ch.1 ch.2.1 ch.2.2 t20.2.2.1]) (fun (ch : (Option Addr) × Nat × Nat) => [Res.cells ch_0_0 80 [.q yb ch_0_1 ch_0_2 x1.1, .i t20.2.1, .s ch.1 ch.2.1 ch.2.2, .b t20.2.2.2], Res.row Y56 56 ch.1 ch.2.1 ch.2.2 t20.2.2.1]) (fun _ => rfl) N35 rfl rfl (fun ok => ok) (.c0 (.c0 .n)) rfl (c_0 (x1.1, y31, y40, y41) (gt t1 y29) y31 ch_0_0 ch_0_1 ch_0_2 A6 nn4 cp18 cq2 t20 et20 _ _) fun ch11 m le1 a w S => c_end' (x_thenN ?_)))
          exact j3 _ cq2 t20.2.1 ch11.1 ch11.2.1 ch11.2.2 t20.2.2.1 t20.2.2.2 a w (S.sb rfl (.c0 (.c0 .n))) h2
        refine c_heldS S (.take 0 (.take 1 (.take 3 (.take 4 (.take 5 (.take 7 (.alts (.run 2 true (.alts (.run 6 true (.take 8 (.take 9 .done)) .nil)) (.run 6 true (.take 8 (.alts (.run 2 true (.take 9 .done) .nil))) .nil))))))))) 10 [] .nil trivial [(9, (.i y30)), (0, (.p ch_0_0)), (3, (.i x4))] (subR rfl) (by kernel_rfl) (by kernel_rfl) fun w S CL hw le => ?_
        refine h_move S CL hw le (subR rfl) rfl rfl rfl trivial fun a S CL => h_move S CL hw le (subR rfl) rfl rfl rfl trivial fun a S CL => h_move S CL hw le (subR rfl) rfl rfl rfl trivial fun a S CL => h_nilchk S CL hw le (subR rfl) rfl rfl rfl rfl trivial fun a S CL => h_fieldAddr S CL hw le (subR rfl) rfl I80_1 T3 (by decide) rfl rfl rfl trivial fun a S CL => h_move S CL hw le (subR rfl) rfl rfl rfl trivial fun a S CL => bindX h5 fun t21 et21 h6 => h_alts ?_
        refine h_runO S rfl trivial ?_ ?_
        ·refine s_callX S (ds' := [(.p ch_0_0), (.i y30)]) (ds := [(.p ch_0_0), (.i y30)]) [Res.cells ch_0_0 80 [.q yb ch_0_1 ch_0_2 x1.1, .i y31, .s A4 nn1 cp15, .b y33], Res.row Y56 56 A4 nn1 cp15 y32] [] (fun (ch : (Option Addr) × Nat × Nat) => ((.i t21.1) : D)) (fun (ch : (Option Addr) × Nat × Nat) => [Res.cells ch_0_0 80 [.q yb ch_0_1 ch_0_2 x1.1, .i y31, .s ch.1 ch.2.1 ch.2.2, .b t21.2.2.2.2], Res.row Y56 56 ch.1 ch.2.1 ch.2.2 t21.2.2.2.1]) (fun (ch : (Option Addr) × Nat × Nat) => [Res.cells ch_0_0 80 [.q yb ch_0_1 ch_0_2 x1.1, .i y31, .s ch.1 ch.2.1 ch.2.2, .b t21.2.2.2.2], Res.row Y56 56 ch.1 ch.2.1 ch.2.2 t21.2.2.2.1]) (fun _ => rfl) N59 rfl rfl (fun ok => ok) (.c0 (.c0 .n)) rfl (fd0_.ok k (x1.1, y31, y32, y33) y30 ch_0_0 ch_0_1 ch_0_2 A4 nn1 cp15 t21 et21 _ _) fun ch12 m le1 a w S => ?_
         replace le := le.trans le1
         refine CL.bk hw S .nil le fun hw => ?_
         replace CL := CL.add (t := 102) (d := (.i t21.1)) S rfl rfl
         refine h_run' S rfl trivial (s_load1 S rfl .h T3 (v := (.int .i64 y31)) rfl rfl fun a S => CL.bk hw S .nil le fun hw => ?_)
         replace CL := CL.add (t := 106) (d := (.i y31)) S rfl rfl
         refine h_bin S CL hw le (subR rfl) rfl rfl rfl rfl rfl trivial fun a S CL => h_bin S CL hw le (subR rfl) rfl rfl rfl rfl rfl trivial fun a S CL => ?_
         refine h_done ?_; clear CL hw le
         refine x_thenN ?_
         exact j4 _ (t21.1 != (wr .i64 (y31 - x4))) ch2 ch12.1 ch12.2.1 ch12.2.2 t21.2.2.2.1 t21.2.2.2.2 a w (S.sb rfl (.c0 (.c0 .n))) h6
        refine h_runO S rfl trivial ?_ ?_
        ·refine s_load1 S rfl .h T3 (v := (.int .i64 y31)) rfl rfl fun a S => CL.bk hw S .nil le fun hw => ?_
         replace CL := CL.add (t := 106) (d := (.i y31)) S rfl rfl
         refine h_bin S CL hw le (subR rfl) rfl rfl rfl rfl rfl trivial fun a S CL => h_run' S rfl trivial (s_callX S (ds' := [(.p ch_0_0), (.i y30)]) (ds := [(.p ch_0_0), (.i y30)]) [Res.cells ch_0_0 80 [.q yb ch_0_1 ch_0_2 x1.1, .i y31, .s A4 nn1 cp15, .b y33], Res.row Y56 56 A4 nn1 cp15 y32] [] (fun (ch : (Option Addr) × Nat × Nat) => ((.i t21.1) : D)) (fun (ch : (Option Addr) × Nat × Nat) => [Res.cells ch_0_0 80 [.q yb ch_0_1 ch_0_2 x1.1, .i y31, .s ch.1 ch.2.1 ch.2.2, .b t21.2.2.2.2], Res.row Y56 56 ch.1 ch.2.1 ch.2.2 t21.2.2.2.1]) (fun (ch : (Option Addr) × Nat × Nat) => [Res.cells ch_0_0 80 [.q yb ch_0_1 ch_0_2 x1.1, .i y31, .s ch.1 ch.2.1 ch.2.2, .b t21.2.2.2.2], Res.row Y56 56 ch.1 ch.2.1 ch.2.2 t21.2.2.2.1]) (fun _ => rfl) N59 rfl rfl (fun ok => ok) (.c0 (.c0 .n)) rfl (fd0_.ok k (x1.1, y31, y32, y33) y30 ch_0_0 ch_0_1 ch_0_2 A4 nn1 cp15 t21 et21 _ _) fun ch12 m le1 a w S => ?_)
         replace le := le.trans le1
         refine CL.bk hw S .nil le fun hw => ?_
         replace CL := CL.add (t := 102) (d := (.i t21.1)) S rfl rfl
         refine h_bin S CL hw le (subR rfl) rfl rfl rfl rfl rfl trivial fun a S CL => ?_
         refine h_done ?_; clear CL hw le
         refine x_thenN ?_
         exact j4 _ (t21.1 != (wr .i64 (y31 - x4))) ch2 ch12.1 ch12.2.1 ch12.2.2 t21.2.2.2.1 t21.2.2.2.2 a w (S.sb rfl (.c0 (.c0 .n))) h6
        exact h_nil
     ·refine c_condF S rfl c3 (wp_exit (x_thenX (x_thenX (x_blockX (b_end ?_)))))
      obtain rfl := Option.some.inj h1
      exact b_ret0 S rfl (S.retX (Hx := []) hb _ _ ((A4, nn1, cp15) : (Option Addr) × Nat × Nat) (.c0 (.c0 .n)) trivial)
   refine c_region (s_move S rfl rfl fun a S => s_lenS S rfl underlying65 rfl fun a S => s_move S rfl rfl fun a S => c_end (wp_block ?_))
   refine c_loop (fun q2 a w => ∃ m y49 A7 cp23 y50 A8 cp24 y51, St 125 m b0 [(48, (.i y49)), (47, (.i ((t1).length : Int))), (46, (.q PY61 A7 cp23 t1)), (9, (.i y50)), (8, (.q PY61 A8 cp24 t1)), (0, (.p ch_0_0)), (3, (.i x4))] [Res.cells ch_0_0 80 [.q yb ch_0_1 ch_0_2 x1.1, .i x1.2.1, .s A2 (ch_0_4 + 1) cp2, .b y51], Res.row Y56 56 A2 (ch_0_4 + 1) cp2 (x1.2.2.1 ++ [([0, 0, 0, 0], ([] : List Int), x3)])] a w ∧ fe1_.l2 k self0 x1 x3 x4 t1 q2 y49 y50 y51 = some r) ?_ ?_ (k := k) ⟨_, 0, ch1.1, ch1.2, x4, ch1.1, ch1.2, x1.2.2.2, (S.sb rfl (.c0 (.c0 .n))), h2⟩
   ·rintro a w ⟨m, y49, A7, cp23, y50, A8, cp24, y51, S, h0⟩
    exact (nomatch (show (none : Option ((Unit × Int × L38 × Bool))) = some r from h0))
   ·clear S h2
    rintro q2 a w ⟨m, y49, A7, cp23, y50, A8, cp24, y51, S, h0⟩
    replace h0 : fe1_.b2 k self0 x1 x3 x4 t1 (fe1_.l2 k self0 x1 x3 x4 t1 q2) y49 y50 y51 = some r := h0
    delta fe1_.b2 at h0
    refine c_region (s_bin S rfl rfl rfl rfl fun a S => c_end (wp_seq ?_))
    rcases ite_of h0 with ⟨c8, h1⟩ | ⟨c8, h1⟩
    ·refine c_condT S rfl c8 (wp_skip (x_thenN (wp_seq_k fun K5 hK5 => ?_)))
     have j5 : ∀ m y52 y53 a w, St 125 m b0 [(9, (.i y52)), (48, (.i y49)), (47, (.i ((t1).length : Int))), (46, (.q PY61 A7 cp23 t1)), (8, (.q PY61 A8 cp24 t1)), (0, (.p ch_0_0)), (3, (.i x4))] [Res.cells ch_0_0 80 [.q yb ch_0_1 ch_0_2 x1.1, .i x1.2.1, .s A2 (ch_0_4 + 1) cp2, .b y53], Res.row Y56 56 A2 (ch_0_4 + 1) cp2 (x1.2.2.1 ++ [([0, 0, 0, 0], ([] : List Int), x3)])] a w → fe1_.j5 y49 (fe1_.l2 k self0 x1 x3 x4 t1 q2) y52 y53 = some r → K5 a w := by
      intro m y52 y53 a w S h0
      delta fe1_.j5 at h0
      refine hK5 a w (c_region' (s_bin S rfl rfl rfl rfl fun a S => s_move S rfl rfl fun a S => c_end' (x_thenN ?_)))
      exact ⟨_, (wr .i64 (y49 + 1)), A7, cp23, y52, A8, cp24, y53, (S.sb rfl (.c0 (.c0 .n))), h0⟩
     refine wp_block (c_region ?_)
     obtain ⟨c9, h2⟩ := chk_of h1; clear h1
     refine s_iaddrS S rfl rfl rfl underlying65 T61 c9.1 c9.2 rfl fun p3 a S => s_ldF S (fun c => .pointer c) (fun c => PR61 c (gt t1 y49)) rfl T61 (fun _ => rfl) rfl fun ch14 a S => s_assign S rfl rfl fun a S => c_end (c_region (s_move S rfl rfl fun a S => s_move S rfl rfl fun a S => bindX h2 fun t23 et23 h3 => s_callP S _ N28 rfl rfl (fe4_.ok k (gt t1 y49) ch14 t23 et23 _ _) fun ch15 m le1 a w S => s_bin S rfl rfl rfl rfl fun a S => s_assign S rfl rfl fun a S => c_end (c_region' (s_move S rfl rfl fun a S => s_move S rfl rfl fun a S => s_nilchk S rfl rfl fun a S => s_fieldAddr S rfl I80_3 T4 (by decide) rfl rfl fun a S => s_load1 S rfl .h T4 (v := (.bool y51)) rfl rfl fun a S => s_move S rfl rfl fun a S => ?_))))
     rcases ite_of h3 with ⟨c10, h4⟩ | ⟨c10, h4⟩
     ·refine s_gF S (b := y51) rfl rfl c10 rfl fun a S => s_gF S (b := y51) rfl rfl c10 rfl fun a S => s_gF S (b := y51) rfl rfl c10 rfl fun a S => s_gF S (b := y51) rfl rfl c10 rfl fun a S => s_gF S (b := y51) rfl rfl c10 rfl fun a S => s_gF S (b := y51) rfl rfl c10 rfl fun a S => s_gF S (b := y51) rfl rfl c10 rfl fun a S => s_pick S (b := true) (hc_of rfl c10) rfl rfl fun a S => s_nilchk S rfl rfl fun a S => s_fieldAddr S rfl I80_3 T4 (by decide) rfl rfl fun a S => s_store S rfl rfl rfl (s' := [.q yb ch_0_1 ch_0_2 x1.1, .i x1.2.1, .s A2 (ch_0_4 + 1) cp2, .b true]) .h T4 rfl rfl fun w S => c_end' (x_blockN (x_thenN ?_))
      exact j5 _ (wr .i64 (y50 + t23)) true a w (S.sb rfl (.c0 (.c0 .n))) h4
     ·refine s_gT S (b := y51) rfl rfl c10 (s_move S rfl rfl fun a S => s_gT S (b := y51) rfl rfl c10 (s_move S rfl rfl fun a S => s_gT S (b := y51) rfl rfl c10 (s_nilchk S rfl rfl fun a S => s_gT S (b := y51) rfl rfl c10 (s_fieldAddr S rfl I80_0 T26 (by decide) rfl rfl fun a S => s_gT S (b := y51) rfl rfl c10 (s_loadSl S rfl .h T26 (A := ch_0_1) (len := (x1.1).length) (cap := ch_0_2) rfl rfl fun a S => s_gT S (b := y51) rfl rfl c10 (s_lenS S rfl underlying26 rfl fun a S => s_gT S (b := y51) rfl rfl c10 (s_bin S rfl rfl rfl rfl fun a S => s_pick S (b := false) (hc_of rfl c10) rfl rfl fun a S => s_nilchk S rfl rfl fun a S => s_fieldAddr S rfl I80_3 T4 (by decide) rfl rfl fun a S => s_store S rfl rfl rfl (s' := [.q yb ch_0_1 ch_0_2 x1.1, .i x1.2.1, .s A2 (ch_0_4 + 1) cp2, .b (decide (((x1.1).length : Int) < (wr .i64 (y50 + t23))))]) .h T4 rfl rfl fun w S => c_end' (x_blockN (x_thenN ?_)))))))))
      exact j5 _ (wr .i64 (y50 + t23)) (decide (((x1.1).length : Int) < (wr .i64 (y50 + t23)))) a w (S.sb rfl (.c0 (.c0 .n))) h4
    ·refine c_condF S rfl c8 (wp_exit (x_thenX (x_thenX (x_blockX (x_thenN ?_)))))
     exact j2 _ y50 A8 cp24 y51 a w (S.sb rfl (.c0 (.c0 .n))) h1
 refine c_region' (s_move S rfl rfl fun a S => s_nilchk S rfl rfl fun a S => s_fieldAddr S rfl I80_3 T4 (by decide) rfl rfl fun a S => s_load1 S rfl .h1 T4 (v := (.bool x1.2.2.2)) rfl rfl fun a S => s_move S rfl rfl fun a S => ?_)
 rcases ite_of h1 with ⟨c11, h2⟩ | ⟨c11, h2⟩
 ·refine s_gF S (b := x1.2.2.2) rfl rfl c11 rfl fun a S => s_gF S (b := x1.2.2.2) rfl rfl c11 rfl fun a S => s_gF S (b := x1.2.2.2) rfl rfl c11 rfl fun a S => s_gF S (b := x1.2.2.2) rfl rfl c11 rfl fun a S => s_gF S (b := x1.2.2.2) rfl rfl c11 rfl fun a S => s_gF S (b := x1.2.2.2) rfl rfl c11 rfl fun a S => s_gF S (b := x1.2.2.2) rfl rfl c11 rfl fun a S => s_gF S (b := x1.2.2.2) rfl rfl c11 rfl fun a S => s_pick S (b := true) (hc_of rfl c11) rfl rfl fun a S => c_end' (x_thenN ?_)
  exact j1 _ true A1 cp1 a w (S.sb rfl (.c1 (.c1 .n))) h2
 ·refine s_gT S (b := x1.2.2.2) rfl rfl c11 (s_move S rfl rfl fun a S => s_gT S (b := x1.2.2.2) rfl rfl c11 (s_move S rfl rfl fun a S => s_gT S (b := x1.2.2.2) rfl rfl c11 (s_nilchk S rfl rfl fun a S => s_gT S (b := x1.2.2.2) rfl rfl c11 (s_fieldAddr S rfl I80_0 T26 (by decide) rfl rfl fun a S => s_gT S (b := x1.2.2.2) rfl rfl c11 (s_loadSl S rfl .h1 T26 (A := ch_0_1) (len := (x1.1).length) (cap := ch_0_2) rfl rfl fun a S => s_gT S (b := x1.2.2.2) rfl rfl c11 (s_lenS S rfl underlying26 rfl fun a S => s_gT S (b := x1.2.2.2) rfl rfl c11 (s_quo S rfl rfl (by decide) rfl fun a S => s_gT S (b := x1.2.2.2) rfl rfl c11 (s_bin S rfl rfl rfl rfl fun a S => s_pick S (b := false) (hc_of rfl c11) rfl rfl fun a S => c_end' (x_thenN ?_)))))))))
  exact j1 _ (decide ((wr .i64 (Int.tdiv ((x1.1).length : Int) 32)) < x3)) A1 cp1 a w (S.sb rfl (.c1 (.c1 .n))) h2
mutual
def fd2_.f : Nat → fd2_.Ty
  | 0 => fun _ _ _ => none
  | k + 1 => fd2_.body (fd2_.f k) (fe1_.f k) k
def fe1_.f : Nat → fe1_.Ty
  | 0 => fun _ _ _ _ => none
  | k + 1 => fe1_.body (fd2_.f k) (fe1_.f k) k
end
theorem fd2_.oks : ∀ k : Nat, fd2_.Ctr (fd2_.f k) ∧ fe1_.Ctr (fe1_.f k)
  | 0 => ⟨fun _ _ _ _ _ _ _ _ _ _ r h0 => (nomatch (show (none : Option ((Unit × Int × L38 × Bool))) = some r from h0)), fun _ _ _ _ _ _ _ _ _ _ _ r h0 => (nomatch (show (none : Option ((Unit × Int × L38 × Bool))) = some r from h0))⟩
  | k + 1 => by
    have ih := fd2_.oks k
    exact ⟨fd2_.okb (fd2_.f k) (fe1_.f k) ih.1 ih.2 k, fe1_.okb (fd2_.f k) (fe1_.f k) ih.1 ih.2 k⟩
theorem fd2_.ok (k : Nat) : fd2_.Ctr (fd2_.f k) := (fd2_.oks k).1
theorem fe1_.ok (k : Nat) : fe1_.Ctr (fe1_.f k) := (fd2_.oks k).2
abbrev ff1_.Ty : Type := ByteArray → (List Int) → Option (L38 × Int)
def ff1_.Ctr (s : ff1_.Ty) : Prop := ∀ (x1 : ByteArray) (x2 : List Int) (ch_1_0 : Option Addr) (ch_1_1 : Nat) (r : L38 × Int), Ct (C := ((Option Addr) × Nat × Nat)) Tryd.prog 19 (s x1 x2 = some r) [] [(.v (.string x1)), (.q yb ch_1_0 ch_1_1 x2)] (fun ch => (.tup [(false, [.s ch.1 ch.2.1 ch.2.2]), (false, [.i r.2])])) fun ch => [Res.row Y56 56 ch.1 ch.2.1 ch.2.2 r.1]
def ff1_.j2 (t2 : (Unit × Int × L38 × Bool)) (y2 : Bool) : Option (L38 × Int) := if y2 = true then (some (([] : List ((List Int) × (List Int) × Int)), 2)) else (some (t2.2.2.1, 0))
def ff1_.j1 (k : Nat) (x2 : List Int) (t1 : PT61) (y1 : Bool) : Option (L38 × Int) := if y1 = true then (some (([] : List ((List Int) × (List Int) × Int)), 17)) else (if (decide (1048576 < ((x2).length : Int))) = true then (some (([] : List ((List Int) × (List Int) × Int)), 4)) else ((fd2_.f k (x2, 0, ([] : List ((List Int) × (List Int) × Int)), false) t1 0).bind fun t2 => (if t2.2.2.2 = true then (ff1_.j2 t2 true) else (ff1_.j2 t2 (t2.2.1 != ((x2).length : Int))))))
def ff1_.f (k : Nat) (x1 : ByteArray) (x2 : List Int) : Option (L38 × Int) := (ff8_.f k x1).bind fun t1 => (if (!(PT61.nn t1)) = true then (ff1_.j1 k x2 t1 true) else (if PT61.nn t1 = true then (ff1_.j1 k x2 t1 (((PT61.to t1).1) != 6)) else none))
theorem ff1_.ok (k : Nat) : ff1_.Ctr (ff1_.f k) := by
 intro x1 x2 ch_1_0 ch_1_1 r h0 mi w0 ok hm
 delta ff1_.f at h0
 refine c_enterZ (n := 47) ok hm func19 rfl rfl rfl fun b0 hb a S => c_region (s_assign S rfl rfl fun a S => s_assign S rfl rfl fun a S => c_end (c_region (s_move S rfl rfl fun a S => bindX h0 fun t1 et1 h1 => s_callP S _ N26 rfl rfl (ff8_.ok k x1 t1 et1 _ _) fun ch1 m le1 a w S => s_assign S rfl rfl fun a S => c_end (wp_seq (wp_block (wp_seq_k fun K1 hK1 => ?_))))))
 have j1 : ∀ m y1 cq1 a w, St 47 m b0 [(10, (.b y1)), (6, (.rf (.pointer cq1) (PR61 cq1 t1))), (1, (.q yb ch_1_0 ch_1_1 x2))] [] a w → ff1_.j1 k x2 t1 y1 = some r → K1 a w := by
  intro m y1 cq1 a w S h0
  delta ff1_.j1 at h0
  refine hK1 a w ?_
  rcases ite_of h0 with ⟨c1, h1⟩ | ⟨c1, h1⟩
  ·refine c_condT S rfl c1 (c_region (s_assign S rfl rfl fun a S => s_assign S rfl rfl fun a S => c_end (wp_ret (x_blockR (x_thenR ?_)))))
   replace S := S.nilrow Y56 56
   replace S := S.slot (u := 4) (d' := (.s none 0 0)) rfl rfl (S.get 4 (.s none 0 0) rfl).2
   obtain rfl := Option.some.inj h1
   exact b_ret2 (d1 := (.s none 0 0)) (d2 := (.i 17)) S rfl rfl rfl fun ok1 ok2 => S.retX (Hx := []) hb _ _ ((none, 0, 0) : (Option Addr) × Nat × Nat) (.c0 .n) ⟨⟨ok1, trivial⟩, ⟨ok2, trivial⟩, trivial⟩
  ·refine c_condF S rfl c1 (c_region (s_move S rfl rfl fun a S => s_lenS S rfl underlying26 rfl fun a S => s_bin S rfl rfl rfl rfl fun a S => s_assign S rfl rfl fun a S => c_end ?_))
   rcases ite_of h1 with ⟨c2, h2⟩ | ⟨c2, h2⟩
   ·refine c_condT S rfl c2 (c_region (s_assign S rfl rfl fun a S => s_assign S rfl rfl fun a S => c_end (wp_ret (x_blockR (x_thenR ?_)))))
    replace S := S.nilrow Y56 56
    replace S := S.slot (u := 4) (d' := (.s none 0 0)) rfl rfl (S.get 4 (.s none 0 0) rfl).2
    obtain rfl := Option.some.inj h2
    exact b_ret2 (d1 := (.s none 0 0)) (d2 := (.i 4)) S rfl rfl rfl fun ok1 ok2 => S.retX (Hx := []) hb _ _ ((none, 0, 0) : (Option Addr) × Nat × Nat) (.c0 .n) ⟨⟨ok1, trivial⟩, ⟨ok2, trivial⟩, trivial⟩
   ·refine c_condF S rfl c2 (wp_skip (x_blockN (x_thenN (c_region (s_move S rfl rfl fun a S => s_bldS S (ds := [(0, (.q yb ch_1_0 ch_1_1 x2))]) (zs := [.s none 0 0, .i 0, .s none 0 0, .b false]) (s' := [.q yb ch_1_0 ch_1_1 x2, .i 0, .s none 0 0, .b false]) rfl underlying80 P80 Z80 ⟨rfl, rfl, rfl, rfl, trivial⟩ rfl rfl fun a S => s_box S rfl rfl rfl fun g1 a w S => s_assign S rfl rfl fun a S => c_end (c_region (s_move S rfl rfl fun a S => s_move S rfl rfl fun a S => ?_)))))))
    replace S := S.nilrow Y56 56
    refine bindX h2 fun t2 et2 h3 => s_callX S (ds' := [(.p g1), (.rf (.pointer cq1) (PR61 cq1 t1)), (.i 0)]) (ds := [(.p g1), (.rf (.pointer cq1) (PR61 cq1 t1)), (.i 0)]) [Res.cells g1 80 [.q yb ch_1_0 ch_1_1 x2, .i 0, .s none 0 0, .b false], Res.row Y56 56 none 0 0 ([] : List ((List Int) × (List Int) × Int))] [] (fun (ch : (Option Addr) × Nat × Nat) => ((.tup []) : D)) (fun (ch : (Option Addr) × Nat × Nat) => [Res.cells g1 80 [.q yb ch_1_0 ch_1_1 x2, .i t2.2.1, .s ch.1 ch.2.1 ch.2.2, .b t2.2.2.2], Res.row Y56 56 ch.1 ch.2.1 ch.2.2 t2.2.2.1]) (fun (ch : (Option Addr) × Nat × Nat) => [Res.cells g1 80 [.q yb ch_1_0 ch_1_1 x2, .i t2.2.1, .s ch.1 ch.2.1 ch.2.2, .b t2.2.2.2], Res.row Y56 56 ch.1 ch.2.1 ch.2.2 t2.2.2.1]) (fun _ => rfl) N35 rfl rfl (fun ok => ok) (.c1 (.c0 .n)) rfl (fd2_.ok k (x2, 0, ([] : List ((List Int) × (List Int) × Int)), false) t1 0 g1 ch_1_0 ch_1_1 none 0 0 cq1 t2 et2 _ _) fun ch2 m le1 a w S => c_end (wp_seq (wp_seq_k fun K2 hK2 => ?_))
    have j2 : ∀ m y2 g2 A1 nn1 cp1 a w, St 47 m b0 [(42, (.b y2)), (7, (.p g2))] [Res.cells g2 80 [.q yb ch_1_0 ch_1_1 x2, .i t2.2.1, .s A1 nn1 cp1, .b t2.2.2.2], Res.row Y56 56 A1 nn1 cp1 t2.2.2.1] a w → ff1_.j2 t2 y2 = some r → K2 a w := by
     intro m y2 g2 A1 nn1 cp1 a w S h0
     delta ff1_.j2 at h0
     refine hK2 a w ?_
     rcases ite_of h0 with ⟨c3, h1⟩ | ⟨c3, h1⟩
     ·refine c_condT S rfl c3 (c_region (s_assign S rfl rfl fun a S => s_assign S rfl rfl fun a S => c_end (wp_ret (x_thenR ?_))))
      replace S := S.nilrow Y56 56
      replace S := S.slot (u := 4) (d' := (.s none 0 0)) rfl rfl (S.get 4 (.s none 0 0) rfl).2
      obtain rfl := Option.some.inj h1
      exact b_ret2 (d1 := (.s none 0 0)) (d2 := (.i 2)) S rfl rfl rfl fun ok1 ok2 => S.retX (Hx := []) hb _ _ ((none, 0, 0) : (Option Addr) × Nat × Nat) (.c0 .n) ⟨⟨ok1, trivial⟩, ⟨ok2, trivial⟩, trivial⟩
     ·refine c_condF S rfl c3 (wp_skip (x_thenN (c_region (s_move S rfl rfl fun a S => s_nilchk S rfl rfl fun a S => s_fieldAddr S rfl I80_2 T38 (by decide) rfl rfl fun a S => s_load1 S rfl .h T38 (v := (.slice A1 nn1 cp1)) rfl rfl fun a S => s_assign S rfl rfl fun a S => s_assign S rfl rfl fun a S => c_end (wp_ret ?_)))))
      obtain rfl := Option.some.inj h1
      exact b_ret2 (d1 := (.s A1 nn1 cp1)) (d2 := (.i 0)) S rfl rfl rfl fun ok1 ok2 => S.retX (Hx := []) hb _ _ ((A1, nn1, cp1) : (Option Addr) × Nat × Nat) (.c1 .n) ⟨⟨ok1, trivial⟩, ⟨ok2, trivial⟩, trivial⟩
    refine c_region' (s_move S rfl rfl fun a S => s_nilchk S rfl rfl fun a S => s_fieldAddr S rfl I80_3 T4 (by decide) rfl rfl fun a S => s_load1 S rfl .h T4 (v := (.bool t2.2.2.2)) rfl rfl fun a S => s_move S rfl rfl fun a S => ?_)
    rcases ite_of h3 with ⟨c4, h4⟩ | ⟨c4, h4⟩
    ·refine s_gF S (b := t2.2.2.2) rfl rfl c4 rfl fun a S => s_gF S (b := t2.2.2.2) rfl rfl c4 rfl fun a S => s_gF S (b := t2.2.2.2) rfl rfl c4 rfl fun a S => s_gF S (b := t2.2.2.2) rfl rfl c4 rfl fun a S => s_gF S (b := t2.2.2.2) rfl rfl c4 rfl fun a S => s_gF S (b := t2.2.2.2) rfl rfl c4 rfl fun a S => s_gF S (b := t2.2.2.2) rfl rfl c4 rfl fun a S => s_pick S (b := true) (hc_of rfl c4) rfl rfl fun a S => c_end' (x_thenN ?_)
     exact j2 _ true g1 ch2.1 ch2.2.1 ch2.2.2 a w (S.sb rfl (.c0 (.c0 .n))) h4
    ·refine s_gT S (b := t2.2.2.2) rfl rfl c4 (s_move S rfl rfl fun a S => s_gT S (b := t2.2.2.2) rfl rfl c4 (s_nilchk S rfl rfl fun a S => s_gT S (b := t2.2.2.2) rfl rfl c4 (s_fieldAddr S rfl I80_1 T3 (by decide) rfl rfl fun a S => s_gT S (b := t2.2.2.2) rfl rfl c4 (s_load1 S rfl .h T3 (v := (.int .i64 t2.2.1)) rfl rfl fun a S => s_gT S (b := t2.2.2.2) rfl rfl c4 (s_move S rfl rfl fun a S => s_gT S (b := t2.2.2.2) rfl rfl c4 (s_lenS S rfl underlying26 rfl fun a S => s_gT S (b := t2.2.2.2) rfl rfl c4 (s_bin S rfl rfl rfl rfl fun a S => s_pick S (b := false) (hc_of rfl c4) rfl rfl fun a S => c_end' (x_thenN ?_))))))))
     exact j2 _ (t2.2.1 != ((x2).length : Int)) g1 ch2.1 ch2.2.1 ch2.2.2 a w (S.sb rfl (.c0 (.c0 .n))) h4
 refine c_region' (s_move S rfl rfl fun a S => s_eqQ S rfl rfl underlying61 PH61 rfl fun a S => s_move S rfl rfl fun a S => ?_)
 rcases ite_of h1 with ⟨c5, h2⟩ | ⟨c5, h2⟩
 ·refine s_gF S (b := (!(PT61.nn t1))) rfl rfl c5 rfl fun a S => s_gF S (b := (!(PT61.nn t1))) rfl rfl c5 rfl fun a S => s_gF S (b := (!(PT61.nn t1))) rfl rfl c5 rfl fun a S => s_gF S (b := (!(PT61.nn t1))) rfl rfl c5 rfl fun a S => s_gF S (b := (!(PT61.nn t1))) rfl rfl c5 rfl fun a S => s_pick S (b := true) (hc_of rfl c5) rfl rfl fun a S => s_assign S rfl rfl fun a S => c_end' (x_thenN ?_)
  exact j1 _ true ch1 a w (S.sb rfl .nil) h2
 ·refine s_gT S (b := (!(PT61.nn t1))) rfl rfl c5 (s_move S rfl rfl fun a S => s_gT S (b := (!(PT61.nn t1))) rfl rfl c5 ?_)
  obtain ⟨c6, h3⟩ := chk_of h2; clear h2
  refine s_nilQ S rfl PH61 c6 rfl fun a S => s_gT S (b := (!(PT61.nn t1))) rfl rfl c5 (s_faddrP S (tF := yb) (y := (PT61.to t1).1) rfl I67_0 T64 (by decide) (fun m h => (at_fst (at_0 h))) rfl fun a S => s_gT S (b := (!(PT61.nn t1))) rfl rfl c5 (s_ld1 S (v := (.int .u8 ((PT61.to t1).1))) rfl T64 (fun _ => rfl) rfl fun a S => s_gT S (b := (!(PT61.nn t1))) rfl rfl c5 (s_bin S rfl rfl rfl rfl fun a S => s_pick S (b := false) (hc_of rfl c5) rfl rfl fun a S => s_assign S rfl rfl fun a S => c_end' (x_thenN ?_))))
  exact j1 _ (((PT61.to t1).1) != 6) ch1 a w (S.sb rfl .nil) h3
abbrev fc6_.Ty : Type := L38 → L38 → Option Bool
def fc6_.Ctr (s : fc6_.Ty) : Prop := ∀ (x1 : L38) (x2 : L38) (ch_0_0 : Option Addr) (ch_0_1 : Nat) (ch_1_0 : Option Addr) (ch_1_1 : Nat) (r : Bool), Ct (C := Unit) Tryd.prog 20 (s x1 x2 = some r) [] [(.q Y56 ch_0_0 ch_0_1 x1), (.q Y56 ch_1_0 ch_1_1 x2)] (fun _ => (.b r)) fun _ => []
def fc6_.j1 : Option Bool := some true
def fc6_.j2 (y1 : Int) (rec1 : Int → Option Bool) (y2 : Bool) : Option Bool := if y2 = true then (some false) else (rec1 (wr .i64 (y1 + 1)))
def fc6_.b1 (x1 : L38) (x2 : L38) (rec1 : Int → Option Bool) (y1 : Int) : Option Bool := if (decide (y1 < ((x1).length : Int))) = true then (if (0 : Int) ≤ y1 ∧ y1 < ((x1).length : Int) then (if (0 : Int) ≤ y1 ∧ y1 < ((x2).length : Int) then (if (!(decide ((gt x1 y1).1 = (gt x2 y1).1))) = true then (fc6_.j2 y1 rec1 true) else (if (((gt x1 y1).2.2) != ((gt x2 y1).2.2)) = true then (fc6_.j2 y1 rec1 true) else (fc6_.j2 y1 rec1 (!((bstr ((gt x1 y1).2.1)).toList == (bstr ((gt x2 y1).2.1)).toList))))) else none) else none) else fc6_.j1
def fc6_.l1 (x1 : L38) (x2 : L38) : Nat → Int → Option Bool
  | 0, _ => none
  | q + 1, y1 => fc6_.b1 x1 x2 (fc6_.l1 x1 x2 q) y1
def fc6_.f (k : Nat) (x1 : L38) (x2 : L38) : Option Bool := if (((x1).length : Int) != ((x2).length : Int)) = true then (some false) else (fc6_.l1 x1 x2 k 0)
theorem fc6_.ok (k : Nat) : fc6_.Ctr (fc6_.f k) := by
 intro x1 x2 ch_0_0 ch_0_1 ch_1_0 ch_1_1 r h0 mi w0 ok hm
 delta fc6_.f at h0
 refine c_enterZ (n := 56) ok hm func20 rfl rfl rfl fun b0 hb a S => c_region (s_assign S rfl rfl fun a S => c_end (wp_seq (c_region (s_move S rfl rfl fun a S => s_lenS S rfl underlying38 rfl fun a S => s_move S rfl rfl fun a S => s_lenS S rfl underlying38 rfl fun a S => s_bin S rfl rfl rfl rfl fun a S => c_end ?_))))
 rcases ite_of h0 with ⟨c1, h1⟩ | ⟨c1, h1⟩
 ·refine c_condT S rfl c1 (c_region (s_assign S rfl rfl fun a S => c_end (wp_ret (x_thenR ?_))))
  obtain rfl := Option.some.inj h1
  exact b_ret1 (d := (.b false)) S rfl rfl (S.rt hb)
 ·refine c_condF S rfl c1 (wp_skip (x_thenN (wp_seq_k fun K1 hK1 => ?_)))
  have j1 : ∀ m a w, St 56 m b0 [] [] a w → fc6_.j1 = some r → K1 a w := by
   intro m a w S h0
   delta fc6_.j1 at h0
   refine hK1 a w (c_region (s_assign S rfl rfl fun a S => c_end (wp_ret ?_)))
   obtain rfl := Option.some.inj h0
   exact b_ret1 (d := (.b true)) S rfl rfl (S.rt hb)
  refine c_region (s_move S rfl rfl fun a S => s_lenS S rfl underlying38 rfl fun a S => s_move S rfl rfl fun a S => c_end (wp_block ?_))
  refine c_loop (fun q1 a w => ∃ m y1, St 56 m b0 [(13, (.i y1)), (12, (.i ((x1).length : Int))), (0, (.q Y56 ch_0_0 ch_0_1 x1)), (1, (.q Y56 ch_1_0 ch_1_1 x2))] [] a w ∧ fc6_.l1 x1 x2 q1 y1 = some r) ?_ ?_ (k := k) ⟨_, 0, (S.sb rfl .nil), h1⟩
  ·rintro a w ⟨m, y1, S, h0⟩
   exact (nomatch (show (none : Option Bool) = some r from h0))
  ·clear S h1
   rintro q1 a w ⟨m, y1, S, h0⟩
   replace h0 : fc6_.b1 x1 x2 (fc6_.l1 x1 x2 q1) y1 = some r := h0
   delta fc6_.b1 at h0
   refine c_region (s_bin S rfl rfl rfl rfl fun a S => c_end (wp_seq ?_))
   rcases ite_of h0 with ⟨c2, h1⟩ | ⟨c2, h1⟩
   ·refine c_condT S rfl c2 (wp_skip (x_thenN (wp_seq (wp_block (c_region (s_move S rfl rfl fun a S => s_assign S rfl rfl fun a S => c_end (wp_seq_k fun K2 hK2 => ?_)))))))
    have j2 : ∀ m y2 a w, St 56 m b0 [(54, (.b y2)), (13, (.i y1)), (12, (.i ((x1).length : Int))), (0, (.q Y56 ch_0_0 ch_0_1 x1)), (1, (.q Y56 ch_1_0 ch_1_1 x2))] [] a w → fc6_.j2 y1 (fc6_.l1 x1 x2 q1) y2 = some r → K2 a w := by
     intro m y2 a w S h0
     delta fc6_.j2 at h0
     refine hK2 a w ?_
     rcases ite_of h0 with ⟨c3, h1⟩ | ⟨c3, h1⟩
     ·refine c_condT S rfl c3 (c_region (s_assign S rfl rfl fun a S => c_end (wp_ret (x_blockR (x_thenR (x_thenR (x_blockR (x_thenR ?_))))))))
      obtain rfl := Option.some.inj h1
      exact b_ret1 (d := (.b false)) S rfl rfl (S.rt hb)
     ·refine c_condF S rfl c3 (wp_skip (x_blockN (x_thenN (c_region' (s_bin S rfl rfl rfl rfl fun a S => s_move S rfl rfl fun a S => c_end' (x_thenN ?_))))))
      exact ⟨_, (wr .i64 (y1 + 1)), (S.sb rfl .nil), h1⟩
    refine c_heldS S (.take 0 (.take 1 (.take 2 (.take 3 (.take 4 (.take 5 (.take 6 (.take 7 (.take 8 (.take 9 (.take 10 (.take 11 (.take 12 (.take 13 (.take 14 (.take 15 (.take 16 (.take 17 (.take 18 (.take 19 (.take 20 (.take 21 (.take 22 (.take 23 (.take 24 (.take 25 (.take 26 (.take 27 (.take 28 (.take 29 (.take 30 (.take 31 (.take 32 (.take 33 (.take 34 (.take 35 (.take 36 (.take 37 (.take 38 .done))))))))))))))))))))))))))))))))))))))) 39 [] .nil trivial [(5, (.i y1)), (0, (.q Y56 ch_0_0 ch_0_1 x1)), (1, (.q Y56 ch_1_0 ch_1_1 x2))] (subR rfl) (by kernel_rfl) (by kernel_rfl) fun w S CL hw le => ?_
    refine h_move S CL hw le (subR rfl) rfl rfl rfl trivial fun a S CL => h_move S CL hw le (subR rfl) rfl rfl rfl trivial fun a S CL => ?_
    obtain ⟨c4, h2⟩ := chk_of h1; clear h1
    refine h_iaddrS S CL hw le (subR rfl) rfl rfl rfl underlying38 T56 c4.1 c4.2 rfl rfl trivial fun p1 a S CL => h_faddrP S CL hw le (subR rfl) (tF := (Ty.arr .u64 4)) (y := (gt x1 y1).1) rfl I56_0 T54 (by decide) (fun m h => (at_fst (at_0 h))) rfl rfl trivial fun a S CL => h_ldA S CL hw le (subR rfl) (fun (c : Unit) => [.w4 ((gt x1 y1).1)]) rfl T54 (fun _ => rfl) rfl rfl trivial fun ch1 a S CL => ?_
    refine h_move S CL hw le (subR rfl) rfl rfl rfl trivial fun a S CL => h_move S CL hw le (subR rfl) rfl rfl rfl trivial fun a S CL => ?_
    obtain ⟨c5, h3⟩ := chk_of h2; clear h2
    refine h_iaddrS S CL hw le (subR rfl) rfl rfl rfl underlying38 T56 c5.1 c5.2 rfl rfl trivial fun p2 a S CL => h_faddrP S CL hw le (subR rfl) (tF := (Ty.arr .u64 4)) (y := (gt x2 y1).1) rfl I56_0 T54 (by decide) (fun m h => (at_fst (at_0 h))) rfl rfl trivial fun a S CL => h_ldA S CL hw le (subR rfl) (fun (c : Unit) => [.w4 ((gt x2 y1).1)]) rfl T54 (fun _ => rfl) rfl rfl trivial fun ch2 a S CL => ?_
    refine h_nea S CL hw le (subR rfl) rfl rfl underlying54 underlying52 T52 Q54 rfl rfl trivial fun a S CL => h_move S CL hw le (subR rfl) rfl rfl rfl trivial fun a S CL => ?_
    rcases ite_of h3 with ⟨c6, h4⟩ | ⟨c6, h4⟩
    ·refine h_skip S CL rfl rfl rfl (ne_bool c6) rfl fun a S CL => h_skip S CL rfl rfl rfl (ne_bool c6) rfl fun a S CL => h_skip S CL rfl rfl rfl (ne_bool c6) rfl fun a S CL => h_skip S CL rfl rfl rfl (ne_bool c6) rfl fun a S CL => h_skip S CL rfl rfl rfl (ne_bool c6) rfl fun a S CL => h_skip S CL rfl rfl rfl (ne_bool c6) rfl fun a S CL => h_skip S CL rfl rfl rfl (ne_bool c6) rfl fun a S CL => h_skip S CL rfl rfl rfl (ne_bool c6) rfl fun a S CL => h_skip S CL rfl rfl rfl (ne_bool c6) rfl fun a S CL => h_skip S CL rfl rfl rfl (ne_bool c6) rfl fun a S CL => h_skip S CL rfl rfl rfl (ne_bool c6) rfl fun a S CL => h_pick S CL hw le (subR rfl) (b := true) (hc_of rfl c6) rfl rfl rfl trivial fun a S CL => h_move S CL hw le (subR rfl) rfl rfl rfl trivial fun a S CL => h_skip S CL rfl rfl rfl (ne_bool rfl) rfl fun a S CL => h_skip S CL rfl rfl rfl (ne_bool rfl) rfl fun a S CL => h_skip S CL rfl rfl rfl (ne_bool rfl) rfl fun a S CL => h_skip S CL rfl rfl rfl (ne_bool rfl) rfl fun a S CL => h_skip S CL rfl rfl rfl (ne_bool rfl) rfl fun a S CL => h_skip S CL rfl rfl rfl (ne_bool rfl) rfl fun a S CL => h_skip S CL rfl rfl rfl (ne_bool rfl) rfl fun a S CL => h_skip S CL rfl rfl rfl (ne_bool rfl) rfl fun a S CL => h_skip S CL rfl rfl rfl (ne_bool rfl) rfl fun a S CL => h_skip S CL rfl rfl rfl (ne_bool rfl) rfl fun a S CL => h_skip S CL rfl rfl rfl (ne_bool rfl) rfl fun a S CL => h_skip S CL rfl rfl rfl (ne_bool rfl) rfl fun a S CL => h_skip S CL rfl rfl rfl (ne_bool rfl) rfl fun a S CL => h_pick S CL hw le (subR rfl) (b := true) (hc_of rfl rfl) rfl rfl rfl trivial fun a S CL => ?_
     refine h_done ?_; clear CL hw le
     refine x_thenN ?_
     exact j2 _ true a w (S.sb rfl .nil) h4
    ·refine h_move S CL hw le (subR rfl) rfl rfl rfl ⟨_, _, rfl, rfl, c6⟩ fun a S CL => h_move S CL hw le (subR rfl) rfl rfl rfl ⟨_, _, rfl, rfl, c6⟩ fun a S CL => h_iaddrS S CL hw le (subR rfl) rfl rfl rfl underlying38 T56 c4.1 c4.2 rfl rfl ⟨_, _, rfl, rfl, c6⟩ fun p3 a S CL => h_faddrP S CL hw le (subR rfl) (tF := yi) (y := (gt x1 y1).2.2) rfl I56_2 T3 (by decide) (fun m h => (at_snd (at_snd (at_0 h)))) rfl rfl ⟨_, _, rfl, rfl, c6⟩ fun a S CL => h_ld1 S CL hw le (subR rfl) (v := (.int .i64 ((gt x1 y1).2.2))) rfl T3 (fun _ => rfl) rfl rfl ⟨_, _, rfl, rfl, c6⟩ fun a S CL => h_move S CL hw le (subR rfl) rfl rfl rfl ⟨_, _, rfl, rfl, c6⟩ fun a S CL => h_move S CL hw le (subR rfl) rfl rfl rfl ⟨_, _, rfl, rfl, c6⟩ fun a S CL => h_iaddrS S CL hw le (subR rfl) rfl rfl rfl underlying38 T56 c5.1 c5.2 rfl rfl ⟨_, _, rfl, rfl, c6⟩ fun p4 a S CL => h_faddrP S CL hw le (subR rfl) (tF := yi) (y := (gt x2 y1).2.2) rfl I56_2 T3 (by decide) (fun m h => (at_snd (at_snd (at_0 h)))) rfl rfl ⟨_, _, rfl, rfl, c6⟩ fun a S CL => h_ld1 S CL hw le (subR rfl) (v := (.int .i64 ((gt x2 y1).2.2))) rfl T3 (fun _ => rfl) rfl rfl ⟨_, _, rfl, rfl, c6⟩ fun a S CL => h_bin S CL hw le (subR rfl) rfl rfl rfl rfl rfl ⟨_, _, rfl, rfl, c6⟩ fun a S CL => h_pick S CL hw le (subR rfl) (b := false) (hc_of rfl c6) rfl rfl rfl trivial fun a S CL => h_move S CL hw le (subR rfl) rfl rfl rfl trivial fun a S CL => ?_
     rcases ite_of h4 with ⟨c7, h5⟩ | ⟨c7, h5⟩
     ·refine h_skip S CL rfl rfl rfl (ne_bool c7) rfl fun a S CL => h_skip S CL rfl rfl rfl (ne_bool c7) rfl fun a S CL => h_skip S CL rfl rfl rfl (ne_bool c7) rfl fun a S CL => h_skip S CL rfl rfl rfl (ne_bool c7) rfl fun a S CL => h_skip S CL rfl rfl rfl (ne_bool c7) rfl fun a S CL => h_skip S CL rfl rfl rfl (ne_bool c7) rfl fun a S CL => h_skip S CL rfl rfl rfl (ne_bool c7) rfl fun a S CL => h_skip S CL rfl rfl rfl (ne_bool c7) rfl fun a S CL => h_skip S CL rfl rfl rfl (ne_bool c7) rfl fun a S CL => h_skip S CL rfl rfl rfl (ne_bool c7) rfl fun a S CL => h_skip S CL rfl rfl rfl (ne_bool c7) rfl fun a S CL => h_skip S CL rfl rfl rfl (ne_bool c7) rfl fun a S CL => h_skip S CL rfl rfl rfl (ne_bool c7) rfl fun a S CL => h_pick S CL hw le (subR rfl) (b := true) (hc_of rfl c7) rfl rfl rfl trivial fun a S CL => ?_
      refine h_done ?_; clear CL hw le
      refine x_thenN ?_
      exact j2 _ true a w (S.sb rfl .nil) h5
     ·refine h_move S CL hw le (subR rfl) rfl rfl rfl ⟨_, _, rfl, rfl, c7⟩ fun a S CL => h_move S CL hw le (subR rfl) rfl rfl rfl ⟨_, _, rfl, rfl, c7⟩ fun a S CL => h_iaddrS S CL hw le (subR rfl) rfl rfl rfl underlying38 T56 c4.1 c4.2 rfl rfl ⟨_, _, rfl, rfl, c7⟩ fun p5 a S CL => h_faddrP S CL hw le (subR rfl) (tF := (Ty.slice yb)) (y := (gt x1 y1).2.1) rfl I56_1 T26 (by decide) (fun m h => (at_fst (at_snd (at_0 h)))) rfl rfl ⟨_, _, rfl, rfl, c7⟩ fun a S CL => h_ldS S CL hw le (subR rfl) (fun c => c) rfl T26 (fun _ => rfl) rfl rfl ⟨_, _, rfl, rfl, c7⟩ fun A1 cp1 a S CL => h_strS S CL hw le (subR rfl) rfl rfl underlying26 underlying5 underlying9 rfl rfl ⟨_, _, rfl, rfl, c7⟩ fun a S CL => h_move S CL hw le (subR rfl) rfl rfl rfl ⟨_, _, rfl, rfl, c7⟩ fun a S CL => h_move S CL hw le (subR rfl) rfl rfl rfl ⟨_, _, rfl, rfl, c7⟩ fun a S CL => h_iaddrS S CL hw le (subR rfl) rfl rfl rfl underlying38 T56 c5.1 c5.2 rfl rfl ⟨_, _, rfl, rfl, c7⟩ fun p6 a S CL => h_faddrP S CL hw le (subR rfl) (tF := (Ty.slice yb)) (y := (gt x2 y1).2.1) rfl I56_1 T26 (by decide) (fun m h => (at_fst (at_snd (at_0 h)))) rfl rfl ⟨_, _, rfl, rfl, c7⟩ fun a S CL => h_ldS S CL hw le (subR rfl) (fun c => c) rfl T26 (fun _ => rfl) rfl rfl ⟨_, _, rfl, rfl, c7⟩ fun A2 cp2 a S CL => h_strS S CL hw le (subR rfl) rfl rfl underlying26 underlying5 underlying9 rfl rfl ⟨_, _, rfl, rfl, c7⟩ fun a S CL => h_neT S CL hw le (subR rfl) rfl rfl rfl rfl ⟨_, _, rfl, rfl, c7⟩ fun a S CL => h_pick S CL hw le (subR rfl) (b := false) (hc_of rfl c7) rfl rfl rfl trivial fun a S CL => ?_
      refine h_done ?_; clear CL hw le
      refine x_thenN ?_
      exact j2 _ (!((bstr ((gt x1 y1).2.1)).toList == (bstr ((gt x2 y1).2.1)).toList)) a w (S.sb rfl .nil) h5
   ·refine c_condF S rfl c2 (wp_exit (x_thenX (x_thenX (x_blockX (x_thenN ?_)))))
    exact j1 _ a w (S.sub trivial .nil) h1
abbrev fd1_.Ty : Type := (List Int) → Option ((List Int))
def fd1_.Ctr (s : fd1_.Ty) : Prop := ∀ (x1 : List Int) (ch_0_0 : Option Addr) (ch_0_1 : Nat) (r : (List Int)), Ct (C := Unit) Tryd.prog 61 (s x1 = some r) [] [(.q yb ch_0_0 ch_0_1 x1)] (fun _ => (.agg [.ints .i64 r 32])) fun _ => []
def fd1_.j1 (y1 : List Int) : Option ((List Int)) := some y1
def fd1_.j2 (x1 : List Int) (y5 : Int) (y6 : List Int) (rec1 : Int → (List Int) → Option ((List Int))) (y7 : Bool) : Option ((List Int)) := if y7 = true then (if (0 : Int) ≤ (wr .i64 ((wr .i64 (((x1).length : Int) - 1)) - y5)) ∧ (wr .i64 ((wr .i64 (((x1).length : Int) - 1)) - y5)) < ((x1).length : Int) then (if (0 : Int) ≤ y5 ∧ y5 < 32 then (rec1 (wr .i64 (y5 + 1)) (y6.set (Int.toNat y5) (wr .i64 (rd x1 (wr .i64 ((wr .i64 (((x1).length : Int) - 1)) - y5)))))) else none) else none) else (fd1_.j1 y6)
def fd1_.b1 (x1 : List Int) (rec1 : Int → (List Int) → Option ((List Int))) (y5 : Int) (y6 : List Int) : Option ((List Int)) := if (decide (y5 < 32)) = true then (fd1_.j2 x1 y5 y6 rec1 (decide (y5 < ((x1).length : Int)))) else (fd1_.j2 x1 y5 y6 rec1 false)
def fd1_.l1 (x1 : List Int) : Nat → Int → (List Int) → Option ((List Int))
  | 0, _, _ => none
  | q + 1, y5, y6 => fd1_.b1 x1 (fd1_.l1 x1 q) y5 y6
def fd1_.f (k : Nat) (x1 : List Int) : Option ((List Int)) := fd1_.l1 x1 k 0 [0, 0, 0, 0, 0, 0, 0, 0, 0, 0, 0, 0, 0, 0, 0, 0, 0, 0, 0, 0, 0, 0, 0, 0, 0, 0, 0, 0, 0, 0, 0, 0]
theorem fd1_.ok (k : Nat) : fd1_.Ctr (fd1_.f k) := by
 intro x1 ch_0_0 ch_0_1 r h0 mi w0 ok hm
 delta fd1_.f at h0
 refine c_enterZ (n := 28) ok hm func61 rfl rfl rfl fun b0 hb a S => c_region (s_alloc S Z108 rfl ⟨rfl, trivial⟩ rfl fun g1 a w S => c_end (c_region (s_build S (ds := []) (dv := (.agg [.ints .i64 z32 32])) rfl (fun _ => by kernel_rfl) ⟨rfl, trivial⟩ rfl fun a S => s_alloc S Z108 rfl ⟨rfl, trivial⟩ rfl fun g2 a w S => s_store S rfl rfl rfl (s' := [.ints .i64 z32 32]) .h T108 rfl rfl fun w S => c_end (wp_seq_k fun K1 hK1 => ?_))))
 have j1 : ∀ m g13 g14 y1 a w, St 28 m b0 [(3, (.p g13)), (2, (.p g14))] [Res.cells g13 108 [.ints .i64 y1 32], Res.cells g14 108 [.ints .i64 z32 32]] a w → fd1_.j1 y1 = some r → K1 a w := by
  intro m g13 g14 y1 a w S h0
  delta fd1_.j1 at h0
  refine hK1 a w (c_region (s_loada S rfl .h T108 (s' := [.ints .i64 y1 32]) rfl rfl fun a S => s_store S rfl rfl rfl (s' := [.ints .i64 y1 32]) .h1 T108 rfl rfl fun w S => c_end (wp_ret ?_)))
  obtain rfl := Option.some.inj h0
  exact b_ret1 (d := (.agg [.ints .i64 y1 32])) S rfl (resD_cell rfl .h1 T108 rfl rfl) (S.rt hb)
 refine c_region (s_assign S rfl rfl fun a S => c_end (wp_block ?_))
 refine c_loop (fun q1 a w => ∃ m y5 g21 g22 y6, St 28 m b0 [(4, (.i y5)), (3, (.p g21)), (2, (.p g22)), (0, (.q yb ch_0_0 ch_0_1 x1))] [Res.cells g21 108 [.ints .i64 y6 32], Res.cells g22 108 [.ints .i64 z32 32]] a w ∧ fd1_.l1 x1 q1 y5 y6 = some r) ?_ ?_ (k := k) ⟨_, 0, g2, g1, z32, (S.sb rfl (.c0 (.c0 .n))), h0⟩
 ·rintro a w ⟨m, y5, g21, g22, y6, S, h0⟩
  exact (nomatch (show (none : Option ((List Int))) = some r from h0))
 ·clear S h0
  rintro q1 a w ⟨m, y5, g21, g22, y6, S, h0⟩
  replace h0 : fd1_.b1 x1 (fd1_.l1 x1 q1) y5 y6 = some r := h0
  delta fd1_.b1 at h0
  refine wp_seq (wp_seq_k fun K2 hK2 => ?_)
  have j2 : ∀ m y7 g23 g24 a w, St 28 m b0 [(13, (.b y7)), (4, (.i y5)), (3, (.p g23)), (2, (.p g24)), (0, (.q yb ch_0_0 ch_0_1 x1))] [Res.cells g23 108 [.ints .i64 y6 32], Res.cells g24 108 [.ints .i64 z32 32]] a w → fd1_.j2 x1 y5 y6 (fd1_.l1 x1 q1) y7 = some r → K2 a w := by
   intro m y7 g23 g24 a w S h0
   delta fd1_.j2 at h0
   refine hK2 a w ?_
   rcases ite_of h0 with ⟨c1, h1⟩ | ⟨c1, h1⟩
   ·refine c_condT S rfl c1 (wp_skip (x_thenN (wp_seq (wp_block (c_region' (s_move S rfl rfl fun a S => s_move S rfl rfl fun a S => s_move S rfl rfl fun a S => s_lenS S rfl underlying26 rfl fun a S => s_bin S rfl rfl rfl rfl fun a S => s_move S rfl rfl fun a S => s_bin S rfl rfl rfl rfl fun a S => ?_))))))
    obtain ⟨c2, h2⟩ := chk_of h1; clear h1
    refine s_iaddrS S rfl rfl rfl underlying26 T5 c2.1 c2.2 rfl fun p1 a S => s_ld1 S (v := (.int .u8 (rd x1 (wr .i64 ((wr .i64 (((x1).length : Int) - 1)) - y5))))) rfl T5 (fun _ => rfl) rfl fun a S => s_conv S rfl rfl underlying3 rfl fun a S => ?_
    obtain ⟨c3, h3⟩ := chk_of h2; clear h2
    refine s_iaddr S rfl rfl underlying108 T3 c3.1 c3.2 (mul1 _ _) rfl fun a S => s_storei S (i := y5) rfl rfl .h T3 .h rfl c3.1 c3.2 fun w S => c_end' (x_blockN (x_thenN (c_region' (s_move S rfl rfl fun a S => s_bin S rfl rfl rfl rfl fun a S => s_assign S rfl rfl fun a S => c_end' (x_thenN ?_)))))
    exact ⟨_, (wr .i64 (y5 + 1)), g23, g24, (y6.set (Int.toNat y5) (wr .i64 (rd x1 (wr .i64 ((wr .i64 (((x1).length : Int) - 1)) - y5))))), (S.sb rfl (.c0 (.c0 .n))), h3⟩
   ·refine c_condF S rfl c1 (wp_exit (x_thenX (x_thenX (x_blockX (x_thenN ?_)))))
    exact j1 _ g23 g24 y6 a w (S.sb rfl (.c0 (.c0 .n))) h1
  refine c_region' (s_move S rfl rfl fun a S => s_bin S rfl rfl rfl rfl fun a S => s_move S rfl rfl fun a S => ?_)
  rcases ite_of h0 with ⟨c4, h1⟩ | ⟨c4, h1⟩
  ·refine s_gT S (b := (decide (y5 < 32))) rfl rfl c4 (s_move S rfl rfl fun a S => s_gT S (b := (decide (y5 < 32))) rfl rfl c4 (s_move S rfl rfl fun a S => s_gT S (b := (decide (y5 < 32))) rfl rfl c4 (s_lenS S rfl underlying26 rfl fun a S => s_gT S (b := (decide (y5 < 32))) rfl rfl c4 (s_bin S rfl rfl rfl rfl fun a S => s_pick S (b := true) (hc_of rfl c4) rfl rfl fun a S => c_end' (x_thenN ?_)))))
   exact j2 _ (decide (y5 < ((x1).length : Int))) g21 g22 a w (S.sb rfl (.c0 (.c0 .n))) h1
  ·refine s_gF S (b := (decide (y5 < 32))) rfl rfl c4 rfl fun a S => s_gF S (b := (decide (y5 < 32))) rfl rfl c4 rfl fun a S => s_gF S (b := (decide (y5 < 32))) rfl rfl c4 rfl fun a S => s_gF S (b := (decide (y5 < 32))) rfl rfl c4 rfl fun a S => s_pick S (b := false) (hc_of rfl c4) rfl rfl fun a S => c_end' (x_thenN ?_)
   exact j2 _ false g21 g22 a w (S.sb rfl (.c0 (.c0 .n))) h1
abbrev fb_.Ty : Type := (List Int) → Option ((List Int))
def fb_.Ctr (s : fb_.Ty) : Prop := ∀ (x1 : List Int) (r : (List Int)), Ct (C := Unit) Tryd.prog 62 (s x1 = some r) [] [(.agg [.ints .i64 x1 32])] (fun _ => (.a4 r)) fun _ => []
def fb_.j1 (y1 : List Int) : Option ((List Int)) := some y1
def fb_.b1 (x1 : List Int) (rec1 : Int → (List Int) → Option ((List Int))) (y4 : Int) (y5 : List Int) : Option ((List Int)) := if (decide (0 ≤ y4)) = true then (if (0 : Int) ≤ (wr .i64 (Int.tdiv y4 8)) ∧ (wr .i64 (Int.tdiv y4 8)) < 4 then (if (0 : Int) ≤ y4 ∧ y4 < 32 then (rec1 (wr .i64 (y4 - 1)) (y5.set (Int.toNat (wr .i64 (Int.tdiv y4 8))) (wr .u64 ((wr .u64 ((rd y5 (wr .i64 (Int.tdiv y4 8))) * 256)) + (wr .u64 (rd x1 y4)))))) else none) else none) else (fb_.j1 y5)
def fb_.l1 (x1 : List Int) : Nat → Int → (List Int) → Option ((List Int))
  | 0, _, _ => none
  | q + 1, y4, y5 => fb_.b1 x1 (fb_.l1 x1 q) y4 y5
def fb_.f (k : Nat) (x1 : List Int) : Option ((List Int)) := fb_.l1 x1 k 31 [0, 0, 0, 0]
theorem fb_.ok (k : Nat) : fb_.Ctr (fb_.f k) := by
 intro x1 r h0 mi w0 ok hm
 delta fb_.f at h0
 refine c_enterZ (n := 24) ok hm func62 rfl rfl rfl fun b0 hb a S => c_region (s_box S rfl rfl rfl fun g1 a w S => s_alloc S Z54 rfl ⟨rfl, trivial⟩ rfl fun g2 a w S => c_end (c_region (s_build S (ds := []) (dv := (.a4 [0, 0, 0, 0])) rfl (fun _ => by kernel_rfl) ⟨rfl, trivial⟩ rfl fun a S => s_alloc S Z54 rfl ⟨rfl, trivial⟩ rfl fun g3 a w S => s_store S rfl rfl rfl (s' := [.w4 [0, 0, 0, 0]]) .h T54 rfl rfl fun w S => c_end (wp_seq_k fun K1 hK1 => ?_))))
 have j1 : ∀ m g13 g14 y1 a w, St 24 m b0 [(3, (.p g13)), (2, (.p g14))] [Res.cells g13 54 [.w4 y1], Res.cells g14 54 [.w4 [0, 0, 0, 0]]] a w → fb_.j1 y1 = some r → K1 a w := by
  intro m g13 g14 y1 a w S h0
  delta fb_.j1 at h0
  refine hK1 a w (c_region (s_loada S rfl .h T54 (s' := [.w4 y1]) rfl rfl fun a S => s_store S rfl rfl rfl (s' := [.w4 y1]) .h1 T54 rfl rfl fun w S => c_end (wp_ret ?_)))
  obtain rfl := Option.some.inj h0
  exact b_ret1 (d := (.a4 y1)) S rfl (resD_cell rfl .h1 T54 rfl rfl) (S.rt hb)
 refine c_region (s_assign S rfl rfl fun a S => c_end (wp_block ?_))
 refine c_loop (fun q1 a w => ∃ m y4 g21 g22 g23 y5, St 24 m b0 [(4, (.i y4)), (3, (.p g21)), (2, (.p g22)), (1, (.p g23))] [Res.cells g21 54 [.w4 y5], Res.cells g22 54 [.w4 [0, 0, 0, 0]], Res.cells g23 108 [.ints .i64 x1 32]] a w ∧ fb_.l1 x1 q1 y4 y5 = some r) ?_ ?_ (k := k) ⟨_, 31, g3, g2, g1, [0, 0, 0, 0], (S.sb rfl (.c0 (.c0 (.c0 .n)))), h0⟩
 ·rintro a w ⟨m, y4, g21, g22, g23, y5, S, h0⟩
  exact (nomatch (show (none : Option ((List Int))) = some r from h0))
 ·clear S h0
  rintro q1 a w ⟨m, y4, g21, g22, g23, y5, S, h0⟩
  replace h0 : fb_.b1 x1 (fb_.l1 x1 q1) y4 y5 = some r := h0
  delta fb_.b1 at h0
  refine wp_seq (c_region (s_move S rfl rfl fun a S => s_bin S rfl rfl rfl rfl fun a S => c_end ?_))
  rcases ite_of h0 with ⟨c1, h1⟩ | ⟨c1, h1⟩
  ·refine c_condT S rfl c1 (wp_skip (x_thenN (wp_seq (wp_block (c_heldS S (.take 0 (.take 1 (.take 2 (.take 3 (.take 4 (.take 5 (.take 6 (.take 7 (.take 8 (.take 9 (.take 10 (.take 11 (.take 12 (.alts (.run 13 false .done .nil))))))))))))))) 13 [Res.cells g21 54 [.w4 y5], Res.cells g22 54 [.w4 [0, 0, 0, 0]], Res.cells g23 108 [.ints .i64 x1 32]] (.c0 (.c0 (.c0 .n))) ⟨Res.stay_cells, Res.stay_cells, Res.stay_cells, trivial⟩ [(4, (.i y4)), (3, (.p g21)), (1, (.p g23))] (subR rfl) (by kernel_rfl) (by kernel_rfl) fun w S CL hw le => ?_)))))
   refine h_move S CL hw le (subR rfl) rfl rfl rfl trivial fun a S CL => h_quo S CL hw le (subR rfl) rfl rfl (by decide) rfl rfl trivial fun a S CL => h_move S CL hw le (subR rfl) rfl rfl rfl trivial fun a S CL => h_quo S CL hw le (subR rfl) rfl rfl (by decide) rfl rfl trivial fun a S CL => ?_
   obtain ⟨c2, h2⟩ := chk_of h1; clear h1
   refine h_iaddr S CL hw le (subR rfl) rfl rfl underlying54 T52 c2.1 c2.2 (mul1 _ _) rfl rfl trivial fun a S CL => h_loadi S CL hw le (subR rfl) (i := (wr .i64 (Int.tdiv y4 8))) rfl .h T52 .h rfl c2.1 c2.2 rfl rfl trivial fun a S CL => h_bin S CL hw le (subR rfl) rfl rfl rfl rfl rfl trivial fun a S CL => h_move S CL hw le (subR rfl) rfl rfl rfl trivial fun a S CL => ?_
   obtain ⟨c3, h3⟩ := chk_of h2; clear h2
   refine h_iaddr S CL hw le (subR rfl) rfl rfl underlying108 T3 c3.1 c3.2 (mul1 _ _) rfl rfl trivial fun a S CL => h_loadi S CL hw le (subR rfl) (i := y4) rfl .h2 T3 .h rfl c3.1 c3.2 rfl rfl trivial fun a S CL => h_conv S CL hw le (subR rfl) rfl rfl underlying52 rfl rfl trivial fun a S CL => h_bin S CL hw le (subR rfl) rfl rfl rfl rfl rfl trivial fun a S CL => h_iaddr S CL hw le (subR rfl) rfl rfl underlying54 T52 c2.1 c2.2 (mul1 _ _) rfl rfl trivial fun a S CL => h_run' S rfl trivial (s_storei S (i := (wr .i64 (Int.tdiv y4 8))) rfl rfl .h T52 .h rfl c2.1 c2.2 fun w S => ?_)
   refine h_back ⟨fun h => (nomatch h), ?_⟩
   refine h_done ?_; clear CL hw le
   refine x_blockN (x_thenN (c_region' (s_move S rfl rfl fun a S => s_bin S rfl rfl rfl rfl fun a S => s_assign S rfl rfl fun a S => c_end' (x_thenN ?_))))
   exact ⟨_, (wr .i64 (y4 - 1)), g21, g22, g23, (y5.set (Int.toNat (wr .i64 (Int.tdiv y4 8))) (wr .u64 ((wr .u64 ((rd y5 (wr .i64 (Int.tdiv y4 8))) * 256)) + (wr .u64 (rd x1 y4))))), (S.sb rfl (.c0 (.c0 (.c0 .n)))), h3⟩
  ·refine c_condF S rfl c1 (wp_exit (x_thenX (x_thenX (x_blockX (x_thenN ?_)))))
   exact j1 _ g21 g22 y5 a w (S.sb rfl (.c0 (.c0 .n))) h1
abbrev fc_.Ty : Type := (List Int) → Int → Option Int
def fc_.Ctr (s : fc_.Ty) : Prop := ∀ (x1 : List Int) (x2 : Int) (ch_0_0 : Option Addr) (ch_0_1 : Nat) (r : Int), Ct (C := Unit) Tryd.prog 63 (s x1 x2 = some r) [] [(.q yb ch_0_0 ch_0_1 x1), (.i x2)] (fun _ => (.i r)) fun _ => []
def fc_.j2 (y6 : Int) : Option Int := some y6
def fc_.b1 (x1 : List Int) (x2 : Int) (rec1 : Int → Int → Option Int) (y9 : Int) (y10 : Int) : Option Int := if (decide (y9 < 32)) = true then (if (0 : Int) ≤ (wr .i64 (x2 + y9)) ∧ (wr .i64 (x2 + y9)) < ((x1).length : Int) then (if (decide (((x1).length : Int) < (wr .i64 ((wr .i64 (y10 * 256)) + (wr .i64 (rd x1 (wr .i64 (x2 + y9)))))))) = true then (some (-1)) else (rec1 (wr .i64 (y9 + 1)) (wr .i64 ((wr .i64 (y10 * 256)) + (wr .i64 (rd x1 (wr .i64 (x2 + y9)))))))) else none) else (fc_.j2 y10)
def fc_.l1 (x1 : List Int) (x2 : Int) : Nat → Int → Int → Option Int
  | 0, _, _ => none
  | q + 1, y9, y10 => fc_.b1 x1 x2 (fc_.l1 x1 x2 q) y9 y10
def fc_.j1 (k : Nat) (x1 : List Int) (x2 : Int) (y1 : Bool) : Option Int := if y1 = true then (some (-1)) else (fc_.l1 x1 x2 k 0 0)
def fc_.f (k : Nat) (x1 : List Int) (x2 : Int) : Option Int := if (decide (x2 < 0)) = true then (fc_.j1 k x1 x2 true) else (fc_.j1 k x1 x2 (decide (((x1).length : Int) < (wr .i64 (x2 + 32)))))
theorem fc_.ok (k : Nat) : fc_.Ctr (fc_.f k) := by
 intro x1 x2 ch_0_0 ch_0_1 r h0 mi w0 ok hm
 delta fc_.f at h0
 refine c_enterZ (n := 35) ok hm func63 rfl rfl rfl fun b0 hb a S => c_region (s_assign S rfl rfl fun a S => c_end (wp_seq (wp_seq_k fun K1 hK1 => ?_)))
 have j1 : ∀ m y1 a w, St 35 m b0 [(15, (.b y1)), (0, (.q yb ch_0_0 ch_0_1 x1)), (1, (.i x2))] [] a w → fc_.j1 k x1 x2 y1 = some r → K1 a w := by
  intro m y1 a w S h0
  delta fc_.j1 at h0
  refine hK1 a w ?_
  rcases ite_of h0 with ⟨c1, h1⟩ | ⟨c1, h1⟩
  ·refine c_condT S rfl c1 (c_region (s_assign S rfl rfl fun a S => c_end (wp_ret (x_thenR ?_))))
   obtain rfl := Option.some.inj h1
   exact b_ret1 (d := (.i (-1))) S rfl rfl (S.rt hb)
  ·refine c_condF S rfl c1 (wp_skip (x_thenN (c_region (s_assign S rfl rfl fun a S => c_end (wp_seq_k fun K2 hK2 => ?_)))))
   have j2 : ∀ m y6 a w, St 35 m b0 [(5, (.i y6))] [] a w → fc_.j2 y6 = some r → K2 a w := by
    intro m y6 a w S h0
    delta fc_.j2 at h0
    refine hK2 a w (c_region (s_move S rfl rfl fun a S => s_assign S rfl rfl fun a S => c_end (wp_ret ?_)))
    obtain rfl := Option.some.inj h0
    exact b_ret1 (d := (.i y6)) S rfl rfl (S.rt hb)
   refine c_region (s_assign S rfl rfl fun a S => c_end (wp_block ?_))
   refine c_loop (fun q1 a w => ∃ m y9 y10, St 35 m b0 [(6, (.i y9)), (5, (.i y10)), (0, (.q yb ch_0_0 ch_0_1 x1)), (1, (.i x2))] [] a w ∧ fc_.l1 x1 x2 q1 y9 y10 = some r) ?_ ?_ (k := k) ⟨_, 0, 0, (S.sb rfl .nil), h1⟩
   ·rintro a w ⟨m, y9, y10, S, h0⟩
    exact (nomatch (show (none : Option Int) = some r from h0))
   ·clear S h1
    rintro q1 a w ⟨m, y9, y10, S, h0⟩
    replace h0 : fc_.b1 x1 x2 (fc_.l1 x1 x2 q1) y9 y10 = some r := h0
    delta fc_.b1 at h0
    refine wp_seq (c_region (s_move S rfl rfl fun a S => s_bin S rfl rfl rfl rfl fun a S => c_end ?_))
    rcases ite_of h0 with ⟨c2, h1⟩ | ⟨c2, h1⟩
    ·refine c_condT S rfl c2 (wp_skip (x_thenN (wp_seq (wp_block (c_region (s_move S rfl rfl fun a S => s_bin S rfl rfl rfl rfl fun a S => s_move S rfl rfl fun a S => s_move S rfl rfl fun a S => s_move S rfl rfl fun a S => s_bin S rfl rfl rfl rfl fun a S => ?_))))))
     obtain ⟨c3, h2⟩ := chk_of h1; clear h1
     refine s_iaddrS S rfl rfl rfl underlying26 T5 c3.1 c3.2 rfl fun p1 a S => s_ld1 S (v := (.int .u8 (rd x1 (wr .i64 (x2 + y9))))) rfl T5 (fun _ => rfl) rfl fun a S => s_conv S rfl rfl underlying3 rfl fun a S => s_bin S rfl rfl rfl rfl fun a S => s_assign S rfl rfl fun a S => c_end (c_region (s_move S rfl rfl fun a S => s_move S rfl rfl fun a S => s_lenS S rfl underlying26 rfl fun a S => s_bin S rfl rfl rfl rfl fun a S => c_end ?_))
     rcases ite_of h2 with ⟨c4, h3⟩ | ⟨c4, h3⟩
     ·refine c_condT S rfl c4 (c_region (s_assign S rfl rfl fun a S => c_end (wp_ret (x_blockR (x_thenR (x_thenR (x_blockR (x_thenR ?_))))))))
      obtain rfl := Option.some.inj h3
      exact b_ret1 (d := (.i (-1))) S rfl rfl (S.rt hb)
     ·refine c_condF S rfl c4 (wp_skip (x_blockN (x_thenN (c_region' (s_move S rfl rfl fun a S => s_bin S rfl rfl rfl rfl fun a S => s_assign S rfl rfl fun a S => c_end' (x_thenN ?_))))))
      exact ⟨_, (wr .i64 (y9 + 1)), (wr .i64 ((wr .i64 (y10 * 256)) + (wr .i64 (rd x1 (wr .i64 (x2 + y9)))))), (S.sb rfl .nil), h3⟩
    ·refine c_condF S rfl c2 (wp_exit (x_thenX (x_thenX (x_blockX (x_thenN ?_)))))
     exact j2 _ y10 a w (S.sub ⟨rfl, trivial⟩ .nil) h1
 refine c_region' (s_move S rfl rfl fun a S => s_bin S rfl rfl rfl rfl fun a S => s_move S rfl rfl fun a S => ?_)
 rcases ite_of h0 with ⟨c5, h1⟩ | ⟨c5, h1⟩
 ·refine s_gF S (b := (decide (x2 < 0))) rfl rfl c5 rfl fun a S => s_gF S (b := (decide (x2 < 0))) rfl rfl c5 rfl fun a S => s_gF S (b := (decide (x2 < 0))) rfl rfl c5 rfl fun a S => s_gF S (b := (decide (x2 < 0))) rfl rfl c5 rfl fun a S => s_gF S (b := (decide (x2 < 0))) rfl rfl c5 rfl fun a S => s_pick S (b := true) (hc_of rfl c5) rfl rfl fun a S => c_end' (x_thenN ?_)
  exact j1 _ true a w0 (S.sb rfl .nil) h1
 ·refine s_gT S (b := (decide (x2 < 0))) rfl rfl c5 (s_move S rfl rfl fun a S => s_gT S (b := (decide (x2 < 0))) rfl rfl c5 (s_bin S rfl rfl rfl rfl fun a S => s_gT S (b := (decide (x2 < 0))) rfl rfl c5 (s_move S rfl rfl fun a S => s_gT S (b := (decide (x2 < 0))) rfl rfl c5 (s_lenS S rfl underlying26 rfl fun a S => s_gT S (b := (decide (x2 < 0))) rfl rfl c5 (s_bin S rfl rfl rfl rfl fun a S => s_pick S (b := false) (hc_of rfl c5) rfl rfl fun a S => c_end' (x_thenN ?_))))))
  exact j1 _ (decide (((x1).length : Int) < (wr .i64 (x2 + 32)))) a w0 (S.sb rfl .nil) h1
end
end GW
