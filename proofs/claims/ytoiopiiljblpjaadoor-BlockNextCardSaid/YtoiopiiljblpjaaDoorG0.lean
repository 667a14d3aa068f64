import Derived.Test.YtoiopiiljblpjaaDoorProg
import Derived.Test.YtoiopiiljblpjaaDoorGE
set_option linter.unusedVariables false
set_option maxRecDepth 10000
namespace GW
open Go Go.RowKit Go.Proofs Go.Proofs.Tryd
abbrev smithyref23_Receipt.Ty : Type := ((List Int) × Int × Bool × Int × (List Int) × (List Int) × (List L68) × (List Int)) → Option ((List Int))
def smithyref23_Receipt.Ctr (s : smithyref23_Receipt.Ty) : Prop := ∀ (x1 : (List Int) × Int × Bool × Int × (List Int) × (List Int) × (List L68) × (List Int)) (ch_0_0 : Option Addr) (ch_0_1 : Nat) (ch_0_2 : Option Addr) (ch_0_3 : Nat) (r : (List Int)), Ct (C := Unit) Tryd.prog 12 (s x1 = some r) [] [(.agg [.b20 x1.1, .w x1.2.1, .b x1.2.2.1, .w x1.2.2.2.1, .w4 x1.2.2.2.2.1, .b20 x1.2.2.2.2.2.1, .q Y68 ch_0_0 ch_0_1 x1.2.2.2.2.2.2.1, .q yb ch_0_2 ch_0_3 x1.2.2.2.2.2.2.2])] (fun _ => (.a32 r)) fun _ => []
def smithyref23_Receipt.j2 (k : Nat) (x1 : (List Int) × Int × Bool × Int × (List Int) × (List Int) × (List L68) × (List Int)) (y1 : Int) (y18 : List (List Int)) : Option ((List Int)) := (smithyref23_bytes.f k (((x1.1).drop 0).take 20)).bind fun t1 => ((smithyref23_count.f k x1.2.1).bind fun t2 => ((smithyref23_count.f k y1).bind fun t3 => ((smithyref23_count.f k x1.2.2.2.1).bind fun t4 => ((smithyref23_number.f k x1.2.2.2.2.1).bind fun t5 => ((smithyref23_bytes.f k (((x1.2.2.2.2.2.1).drop 0).take 20)).bind fun t6 => ((smithyref23_bytes.f k x1.2.2.2.2.2.2.2).bind fun t7 => ((smithyref23_list.f k y18).bind fun t8 => ((smithyref23_list.f k [t1, t2, t3, t4, t5, t6, t7, t8]).bind fun t9 => ((smithyref23_hash.f k t9).bind fun t10 => (some t10))))))))))
def smithyref23_Receipt.j3 (y33 : Int) (rec1 : Int → (List (List Int)) → Option ((List Int))) (y40 : List (List Int)) : Option ((List Int)) := rec1 (wr .i64 (y33 + 1)) y40
def smithyref23_Receipt.j4 (k : Nat) (x1 : (List Int) × Int × Bool × Int × (List Int) × (List Int) × (List L68) × (List Int)) (y33 : Int) (y34 : List (List Int)) (rec1 : Int → (List (List Int)) → Option ((List Int))) (y45 : List (List Int)) : Option ((List Int)) := (smithyref23_bytes.f k ((((gt x1.2.2.2.2.2.2.1 y33).1).drop 0).take 20)).bind fun t15 => ((smithyref23_list.f k y45).bind fun t16 => ((smithyref23_bytes.f k ((gt x1.2.2.2.2.2.2.1 y33).2.2)).bind fun t17 => ((smithyref23_list.f k [t15, t16, t17]).bind fun t18 => (if ((y34).length + ([t18]).length) * 24 ≤ 140737488355328 then (smithyref23_Receipt.j3 y33 rec1 (y34 ++ [t18])) else none))))
def smithyref23_Receipt.b2 (k : Nat) (x1 : (List Int) × Int × Bool × Int × (List Int) × (List Int) × (List L68) × (List Int)) (y33 : Int) (y34 : List (List Int)) (rec1 : Int → (List (List Int)) → Option ((List Int))) (rec2 : Int → (List (List Int)) → Option ((List Int))) (y48 : Int) (y49 : List (List Int)) : Option ((List Int)) := if (decide (y48 < (((gt x1.2.2.2.2.2.2.1 y33).2.1).length : Int))) = true then (if (0 : Int) ≤ y48 ∧ y48 < (((gt x1.2.2.2.2.2.2.1 y33).2.1).length : Int) then ((smithyref23_full.f k (gt ((gt x1.2.2.2.2.2.2.1 y33).2.1) y48)).bind fun t21 => (if ((y49).length + ([t21]).length) * 24 ≤ 140737488355328 then (rec2 (wr .i64 (y48 + 1)) (y49 ++ [t21])) else none)) else none) else (smithyref23_Receipt.j4 k x1 y33 y34 rec1 y49)
def smithyref23_Receipt.l2 (k : Nat) (x1 : (List Int) × Int × Bool × Int × (List Int) × (List Int) × (List L68) × (List Int)) (y33 : Int) (y34 : List (List Int)) (rec1 : Int → (List (List Int)) → Option ((List Int))) : Nat → Int → (List (List Int)) → Option ((List Int))
  | 0, _, _ => none
  | q + 1, y48, y49 => smithyref23_Receipt.b2 k x1 y33 y34 rec1 (smithyref23_Receipt.l2 k x1 y33 y34 rec1 q) y48 y49
def smithyref23_Receipt.b1 (k : Nat) (x1 : (List Int) × Int × Bool × Int × (List Int) × (List Int) × (List L68) × (List Int)) (y1 : Int) (rec1 : Int → (List (List Int)) → Option ((List Int))) (y33 : Int) (y34 : List (List Int)) : Option ((List Int)) := if (decide (y33 < ((x1.2.2.2.2.2.2.1).length : Int))) = true then (if (0 : Int) ≤ y33 ∧ y33 < ((x1.2.2.2.2.2.2.1).length : Int) then (smithyref23_Receipt.l2 k x1 y33 y34 rec1 k 0 ([] : List (List Int))) else none) else (smithyref23_Receipt.j2 k x1 y1 y34)
def smithyref23_Receipt.l1 (k : Nat) (x1 : (List Int) × Int × Bool × Int × (List Int) × (List Int) × (List L68) × (List Int)) (y1 : Int) : Nat → Int → (List (List Int)) → Option ((List Int))
  | 0, _, _ => none
  | q + 1, y33, y34 => smithyref23_Receipt.b1 k x1 y1 (smithyref23_Receipt.l1 k x1 y1 q) y33 y34
def smithyref23_Receipt.j1 (k : Nat) (x1 : (List Int) × Int × Bool × Int × (List Int) × (List Int) × (List L68) × (List Int)) (y1 : Int) : Option ((List Int)) := smithyref23_Receipt.l1 k x1 y1 k 0 ([] : List (List Int))
def smithyref23_Receipt.f (k : Nat) (x1 : (List Int) × Int × Bool × Int × (List Int) × (List Int) × (List L68) × (List Int)) : Option ((List Int)) := if x1.2.2.1 = true then (smithyref23_Receipt.j1 k x1 1) else (smithyref23_Receipt.j1 k x1 0)
theorem smithyref23_Receipt.ok (k : Nat) : smithyref23_Receipt.Ctr (smithyref23_Receipt.f k) := by
 intro x1 ch_0_0 ch_0_1 ch_0_2 ch_0_3 r h0 mi w0 ok hm
 delta smithyref23_Receipt.f at h0
 refine c_enterZ (n := 79) ok hm func12 rfl rfl rfl fun b0 hb a S => c_region (s_box S rfl rfl rfl fun g1 a w S => s_alloc S Z23 rfl ⟨rfl, trivial⟩ rfl fun g2 a w S => c_end (c_region (s_assign S rfl rfl fun a S => c_end (wp_seq_k fun K1 hK1 => ?_))))
 have j1 : ∀ m y1 g3 g4 a w, St 79 m b0 [(3, (.w y1)), (2, (.p g3)), (1, (.p g4))] [Res.cells g3 23 [.b32 z32], Res.cells g4 39 [.b20 x1.1, .w x1.2.1, .b x1.2.2.1, .w x1.2.2.2.1, .w4 x1.2.2.2.2.1, .b20 x1.2.2.2.2.2.1, .q Y68 ch_0_0 ch_0_1 x1.2.2.2.2.2.2.1, .q yb ch_0_2 ch_0_3 x1.2.2.2.2.2.2.2]] a w → smithyref23_Receipt.j1 k x1 y1 = some r → K1 a w := by
  intro m y1 g3 g4 a w S h0
  delta smithyref23_Receipt.j1 at h0
  refine hK1 a w (c_region (s_bldSl S (ty' := (Ty.slice yb)) (ds := []) (z := ([] : List Int)) (c0 := (none, 0)) (ys := ([] : List (List Int))) (cs := []) rfl underlying63 J37 Z37 rfl ⟨⟨Nat.le_refl _, Nat.zero_le _, RdS.nil _ _ _, RdS.mono _ _ _⟩, trivial⟩ rfl rfl rfl rfl rfl rfl fun g5 a w S => s_assign S rfl rfl fun a S => c_end (wp_seq_k fun K2 hK2 => ?_)))
  have j2 : ∀ m A1 nn1 cp1 y18 g52 g53 a w, St 79 m b0 [(4, (.s A1 nn1 cp1)), (3, (.w y1)), (2, (.p g52)), (1, (.p g53))] [Res.row (Ty.slice yb) 37 A1 nn1 cp1 y18, Res.cells g52 23 [.b32 z32], Res.cells g53 39 [.b20 x1.1, .w x1.2.1, .b x1.2.2.1, .w x1.2.2.2.1, .w4 x1.2.2.2.2.1, .b20 x1.2.2.2.2.2.1, .q Y68 ch_0_0 ch_0_1 x1.2.2.2.2.2.2.1, .q yb ch_0_2 ch_0_3 x1.2.2.2.2.2.2.2]] a w → smithyref23_Receipt.j2 k x1 y1 y18 = some r → K2 a w := by
   intro m A1 nn1 cp1 y18 g52 g53 a w S h0
   delta smithyref23_Receipt.j2 at h0
   refine hK2 a w ?_
   replace S := S.freeze .h2
   obtain ⟨m, le1, S⟩ := S
   refine wp_seq (c_heldS S (.take 0 (.take 1 (.take 3 (.take 4 (.take 6 (.take 8 (.take 9 (.take 11 (.take 12 (.take 14 (.take 15 (.take 17 (.take 18 (.take 20 (.alts (.run 2 true (.alts (.run 5 true (.alts (.run 7 true (.alts (.run 10 true (.alts (.run 13 true (.alts (.run 16 true (.alts (.run 19 true (.alts (.run 21 true (.alts (.run 22 true (.alts (.run 23 true (.alts (.run 24 true (.alts (.run 25 false .done .nil)) .nil)) .nil)) .nil)) .nil)) .nil)) .nil)) .nil)) .nil)) .nil)) .nil)) .nil)))))))))))))))) 25 [Res.cells g52 23 [.b32 z32], Res.fro g53 39 [.b20 x1.1, .w x1.2.1, .b x1.2.2.1, .w x1.2.2.2.1, .w4 x1.2.2.2.2.1, .b20 x1.2.2.2.2.2.1, .q Y68 ch_0_0 ch_0_1 x1.2.2.2.2.2.2.1, .q yb ch_0_2 ch_0_3 x1.2.2.2.2.2.2.2]] (.c1 (.c1 .n)) ⟨Res.stay_cells, Res.stay_fro, trivial⟩ [(4, (.s A1 nn1 cp1)), (3, (.w y1)), (1, (.p g53))] (subR rfl) (by kernel_rfl) (by kernel_rfl) ?_); clear S; intro w S CL hw le
   refine h_fieldAddr S CL hw le (subR rfl) rfl I39_0 T28 (by decide) rfl rfl rfl trivial fun a S CL => h_sliceA S CL hw le (subR rfl) (i := 0) (j := 20) (o' := 0) (len := 20) (cap := 20) rfl underlying28 T5 (.inl ⟨rfl, rfl⟩) (.inl ⟨rfl, rfl⟩) (by decide) rfl rfl rfl rfl rfl trivial fun a S CL => h_fieldAddr S CL hw le (subR rfl) rfl I39_1 T24 (by decide) rfl rfl rfl trivial fun a S CL => h_load1F S CL hw le (subR rfl) rfl .h1 T24 (v := (.int .u64 x1.2.1)) rfl rfl rfl trivial fun a S CL => h_move S CL hw le (subR rfl) rfl rfl rfl trivial fun a S CL => h_fieldAddr S CL hw le (subR rfl) rfl I39_3 T24 (by decide) rfl rfl rfl trivial fun a S CL => h_load1F S CL hw le (subR rfl) rfl .h1 T24 (v := (.int .u64 x1.2.2.2.1)) rfl rfl rfl trivial fun a S CL => h_fieldAddr S CL hw le (subR rfl) rfl I39_4 T26 (by decide) rfl rfl rfl trivial fun a S CL => h_loadaF S CL hw le (subR rfl) rfl .h1 T26 (s' := [.w4 x1.2.2.2.2.1]) rfl rfl rfl trivial fun a S CL => h_fieldAddr S CL hw le (subR rfl) rfl I39_5 T28 (by decide) rfl rfl rfl trivial fun a S CL => h_sliceA S CL hw le (subR rfl) (i := 0) (j := 20) (o' := 27) (len := 20) (cap := 20) rfl underlying28 T5 (.inl ⟨rfl, rfl⟩) (.inl ⟨rfl, rfl⟩) (by decide) rfl rfl rfl rfl rfl trivial fun a S CL => h_fieldAddr S CL hw le (subR rfl) rfl I39_7 T37 (by decide) rfl rfl rfl trivial fun a S CL => h_loadSlF S CL hw le (subR rfl) rfl .h1 T37 (A := ch_0_2) (len := (x1.2.2.2.2.2.2.2).length) (cap := ch_0_3) rfl rfl rfl trivial fun a S CL => h_move S CL hw le (subR rfl) rfl rfl rfl trivial fun a S CL => h_run' S rfl trivial ?_
   replace S := (S.slup' (u := 55) (lo := 0) (c := 20) (ys := ((x1.1).drop 0).take 20) rfl (Pull.mem .h2).1 .h (.inl rfl) (by decide) (by decide) rfl).2
   replace CL := CL.drop (lq' := [(74, (.s A1 nn1 cp1)), (72, (.q yb ch_0_2 ch_0_3 x1.2.2.2.2.2.2.2)), (71, (.o g53 48)), (69, (.s (some ⟨g53, 27, none⟩) 20 20)), (68, (.o g53 27)), (66, (.a4 x1.2.2.2.2.1)), (65, (.o g53 23)), (63, (.w x1.2.2.2.1)), (62, (.o g53 22)), (60, (.w y1)), (58, (.w x1.2.1)), (57, (.o g53 20)), (54, (.p g53)), (4, (.s A1 nn1 cp1)), (3, (.w y1)), (1, (.p g53))]) (subR rfl)
   refine bindX h0 fun t1 et1 h1 => s_callP S _ N29 rfl rfl (smithyref23_bytes.ok k (((x1.1).drop 0).take 20) (ad g53) 20 t1 et1 _ _) fun ch1 m le1 a w S => ?_
   replace le := le.trans le1
   replace hw := CL.again hw S (.c1 (.c1 .n)) le
   refine h_back ⟨fun _ => hw, ?_⟩
   refine h_run' S rfl trivial (bindX h1 fun t2 et2 h2 => s_callP S _ N30 rfl rfl (smithyref23_count.ok k x1.2.1 t2 et2 _ _) fun ch2 m le1 a w S => ?_)
   replace le := le.trans le1
   replace hw := CL.again hw S (.c1 (.c1 .n)) le
   refine h_back ⟨fun _ => hw, ?_⟩
   refine h_run' S rfl trivial (bindX h2 fun t3 et3 h3 => s_callP S _ N30 rfl rfl (smithyref23_count.ok k y1 t3 et3 _ _) fun ch3 m le1 a w S => ?_)
   replace le := le.trans le1
   replace hw := CL.again hw S (.c1 (.c1 .n)) le
   refine h_back ⟨fun _ => hw, ?_⟩
   refine h_run' S rfl trivial (bindX h3 fun t4 et4 h4 => s_callP S _ N30 rfl rfl (smithyref23_count.ok k x1.2.2.2.1 t4 et4 _ _) fun ch4 m le1 a w S => ?_)
   replace le := le.trans le1
   replace hw := CL.again hw S (.c1 (.c1 .n)) le
   refine h_back ⟨fun _ => hw, ?_⟩
   refine h_run' S rfl trivial (bindX h4 fun t5 et5 h5 => s_callP S _ N31 rfl rfl (smithyref23_number.ok k x1.2.2.2.2.1 t5 et5 _ _) fun ch5 m le1 a w S => ?_)
   replace le := le.trans le1
   replace hw := CL.again hw S (.c1 (.c1 .n)) le
   refine h_back ⟨fun _ => hw, ?_⟩
   refine h_run' S rfl trivial ?_
   replace S := (S.slup' (u := 69) (lo := 0) (c := 20) (ys := ((x1.2.2.2.2.2.1).drop 0).take 20) rfl (Pull.mem .h2).1 (.there (.there (.there (.there (.there .h rfl) rfl) rfl) rfl) rfl) (.inl rfl) (by decide) (by decide) rfl).2
   replace CL := CL.drop (lq' := [(74, (.s A1 nn1 cp1)), (72, (.q yb ch_0_2 ch_0_3 x1.2.2.2.2.2.2.2)), (71, (.o g53 48)), (68, (.o g53 27)), (66, (.a4 x1.2.2.2.2.1)), (65, (.o g53 23)), (63, (.w x1.2.2.2.1)), (62, (.o g53 22)), (60, (.w y1)), (58, (.w x1.2.1)), (57, (.o g53 20)), (54, (.p g53)), (4, (.s A1 nn1 cp1)), (3, (.w y1)), (1, (.p g53))]) (subR rfl)
   refine bindX h5 fun t6 et6 h6 => s_callP S _ N29 rfl rfl (smithyref23_bytes.ok k (((x1.2.2.2.2.2.1).drop 0).take 20) (some ⟨g53, 27, none⟩) 20 t6 et6 _ _) fun ch6 m le1 a w S => ?_
   replace le := le.trans le1
   replace hw := CL.again hw S (.c1 (.c1 .n)) le
   refine h_back ⟨fun _ => hw, ?_⟩
   refine h_run' S rfl trivial (bindX h6 fun t7 et7 h7 => s_callP S _ N29 rfl rfl (smithyref23_bytes.ok k x1.2.2.2.2.2.2.2 ch_0_2 ch_0_3 t7 et7 _ _) fun ch7 m le1 a w S => ?_)
   replace le := le.trans le1
   replace hw := CL.again hw S (.c1 (.c1 .n)) le
   refine h_back ⟨fun _ => hw, ?_⟩
   refine h_run' S rfl trivial ?_
   replace S := S.rowfro .h
   obtain ⟨m, le1, S, hro⟩ := S
   replace le := le.trans le1
   replace S := S.slotro (u := 74) rfl hro
   replace S := S.slotro (u := 4) rfl hro
   replace CL := CL.drop (lq' := [(72, (.q yb ch_0_2 ch_0_3 x1.2.2.2.2.2.2.2)), (71, (.o g53 48)), (68, (.o g53 27)), (66, (.a4 x1.2.2.2.2.1)), (65, (.o g53 23)), (63, (.w x1.2.2.2.1)), (62, (.o g53 22)), (60, (.w y1)), (58, (.w x1.2.1)), (57, (.o g53 20)), (54, (.p g53)), (3, (.w y1)), (1, (.p g53))]) (subR rfl)
   refine bindX h7 fun t8 et8 h8 => s_callR S (fun (ch : (Option Addr) × Nat × Nat) => ((.s ch.1 ch.2.1 ch.2.2) : D)) (fun (ch : (Option Addr) × Nat × Nat) => Res.row yb 5 ch.1 ch.2.1 ch.2.2 t8) N28 rfl rfl (smithyref23_list.ok k y18 A1 cp1 t8 et8 _ _) fun ch8 m le1 a w S => ?_
   replace le := le.trans le1
   replace hw := CL.again hw S (.c1 (.c1 .n)) le
   refine h_back ⟨fun _ => hw, ?_⟩
   refine h_run' S rfl trivial ?_
   replace S := S.rowfro .h
   obtain ⟨m, le1, S, hro⟩ := S
   replace le := le.trans le1
   replace S := S.slotro (u := 75) rfl hro
   refine s_bldSl S (ty' := (Ty.slice yb)) (ds := [(0, (.q yb ch1.1 ch1.2 t1)), (1, (.q yb ch2.1 ch2.2 t2)), (2, (.q yb ch3.1 ch3.2 t3)), (3, (.q yb ch4.1 ch4.2 t4)), (4, (.q yb ch5.1 ch5.2 t5)), (5, (.q yb ch6.1 ch6.2 t6)), (6, (.q yb ch7.1 ch7.2 t7)), (7, (.q yb ch8.1 ch8.2.2 t8))]) (z := ([] : List Int)) (c0 := (none, 0)) (ys := [t1, t2, t3, t4, t5, t6, t7, t8]) (cs := [(ch1.1, ch1.2), (ch2.1, ch2.2), (ch3.1, ch3.2), (ch4.1, ch4.2), (ch5.1, ch5.2), (ch6.1, ch6.2), (ch7.1, ch7.2), (ch8.1, ch8.2.2)]) rfl underlying63 J37 Z37 rfl ⟨⟨Nat.le_refl _, Nat.zero_le _, RdS.nil _ _ _, RdS.mono _ _ _⟩, trivial⟩ rfl rfl rfl rfl rfl rfl fun g54 a w S => ?_
   replace hw := CL.again hw S (.c1 (.c1 .n)) le
   refine h_back ⟨fun _ => hw, ?_⟩
   refine h_run' S rfl trivial ?_
   replace S := S.rowfro .h
   obtain ⟨m, le1, S, hro⟩ := S
   replace le := le.trans le1
   replace S := S.slotro (u := 76) rfl hro
   refine bindX h8 fun t9 et9 h9 => s_callR S (fun (ch : (Option Addr) × Nat × Nat) => ((.s ch.1 ch.2.1 ch.2.2) : D)) (fun (ch : (Option Addr) × Nat × Nat) => Res.row yb 5 ch.1 ch.2.1 ch.2.2 t9) N28 rfl rfl (smithyref23_list.ok k [t1, t2, t3, t4, t5, t6, t7, t8] (ad g54) 8 t9 et9 _ _) fun ch9 m le1 a w S => ?_
   replace le := le.trans le1
   replace hw := CL.again hw S (.c1 (.c1 .n)) le
   refine h_back ⟨fun _ => hw, ?_⟩
   refine h_run' S rfl trivial ?_
   replace S := S.rowfro .h
   obtain ⟨m, le1, S, hro⟩ := S
   replace le := le.trans le1
   replace S := S.slotro (u := 77) rfl hro
   refine bindX h9 fun t10 et10 h10 => s_callP S _ N27 rfl rfl (smithyref23_hash.ok k t9 ch9.1 ch9.2.2 t10 et10 _ _) fun ch10 m le1 a w S => ?_
   replace le := le.trans le1
   replace hw := CL.again hw S (.c0 (.c0 .n)) le
   refine h_back ⟨fun _ => hw, ?_⟩
   refine h_run' S rfl trivial (s_store S rfl rfl rfl (s' := [.b32 t10]) .h T23 rfl rfl fun w S => ?_)
   refine h_back ⟨fun h => (nomatch h), ?_⟩
   refine h_done ?_; clear CL hw le
   refine x_thenN (wp_ret ?_)
   obtain rfl := Option.some.inj h10
   exact b_ret1 (d := (.a32 t10)) S rfl (resD_cell rfl .h T23 rfl rfl) (S.rt hb)
  refine c_region (s_fieldAddr S rfl I39_6 T36 (by decide) rfl rfl fun a S => s_loadSl S rfl .h2 T36 (A := ch_0_0) (len := (x1.2.2.2.2.2.2.1).length) (cap := ch_0_1) rfl rfl fun a S => s_lenS S rfl underlying36 rfl fun a S => s_move S rfl rfl fun a S => c_end (wp_block ?_))
  refine c_loop (fun q1 a w => ∃ m y33 A2 nn3 cp33 y34 g99 g100, St 79 m b0 [(15, (.i y33)), (14, (.i ((x1.2.2.2.2.2.2.1).length : Int))), (4, (.s A2 nn3 cp33)), (3, (.w y1)), (2, (.p g99)), (1, (.p g100))] [Res.row (Ty.slice yb) 37 A2 nn3 cp33 y34, Res.cells g99 23 [.b32 z32], Res.cells g100 39 [.b20 x1.1, .w x1.2.1, .b x1.2.2.1, .w x1.2.2.2.1, .w4 x1.2.2.2.2.1, .b20 x1.2.2.2.2.2.1, .q Y68 ch_0_0 ch_0_1 x1.2.2.2.2.2.2.1, .q yb ch_0_2 ch_0_3 x1.2.2.2.2.2.2.2]] a w ∧ smithyref23_Receipt.l1 k x1 y1 q1 y33 y34 = some r) ?_ ?_ (k := k) ⟨_, 0, (ad g5), 0, 0, ([] : List (List Int)), g3, g4, (S.sb rfl (.c0 (.c0 (.c0 .n)))), h0⟩
  ·rintro a w ⟨m, y33, A2, nn3, cp33, y34, g99, g100, S, h0⟩
   exact (nomatch (show (none : Option ((List Int))) = some r from h0))
  ·clear S h0
   rintro q1 a w ⟨m, y33, A2, nn3, cp33, y34, g99, g100, S, h0⟩
   replace h0 : smithyref23_Receipt.b1 k x1 y1 (smithyref23_Receipt.l1 k x1 y1 q1) y33 y34 = some r := h0
   delta smithyref23_Receipt.b1 at h0
   refine c_region (s_bin S rfl rfl rfl rfl fun a S => c_end (wp_seq ?_))
   rcases ite_of h0 with ⟨c1, h1⟩ | ⟨c1, h1⟩
   ·refine c_condT S rfl c1 (wp_skip (x_thenN (wp_seq_k fun K3 hK3 => ?_)))
    have j3 : ∀ m A3 cp48 y40 g119 g120 a w, St 79 m b0 [(4, (.s A3 (nn3 + 1) cp48)), (15, (.i y33)), (14, (.i ((x1.2.2.2.2.2.2.1).length : Int))), (3, (.w y1)), (2, (.p g119)), (1, (.p g120))] [Res.row (Ty.slice yb) 37 A3 (nn3 + 1) cp48 y40, Res.cells g119 23 [.b32 z32], Res.cells g120 39 [.b20 x1.1, .w x1.2.1, .b x1.2.2.1, .w x1.2.2.2.1, .w4 x1.2.2.2.2.1, .b20 x1.2.2.2.2.2.1, .q Y68 ch_0_0 ch_0_1 x1.2.2.2.2.2.2.1, .q yb ch_0_2 ch_0_3 x1.2.2.2.2.2.2.2]] a w → smithyref23_Receipt.j3 y33 (smithyref23_Receipt.l1 k x1 y1 q1) y40 = some r → K3 a w := by
     intro m A3 cp48 y40 g119 g120 a w S h0
     delta smithyref23_Receipt.j3 at h0
     refine hK3 a w (c_region' (s_bin S rfl rfl rfl rfl fun a S => s_move S rfl rfl fun a S => c_end' (x_thenN ?_)))
     exact ⟨_, (wr .i64 (y33 + 1)), A3, (nn3 + 1), cp48, y40, g119, g120, (S.sb rfl (.c0 (.c0 (.c0 .n)))), h0⟩
    refine wp_block (c_region (s_move S rfl rfl fun a S => s_assign S rfl rfl fun a S => c_end (c_region (s_fieldAddr S rfl I39_6 T36 (by decide) rfl rfl fun a S => s_loadSl S rfl .h2 T36 (A := ch_0_0) (len := (x1.2.2.2.2.2.2.1).length) (cap := ch_0_1) rfl rfl fun a S => s_move S rfl rfl fun a S => ?_))))
    obtain ⟨c2, h2⟩ := chk_of h1; clear h1
    refine s_iaddrS S rfl rfl rfl underlying36 T68 c2.1 c2.2 rfl fun p1 a S => s_ldA S (fun (c : Unit × (Option Addr × Nat) × (Option Addr × Nat)) => [.b20 ((gt x1.2.2.2.2.2.2.1 y33).1), .q (Ty.arr .u64 4) c.2.1.1 c.2.1.2 ((gt x1.2.2.2.2.2.2.1 y33).2.1), .q yb c.2.2.1 c.2.2.2 ((gt x1.2.2.2.2.2.2.1 y33).2.2)]) rfl T68 (fun _ => rfl) rfl fun ch16 a S => s_alloc S Z68 rfl ⟨rfl, rfl, rfl, trivial⟩ rfl fun g121 a w S => s_store S rfl rfl rfl (s' := [.b20 ((gt x1.2.2.2.2.2.2.1 y33).1), .q (Ty.arr .u64 4) ch16.2.1.1 ch16.2.1.2 ((gt x1.2.2.2.2.2.2.1 y33).2.1), .q yb ch16.2.2.1 ch16.2.2.2 ((gt x1.2.2.2.2.2.2.1 y33).2.2)]) .h T68 rfl rfl fun w S => c_end (c_region (s_bldSl S (ty' := (Ty.slice yb)) (ds := []) (z := ([] : List Int)) (c0 := (none, 0)) (ys := ([] : List (List Int))) (cs := []) rfl underlying63 J37 Z37 rfl ⟨⟨Nat.le_refl _, Nat.zero_le _, RdS.nil _ _ _, RdS.mono _ _ _⟩, trivial⟩ rfl rfl rfl rfl rfl rfl fun g122 a w S => s_assign S rfl rfl fun a S => c_end (wp_seq_k fun K4 hK4 => ?_)))
    have j4 : ∀ m A4 nn6 cp59 y45 g134 g135 g136 A5 cp60 A6 cp61 a w, St 79 m b0 [(7, (.s A4 nn6 cp59)), (6, (.p g134)), (15, (.i y33)), (14, (.i ((x1.2.2.2.2.2.2.1).length : Int))), (4, (.s A2 nn3 cp33)), (3, (.w y1)), (2, (.p g135)), (1, (.p g136))] [Res.row (Ty.slice yb) 37 A4 nn6 cp59 y45, Res.cells g134 68 [.b20 ((gt x1.2.2.2.2.2.2.1 y33).1), .q (Ty.arr .u64 4) A5 cp60 ((gt x1.2.2.2.2.2.2.1 y33).2.1), .q yb A6 cp61 ((gt x1.2.2.2.2.2.2.1 y33).2.2)], Res.row (Ty.slice yb) 37 A2 nn3 cp33 y34, Res.cells g135 23 [.b32 z32], Res.cells g136 39 [.b20 x1.1, .w x1.2.1, .b x1.2.2.1, .w x1.2.2.2.1, .w4 x1.2.2.2.2.1, .b20 x1.2.2.2.2.2.1, .q Y68 ch_0_0 ch_0_1 x1.2.2.2.2.2.2.1, .q yb ch_0_2 ch_0_3 x1.2.2.2.2.2.2.2]] a w → smithyref23_Receipt.j4 k x1 y33 y34 (smithyref23_Receipt.l1 k x1 y1 q1) y45 = some r → K4 a w := by
     intro m A4 nn6 cp59 y45 g134 g135 g136 A5 cp60 A6 cp61 a w S h0
     delta smithyref23_Receipt.j4 at h0
     refine hK4 a w ?_
     replace S := S.freeze .h1
     obtain ⟨m, le1, S⟩ := S
     refine c_heldS S (.take 1 (.take 2 (.take 4 (.take 6 (.take 7 (.alts (.run 0 true (.alts (.run 3 true (.alts (.run 5 true (.alts (.run 8 true (.alts (.run 9 true (.alts (.run 10 true (.alts (.run 11 true (.alts (.run 12 true (.take 13 .done) .nil)) .nil)) .nil)) .nil)) .nil)) .nil)) .nil)) (.run 3 true (.alts (.run 0 true (.alts (.run 5 true (.alts (.run 8 true (.alts (.run 9 true (.alts (.run 10 true (.alts (.run 11 true (.alts (.run 12 true (.take 13 .done) .nil)) .nil)) .nil)) .nil)) .nil)) .nil)) (.run 5 true (.alts (.run 0 true (.alts (.run 8 true (.alts (.run 9 true (.alts (.run 10 true (.alts (.run 11 true (.alts (.run 12 true (.take 13 .done) .nil)) .nil)) .nil)) .nil)) .nil)) (.run 8 true (.alts (.run 0 true (.alts (.run 9 true (.alts (.run 10 true (.alts (.run 11 true (.alts (.run 12 true (.take 13 .done) .nil)) .nil)) .nil)) .nil)) (.run 9 true (.alts (.run 0 true (.alts (.run 10 true (.alts (.run 11 true (.alts (.run 12 true (.take 13 .done) .nil)) .nil)) .nil)) (.run 10 true (.alts (.run 0 true (.alts (.run 11 true (.alts (.run 12 true (.take 13 .done) .nil)) .nil)) (.run 11 true (.alts (.run 0 true (.alts (.run 12 true (.take 13 .done) .nil)) .nil)) .nil))) .nil))) .nil))) .nil))) .nil))) .nil)))))))) 14 [Res.fro g134 68 [.b20 ((gt x1.2.2.2.2.2.2.1 y33).1), .q (Ty.arr .u64 4) A5 cp60 ((gt x1.2.2.2.2.2.2.1 y33).2.1), .q yb A6 cp61 ((gt x1.2.2.2.2.2.2.1 y33).2.2)], Res.cells g135 23 [.b32 z32], Res.cells g136 39 [.b20 x1.1, .w x1.2.1, .b x1.2.2.1, .w x1.2.2.2.1, .w4 x1.2.2.2.2.1, .b20 x1.2.2.2.2.2.1, .q Y68 ch_0_0 ch_0_1 x1.2.2.2.2.2.2.1, .q yb ch_0_2 ch_0_3 x1.2.2.2.2.2.2.2]] (.c1 (.c2 (.c2 .n))) ⟨Res.stay_fro, Res.stay_cells, Res.stay_cells, trivial⟩ [(7, (.s A4 nn6 cp59)), (6, (.p g134))] (subR rfl) (by kernel_rfl) (by kernel_rfl) fun w S CL hw le => ?_
     refine h_fieldAddr S CL hw le (subR rfl) rfl I68_0 T28 (by decide) rfl rfl rfl trivial fun a S CL => h_sliceA S CL hw le (subR rfl) (i := 0) (j := 20) (o' := 0) (len := 20) (cap := 20) rfl underlying28 T5 (.inl ⟨rfl, rfl⟩) (.inl ⟨rfl, rfl⟩) (by decide) rfl rfl rfl rfl rfl trivial fun a S CL => h_move S CL hw le (subR rfl) rfl rfl rfl trivial fun a S CL => h_fieldAddr S CL hw le (subR rfl) rfl I68_2 T37 (by decide) rfl rfl rfl trivial fun a S CL => h_loadSlF S CL hw le (subR rfl) rfl .h T37 (A := A6) (len := ((gt x1.2.2.2.2.2.2.1 y33).2.2).length) (cap := cp61) rfl rfl rfl trivial fun a S CL => bindX h0 fun t15 et15 h1 => bindX h1 fun t16 et16 h2 => bindX h2 fun t17 et17 h3 => bindX h3 fun t18 et18 h4 => ?_
     obtain ⟨c3, h5⟩ := chk_of h4; clear h4
     refine h_alts ?_
     refine h_runO S rfl trivial ?_ ?_
     ·refine s_move S rfl rfl fun a S => ?_
      replace hw := CL.again hw S (.c1 (.c2 (.c2 .n))) le
      refine h_back ⟨fun _ => hw, ?_⟩
      refine h_run' S rfl trivial ?_
      replace S := (S.slup' (u := 42) (lo := 0) (c := 20) (ys := (((gt x1.2.2.2.2.2.2.1 y33).1).drop 0).take 20) rfl (Pull.mem .h1).1 .h (.inl rfl) (by decide) (by decide) rfl).2
      replace CL := CL.drop (lq' := [(47, (.q yb A6 cp61 ((gt x1.2.2.2.2.2.2.1 y33).2.2))), (46, (.o g134 21)), (44, (.s A4 nn6 cp59)), (41, (.p g134)), (7, (.s A4 nn6 cp59)), (6, (.p g134))]) (subR rfl)
      refine s_callP S _ N29 rfl rfl (smithyref23_bytes.ok k ((((gt x1.2.2.2.2.2.2.1 y33).1).drop 0).take 20) (ad g134) 20 t15 et15 _ _) fun ch17 m le1 a w S => ?_
      replace le := le.trans le1
      replace hw := CL.again hw S (.c1 (.c2 (.c2 .n))) le
      refine h_back ⟨fun _ => hw, ?_⟩
      refine h_run' S rfl trivial ?_
      replace S := S.rowfro .h
      obtain ⟨m, le1, S, hro⟩ := S
      replace le := le.trans le1
      replace S := S.slotro (u := 44) rfl hro
      replace S := S.slotro (u := 7) rfl hro
      replace CL := CL.drop (lq' := [(47, (.q yb A6 cp61 ((gt x1.2.2.2.2.2.2.1 y33).2.2))), (46, (.o g134 21)), (41, (.p g134)), (6, (.p g134))]) (subR rfl)
      refine s_callR S (fun (ch : (Option Addr) × Nat × Nat) => ((.s ch.1 ch.2.1 ch.2.2) : D)) (fun (ch : (Option Addr) × Nat × Nat) => Res.row yb 5 ch.1 ch.2.1 ch.2.2 t16) N28 rfl rfl (smithyref23_list.ok k y45 A4 cp59 t16 et16 _ _) fun ch18 m le1 a w S => ?_
      replace le := le.trans le1
      replace hw := CL.again hw S (.c1 (.c2 (.c2 .n))) le
      refine h_back ⟨fun _ => hw, ?_⟩
      refine h_run' S rfl trivial (s_callP S _ N29 rfl rfl (smithyref23_bytes.ok k ((gt x1.2.2.2.2.2.2.1 y33).2.2) A6 cp61 t17 et17 _ _) fun ch19 m le1 a w S => ?_)
      replace le := le.trans le1
      replace hw := CL.again hw S (.c1 (.c2 (.c2 .n))) le
      refine h_back ⟨fun _ => hw, ?_⟩
      refine h_run' S rfl trivial ?_
      replace S := S.rowfro .h
      obtain ⟨m, le1, S, hro⟩ := S
      replace le := le.trans le1
      replace S := S.slotro (u := 45) rfl hro
      refine s_bldSl S (ty' := (Ty.slice yb)) (ds := [(0, (.q yb ch17.1 ch17.2 t15)), (1, (.q yb ch18.1 ch18.2.2 t16)), (2, (.q yb ch19.1 ch19.2 t17))]) (z := ([] : List Int)) (c0 := (none, 0)) (ys := [t15, t16, t17]) (cs := [(ch17.1, ch17.2), (ch18.1, ch18.2.2), (ch19.1, ch19.2)]) rfl underlying63 J37 Z37 rfl ⟨⟨Nat.le_refl _, Nat.zero_le _, RdS.nil _ _ _, RdS.mono _ _ _⟩, trivial⟩ rfl rfl rfl rfl rfl rfl fun g137 a w S => ?_
      replace hw := CL.again hw S (.c1 (.c2 (.c2 .n))) le
      refine h_back ⟨fun _ => hw, ?_⟩
      refine h_run' S rfl trivial ?_
      replace S := S.rowfro .h
      obtain ⟨m, le1, S, hro⟩ := S
      replace le := le.trans le1
      replace S := S.slotro (u := 49) rfl hro
      refine s_callR S (fun (ch : (Option Addr) × Nat × Nat) => ((.s ch.1 ch.2.1 ch.2.2) : D)) (fun (ch : (Option Addr) × Nat × Nat) => Res.row yb 5 ch.1 ch.2.1 ch.2.2 t18) N28 rfl rfl (smithyref23_list.ok k [t15, t16, t17] (ad g137) 3 t18 et18 _ _) fun ch20 m le1 a w S => ?_
      replace le := le.trans le1
      replace hw := CL.again hw S (.c1 (.c2 (.c2 .n))) le
      refine h_back ⟨fun _ => hw, ?_⟩
      refine h_run' S rfl trivial ?_
      replace S := S.rowfro .h
      obtain ⟨m, le1, S, hro⟩ := S
      replace le := le.trans le1
      replace S := S.slotro (u := 50) rfl hro
      refine s_bldSl S (ty' := (Ty.slice yb)) (ds := [(0, (.q yb ch20.1 ch20.2.2 t18))]) (z := ([] : List Int)) (c0 := (none, 0)) (ys := [t18]) (cs := [(ch20.1, ch20.2.2)]) rfl underlying63 J37 Z37 rfl ⟨⟨Nat.le_refl _, Nat.zero_le _, RdS.nil _ _ _, RdS.mono _ _ _⟩, trivial⟩ rfl rfl rfl rfl rfl rfl fun g138 a w S => ?_
      replace hw := CL.again hw S (.c1 (.c2 (.c2 .n))) le
      refine h_back ⟨fun _ => hw, ?_⟩
      refine h_run' S rfl trivial (s_app S (k2 := 1) (ys := [t18]) rfl (fun _ _ => .h2) rfl rfl (S.holds _ (Pull.mem .h).1).1 (Res.row.src (S.holds _ (Pull.mem .h).1)) underlying63 J37 c3 rfl fun A7 cp62 a w S => ?_)
      replace hw := CL.again hw S (.c1 (.c2 (.c2 .n))) le
      refine h_back ⟨fun _ => hw, ?_⟩
      replace CL := CL.add (t := 52) (d := (.s A7 (nn3 + 1) cp62)) S rfl rfl
      refine h_assign S CL hw le (subR rfl) rfl rfl rfl trivial fun a S CL => ?_
      refine h_done ?_; clear CL hw le
      refine x_blockN (x_thenN ?_)
      exact j3 _ A7 cp62 (y34 ++ [t18]) g135 g136 a w (S.sb rfl (.c2 (.c2 (.c2 .n)))) h5
     refine h_runO S rfl trivial ?_ ?_
     ·replace S := (S.slup' (u := 42) (lo := 0) (c := 20) (ys := (((gt x1.2.2.2.2.2.2.1 y33).1).drop 0).take 20) rfl (Pull.mem .h1).1 .h (.inl rfl) (by decide) (by decide) rfl).2
      replace CL := CL.drop (lq' := [(47, (.q yb A6 cp61 ((gt x1.2.2.2.2.2.2.1 y33).2.2))), (46, (.o g134 21)), (44, (.s A4 nn6 cp59)), (41, (.p g134)), (7, (.s A4 nn6 cp59)), (6, (.p g134))]) (subR rfl)
      refine s_callP S _ N29 rfl rfl (smithyref23_bytes.ok k ((((gt x1.2.2.2.2.2.2.1 y33).1).drop 0).take 20) (ad g134) 20 t15 et15 _ _) fun ch17 m le1 a w S => ?_
      replace le := le.trans le1
      replace hw := CL.again hw S (.c1 (.c2 (.c2 .n))) le
      refine h_back ⟨fun _ => hw, ?_⟩
      refine h_alts ?_
      refine h_runO S rfl trivial ?_ ?_
      ·refine s_move S rfl rfl fun a S => ?_
       replace hw := CL.again hw S (.c1 (.c2 (.c2 .n))) le
       refine h_back ⟨fun _ => hw, ?_⟩
       refine h_run' S rfl trivial ?_
       replace S := S.rowfro .h
       obtain ⟨m, le1, S, hro⟩ := S
       replace le := le.trans le1
       replace S := S.slotro (u := 44) rfl hro
       replace S := S.slotro (u := 7) rfl hro
       replace CL := CL.drop (lq' := [(47, (.q yb A6 cp61 ((gt x1.2.2.2.2.2.2.1 y33).2.2))), (46, (.o g134 21)), (41, (.p g134)), (6, (.p g134))]) (subR rfl)
       refine s_callR S (fun (ch : (Option Addr) × Nat × Nat) => ((.s ch.1 ch.2.1 ch.2.2) : D)) (fun (ch : (Option Addr) × Nat × Nat) => Res.row yb 5 ch.1 ch.2.1 ch.2.2 t16) N28 rfl rfl (smithyref23_list.ok k y45 A4 cp59 t16 et16 _ _) fun ch18 m le1 a w S => ?_
       replace le := le.trans le1
       replace hw := CL.again hw S (.c1 (.c2 (.c2 .n))) le
       refine h_back ⟨fun _ => hw, ?_⟩
       refine h_run' S rfl trivial (s_callP S _ N29 rfl rfl (smithyref23_bytes.ok k ((gt x1.2.2.2.2.2.2.1 y33).2.2) A6 cp61 t17 et17 _ _) fun ch19 m le1 a w S => ?_)
       replace le := le.trans le1
       replace hw := CL.again hw S (.c1 (.c2 (.c2 .n))) le
       refine h_back ⟨fun _ => hw, ?_⟩
       refine h_run' S rfl trivial ?_
       replace S := S.rowfro .h
       obtain ⟨m, le1, S, hro⟩ := S
       replace le := le.trans le1
       replace S := S.slotro (u := 45) rfl hro
       refine s_bldSl S (ty' := (Ty.slice yb)) (ds := [(0, (.q yb ch17.1 ch17.2 t15)), (1, (.q yb ch18.1 ch18.2.2 t16)), (2, (.q yb ch19.1 ch19.2 t17))]) (z := ([] : List Int)) (c0 := (none, 0)) (ys := [t15, t16, t17]) (cs := [(ch17.1, ch17.2), (ch18.1, ch18.2.2), (ch19.1, ch19.2)]) rfl underlying63 J37 Z37 rfl ⟨⟨Nat.le_refl _, Nat.zero_le _, RdS.nil _ _ _, RdS.mono _ _ _⟩, trivial⟩ rfl rfl rfl rfl rfl rfl fun g137 a w S => ?_
       replace hw := CL.again hw S (.c1 (.c2 (.c2 .n))) le
       refine h_back ⟨fun _ => hw, ?_⟩
       refine h_run' S rfl trivial ?_
       replace S := S.rowfro .h
       obtain ⟨m, le1, S, hro⟩ := S
       replace le := le.trans le1
       replace S := S.slotro (u := 49) rfl hro
       refine s_callR S (fun (ch : (Option Addr) × Nat × Nat) => ((.s ch.1 ch.2.1 ch.2.2) : D)) (fun (ch : (Option Addr) × Nat × Nat) => Res.row yb 5 ch.1 ch.2.1 ch.2.2 t18) N28 rfl rfl (smithyref23_list.ok k [t15, t16, t17] (ad g137) 3 t18 et18 _ _) fun ch20 m le1 a w S => ?_
       replace le := le.trans le1
       replace hw := CL.again hw S (.c1 (.c2 (.c2 .n))) le
       refine h_back ⟨fun _ => hw, ?_⟩
       refine h_run' S rfl trivial ?_
       replace S := S.rowfro .h
       obtain ⟨m, le1, S, hro⟩ := S
       replace le := le.trans le1
       replace S := S.slotro (u := 50) rfl hro
       refine s_bldSl S (ty' := (Ty.slice yb)) (ds := [(0, (.q yb ch20.1 ch20.2.2 t18))]) (z := ([] : List Int)) (c0 := (none, 0)) (ys := [t18]) (cs := [(ch20.1, ch20.2.2)]) rfl underlying63 J37 Z37 rfl ⟨⟨Nat.le_refl _, Nat.zero_le _, RdS.nil _ _ _, RdS.mono _ _ _⟩, trivial⟩ rfl rfl rfl rfl rfl rfl fun g138 a w S => ?_
       replace hw := CL.again hw S (.c1 (.c2 (.c2 .n))) le
       refine h_back ⟨fun _ => hw, ?_⟩
       refine h_run' S rfl trivial (s_app S (k2 := 1) (ys := [t18]) rfl (fun _ _ => .h2) rfl rfl (S.holds _ (Pull.mem .h).1).1 (Res.row.src (S.holds _ (Pull.mem .h).1)) underlying63 J37 c3 rfl fun A7 cp62 a w S => ?_)
       replace hw := CL.again hw S (.c1 (.c2 (.c2 .n))) le
       refine h_back ⟨fun _ => hw, ?_⟩
       replace CL := CL.add (t := 52) (d := (.s A7 (nn3 + 1) cp62)) S rfl rfl
       refine h_assign S CL hw le (subR rfl) rfl rfl rfl trivial fun a S CL => ?_
       refine h_done ?_; clear CL hw le
       refine x_blockN (x_thenN ?_)
       exact j3 _ A7 cp62 (y34 ++ [t18]) g135 g136 a w (S.sb rfl (.c2 (.c2 (.c2 .n)))) h5
      refine h_runO S rfl trivial ?_ ?_
      ·replace S := S.rowfro .h
       obtain ⟨m, le1, S, hro⟩ := S
       replace le := le.trans le1
       replace S := S.slotro (u := 44) rfl hro
       replace S := S.slotro (u := 7) rfl hro
       replace CL := CL.drop (lq' := [(47, (.q yb A6 cp61 ((gt x1.2.2.2.2.2.2.1 y33).2.2))), (46, (.o g134 21)), (41, (.p g134)), (6, (.p g134))]) (subR rfl)
       refine s_callR S (fun (ch : (Option Addr) × Nat × Nat) => ((.s ch.1 ch.2.1 ch.2.2) : D)) (fun (ch : (Option Addr) × Nat × Nat) => Res.row yb 5 ch.1 ch.2.1 ch.2.2 t16) N28 rfl rfl (smithyref23_list.ok k y45 A4 cp59 t16 et16 _ _) fun ch18 m le1 a w S => ?_
       replace le := le.trans le1
       replace hw := CL.again hw S (.c1 (.c2 (.c2 .n))) le
       refine h_back ⟨fun _ => hw, ?_⟩
       refine h_alts ?_
       refine h_runO S rfl trivial ?_ ?_
       ·refine s_move S rfl rfl fun a S => ?_
        replace hw := CL.again hw S (.c1 (.c2 (.c2 .n))) le
        refine h_back ⟨fun _ => hw, ?_⟩
        refine h_run' S rfl trivial (s_callP S _ N29 rfl rfl (smithyref23_bytes.ok k ((gt x1.2.2.2.2.2.2.1 y33).2.2) A6 cp61 t17 et17 _ _) fun ch19 m le1 a w S => ?_)
        replace le := le.trans le1
        replace hw := CL.again hw S (.c1 (.c2 (.c2 .n))) le
        refine h_back ⟨fun _ => hw, ?_⟩
        refine h_run' S rfl trivial ?_
        replace S := S.rowfro .h
        obtain ⟨m, le1, S, hro⟩ := S
        replace le := le.trans le1
        replace S := S.slotro (u := 45) rfl hro
        refine s_bldSl S (ty' := (Ty.slice yb)) (ds := [(0, (.q yb ch17.1 ch17.2 t15)), (1, (.q yb ch18.1 ch18.2.2 t16)), (2, (.q yb ch19.1 ch19.2 t17))]) (z := ([] : List Int)) (c0 := (none, 0)) (ys := [t15, t16, t17]) (cs := [(ch17.1, ch17.2), (ch18.1, ch18.2.2), (ch19.1, ch19.2)]) rfl underlying63 J37 Z37 rfl ⟨⟨Nat.le_refl _, Nat.zero_le _, RdS.nil _ _ _, RdS.mono _ _ _⟩, trivial⟩ rfl rfl rfl rfl rfl rfl fun g137 a w S => ?_
        replace hw := CL.again hw S (.c1 (.c2 (.c2 .n))) le
        refine h_back ⟨fun _ => hw, ?_⟩
        refine h_run' S rfl trivial ?_
        replace S := S.rowfro .h
        obtain ⟨m, le1, S, hro⟩ := S
        replace le := le.trans le1
        replace S := S.slotro (u := 49) rfl hro
        refine s_callR S (fun (ch : (Option Addr) × Nat × Nat) => ((.s ch.1 ch.2.1 ch.2.2) : D)) (fun (ch : (Option Addr) × Nat × Nat) => Res.row yb 5 ch.1 ch.2.1 ch.2.2 t18) N28 rfl rfl (smithyref23_list.ok k [t15, t16, t17] (ad g137) 3 t18 et18 _ _) fun ch20 m le1 a w S => ?_
        replace le := le.trans le1
        replace hw := CL.again hw S (.c1 (.c2 (.c2 .n))) le
        refine h_back ⟨fun _ => hw, ?_⟩
        refine h_run' S rfl trivial ?_
        replace S := S.rowfro .h
        obtain ⟨m, le1, S, hro⟩ := S
        replace le := le.trans le1
        replace S := S.slotro (u := 50) rfl hro
        refine s_bldSl S (ty' := (Ty.slice yb)) (ds := [(0, (.q yb ch20.1 ch20.2.2 t18))]) (z := ([] : List Int)) (c0 := (none, 0)) (ys := [t18]) (cs := [(ch20.1, ch20.2.2)]) rfl underlying63 J37 Z37 rfl ⟨⟨Nat.le_refl _, Nat.zero_le _, RdS.nil _ _ _, RdS.mono _ _ _⟩, trivial⟩ rfl rfl rfl rfl rfl rfl fun g138 a w S => ?_
        replace hw := CL.again hw S (.c1 (.c2 (.c2 .n))) le
        refine h_back ⟨fun _ => hw, ?_⟩
        refine h_run' S rfl trivial (s_app S (k2 := 1) (ys := [t18]) rfl (fun _ _ => .h2) rfl rfl (S.holds _ (Pull.mem .h).1).1 (Res.row.src (S.holds _ (Pull.mem .h).1)) underlying63 J37 c3 rfl fun A7 cp62 a w S => ?_)
        replace hw := CL.again hw S (.c1 (.c2 (.c2 .n))) le
        refine h_back ⟨fun _ => hw, ?_⟩
        replace CL := CL.add (t := 52) (d := (.s A7 (nn3 + 1) cp62)) S rfl rfl
        refine h_assign S CL hw le (subR rfl) rfl rfl rfl trivial fun a S CL => ?_
        refine h_done ?_; clear CL hw le
        refine x_blockN (x_thenN ?_)
        exact j3 _ A7 cp62 (y34 ++ [t18]) g135 g136 a w (S.sb rfl (.c2 (.c2 (.c2 .n)))) h5
       refine h_runO S rfl trivial ?_ ?_
       ·refine s_callP S _ N29 rfl rfl (smithyref23_bytes.ok k ((gt x1.2.2.2.2.2.2.1 y33).2.2) A6 cp61 t17 et17 _ _) fun ch19 m le1 a w S => ?_
        replace le := le.trans le1
        replace hw := CL.again hw S (.c1 (.c2 (.c2 .n))) le
        refine h_back ⟨fun _ => hw, ?_⟩
        refine h_alts ?_
        refine h_runO S rfl trivial ?_ ?_
        ·refine s_move S rfl rfl fun a S => ?_
         replace hw := CL.again hw S (.c1 (.c2 (.c2 .n))) le
         refine h_back ⟨fun _ => hw, ?_⟩
         refine h_run' S rfl trivial ?_
         replace S := S.rowfro .h
         obtain ⟨m, le1, S, hro⟩ := S
         replace le := le.trans le1
         replace S := S.slotro (u := 45) rfl hro
         refine s_bldSl S (ty' := (Ty.slice yb)) (ds := [(0, (.q yb ch17.1 ch17.2 t15)), (1, (.q yb ch18.1 ch18.2.2 t16)), (2, (.q yb ch19.1 ch19.2 t17))]) (z := ([] : List Int)) (c0 := (none, 0)) (ys := [t15, t16, t17]) (cs := [(ch17.1, ch17.2), (ch18.1, ch18.2.2), (ch19.1, ch19.2)]) rfl underlying63 J37 Z37 rfl ⟨⟨Nat.le_refl _, Nat.zero_le _, RdS.nil _ _ _, RdS.mono _ _ _⟩, trivial⟩ rfl rfl rfl rfl rfl rfl fun g137 a w S => ?_
         replace hw := CL.again hw S (.c1 (.c2 (.c2 .n))) le
         refine h_back ⟨fun _ => hw, ?_⟩
         refine h_run' S rfl trivial ?_
         replace S := S.rowfro .h
         obtain ⟨m, le1, S, hro⟩ := S
         replace le := le.trans le1
         replace S := S.slotro (u := 49) rfl hro
         refine s_callR S (fun (ch : (Option Addr) × Nat × Nat) => ((.s ch.1 ch.2.1 ch.2.2) : D)) (fun (ch : (Option Addr) × Nat × Nat) => Res.row yb 5 ch.1 ch.2.1 ch.2.2 t18) N28 rfl rfl (smithyref23_list.ok k [t15, t16, t17] (ad g137) 3 t18 et18 _ _) fun ch20 m le1 a w S => ?_
         replace le := le.trans le1
         replace hw := CL.again hw S (.c1 (.c2 (.c2 .n))) le
         refine h_back ⟨fun _ => hw, ?_⟩
         refine h_run' S rfl trivial ?_
         replace S := S.rowfro .h
         obtain ⟨m, le1, S, hro⟩ := S
         replace le := le.trans le1
         replace S := S.slotro (u := 50) rfl hro
         refine s_bldSl S (ty' := (Ty.slice yb)) (ds := [(0, (.q yb ch20.1 ch20.2.2 t18))]) (z := ([] : List Int)) (c0 := (none, 0)) (ys := [t18]) (cs := [(ch20.1, ch20.2.2)]) rfl underlying63 J37 Z37 rfl ⟨⟨Nat.le_refl _, Nat.zero_le _, RdS.nil _ _ _, RdS.mono _ _ _⟩, trivial⟩ rfl rfl rfl rfl rfl rfl fun g138 a w S => ?_
         replace hw := CL.again hw S (.c1 (.c2 (.c2 .n))) le
         refine h_back ⟨fun _ => hw, ?_⟩
         refine h_run' S rfl trivial (s_app S (k2 := 1) (ys := [t18]) rfl (fun _ _ => .h2) rfl rfl (S.holds _ (Pull.mem .h).1).1 (Res.row.src (S.holds _ (Pull.mem .h).1)) underlying63 J37 c3 rfl fun A7 cp62 a w S => ?_)
         replace hw := CL.again hw S (.c1 (.c2 (.c2 .n))) le
         refine h_back ⟨fun _ => hw, ?_⟩
         replace CL := CL.add (t := 52) (d := (.s A7 (nn3 + 1) cp62)) S rfl rfl
         refine h_assign S CL hw le (subR rfl) rfl rfl rfl trivial fun a S CL => ?_
         refine h_done ?_; clear CL hw le
         refine x_blockN (x_thenN ?_)
         exact j3 _ A7 cp62 (y34 ++ [t18]) g135 g136 a w (S.sb rfl (.c2 (.c2 (.c2 .n)))) h5
        refine h_runO S rfl trivial ?_ ?_
        ·replace S := S.rowfro .h
         obtain ⟨m, le1, S, hro⟩ := S
         replace le := le.trans le1
         replace S := S.slotro (u := 45) rfl hro
         refine s_bldSl S (ty' := (Ty.slice yb)) (ds := [(0, (.q yb ch17.1 ch17.2 t15)), (1, (.q yb ch18.1 ch18.2.2 t16)), (2, (.q yb ch19.1 ch19.2 t17))]) (z := ([] : List Int)) (c0 := (none, 0)) (ys := [t15, t16, t17]) (cs := [(ch17.1, ch17.2), (ch18.1, ch18.2.2), (ch19.1, ch19.2)]) rfl underlying63 J37 Z37 rfl ⟨⟨Nat.le_refl _, Nat.zero_le _, RdS.nil _ _ _, RdS.mono _ _ _⟩, trivial⟩ rfl rfl rfl rfl rfl rfl fun g137 a w S => ?_
         replace hw := CL.again hw S (.c1 (.c2 (.c2 .n))) le
         refine h_back ⟨fun _ => hw, ?_⟩
         refine h_alts ?_
         refine h_runO S rfl trivial ?_ ?_
         ·refine s_move S rfl rfl fun a S => ?_
          replace hw := CL.again hw S (.c1 (.c2 (.c2 .n))) le
          refine h_back ⟨fun _ => hw, ?_⟩
          refine h_run' S rfl trivial ?_
          replace S := S.rowfro .h
          obtain ⟨m, le1, S, hro⟩ := S
          replace le := le.trans le1
          replace S := S.slotro (u := 49) rfl hro
          refine s_callR S (fun (ch : (Option Addr) × Nat × Nat) => ((.s ch.1 ch.2.1 ch.2.2) : D)) (fun (ch : (Option Addr) × Nat × Nat) => Res.row yb 5 ch.1 ch.2.1 ch.2.2 t18) N28 rfl rfl (smithyref23_list.ok k [t15, t16, t17] (ad g137) 3 t18 et18 _ _) fun ch20 m le1 a w S => ?_
          replace le := le.trans le1
          replace hw := CL.again hw S (.c1 (.c2 (.c2 .n))) le
          refine h_back ⟨fun _ => hw, ?_⟩
          refine h_run' S rfl trivial ?_
          replace S := S.rowfro .h
          obtain ⟨m, le1, S, hro⟩ := S
          replace le := le.trans le1
          replace S := S.slotro (u := 50) rfl hro
          refine s_bldSl S (ty' := (Ty.slice yb)) (ds := [(0, (.q yb ch20.1 ch20.2.2 t18))]) (z := ([] : List Int)) (c0 := (none, 0)) (ys := [t18]) (cs := [(ch20.1, ch20.2.2)]) rfl underlying63 J37 Z37 rfl ⟨⟨Nat.le_refl _, Nat.zero_le _, RdS.nil _ _ _, RdS.mono _ _ _⟩, trivial⟩ rfl rfl rfl rfl rfl rfl fun g138 a w S => ?_
          replace hw := CL.again hw S (.c1 (.c2 (.c2 .n))) le
          refine h_back ⟨fun _ => hw, ?_⟩
          refine h_run' S rfl trivial (s_app S (k2 := 1) (ys := [t18]) rfl (fun _ _ => .h2) rfl rfl (S.holds _ (Pull.mem .h).1).1 (Res.row.src (S.holds _ (Pull.mem .h).1)) underlying63 J37 c3 rfl fun A7 cp62 a w S => ?_)
          replace hw := CL.again hw S (.c1 (.c2 (.c2 .n))) le
          refine h_back ⟨fun _ => hw, ?_⟩
          replace CL := CL.add (t := 52) (d := (.s A7 (nn3 + 1) cp62)) S rfl rfl
          refine h_assign S CL hw le (subR rfl) rfl rfl rfl trivial fun a S CL => ?_
          refine h_done ?_; clear CL hw le
          refine x_blockN (x_thenN ?_)
          exact j3 _ A7 cp62 (y34 ++ [t18]) g135 g136 a w (S.sb rfl (.c2 (.c2 (.c2 .n)))) h5
         refine h_runO S rfl trivial ?_ ?_
         ·replace S := S.rowfro .h
          obtain ⟨m, le1, S, hro⟩ := S
          replace le := le.trans le1
          replace S := S.slotro (u := 49) rfl hro
          refine s_callR S (fun (ch : (Option Addr) × Nat × Nat) => ((.s ch.1 ch.2.1 ch.2.2) : D)) (fun (ch : (Option Addr) × Nat × Nat) => Res.row yb 5 ch.1 ch.2.1 ch.2.2 t18) N28 rfl rfl (smithyref23_list.ok k [t15, t16, t17] (ad g137) 3 t18 et18 _ _) fun ch20 m le1 a w S => ?_
          replace le := le.trans le1
          replace hw := CL.again hw S (.c1 (.c2 (.c2 .n))) le
          refine h_back ⟨fun _ => hw, ?_⟩
          refine h_alts ?_
          refine h_runO S rfl trivial ?_ ?_
          ·refine s_move S rfl rfl fun a S => ?_
           replace hw := CL.again hw S (.c1 (.c2 (.c2 .n))) le
           refine h_back ⟨fun _ => hw, ?_⟩
           refine h_run' S rfl trivial ?_
           replace S := S.rowfro .h
           obtain ⟨m, le1, S, hro⟩ := S
           replace le := le.trans le1
           replace S := S.slotro (u := 50) rfl hro
           refine s_bldSl S (ty' := (Ty.slice yb)) (ds := [(0, (.q yb ch20.1 ch20.2.2 t18))]) (z := ([] : List Int)) (c0 := (none, 0)) (ys := [t18]) (cs := [(ch20.1, ch20.2.2)]) rfl underlying63 J37 Z37 rfl ⟨⟨Nat.le_refl _, Nat.zero_le _, RdS.nil _ _ _, RdS.mono _ _ _⟩, trivial⟩ rfl rfl rfl rfl rfl rfl fun g138 a w S => ?_
           replace hw := CL.again hw S (.c1 (.c2 (.c2 .n))) le
           refine h_back ⟨fun _ => hw, ?_⟩
           refine h_run' S rfl trivial (s_app S (k2 := 1) (ys := [t18]) rfl (fun _ _ => .h2) rfl rfl (S.holds _ (Pull.mem .h).1).1 (Res.row.src (S.holds _ (Pull.mem .h).1)) underlying63 J37 c3 rfl fun A7 cp62 a w S => ?_)
           replace hw := CL.again hw S (.c1 (.c2 (.c2 .n))) le
           refine h_back ⟨fun _ => hw, ?_⟩
           replace CL := CL.add (t := 52) (d := (.s A7 (nn3 + 1) cp62)) S rfl rfl
           refine h_assign S CL hw le (subR rfl) rfl rfl rfl trivial fun a S CL => ?_
           refine h_done ?_; clear CL hw le
           refine x_blockN (x_thenN ?_)
           exact j3 _ A7 cp62 (y34 ++ [t18]) g135 g136 a w (S.sb rfl (.c2 (.c2 (.c2 .n)))) h5
          refine h_runO S rfl trivial ?_ ?_
          ·replace S := S.rowfro .h
           obtain ⟨m, le1, S, hro⟩ := S
           replace le := le.trans le1
           replace S := S.slotro (u := 50) rfl hro
           refine s_bldSl S (ty' := (Ty.slice yb)) (ds := [(0, (.q yb ch20.1 ch20.2.2 t18))]) (z := ([] : List Int)) (c0 := (none, 0)) (ys := [t18]) (cs := [(ch20.1, ch20.2.2)]) rfl underlying63 J37 Z37 rfl ⟨⟨Nat.le_refl _, Nat.zero_le _, RdS.nil _ _ _, RdS.mono _ _ _⟩, trivial⟩ rfl rfl rfl rfl rfl rfl fun g138 a w S => ?_
           replace hw := CL.again hw S (.c1 (.c2 (.c2 .n))) le
           refine h_back ⟨fun _ => hw, ?_⟩
           refine h_run' S rfl trivial (s_move S rfl rfl fun a S => ?_)
           replace hw := CL.again hw S (.c1 (.c2 (.c2 .n))) le
           refine h_back ⟨fun _ => hw, ?_⟩
           refine h_run' S rfl trivial (s_app S (k2 := 1) (ys := [t18]) rfl (fun _ _ => .h2) rfl rfl (S.holds _ (Pull.mem .h).1).1 (Res.row.src (S.holds _ (Pull.mem .h).1)) underlying63 J37 c3 rfl fun A7 cp62 a w S => ?_)
           replace hw := CL.again hw S (.c1 (.c2 (.c2 .n))) le
           refine h_back ⟨fun _ => hw, ?_⟩
           replace CL := CL.add (t := 52) (d := (.s A7 (nn3 + 1) cp62)) S rfl rfl
           refine h_assign S CL hw le (subR rfl) rfl rfl rfl trivial fun a S CL => ?_
           refine h_done ?_; clear CL hw le
           refine x_blockN (x_thenN ?_)
           exact j3 _ A7 cp62 (y34 ++ [t18]) g135 g136 a w (S.sb rfl (.c2 (.c2 (.c2 .n)))) h5
          exact h_nil
         exact h_nil
        exact h_nil
       exact h_nil
      exact h_nil
     exact h_nil
    refine c_region (s_fieldAddr S rfl I68_1 T66 (by decide) rfl rfl fun a S => s_loadSl S rfl .h1 T66 (A := ch16.2.1.1) (len := ((gt x1.2.2.2.2.2.2.1 y33).2.1).length) (cap := ch16.2.1.2) rfl rfl fun a S => s_lenS S rfl underlying66 rfl fun a S => s_move S rfl rfl fun a S => c_end (wp_block ?_))
    refine c_loop (fun q2 a w => ∃ m y48 A8 nn8 cp70 y49 g147 g148 g149 A9 cp71 A10 cp72, St 79 m b0 [(27, (.i y48)), (26, (.i (((gt x1.2.2.2.2.2.2.1 y33).2.1).length : Int))), (7, (.s A8 nn8 cp70)), (6, (.p g147)), (15, (.i y33)), (14, (.i ((x1.2.2.2.2.2.2.1).length : Int))), (4, (.s A2 nn3 cp33)), (3, (.w y1)), (2, (.p g148)), (1, (.p g149))] [Res.row (Ty.slice yb) 37 A8 nn8 cp70 y49, Res.cells g147 68 [.b20 ((gt x1.2.2.2.2.2.2.1 y33).1), .q (Ty.arr .u64 4) A9 cp71 ((gt x1.2.2.2.2.2.2.1 y33).2.1), .q yb A10 cp72 ((gt x1.2.2.2.2.2.2.1 y33).2.2)], Res.row (Ty.slice yb) 37 A2 nn3 cp33 y34, Res.cells g148 23 [.b32 z32], Res.cells g149 39 [.b20 x1.1, .w x1.2.1, .b x1.2.2.1, .w x1.2.2.2.1, .w4 x1.2.2.2.2.1, .b20 x1.2.2.2.2.2.1, .q Y68 ch_0_0 ch_0_1 x1.2.2.2.2.2.2.1, .q yb ch_0_2 ch_0_3 x1.2.2.2.2.2.2.2]] a w ∧ smithyref23_Receipt.l2 k x1 y33 y34 (smithyref23_Receipt.l1 k x1 y1 q1) q2 y48 y49 = some r) ?_ ?_ (k := k) ⟨_, 0, (ad g122), 0, 0, ([] : List (List Int)), g121, g99, g100, ch16.2.1.1, ch16.2.1.2, ch16.2.2.1, ch16.2.2.2, (S.sb rfl (.c0 (.c0 (.c0 (.c0 (.c0 .n)))))), h2⟩
    ·rintro a w ⟨m, y48, A8, nn8, cp70, y49, g147, g148, g149, A9, cp71, A10, cp72, S, h0⟩
     exact (nomatch (show (none : Option ((List Int))) = some r from h0))
    ·clear S h2
     rintro q2 a w ⟨m, y48, A8, nn8, cp70, y49, g147, g148, g149, A9, cp71, A10, cp72, S, h0⟩
     replace h0 : smithyref23_Receipt.b2 k x1 y33 y34 (smithyref23_Receipt.l1 k x1 y1 q1) (smithyref23_Receipt.l2 k x1 y33 y34 (smithyref23_Receipt.l1 k x1 y1 q1) q2) y48 y49 = some r := h0
     delta smithyref23_Receipt.b2 at h0
     refine c_region (s_bin S rfl rfl rfl rfl fun a S => c_end (wp_seq ?_))
     rcases ite_of h0 with ⟨c4, h1⟩ | ⟨c4, h1⟩
     ·refine c_condT S rfl c4 (wp_skip (x_thenN (wp_seq (wp_block (c_region (s_move S rfl rfl fun a S => s_assign S rfl rfl fun a S => c_end (c_region' (s_move S rfl rfl fun a S => s_fieldAddr S rfl I68_1 T66 (by decide) rfl rfl fun a S => s_loadSl S rfl .h1 T66 (A := A9) (len := ((gt x1.2.2.2.2.2.2.1 y33).2.1).length) (cap := cp71) rfl rfl fun a S => s_move S rfl rfl fun a S => ?_))))))))
      obtain ⟨c5, h2⟩ := chk_of h1; clear h1
      refine s_iaddrS S rfl rfl rfl underlying66 T26 c5.1 c5.2 rfl fun p4 a S => s_ldA S (fun (c : Unit) => [.w4 (gt ((gt x1.2.2.2.2.2.2.1 y33).2.1) y48)]) rfl T26 (fun _ => rfl) rfl fun ch25 a S => bindX h2 fun t21 et21 h3 => s_callP S _ N32 rfl rfl (smithyref23_full.ok k (gt ((gt x1.2.2.2.2.2.2.1 y33).2.1) y48) t21 et21 _ _) fun ch26 m le1 a w S => s_bldSl S (ty' := (Ty.slice yb)) (ds := [(0, (.q yb ch26.1 ch26.2 t21))]) (z := ([] : List Int)) (c0 := (none, 0)) (ys := [t21]) (cs := [(ch26.1, ch26.2)]) rfl underlying63 J37 Z37 rfl ⟨⟨Nat.le_refl _, Nat.zero_le _, RdS.nil _ _ _, RdS.mono _ _ _⟩, trivial⟩ rfl rfl rfl rfl rfl rfl fun g150 a w S => ?_
      obtain ⟨c6, h4⟩ := chk_of h3; clear h3
      refine s_app S (k2 := 1) (ys := [t21]) rfl (fun _ _ => .h1) rfl rfl (S.holds _ (Pull.mem .h).1).1 (Res.row.src (S.holds _ (Pull.mem .h).1)) underlying63 J37 c6 rfl fun A11 cp73 a w S => s_assign S rfl rfl fun a S => c_end' (x_blockN (x_thenN (c_region' (s_bin S rfl rfl rfl rfl fun a S => s_move S rfl rfl fun a S => c_end' (x_thenN ?_)))))
      exact ⟨_, (wr .i64 (y48 + 1)), A11, (nn8 + 1), cp73, (y49 ++ [t21]), g147, g148, g149, A9, cp71, A10, cp72, (S.sb rfl (.c1 (.c1 (.c1 (.c1 (.c1 .n)))))), h4⟩
     ·refine c_condF S rfl c4 (wp_exit (x_thenX (x_thenX (x_blockX (x_thenN ?_)))))
      exact j4 _ A8 nn8 cp70 y49 g147 g148 g149 A9 cp71 A10 cp72 a w (S.sb rfl (.c0 (.c0 (.c0 (.c0 (.c0 .n)))))) h1
   ·refine c_condF S rfl c1 (wp_exit (x_thenX (x_thenX (x_blockX (x_thenN ?_)))))
    exact j2 _ A2 nn3 cp33 y34 g99 g100 a w (S.sb rfl (.c0 (.c0 (.c0 .n)))) h1
 refine c_region (s_fieldAddr S rfl I39_2 T4 (by decide) rfl rfl fun a S => s_load1 S rfl .h1 T4 (v := (.bool x1.2.2.1)) rfl rfl fun a S => c_end ?_)
 rcases ite_of h0 with ⟨c7, h1⟩ | ⟨c7, h1⟩
 ·refine c_condT S rfl c7 (c_region' (s_assign S rfl rfl fun a S => c_end' (x_thenN ?_)))
  exact j1 _ 1 g2 g1 a w (S.sb rfl (.c0 (.c0 .n))) h1
 ·refine c_condF S rfl c7 (wp_skip (x_thenN ?_))
  exact j1 _ 0 g2 g1 a w (S.sb rfl (.c0 (.c0 .n))) h1
abbrev smithyref23_Seal.Ty : Type := L30 → (List L39) → (List (List Int)) → Option L30
def smithyref23_Seal.Ctr (s : smithyref23_Seal.Ty) : Prop := ∀ (x1 : L30) (x2 : List L39) (x3 : List (List Int)) (ch_1_0 : Option Addr) (ch_1_1 : Nat) (ch_2_0 : Option Addr) (ch_2_1 : Nat) (r : L30), Ct (C := Unit) Tryd.prog 20 (s x1 x2 x3 = some r) [] [(.agg [.b32 x1.1, .w x1.2.1, .w x1.2.2.1, .w x1.2.2.2.1, .w x1.2.2.2.2.1, .w4 x1.2.2.2.2.2.1, .b20 x1.2.2.2.2.2.2.1, .w4 x1.2.2.2.2.2.2.2.1, .b32 x1.2.2.2.2.2.2.2.2.1, .b32 x1.2.2.2.2.2.2.2.2.2]), (.q Y39 ch_1_0 ch_1_1 x2), (.q (Ty.arr .u8 32) ch_2_0 ch_2_1 x3)] (fun _ => (.agg [.b32 r.1, .w r.2.1, .w r.2.2.1, .w r.2.2.2.1, .w r.2.2.2.2.1, .w4 r.2.2.2.2.2.1, .b20 r.2.2.2.2.2.2.1, .w4 r.2.2.2.2.2.2.2.1, .b32 r.2.2.2.2.2.2.2.2.1, .b32 r.2.2.2.2.2.2.2.2.2])) fun _ => []
def smithyref23_Seal.j1 (k : Nat) (x1 : L30) (x3 : List (List Int)) (y1 : List (List Int)) (y2 : Int) : Option L30 := (smithyref23_Root.f k x3).bind fun t1 => ((smithyref23_Root.f k y1).bind fun t2 => (some (x1.1, x1.2.1, x1.2.2.1, x1.2.2.2.1, y2, x1.2.2.2.2.2.1, x1.2.2.2.2.2.2.1, x1.2.2.2.2.2.2.2.1, t1, t2)))
def smithyref23_Seal.b1 (k : Nat) (x1 : L30) (x2 : List L39) (x3 : List (List Int)) (rec1 : Int → (List (List Int)) → Int → Option L30) (y6 : Int) (y7 : List (List Int)) (y8 : Int) : Option L30 := if (decide (y6 < ((x2).length : Int))) = true then (if (0 : Int) ≤ y6 ∧ y6 < ((x2).length : Int) then ((smithyref23_Receipt.f k ((gt x2 y6).1, (gt x2 y6).2.1, (gt x2 y6).2.2.1, (gt x2 y6).2.2.2.1, (gt x2 y6).2.2.2.2.1, (gt x2 y6).2.2.2.2.2.1, (gt x2 y6).2.2.2.2.2.2.1, (gt x2 y6).2.2.2.2.2.2.2)).bind fun t5 => (if ((y7).length + ([t5]).length) * 32 ≤ 140737488355328 then (rec1 (wr .i64 (y6 + 1)) (y7 ++ [t5]) (wr .u64 (y8 + ((gt x2 y6).2.2.2.1)))) else none)) else none) else (smithyref23_Seal.j1 k x1 x3 y7 y8)
def smithyref23_Seal.l1 (k : Nat) (x1 : L30) (x2 : List L39) (x3 : List (List Int)) : Nat → Int → (List (List Int)) → Int → Option L30
  | 0, _, _, _ => none
  | q + 1, y6, y7, y8 => smithyref23_Seal.b1 k x1 x2 x3 (smithyref23_Seal.l1 k x1 x2 x3 q) y6 y7 y8
def smithyref23_Seal.f (k : Nat) (x1 : L30) (x2 : List L39) (x3 : List (List Int)) : Option L30 := smithyref23_Seal.l1 k x1 x2 x3 k 0 ([] : List (List Int)) 0
theorem smithyref23_Seal.ok (k : Nat) : smithyref23_Seal.Ctr (smithyref23_Seal.f k) := by
 intro x1 x2 x3 ch_1_0 ch_1_1 ch_2_0 ch_2_1 r h0 mi w0 ok hm
 delta smithyref23_Seal.f at h0
 refine c_enterZ (n := 41) ok hm func20 rfl rfl rfl fun b0 hb a S => c_region (s_box S rfl rfl rfl fun g1 a w S => s_alloc S Z30 rfl ⟨rfl, rfl, rfl, rfl, rfl, rfl, rfl, rfl, rfl, rfl, trivial⟩ rfl fun g2 a w S => c_end (c_region (s_assign S rfl rfl fun a S => c_end (c_region (s_bldSl S (ty' := (Ty.arr .u8 32)) (ds := []) (z := z32) (c0 := ()) (ys := ([] : List (List Int))) (cs := []) rfl underlying31 J23 Z23 rfl ⟨rfl, trivial⟩ rfl rfl rfl rfl rfl rfl fun g3 a w S => s_assign S rfl rfl fun a S => c_end (wp_seq_k fun K1 hK1 => ?_))))))
 have j1 : ∀ m A1 nn1 cp1 y1 y2 g12 g13 a w, St 41 m b0 [(8, (.s A1 nn1 cp1)), (7, (.w y2)), (6, (.p g12)), (3, (.p g13)), (2, (.q (Ty.arr .u8 32) ch_2_0 ch_2_1 x3))] [Res.row (Ty.arr .u8 32) 23 A1 nn1 cp1 y1, Res.cells g12 30 [.b32 z32, .w 0, .w 0, .w 0, .w 0, .w4 [0, 0, 0, 0], .b20 z20, .w4 [0, 0, 0, 0], .b32 z32, .b32 z32], Res.cells g13 30 [.b32 x1.1, .w x1.2.1, .w x1.2.2.1, .w x1.2.2.2.1, .w x1.2.2.2.2.1, .w4 x1.2.2.2.2.2.1, .b20 x1.2.2.2.2.2.2.1, .w4 x1.2.2.2.2.2.2.2.1, .b32 x1.2.2.2.2.2.2.2.2.1, .b32 x1.2.2.2.2.2.2.2.2.2]] a w → smithyref23_Seal.j1 k x1 x3 y1 y2 = some r → K1 a w := by
  intro m A1 nn1 cp1 y1 y2 g12 g13 a w S h0
  delta smithyref23_Seal.j1 at h0
  refine hK1 a w (c_region (s_move S rfl rfl fun a S => s_fieldAddr S rfl I30_4 T24 (by decide) rfl rfl fun a S => s_store S rfl rfl rfl (s' := [.b32 x1.1, .w x1.2.1, .w x1.2.2.1, .w x1.2.2.2.1, .w y2, .w4 x1.2.2.2.2.2.1, .b20 x1.2.2.2.2.2.2.1, .w4 x1.2.2.2.2.2.2.2.1, .b32 x1.2.2.2.2.2.2.2.2.1, .b32 x1.2.2.2.2.2.2.2.2.2]) .h2 T24 rfl rfl fun w S => c_end (c_region (s_move S rfl rfl fun a S => bindX h0 fun t1 et1 h1 => s_callP S _ N10 rfl rfl (smithyref23_Root.ok k x3 ch_2_0 ch_2_1 t1 et1 _ _) fun ch1 m le1 a w S => s_fieldAddr S rfl I30_8 T23 (by decide) rfl rfl fun a S => s_store S rfl rfl rfl (s' := [.b32 x1.1, .w x1.2.1, .w x1.2.2.1, .w x1.2.2.2.1, .w y2, .w4 x1.2.2.2.2.2.1, .b20 x1.2.2.2.2.2.2.1, .w4 x1.2.2.2.2.2.2.2.1, .b32 t1, .b32 x1.2.2.2.2.2.2.2.2.2]) .h2 T23 rfl rfl fun w S => c_end (c_region (s_move S rfl rfl fun a S => ?_))))))
  replace S := S.rowfro .h
  obtain ⟨m, le1, S, hro⟩ := S
  replace S := S.slotro (u := 37) rfl hro
  replace S := S.slotro (u := 8) rfl hro
  refine bindX h1 fun t2 et2 h2 => s_callP S _ N10 rfl rfl (smithyref23_Root.ok k y1 A1 cp1 t2 et2 _ _) fun ch2 m le1 a w S => s_fieldAddr S rfl I30_9 T23 (by decide) rfl rfl fun a S => s_store S rfl rfl rfl (s' := [.b32 x1.1, .w x1.2.1, .w x1.2.2.1, .w x1.2.2.2.1, .w y2, .w4 x1.2.2.2.2.2.1, .b20 x1.2.2.2.2.2.2.1, .w4 x1.2.2.2.2.2.2.2.1, .b32 t1, .b32 t2]) .h1 T23 rfl rfl fun w S => c_end (c_region (s_loada S rfl .h1 T30 (s' := [.b32 x1.1, .w x1.2.1, .w x1.2.2.1, .w x1.2.2.2.1, .w y2, .w4 x1.2.2.2.2.2.1, .b20 x1.2.2.2.2.2.2.1, .w4 x1.2.2.2.2.2.2.2.1, .b32 t1, .b32 t2]) rfl rfl fun a S => s_store S rfl rfl rfl (s' := [.b32 x1.1, .w x1.2.1, .w x1.2.2.1, .w x1.2.2.2.1, .w y2, .w4 x1.2.2.2.2.2.1, .b20 x1.2.2.2.2.2.2.1, .w4 x1.2.2.2.2.2.2.2.1, .b32 t1, .b32 t2]) .h T30 rfl rfl fun w S => c_end (wp_ret ?_)))
  obtain rfl := Option.some.inj h2
  exact b_ret1 (d := (.agg [.b32 x1.1, .w x1.2.1, .w x1.2.2.1, .w x1.2.2.2.1, .w y2, .w4 x1.2.2.2.2.2.1, .b20 x1.2.2.2.2.2.2.1, .w4 x1.2.2.2.2.2.2.2.1, .b32 t1, .b32 t2])) S rfl (resD_cell rfl .h T30 rfl rfl) (S.rt hb)
 refine c_region (s_move S rfl rfl fun a S => s_lenS S rfl underlying42 rfl fun a S => s_move S rfl rfl fun a S => c_end (wp_block ?_))
 refine c_loop (fun q1 a w => ∃ m y6 A2 nn3 cp5 y7 y8 g20 g21, St 41 m b0 [(13, (.i y6)), (12, (.i ((x2).length : Int))), (8, (.s A2 nn3 cp5)), (7, (.w y8)), (6, (.p g20)), (3, (.p g21)), (1, (.q Y39 ch_1_0 ch_1_1 x2)), (2, (.q (Ty.arr .u8 32) ch_2_0 ch_2_1 x3))] [Res.row (Ty.arr .u8 32) 23 A2 nn3 cp5 y7, Res.cells g20 30 [.b32 z32, .w 0, .w 0, .w 0, .w 0, .w4 [0, 0, 0, 0], .b20 z20, .w4 [0, 0, 0, 0], .b32 z32, .b32 z32], Res.cells g21 30 [.b32 x1.1, .w x1.2.1, .w x1.2.2.1, .w x1.2.2.2.1, .w x1.2.2.2.2.1, .w4 x1.2.2.2.2.2.1, .b20 x1.2.2.2.2.2.2.1, .w4 x1.2.2.2.2.2.2.2.1, .b32 x1.2.2.2.2.2.2.2.2.1, .b32 x1.2.2.2.2.2.2.2.2.2]] a w ∧ smithyref23_Seal.l1 k x1 x2 x3 q1 y6 y7 y8 = some r) ?_ ?_ (k := k) ⟨_, 0, (ad g3), 0, 0, ([] : List (List Int)), 0, g2, g1, (S.sb rfl (.c0 (.c0 (.c0 .n)))), h0⟩
 ·rintro a w ⟨m, y6, A2, nn3, cp5, y7, y8, g20, g21, S, h0⟩
  exact (nomatch (show (none : Option L30) = some r from h0))
 ·clear S h0
  rintro q1 a w ⟨m, y6, A2, nn3, cp5, y7, y8, g20, g21, S, h0⟩
  replace h0 : smithyref23_Seal.b1 k x1 x2 x3 (smithyref23_Seal.l1 k x1 x2 x3 q1) y6 y7 y8 = some r := h0
  delta smithyref23_Seal.b1 at h0
  refine c_region (s_bin S rfl rfl rfl rfl fun a S => c_end (wp_seq ?_))
  rcases ite_of h0 with ⟨c1, h1⟩ | ⟨c1, h1⟩
  ·refine c_condT S rfl c1 (wp_skip (x_thenN (wp_seq (wp_block (c_region (s_move S rfl rfl fun a S => s_assign S rfl rfl fun a S => c_end (c_region (s_move S rfl rfl fun a S => s_move S rfl rfl fun a S => s_move S rfl rfl fun a S => ?_))))))))
   obtain ⟨c2, h2⟩ := chk_of h1; clear h1
   refine s_iaddrS S rfl rfl rfl underlying42 T39 c2.1 c2.2 rfl fun p1 a S => s_faddrP S (tF := (Ty.int .u64)) (y := (gt x2 y6).2.2.2.1) rfl I39_3 T24 (by decide) (fun m h => (at_fst (at_snd (at_snd (at_snd (at_0 h)))))) rfl fun a S => s_ld1 S (v := (.int .u64 ((gt x2 y6).2.2.2.1))) rfl T24 (fun _ => rfl) rfl fun a S => s_bin S rfl rfl rfl rfl fun a S => s_assign S rfl rfl fun a S => c_end (c_region' (s_move S rfl rfl fun a S => s_move S rfl rfl fun a S => s_move S rfl rfl fun a S => s_iaddrS S rfl rfl rfl underlying42 T39 c2.1 c2.2 rfl fun p2 a S => s_ldA S (fun (c : Unit × Unit × Unit × Unit × Unit × Unit × (Option Addr × Nat) × (Option Addr × Nat)) => [.b20 ((gt x2 y6).1), .w ((gt x2 y6).2.1), .b ((gt x2 y6).2.2.1), .w ((gt x2 y6).2.2.2.1), .w4 ((gt x2 y6).2.2.2.2.1), .b20 ((gt x2 y6).2.2.2.2.2.1), .q Y68 c.2.2.2.2.2.2.1.1 c.2.2.2.2.2.2.1.2 ((gt x2 y6).2.2.2.2.2.2.1), .q yb c.2.2.2.2.2.2.2.1 c.2.2.2.2.2.2.2.2 ((gt x2 y6).2.2.2.2.2.2.2)]) rfl T39 (fun _ => rfl) rfl fun ch5 a S => bindX h2 fun t5 et5 h3 => s_callP S _ N12 rfl rfl (smithyref23_Receipt.ok k ((gt x2 y6).1, (gt x2 y6).2.1, (gt x2 y6).2.2.1, (gt x2 y6).2.2.2.1, (gt x2 y6).2.2.2.2.1, (gt x2 y6).2.2.2.2.2.1, (gt x2 y6).2.2.2.2.2.2.1, (gt x2 y6).2.2.2.2.2.2.2) ch5.2.2.2.2.2.2.1.1 ch5.2.2.2.2.2.2.1.2 ch5.2.2.2.2.2.2.2.1 ch5.2.2.2.2.2.2.2.2 t5 et5 _ _) fun ch6 m le1 a w S => s_bldSl S (ty' := (Ty.arr .u8 32)) (ds := [(0, (.a32 t5))]) (z := z32) (c0 := ()) (ys := [t5]) (cs := [()]) rfl underlying31 J23 Z23 rfl ⟨rfl, trivial⟩ rfl rfl rfl rfl rfl rfl fun g22 a w S => ?_))
   obtain ⟨c3, h4⟩ := chk_of h3; clear h3
   refine s_app S (k2 := 1) (ys := [t5]) rfl (fun _ _ => .h1) rfl rfl (S.holds _ (Pull.mem .h).1).1 (Res.row.src (S.holds _ (Pull.mem .h).1)) underlying31 J23 c3 rfl fun A3 cp6 a w S => s_assign S rfl rfl fun a S => c_end' (x_blockN (x_thenN (c_region' (s_bin S rfl rfl rfl rfl fun a S => s_move S rfl rfl fun a S => c_end' (x_thenN ?_)))))
   exact ⟨_, (wr .i64 (y6 + 1)), A3, (nn3 + 1), cp6, (y7 ++ [t5]), (wr .u64 (y8 + ((gt x2 y6).2.2.2.1))), g20, g21, (S.sb rfl (.c1 (.c1 (.c1 .n)))), h4⟩
  ·refine c_condF S rfl c1 (wp_exit (x_thenX (x_thenX (x_blockX (x_thenN ?_)))))
   exact j1 _ A2 nn3 cp5 y7 y8 g20 g21 a w (S.sb rfl (.c0 (.c0 (.c0 .n)))) h1
abbrev smithylaw23_BlockNext.Ty : Type := L30 → Int → Int → (List L39) → (List (List Int)) → Option Bool
def smithylaw23_BlockNext.Ctr (s : smithylaw23_BlockNext.Ty) : Prop := ∀ (x1 : L30) (x2 : Int) (x3 : Int) (x4 : List L39) (x5 : List (List Int)) (ch_3_0 : Option Addr) (ch_3_1 : Nat) (ch_4_0 : Option Addr) (ch_4_1 : Nat) (r : Bool), CtG (C := Unit) Tryd.prog Glob 5 (s x1 x2 x3 x4 x5 = some r) [] [(.agg [.b32 x1.1, .w x1.2.1, .w x1.2.2.1, .w x1.2.2.2.1, .w x1.2.2.2.2.1, .w4 x1.2.2.2.2.2.1, .b20 x1.2.2.2.2.2.2.1, .w4 x1.2.2.2.2.2.2.2.1, .b32 x1.2.2.2.2.2.2.2.2.1, .b32 x1.2.2.2.2.2.2.2.2.2]), (.w x2), (.w x3), (.q Y39 ch_3_0 ch_3_1 x4), (.q (Ty.arr .u8 32) ch_4_0 ch_4_1 x5)] (fun _ => (.b r)) fun _ => []
def smithylaw23_BlockNext.j4 (k : Nat) (x1 : L30) (x2 : Int) (x3 : Int) (x4 : List L39) (x5 : List (List Int)) (t2 : L30) : Option Bool := (smithylaw23_fixed.f k).bind fun t4 => (if t4 = true then ((smithyref23_Next.f k (x1.1, x1.2.1, x1.2.2.1, x1.2.2.2.1, x1.2.2.2.2.1, x1.2.2.2.2.2.1, x1.2.2.2.2.2.2.1, x1.2.2.2.2.2.2.2.1, x1.2.2.2.2.2.2.2.2.1, x1.2.2.2.2.2.2.2.2.2) x2 x3).bind fun t5 => (if (decide ((t2.1, t2.2.1, t2.2.2.1, t2.2.2.2.1, t2.2.2.2.2.1, t2.2.2.2.2.2.1, t2.2.2.2.2.2.2.1, t2.2.2.2.2.2.2.2.1, t2.2.2.2.2.2.2.2.2.1, t2.2.2.2.2.2.2.2.2.2) = (t5.1, t5.2.1, t5.2.2.1, t5.2.2.2.1, t5.2.2.2.2.1, t5.2.2.2.2.2.1, t5.2.2.2.2.2.2.1, t5.2.2.2.2.2.2.2.1, t5.2.2.2.2.2.2.2.2.1, t5.2.2.2.2.2.2.2.2.2))) = true then ((block_Genesis.f k x2 x3 x1.2.2.2.2.2.1).bind fun t6 => ((smithyref23_Genesis.f k x2 x3 x1.2.2.2.2.2.1).bind fun t7 => (if (decide ((t6.1, t6.2.1, t6.2.2.1, t6.2.2.2.1, t6.2.2.2.2.1, t6.2.2.2.2.2.1, t6.2.2.2.2.2.2.1, t6.2.2.2.2.2.2.2.1, t6.2.2.2.2.2.2.2.2.1, t6.2.2.2.2.2.2.2.2.2) = (t7.1, t7.2.1, t7.2.2.1, t7.2.2.2.1, t7.2.2.2.2.1, t7.2.2.2.2.2.1, t7.2.2.2.2.2.2.1, t7.2.2.2.2.2.2.2.1, t7.2.2.2.2.2.2.2.2.1, t7.2.2.2.2.2.2.2.2.2))) = true then ((block_Seal.f k (t2.1, t2.2.1, t2.2.2.1, t2.2.2.2.1, t2.2.2.2.2.1, t2.2.2.2.2.2.1, t2.2.2.2.2.2.2.1, t2.2.2.2.2.2.2.2.1, t2.2.2.2.2.2.2.2.2.1, t2.2.2.2.2.2.2.2.2.2) x4 x5).bind fun t8 => ((smithyref23_Seal.f k (t2.1, t2.2.1, t2.2.2.1, t2.2.2.2.1, t2.2.2.2.2.1, t2.2.2.2.2.2.1, t2.2.2.2.2.2.2.1, t2.2.2.2.2.2.2.2.1, t2.2.2.2.2.2.2.2.2.1, t2.2.2.2.2.2.2.2.2.2) x4 x5).bind fun t9 => (some (decide ((t8.1, t8.2.1, t8.2.2.1, t8.2.2.2.1, t8.2.2.2.2.1, t8.2.2.2.2.2.1, t8.2.2.2.2.2.2.1, t8.2.2.2.2.2.2.2.1, t8.2.2.2.2.2.2.2.2.1, t8.2.2.2.2.2.2.2.2.2) = (t9.1, t9.2.1, t9.2.2.1, t9.2.2.2.1, t9.2.2.2.2.1, t9.2.2.2.2.2.1, t9.2.2.2.2.2.2.1, t9.2.2.2.2.2.2.2.1, t9.2.2.2.2.2.2.2.2.1, t9.2.2.2.2.2.2.2.2.2)))))) else (some false)))) else (some false))) else (some false))
def smithylaw23_BlockNext.b1 (k : Nat) (x1 : L30) (x2 : Int) (x3 : Int) (x4 : List L39) (x5 : List (List Int)) (t2 : L30) (t3 : (Int × Int × Int × (List Int) × (List Int) × (List Int) × Int × (List (List Int)))) (rec1 : Int → Option Bool) (y8 : Int) : Option Bool := if (decide (y8 < ((x5).length : Int))) = true then (if (0 : Int) ≤ y8 ∧ y8 < ((t3.2.2.2.2.2.2.2).length : Int) then (if (0 : Int) ≤ y8 ∧ y8 < ((x5).length : Int) then (if (!(decide (gt t3.2.2.2.2.2.2.2 y8 = gt x5 y8))) = true then (some false) else (rec1 (wr .i64 (y8 + 1)))) else none) else none) else (smithylaw23_BlockNext.j4 k x1 x2 x3 x4 x5 t2)
def smithylaw23_BlockNext.l1 (k : Nat) (x1 : L30) (x2 : Int) (x3 : Int) (x4 : List L39) (x5 : List (List Int)) (t2 : L30) (t3 : (Int × Int × Int × (List Int) × (List Int) × (List Int) × Int × (List (List Int)))) : Nat → Int → Option Bool
  | 0, _ => none
  | q + 1, y8 => smithylaw23_BlockNext.b1 k x1 x2 x3 x4 x5 t2 t3 (smithylaw23_BlockNext.l1 k x1 x2 x3 x4 x5 t2 t3 q) y8
def smithylaw23_BlockNext.j3 (k : Nat) (x1 : L30) (x2 : Int) (x3 : Int) (x4 : List L39) (x5 : List (List Int)) (t2 : L30) (t3 : (Int × Int × Int × (List Int) × (List Int) × (List Int) × Int × (List (List Int)))) (y4 : Bool) : Option Bool := if y4 = true then (some false) else (smithylaw23_BlockNext.l1 k x1 x2 x3 x4 x5 t2 t3 k 0)
def smithylaw23_BlockNext.j2 (k : Nat) (x1 : L30) (x2 : Int) (x3 : Int) (x4 : List L39) (x5 : List (List Int)) : Option Bool := (block_Next.f k (x1.1, x1.2.1, x1.2.2.1, x1.2.2.2.1, x1.2.2.2.2.1, x1.2.2.2.2.2.1, x1.2.2.2.2.2.2.1, x1.2.2.2.2.2.2.2.1, x1.2.2.2.2.2.2.2.2.1, x1.2.2.2.2.2.2.2.2.2) x2 x3).bind fun t2 => ((block_Env.f (t2.1, t2.2.1, t2.2.2.1, t2.2.2.2.1, t2.2.2.2.2.1, t2.2.2.2.2.2.1, t2.2.2.2.2.2.2.1, t2.2.2.2.2.2.2.2.1, t2.2.2.2.2.2.2.2.2.1, t2.2.2.2.2.2.2.2.2.2) 7 x5).bind fun t3 => (if (t3.1 != t2.2.1) = true then (smithylaw23_BlockNext.j3 k x1 x2 x3 x4 x5 t2 t3 true) else (if (t3.2.1 != x2) = true then (smithylaw23_BlockNext.j3 k x1 x2 x3 x4 x5 t2 t3 true) else (if (t3.2.2.1 != x3) = true then (smithylaw23_BlockNext.j3 k x1 x2 x3 x4 x5 t2 t3 true) else (if (!(decide (t3.2.2.2.1 = t2.2.2.2.2.2.2.1))) = true then (smithylaw23_BlockNext.j3 k x1 x2 x3 x4 x5 t2 t3 true) else (if (!(decide (t3.2.2.2.2.1 = t2.2.2.2.2.2.1))) = true then (smithylaw23_BlockNext.j3 k x1 x2 x3 x4 x5 t2 t3 true) else (if (!(decide (t3.2.2.2.2.2.1 = t2.2.2.2.2.2.2.2.1))) = true then (smithylaw23_BlockNext.j3 k x1 x2 x3 x4 x5 t2 t3 true) else (if (t3.2.2.2.2.2.2.1 != 7) = true then (smithylaw23_BlockNext.j3 k x1 x2 x3 x4 x5 t2 t3 true) else (smithylaw23_BlockNext.j3 k x1 x2 x3 x4 x5 t2 t3 (((t3.2.2.2.2.2.2.2).length : Int) != ((x5).length : Int)))))))))))
def smithylaw23_BlockNext.b2 (k : Nat) (x1 : L30) (x2 : Int) (x3 : Int) (x4 : List L39) (x5 : List (List Int)) (rec2 : Int → Option Bool) (y10 : Int) : Option Bool := if (decide (y10 < ((x4).length : Int))) = true then (if (0 : Int) ≤ y10 ∧ y10 < ((x4).length : Int) then ((smithyref23_Great.f k ((gt x4 y10).1, (gt x4 y10).2.1, (gt x4 y10).2.2.1, (gt x4 y10).2.2.2.1, (gt x4 y10).2.2.2.2.1, (gt x4 y10).2.2.2.2.2.1, (gt x4 y10).2.2.2.2.2.2.1, (gt x4 y10).2.2.2.2.2.2.2)).bind fun t12 => (if t12 = true then ((smithylaw23_fixed.f k).bind fun t13 => (some t13)) else (rec2 (wr .i64 (y10 + 1))))) else none) else (smithylaw23_BlockNext.j2 k x1 x2 x3 x4 x5)
def smithylaw23_BlockNext.l2 (k : Nat) (x1 : L30) (x2 : Int) (x3 : Int) (x4 : List L39) (x5 : List (List Int)) : Nat → Int → Option Bool
  | 0, _ => none
  | q + 1, y10 => smithylaw23_BlockNext.b2 k x1 x2 x3 x4 x5 (smithylaw23_BlockNext.l2 k x1 x2 x3 x4 x5 q) y10
def smithylaw23_BlockNext.j1 (k : Nat) (x1 : L30) (x2 : Int) (x3 : Int) (x4 : List L39) (x5 : List (List Int)) (y1 : Bool) : Option Bool := if y1 = true then ((smithylaw23_fixed.f k).bind fun t1 => (some t1)) else (smithylaw23_BlockNext.l2 k x1 x2 x3 x4 x5 k 0)
def smithylaw23_BlockNext.f (k : Nat) (x1 : L30) (x2 : Int) (x3 : Int) (x4 : List L39) (x5 : List (List Int)) : Option Bool := if (decide (20 < ((x4).length : Int))) = true then (smithylaw23_BlockNext.j1 k x1 x2 x3 x4 x5 true) else (smithylaw23_BlockNext.j1 k x1 x2 x3 x4 x5 (decide (100 < ((x5).length : Int))))
theorem smithylaw23_BlockNext.ok (k : Nat) : smithylaw23_BlockNext.Ctr (smithylaw23_BlockNext.f k) := by
 intro x1 x2 x3 x4 x5 ch_3_0 ch_3_1 ch_4_0 ch_4_1 r h0 mi w0 G ok hm
 delta smithylaw23_BlockNext.f at h0
 refine c_enterZ (n := 142) ok hm func5 rfl rfl rfl fun b0 hb a S => c_region (s_box S rfl rfl rfl fun g1 a w S => s_assign S rfl rfl fun a S => c_end (wp_seq (wp_seq_k fun K1 hK1 => ?_)))
 have j1 : ∀ m y1 g2 a w, St 142 m b0 [(23, (.b y1)), (5, (.p g2)), (1, (.w x2)), (2, (.w x3)), (3, (.q Y39 ch_3_0 ch_3_1 x4)), (4, (.q (Ty.arr .u8 32) ch_4_0 ch_4_1 x5))] [Res.cells g2 30 [.b32 x1.1, .w x1.2.1, .w x1.2.2.1, .w x1.2.2.2.1, .w x1.2.2.2.2.1, .w4 x1.2.2.2.2.2.1, .b20 x1.2.2.2.2.2.2.1, .w4 x1.2.2.2.2.2.2.2.1, .b32 x1.2.2.2.2.2.2.2.2.1, .b32 x1.2.2.2.2.2.2.2.2.2]] a w → smithylaw23_BlockNext.j1 k x1 x2 x3 x4 x5 y1 = some r → K1 a w := by
  intro m y1 g2 a w S h0
  delta smithylaw23_BlockNext.j1 at h0
  refine hK1 a w ?_
  rcases ite_of h0 with ⟨c1, h1⟩ | ⟨c1, h1⟩
  ·refine c_condT S rfl c1 (c_region (bindX h1 fun t1 et1 h2 => s_callP S _ N6 rfl rfl (smithylaw23_fixed.ok k t1 et1 _ _ (G.mono (S.leB hb))) fun ch1 m le1 a w S => s_assign S rfl rfl fun a S => c_end (wp_ret (x_thenR ?_))))
   obtain rfl := Option.some.inj h2
   exact b_ret1 (d := (.b t1)) S rfl rfl (S.rt hb)
  ·refine c_condF S rfl c1 (wp_skip (x_thenN (wp_seq_k fun K2 hK2 => ?_)))
   have j2 : ∀ m g8 a w, St 142 m b0 [(5, (.p g8)), (1, (.w x2)), (2, (.w x3)), (3, (.q Y39 ch_3_0 ch_3_1 x4)), (4, (.q (Ty.arr .u8 32) ch_4_0 ch_4_1 x5))] [Res.cells g8 30 [.b32 x1.1, .w x1.2.1, .w x1.2.2.1, .w x1.2.2.2.1, .w x1.2.2.2.2.1, .w4 x1.2.2.2.2.2.1, .b20 x1.2.2.2.2.2.2.1, .w4 x1.2.2.2.2.2.2.2.1, .b32 x1.2.2.2.2.2.2.2.2.1, .b32 x1.2.2.2.2.2.2.2.2.2]] a w → smithylaw23_BlockNext.j2 k x1 x2 x3 x4 x5 = some r → K2 a w := by
    intro m g8 a w S h0
    delta smithylaw23_BlockNext.j2 at h0
    refine hK2 a w (c_region (s_loada S rfl .h T30 (s' := [.b32 x1.1, .w x1.2.1, .w x1.2.2.1, .w x1.2.2.2.1, .w x1.2.2.2.2.1, .w4 x1.2.2.2.2.2.1, .b20 x1.2.2.2.2.2.2.1, .w4 x1.2.2.2.2.2.2.2.1, .b32 x1.2.2.2.2.2.2.2.2.1, .b32 x1.2.2.2.2.2.2.2.2.2]) rfl rfl fun a S => s_move S rfl rfl fun a S => s_move S rfl rfl fun a S => bindX h0 fun t2 et2 h1 => s_callP S _ N14 rfl rfl (block_Next.ok k (x1.1, x1.2.1, x1.2.2.1, x1.2.2.2.1, x1.2.2.2.2.1, x1.2.2.2.2.2.1, x1.2.2.2.2.2.2.1, x1.2.2.2.2.2.2.2.1, x1.2.2.2.2.2.2.2.2.1, x1.2.2.2.2.2.2.2.2.2) x2 x3 t2 et2 _ _ (G.mono (S.leB hb))) fun ch2 m le1 a w S => s_alloc S Z30 rfl ⟨rfl, rfl, rfl, rfl, rfl, rfl, rfl, rfl, rfl, rfl, trivial⟩ rfl fun g9 a w S => s_store S rfl rfl rfl (s' := [.b32 t2.1, .w t2.2.1, .w t2.2.2.1, .w t2.2.2.2.1, .w t2.2.2.2.2.1, .w4 t2.2.2.2.2.2.1, .b20 t2.2.2.2.2.2.2.1, .w4 t2.2.2.2.2.2.2.2.1, .b32 t2.2.2.2.2.2.2.2.2.1, .b32 t2.2.2.2.2.2.2.2.2.2]) .h T30 rfl rfl fun w S => c_end (c_region (s_loada S rfl .h T30 (s' := [.b32 t2.1, .w t2.2.1, .w t2.2.2.1, .w t2.2.2.2.1, .w t2.2.2.2.2.1, .w4 t2.2.2.2.2.2.1, .b20 t2.2.2.2.2.2.2.1, .w4 t2.2.2.2.2.2.2.2.1, .b32 t2.2.2.2.2.2.2.2.2.1, .b32 t2.2.2.2.2.2.2.2.2.2]) rfl rfl fun a S => s_move S rfl rfl fun a S => bindX h1 fun t3 et3 h2 => s_callR S (fun (ch : (Option Addr) × Nat × Nat) => ((.agg [.w t3.1, .w t3.2.1, .w t3.2.2.1, .b20 t3.2.2.2.1, .w4 t3.2.2.2.2.1, .w4 t3.2.2.2.2.2.1, .w t3.2.2.2.2.2.2.1, .s ch.1 ch.2.1 ch.2.2]) : D)) (fun (ch : (Option Addr) × Nat × Nat) => Res.row (Ty.arr .u8 32) 23 ch.1 ch.2.1 ch.2.2 t3.2.2.2.2.2.2.2) N15 rfl rfl (block_Env.ok (t2.1, t2.2.1, t2.2.2.1, t2.2.2.2.1, t2.2.2.2.2.1, t2.2.2.2.2.2.1, t2.2.2.2.2.2.2.1, t2.2.2.2.2.2.2.2.1, t2.2.2.2.2.2.2.2.2.1, t2.2.2.2.2.2.2.2.2.2) 7 x5 ch_4_0 ch_4_1 t3 et3 _ _) fun ch3 m le1 a w S => s_alloc S Z45 rfl ⟨rfl, rfl, rfl, rfl, rfl, rfl, rfl, rfl, trivial⟩ rfl fun g10 a w S => s_store S rfl rfl rfl (s' := [.w t3.1, .w t3.2.1, .w t3.2.2.1, .b20 t3.2.2.2.1, .w4 t3.2.2.2.2.1, .w4 t3.2.2.2.2.2.1, .w t3.2.2.2.2.2.2.1, .s ch3.1 ch3.2.1 ch3.2.2]) .h T45 rfl rfl fun w S => c_end (wp_seq (wp_seq_k fun K3 hK3 => ?_))))))
    have j3 : ∀ m y4 g11 g12 g13 A1 nn1 cp1 a w, St 142 m b0 [(92, (.b y4)), (14, (.p g11)), (13, (.p g12)), (5, (.p g13)), (1, (.w x2)), (2, (.w x3)), (3, (.q Y39 ch_3_0 ch_3_1 x4)), (4, (.q (Ty.arr .u8 32) ch_4_0 ch_4_1 x5))] [Res.cells g11 45 [.w t3.1, .w t3.2.1, .w t3.2.2.1, .b20 t3.2.2.2.1, .w4 t3.2.2.2.2.1, .w4 t3.2.2.2.2.2.1, .w t3.2.2.2.2.2.2.1, .s A1 nn1 cp1], Res.row (Ty.arr .u8 32) 23 A1 nn1 cp1 t3.2.2.2.2.2.2.2, Res.cells g12 30 [.b32 t2.1, .w t2.2.1, .w t2.2.2.1, .w t2.2.2.2.1, .w t2.2.2.2.2.1, .w4 t2.2.2.2.2.2.1, .b20 t2.2.2.2.2.2.2.1, .w4 t2.2.2.2.2.2.2.2.1, .b32 t2.2.2.2.2.2.2.2.2.1, .b32 t2.2.2.2.2.2.2.2.2.2], Res.cells g13 30 [.b32 x1.1, .w x1.2.1, .w x1.2.2.1, .w x1.2.2.2.1, .w x1.2.2.2.2.1, .w4 x1.2.2.2.2.2.1, .b20 x1.2.2.2.2.2.2.1, .w4 x1.2.2.2.2.2.2.2.1, .b32 x1.2.2.2.2.2.2.2.2.1, .b32 x1.2.2.2.2.2.2.2.2.2]] a w → smithylaw23_BlockNext.j3 k x1 x2 x3 x4 x5 t2 t3 y4 = some r → K3 a w := by
     intro m y4 g11 g12 g13 A1 nn1 cp1 a w S h0
     delta smithylaw23_BlockNext.j3 at h0
     refine hK3 a w ?_
     rcases ite_of h0 with ⟨c2, h1⟩ | ⟨c2, h1⟩
     ·refine c_condT S rfl c2 (c_region (s_assign S rfl rfl fun a S => c_end (wp_ret (x_thenR ?_))))
      obtain rfl := Option.some.inj h1
      exact b_ret1 (d := (.b false)) S rfl rfl (S.rt hb)
     ·refine c_condF S rfl c2 (wp_skip (x_thenN (wp_seq_k fun K4 hK4 => ?_)))
      have j4 : ∀ m g25 g26 a w, St 142 m b0 [(13, (.p g25)), (5, (.p g26)), (1, (.w x2)), (2, (.w x3)), (3, (.q Y39 ch_3_0 ch_3_1 x4)), (4, (.q (Ty.arr .u8 32) ch_4_0 ch_4_1 x5))] [Res.cells g25 30 [.b32 t2.1, .w t2.2.1, .w t2.2.2.1, .w t2.2.2.2.1, .w t2.2.2.2.2.1, .w4 t2.2.2.2.2.2.1, .b20 t2.2.2.2.2.2.2.1, .w4 t2.2.2.2.2.2.2.2.1, .b32 t2.2.2.2.2.2.2.2.2.1, .b32 t2.2.2.2.2.2.2.2.2.2], Res.cells g26 30 [.b32 x1.1, .w x1.2.1, .w x1.2.2.1, .w x1.2.2.2.1, .w x1.2.2.2.2.1, .w4 x1.2.2.2.2.2.1, .b20 x1.2.2.2.2.2.2.1, .w4 x1.2.2.2.2.2.2.2.1, .b32 x1.2.2.2.2.2.2.2.2.1, .b32 x1.2.2.2.2.2.2.2.2.2]] a w → smithylaw23_BlockNext.j4 k x1 x2 x3 x4 x5 t2 = some r → K4 a w := by
       intro m g25 g26 a w S h0
       delta smithylaw23_BlockNext.j4 at h0
       refine hK4 a w ?_
       refine wp_seq (c_heldS S (.alts (.run 0 true (.take 1 (.take 2 (.take 3 (.take 4 (.take 5 (.alts (.run 6 true (.take 7 (.take 8 (.take 9 (.take 10 (.take 11 (.take 12 (.take 13 (.take 15 (.take 16 (.take 17 (.take 18 (.alts (.run 14 true (.alts (.run 19 true (.take 20 (.take 21 (.take 22 (.take 23 (.take 24 (.take 25 (.take 27 (.take 28 (.take 29 (.alts (.run 26 true (.alts (.run 30 true (.take 31 (.take 32 (.take 33 .done))) .nil)) .nil))))))))))) .nil)) .nil))))))))))))) .nil))))))) .nil)) 34 [Res.cells g25 30 [.b32 t2.1, .w t2.2.1, .w t2.2.2.1, .w t2.2.2.2.1, .w t2.2.2.2.2.1, .w4 t2.2.2.2.2.2.1, .b20 t2.2.2.2.2.2.2.1, .w4 t2.2.2.2.2.2.2.2.1, .b32 t2.2.2.2.2.2.2.2.2.1, .b32 t2.2.2.2.2.2.2.2.2.2], Res.cells g26 30 [.b32 x1.1, .w x1.2.1, .w x1.2.2.1, .w x1.2.2.2.1, .w x1.2.2.2.2.1, .w4 x1.2.2.2.2.2.1, .b20 x1.2.2.2.2.2.2.1, .w4 x1.2.2.2.2.2.2.2.1, .b32 x1.2.2.2.2.2.2.2.2.1, .b32 x1.2.2.2.2.2.2.2.2.2]] (.c0 (.c0 .n)) ⟨Res.stay_cells, Res.stay_cells, trivial⟩ [(13, (.p g25)), (5, (.p g26)), (1, (.w x2)), (2, (.w x3)), (3, (.q Y39 ch_3_0 ch_3_1 x4)), (4, (.q (Ty.arr .u8 32) ch_4_0 ch_4_1 x5))] (subR rfl) (by kernel_rfl) (by kernel_rfl) ?_); clear S; intro w S CL hw le
       refine h_run' S rfl trivial (bindX h0 fun t4 et4 h1 => s_callP S _ N6 rfl rfl (smithylaw23_fixed.ok k t4 et4 _ _ (G.mono (S.leB hb))) fun ch4 m le1 a w S => ?_)
       replace le := le.trans le1
       replace hw := CL.again hw S (.c0 (.c0 .n)) le
       refine h_back ⟨fun _ => hw, ?_⟩
       replace CL := CL.add (t := 109) (d := (.b t4)) S rfl rfl
       refine h_move S CL hw le (subR rfl) rfl rfl rfl trivial fun a S CL => ?_
       rcases ite_of h1 with ⟨c3, h2⟩ | ⟨c3, h2⟩
       ·refine h_loada S CL hw le (subR rfl) rfl .h T30 (s' := [.b32 t2.1, .w t2.2.1, .w t2.2.2.1, .w t2.2.2.2.1, .w t2.2.2.2.2.1, .w4 t2.2.2.2.2.2.1, .b20 t2.2.2.2.2.2.2.1, .w4 t2.2.2.2.2.2.2.2.1, .b32 t2.2.2.2.2.2.2.2.2.1, .b32 t2.2.2.2.2.2.2.2.2.2]) rfl rfl rfl ⟨_, _, rfl, rfl, c3⟩ fun a S CL => h_loada S CL hw le (subR rfl) rfl .h1 T30 (s' := [.b32 x1.1, .w x1.2.1, .w x1.2.2.1, .w x1.2.2.2.1, .w x1.2.2.2.2.1, .w4 x1.2.2.2.2.2.1, .b20 x1.2.2.2.2.2.2.1, .w4 x1.2.2.2.2.2.2.2.1, .b32 x1.2.2.2.2.2.2.2.2.1, .b32 x1.2.2.2.2.2.2.2.2.2]) rfl rfl rfl ⟨_, _, rfl, rfl, c3⟩ fun a S CL => h_move S CL hw le (subR rfl) rfl rfl rfl ⟨_, _, rfl, rfl, c3⟩ fun a S CL => h_move S CL hw le (subR rfl) rfl rfl rfl ⟨_, _, rfl, rfl, c3⟩ fun a S CL => h_run' S rfl ⟨_, _, rfl, rfl, c3⟩ (bindX h2 fun t5 et5 h3 => s_callP S _ N16 rfl rfl (smithyref23_Next.ok k (x1.1, x1.2.1, x1.2.2.1, x1.2.2.2.1, x1.2.2.2.2.1, x1.2.2.2.2.2.1, x1.2.2.2.2.2.2.1, x1.2.2.2.2.2.2.2.1, x1.2.2.2.2.2.2.2.2.1, x1.2.2.2.2.2.2.2.2.2) x2 x3 t5 et5 _ _) fun ch5 m le1 a w S => ?_)
        replace le := le.trans le1
        replace hw := CL.again hw S (.c0 (.c0 .n)) le
        refine h_back ⟨fun _ => hw, ?_⟩
        replace CL := CL.add (t := 115) (d := (.agg [.b32 t5.1, .w t5.2.1, .w t5.2.2.1, .w t5.2.2.2.1, .w t5.2.2.2.2.1, .w4 t5.2.2.2.2.2.1, .b20 t5.2.2.2.2.2.2.1, .w4 t5.2.2.2.2.2.2.2.1, .b32 t5.2.2.2.2.2.2.2.2.1, .b32 t5.2.2.2.2.2.2.2.2.2])) S rfl rfl
        refine h_eqS S CL hw le (subR rfl) (ty' := Y30) (p := (t2.1, t2.2.1, t2.2.2.1, t2.2.2.2.1, t2.2.2.2.2.1, t2.2.2.2.2.2.1, t2.2.2.2.2.2.2.1, t2.2.2.2.2.2.2.2.1, t2.2.2.2.2.2.2.2.2.1, t2.2.2.2.2.2.2.2.2.2)) (q := (t5.1, t5.2.1, t5.2.2.1, t5.2.2.2.1, t5.2.2.2.2.1, t5.2.2.2.2.2.1, t5.2.2.2.2.2.2.1, t5.2.2.2.2.2.2.2.1, t5.2.2.2.2.2.2.2.2.1, t5.2.2.2.2.2.2.2.2.2)) ((), (), (), (), (), (), (), (), (), ()) ((), (), (), (), (), (), (), (), (), ()) rfl rfl E30 rfl Q30 rfl rfl ⟨_, _, rfl, rfl, c3⟩ fun a S CL => h_pick S CL hw le (subR rfl) (b := true) (hc_of rfl c3) rfl rfl rfl trivial fun a S CL => h_move S CL hw le (subR rfl) rfl rfl rfl trivial fun a S CL => ?_
        rcases ite_of h3 with ⟨c4, h4⟩ | ⟨c4, h4⟩
        ·refine h_move S CL hw le (subR rfl) rfl rfl rfl ⟨_, _, rfl, rfl, c4⟩ fun a S CL => h_move S CL hw le (subR rfl) rfl rfl rfl ⟨_, _, rfl, rfl, c4⟩ fun a S CL => h_fieldAddr S CL hw le (subR rfl) rfl I30_5 T26 (by decide) rfl rfl rfl ⟨_, _, rfl, rfl, c4⟩ fun a S CL => h_loada S CL hw le (subR rfl) rfl .h1 T26 (s' := [.w4 x1.2.2.2.2.2.1]) rfl rfl rfl ⟨_, _, rfl, rfl, c4⟩ fun a S CL => h_move S CL hw le (subR rfl) rfl rfl rfl ⟨_, _, rfl, rfl, c4⟩ fun a S CL => h_move S CL hw le (subR rfl) rfl rfl rfl ⟨_, _, rfl, rfl, c4⟩ fun a S CL => h_fieldAddr S CL hw le (subR rfl) rfl I30_5 T26 (by decide) rfl rfl rfl ⟨_, _, rfl, rfl, c4⟩ fun a S CL => h_loada S CL hw le (subR rfl) rfl .h1 T26 (s' := [.w4 x1.2.2.2.2.2.1]) rfl rfl rfl ⟨_, _, rfl, rfl, c4⟩ fun a S CL => h_run' S rfl ⟨_, _, rfl, rfl, c4⟩ (bindX h4 fun t6 et6 h5 => s_callP S _ N17 rfl rfl (block_Genesis.ok k x2 x3 x1.2.2.2.2.2.1 t6 et6 _ _ (G.mono (S.leB hb))) fun ch6 m le1 a w S => ?_)
         replace le := le.trans le1
         replace hw := CL.again hw S (.c0 (.c0 .n)) le
         refine h_back ⟨fun _ => hw, ?_⟩
         replace CL := CL.add (t := 123) (d := (.agg [.b32 t6.1, .w t6.2.1, .w t6.2.2.1, .w t6.2.2.2.1, .w t6.2.2.2.2.1, .w4 t6.2.2.2.2.2.1, .b20 t6.2.2.2.2.2.2.1, .w4 t6.2.2.2.2.2.2.2.1, .b32 t6.2.2.2.2.2.2.2.2.1, .b32 t6.2.2.2.2.2.2.2.2.2])) S rfl rfl
         refine h_run' S rfl ⟨_, _, rfl, rfl, c4⟩ (bindX h5 fun t7 et7 h6 => s_callP S _ N18 rfl rfl (smithyref23_Genesis.ok k x2 x3 x1.2.2.2.2.2.1 t7 et7 _ _) fun ch7 m le1 a w S => ?_)
         replace le := le.trans le1
         replace hw := CL.again hw S (.c0 (.c0 .n)) le
         refine h_back ⟨fun _ => hw, ?_⟩
         replace CL := CL.add (t := 128) (d := (.agg [.b32 t7.1, .w t7.2.1, .w t7.2.2.1, .w t7.2.2.2.1, .w t7.2.2.2.2.1, .w4 t7.2.2.2.2.2.1, .b20 t7.2.2.2.2.2.2.1, .w4 t7.2.2.2.2.2.2.2.1, .b32 t7.2.2.2.2.2.2.2.2.1, .b32 t7.2.2.2.2.2.2.2.2.2])) S rfl rfl
         refine h_eqS S CL hw le (subR rfl) (ty' := Y30) (p := (t6.1, t6.2.1, t6.2.2.1, t6.2.2.2.1, t6.2.2.2.2.1, t6.2.2.2.2.2.1, t6.2.2.2.2.2.2.1, t6.2.2.2.2.2.2.2.1, t6.2.2.2.2.2.2.2.2.1, t6.2.2.2.2.2.2.2.2.2)) (q := (t7.1, t7.2.1, t7.2.2.1, t7.2.2.2.1, t7.2.2.2.2.1, t7.2.2.2.2.2.1, t7.2.2.2.2.2.2.1, t7.2.2.2.2.2.2.2.1, t7.2.2.2.2.2.2.2.2.1, t7.2.2.2.2.2.2.2.2.2)) ((), (), (), (), (), (), (), (), (), ()) ((), (), (), (), (), (), (), (), (), ()) rfl rfl E30 rfl Q30 rfl rfl ⟨_, _, rfl, rfl, c4⟩ fun a S CL => h_pick S CL hw le (subR rfl) (b := true) (hc_of rfl c4) rfl rfl rfl trivial fun a S CL => h_move S CL hw le (subR rfl) rfl rfl rfl trivial fun a S CL => ?_
         rcases ite_of h6 with ⟨c5, h7⟩ | ⟨c5, h7⟩
         ·refine h_loada S CL hw le (subR rfl) rfl .h T30 (s' := [.b32 t2.1, .w t2.2.1, .w t2.2.2.1, .w t2.2.2.2.1, .w t2.2.2.2.2.1, .w4 t2.2.2.2.2.2.1, .b20 t2.2.2.2.2.2.2.1, .w4 t2.2.2.2.2.2.2.2.1, .b32 t2.2.2.2.2.2.2.2.2.1, .b32 t2.2.2.2.2.2.2.2.2.2]) rfl rfl rfl ⟨_, _, rfl, rfl, c5⟩ fun a S CL => h_move S CL hw le (subR rfl) rfl rfl rfl ⟨_, _, rfl, rfl, c5⟩ fun a S CL => h_move S CL hw le (subR rfl) rfl rfl rfl ⟨_, _, rfl, rfl, c5⟩ fun a S CL => h_loada S CL hw le (subR rfl) rfl .h T30 (s' := [.b32 t2.1, .w t2.2.1, .w t2.2.2.1, .w t2.2.2.2.1, .w t2.2.2.2.2.1, .w4 t2.2.2.2.2.2.1, .b20 t2.2.2.2.2.2.2.1, .w4 t2.2.2.2.2.2.2.2.1, .b32 t2.2.2.2.2.2.2.2.2.1, .b32 t2.2.2.2.2.2.2.2.2.2]) rfl rfl rfl ⟨_, _, rfl, rfl, c5⟩ fun a S CL => h_move S CL hw le (subR rfl) rfl rfl rfl ⟨_, _, rfl, rfl, c5⟩ fun a S CL => h_move S CL hw le (subR rfl) rfl rfl rfl ⟨_, _, rfl, rfl, c5⟩ fun a S CL => h_run' S rfl ⟨_, _, rfl, rfl, c5⟩ (bindX h7 fun t8 et8 h8 => s_callP S _ N19 rfl rfl (block_Seal.ok k (t2.1, t2.2.1, t2.2.2.1, t2.2.2.2.1, t2.2.2.2.2.1, t2.2.2.2.2.2.1, t2.2.2.2.2.2.2.1, t2.2.2.2.2.2.2.2.1, t2.2.2.2.2.2.2.2.2.1, t2.2.2.2.2.2.2.2.2.2) x4 x5 ch_3_0 ch_3_1 ch_4_0 ch_4_1 t8 et8 _ _ (G.mono (S.leB hb))) fun ch8 m le1 a w S => ?_)
          replace le := le.trans le1
          replace hw := CL.again hw S (.c0 (.c0 .n)) le
          refine h_back ⟨fun _ => hw, ?_⟩
          replace CL := CL.add (t := 135) (d := (.agg [.b32 t8.1, .w t8.2.1, .w t8.2.2.1, .w t8.2.2.2.1, .w t8.2.2.2.2.1, .w4 t8.2.2.2.2.2.1, .b20 t8.2.2.2.2.2.2.1, .w4 t8.2.2.2.2.2.2.2.1, .b32 t8.2.2.2.2.2.2.2.2.1, .b32 t8.2.2.2.2.2.2.2.2.2])) S rfl rfl
          refine h_run' S rfl ⟨_, _, rfl, rfl, c5⟩ (bindX h8 fun t9 et9 h9 => s_callP S _ N20 rfl rfl (smithyref23_Seal.ok k (t2.1, t2.2.1, t2.2.2.1, t2.2.2.2.1, t2.2.2.2.2.1, t2.2.2.2.2.2.1, t2.2.2.2.2.2.2.1, t2.2.2.2.2.2.2.2.1, t2.2.2.2.2.2.2.2.2.1, t2.2.2.2.2.2.2.2.2.2) x4 x5 ch_3_0 ch_3_1 ch_4_0 ch_4_1 t9 et9 _ _) fun ch9 m le1 a w S => ?_)
          replace le := le.trans le1
          replace hw := CL.again hw S (.c0 (.c0 .n)) le
          refine h_back ⟨fun _ => hw, ?_⟩
          replace CL := CL.add (t := 139) (d := (.agg [.b32 t9.1, .w t9.2.1, .w t9.2.2.1, .w t9.2.2.2.1, .w t9.2.2.2.2.1, .w4 t9.2.2.2.2.2.1, .b20 t9.2.2.2.2.2.2.1, .w4 t9.2.2.2.2.2.2.2.1, .b32 t9.2.2.2.2.2.2.2.2.1, .b32 t9.2.2.2.2.2.2.2.2.2])) S rfl rfl
          refine h_eqS S CL hw le (subR rfl) (ty' := Y30) (p := (t8.1, t8.2.1, t8.2.2.1, t8.2.2.2.1, t8.2.2.2.2.1, t8.2.2.2.2.2.1, t8.2.2.2.2.2.2.1, t8.2.2.2.2.2.2.2.1, t8.2.2.2.2.2.2.2.2.1, t8.2.2.2.2.2.2.2.2.2)) (q := (t9.1, t9.2.1, t9.2.2.1, t9.2.2.2.1, t9.2.2.2.2.1, t9.2.2.2.2.2.1, t9.2.2.2.2.2.2.1, t9.2.2.2.2.2.2.2.1, t9.2.2.2.2.2.2.2.2.1, t9.2.2.2.2.2.2.2.2.2)) ((), (), (), (), (), (), (), (), (), ()) ((), (), (), (), (), (), (), (), (), ()) rfl rfl E30 rfl Q30 rfl rfl ⟨_, _, rfl, rfl, c5⟩ fun a S CL => h_pick S CL hw le (subR rfl) (b := true) (hc_of rfl c5) rfl rfl rfl trivial fun a S CL => h_assign S CL hw le (subR rfl) rfl rfl rfl trivial fun a S CL => ?_
          refine h_done ?_; clear CL hw le
          refine x_thenN (wp_ret ?_)
          obtain rfl := Option.some.inj h9
          exact b_ret1 (d := (.b (decide ((t8.1, t8.2.1, t8.2.2.1, t8.2.2.2.1, t8.2.2.2.2.1, t8.2.2.2.2.2.1, t8.2.2.2.2.2.2.1, t8.2.2.2.2.2.2.2.1, t8.2.2.2.2.2.2.2.2.1, t8.2.2.2.2.2.2.2.2.2) = (t9.1, t9.2.1, t9.2.2.1, t9.2.2.2.1, t9.2.2.2.2.1, t9.2.2.2.2.2.1, t9.2.2.2.2.2.2.1, t9.2.2.2.2.2.2.2.1, t9.2.2.2.2.2.2.2.2.1, t9.2.2.2.2.2.2.2.2.2))))) S rfl rfl (S.rt hb)
         ·refine h_skip S CL rfl rfl rfl (ne_bool c5) rfl fun a S CL => h_skip S CL rfl rfl rfl (ne_bool c5) rfl fun a S CL => h_skip S CL rfl rfl rfl (ne_bool c5) rfl fun a S CL => h_skip S CL rfl rfl rfl (ne_bool c5) rfl fun a S CL => h_skip S CL rfl rfl rfl (ne_bool c5) rfl fun a S CL => h_skip S CL rfl rfl rfl (ne_bool c5) rfl fun a S CL => h_skipRt S rfl rfl rfl (ne_bool c5) rfl fun a S => ?_
          replace hw := CL.again hw S (.c0 (.c0 .n)) le
          refine h_back ⟨fun _ => hw, ?_⟩
          replace CL := CL.add (t := 135) (d := .u) S rfl rfl
          refine h_skipRt S rfl rfl rfl (ne_bool c5) rfl fun a S => ?_
          replace hw := CL.again hw S (.c0 (.c0 .n)) le
          refine h_back ⟨fun _ => hw, ?_⟩
          replace CL := CL.add (t := 139) (d := .u) S rfl rfl
          refine h_skip S CL rfl rfl rfl (ne_bool c5) rfl fun a S CL => h_pick S CL hw le (subR rfl) (b := false) (hc_of rfl c5) rfl rfl rfl trivial fun a S CL => h_assign S CL hw le (subR rfl) rfl rfl rfl trivial fun a S CL => ?_
          refine h_done ?_; clear CL hw le
          refine x_thenN (wp_ret ?_)
          obtain rfl := Option.some.inj h7
          exact b_ret1 (d := (.b false)) S rfl rfl (S.rt hb)
        ·refine h_skip S CL rfl rfl rfl (ne_bool c4) rfl fun a S CL => h_skip S CL rfl rfl rfl (ne_bool c4) rfl fun a S CL => h_skip S CL rfl rfl rfl (ne_bool c4) rfl fun a S CL => h_skip S CL rfl rfl rfl (ne_bool c4) rfl fun a S CL => h_skip S CL rfl rfl rfl (ne_bool c4) rfl fun a S CL => h_skip S CL rfl rfl rfl (ne_bool c4) rfl fun a S CL => h_skip S CL rfl rfl rfl (ne_bool c4) rfl fun a S CL => h_skip S CL rfl rfl rfl (ne_bool c4) rfl fun a S CL => h_skipRt S rfl rfl rfl (ne_bool c4) rfl fun a S => ?_
         replace hw := CL.again hw S (.c0 (.c0 .n)) le
         refine h_back ⟨fun _ => hw, ?_⟩
         replace CL := CL.add (t := 123) (d := .u) S rfl rfl
         refine h_skipRt S rfl rfl rfl (ne_bool c4) rfl fun a S => ?_
         replace hw := CL.again hw S (.c0 (.c0 .n)) le
         refine h_back ⟨fun _ => hw, ?_⟩
         replace CL := CL.add (t := 128) (d := .u) S rfl rfl
         refine h_skip S CL rfl rfl rfl (ne_bool c4) rfl fun a S CL => h_pick S CL hw le (subR rfl) (b := false) (hc_of rfl c4) rfl rfl rfl trivial fun a S CL => h_move S CL hw le (subR rfl) rfl rfl rfl trivial fun a S CL => h_skip S CL rfl rfl rfl (ne_bool rfl) rfl fun a S CL => h_skip S CL rfl rfl rfl (ne_bool rfl) rfl fun a S CL => h_skip S CL rfl rfl rfl (ne_bool rfl) rfl fun a S CL => h_skip S CL rfl rfl rfl (ne_bool rfl) rfl fun a S CL => h_skip S CL rfl rfl rfl (ne_bool rfl) rfl fun a S CL => h_skip S CL rfl rfl rfl (ne_bool rfl) rfl fun a S CL => h_skipRt S rfl rfl rfl (ne_bool rfl) rfl fun a S => ?_
         replace hw := CL.again hw S (.c0 (.c0 .n)) le
         refine h_back ⟨fun _ => hw, ?_⟩
         replace CL := CL.add (t := 135) (d := .u) S rfl rfl
         refine h_skipRt S rfl rfl rfl (ne_bool rfl) rfl fun a S => ?_
         replace hw := CL.again hw S (.c0 (.c0 .n)) le
         refine h_back ⟨fun _ => hw, ?_⟩
         replace CL := CL.add (t := 139) (d := .u) S rfl rfl
         refine h_skip S CL rfl rfl rfl (ne_bool rfl) rfl fun a S CL => h_pick S CL hw le (subR rfl) (b := false) (hc_of rfl rfl) rfl rfl rfl trivial fun a S CL => h_assign S CL hw le (subR rfl) rfl rfl rfl trivial fun a S CL => ?_
         refine h_done ?_; clear CL hw le
         refine x_thenN (wp_ret ?_)
         obtain rfl := Option.some.inj h4
         exact b_ret1 (d := (.b false)) S rfl rfl (S.rt hb)
       ·refine h_skip S CL rfl rfl rfl (ne_bool c3) rfl fun a S CL => h_skip S CL rfl rfl rfl (ne_bool c3) rfl fun a S CL => h_skip S CL rfl rfl rfl (ne_bool c3) rfl fun a S CL => h_skip S CL rfl rfl rfl (ne_bool c3) rfl fun a S CL => h_skipRt S rfl rfl rfl (ne_bool c3) rfl fun a S => ?_
        replace hw := CL.again hw S (.c0 (.c0 .n)) le
        refine h_back ⟨fun _ => hw, ?_⟩
        replace CL := CL.add (t := 115) (d := .u) S rfl rfl
        refine h_skip S CL rfl rfl rfl (ne_bool c3) rfl fun a S CL => h_pick S CL hw le (subR rfl) (b := false) (hc_of rfl c3) rfl rfl rfl trivial fun a S CL => h_move S CL hw le (subR rfl) rfl rfl rfl trivial fun a S CL => h_skip S CL rfl rfl rfl (ne_bool rfl) rfl fun a S CL => h_skip S CL rfl rfl rfl (ne_bool rfl) rfl fun a S CL => h_skip S CL rfl rfl rfl (ne_bool rfl) rfl fun a S CL => h_skip S CL rfl rfl rfl (ne_bool rfl) rfl fun a S CL => h_skip S CL rfl rfl rfl (ne_bool rfl) rfl fun a S CL => h_skip S CL rfl rfl rfl (ne_bool rfl) rfl fun a S CL => h_skip S CL rfl rfl rfl (ne_bool rfl) rfl fun a S CL => h_skip S CL rfl rfl rfl (ne_bool rfl) rfl fun a S CL => h_skipRt S rfl rfl rfl (ne_bool rfl) rfl fun a S => ?_
        replace hw := CL.again hw S (.c0 (.c0 .n)) le
        refine h_back ⟨fun _ => hw, ?_⟩
        replace CL := CL.add (t := 123) (d := .u) S rfl rfl
        refine h_skipRt S rfl rfl rfl (ne_bool rfl) rfl fun a S => ?_
        replace hw := CL.again hw S (.c0 (.c0 .n)) le
        refine h_back ⟨fun _ => hw, ?_⟩
        replace CL := CL.add (t := 128) (d := .u) S rfl rfl
        refine h_skip S CL rfl rfl rfl (ne_bool rfl) rfl fun a S CL => h_pick S CL hw le (subR rfl) (b := false) (hc_of rfl rfl) rfl rfl rfl trivial fun a S CL => h_move S CL hw le (subR rfl) rfl rfl rfl trivial fun a S CL => h_skip S CL rfl rfl rfl (ne_bool rfl) rfl fun a S CL => h_skip S CL rfl rfl rfl (ne_bool rfl) rfl fun a S CL => h_skip S CL rfl rfl rfl (ne_bool rfl) rfl fun a S CL => h_skip S CL rfl rfl rfl (ne_bool rfl) rfl fun a S CL => h_skip S CL rfl rfl rfl (ne_bool rfl) rfl fun a S CL => h_skip S CL rfl rfl rfl (ne_bool rfl) rfl fun a S CL => h_skipRt S rfl rfl rfl (ne_bool rfl) rfl fun a S => ?_
        replace hw := CL.again hw S (.c0 (.c0 .n)) le
        refine h_back ⟨fun _ => hw, ?_⟩
        replace CL := CL.add (t := 135) (d := .u) S rfl rfl
        refine h_skipRt S rfl rfl rfl (ne_bool rfl) rfl fun a S => ?_
        replace hw := CL.again hw S (.c0 (.c0 .n)) le
        refine h_back ⟨fun _ => hw, ?_⟩
        replace CL := CL.add (t := 139) (d := .u) S rfl rfl
        refine h_skip S CL rfl rfl rfl (ne_bool rfl) rfl fun a S CL => h_pick S CL hw le (subR rfl) (b := false) (hc_of rfl rfl) rfl rfl rfl trivial fun a S CL => h_assign S CL hw le (subR rfl) rfl rfl rfl trivial fun a S CL => ?_
        refine h_done ?_; clear CL hw le
        refine x_thenN (wp_ret ?_)
        obtain rfl := Option.some.inj h2
        exact b_ret1 (d := (.b false)) S rfl rfl (S.rt hb)
      refine c_region (s_move S rfl rfl fun a S => s_lenS S rfl underlying31 rfl fun a S => s_move S rfl rfl fun a S => c_end (wp_block ?_))
      refine c_loop (fun q1 a w => ∃ m y8 g35 g36 g37, St 142 m b0 [(95, (.i y8)), (94, (.i ((x5).length : Int))), (14, (.p g35)), (13, (.p g36)), (5, (.p g37)), (1, (.w x2)), (2, (.w x3)), (3, (.q Y39 ch_3_0 ch_3_1 x4)), (4, (.q (Ty.arr .u8 32) ch_4_0 ch_4_1 x5))] [Res.cells g35 45 [.w t3.1, .w t3.2.1, .w t3.2.2.1, .b20 t3.2.2.2.1, .w4 t3.2.2.2.2.1, .w4 t3.2.2.2.2.2.1, .w t3.2.2.2.2.2.2.1, .s A1 nn1 cp1], Res.row (Ty.arr .u8 32) 23 A1 nn1 cp1 t3.2.2.2.2.2.2.2, Res.cells g36 30 [.b32 t2.1, .w t2.2.1, .w t2.2.2.1, .w t2.2.2.2.1, .w t2.2.2.2.2.1, .w4 t2.2.2.2.2.2.1, .b20 t2.2.2.2.2.2.2.1, .w4 t2.2.2.2.2.2.2.2.1, .b32 t2.2.2.2.2.2.2.2.2.1, .b32 t2.2.2.2.2.2.2.2.2.2], Res.cells g37 30 [.b32 x1.1, .w x1.2.1, .w x1.2.2.1, .w x1.2.2.2.1, .w x1.2.2.2.2.1, .w4 x1.2.2.2.2.2.1, .b20 x1.2.2.2.2.2.2.1, .w4 x1.2.2.2.2.2.2.2.1, .b32 x1.2.2.2.2.2.2.2.2.1, .b32 x1.2.2.2.2.2.2.2.2.2]] a w ∧ smithylaw23_BlockNext.l1 k x1 x2 x3 x4 x5 t2 t3 q1 y8 = some r) ?_ ?_ (k := k) ⟨_, 0, g11, g12, g13, (S.sb rfl (.c0 (.c0 (.c0 (.c0 .n))))), h1⟩
      ·rintro a w ⟨m, y8, g35, g36, g37, S, h0⟩
       exact (nomatch (show (none : Option Bool) = some r from h0))
      ·clear S h1
       rintro q1 a w ⟨m, y8, g35, g36, g37, S, h0⟩
       replace h0 : smithylaw23_BlockNext.b1 k x1 x2 x3 x4 x5 t2 t3 (smithylaw23_BlockNext.l1 k x1 x2 x3 x4 x5 t2 t3 q1) y8 = some r := h0
       delta smithylaw23_BlockNext.b1 at h0
       refine c_region (s_bin S rfl rfl rfl rfl fun a S => c_end (wp_seq ?_))
       rcases ite_of h0 with ⟨c6, h1⟩ | ⟨c6, h1⟩
       ·refine c_condT S rfl c6 (wp_skip (x_thenN (wp_seq (wp_block (c_region (s_move S rfl rfl fun a S => s_assign S rfl rfl fun a S => c_end ?_))))))
        refine wp_seq (c_heldS S (.take 0 (.take 1 (.take 2 (.take 3 (.take 5 (.take 6 (.take 7 (.take 8 (.alts (.run 4 true (.take 9 .done) .nil)))))))))) 10 [Res.cells g35 45 [.w t3.1, .w t3.2.1, .w t3.2.2.1, .b20 t3.2.2.2.1, .w4 t3.2.2.2.2.1, .w4 t3.2.2.2.2.2.1, .w t3.2.2.2.2.2.2.1, .s A1 nn1 cp1], Res.row (Ty.arr .u8 32) 23 A1 nn1 cp1 t3.2.2.2.2.2.2.2, Res.cells g36 30 [.b32 t2.1, .w t2.2.1, .w t2.2.2.1, .w t2.2.2.2.1, .w t2.2.2.2.2.1, .w4 t2.2.2.2.2.2.1, .b20 t2.2.2.2.2.2.2.1, .w4 t2.2.2.2.2.2.2.2.1, .b32 t2.2.2.2.2.2.2.2.2.1, .b32 t2.2.2.2.2.2.2.2.2.2], Res.cells g37 30 [.b32 x1.1, .w x1.2.1, .w x1.2.2.1, .w x1.2.2.2.1, .w x1.2.2.2.2.1, .w4 x1.2.2.2.2.2.1, .b20 x1.2.2.2.2.2.2.1, .w4 x1.2.2.2.2.2.2.2.1, .b32 x1.2.2.2.2.2.2.2.2.1, .b32 x1.2.2.2.2.2.2.2.2.2]] (.c0 (.c0 (.c0 (.c0 .n)))) ⟨Res.stay_cells, Res.stay_row flat_arr, Res.stay_cells, Res.stay_cells, trivial⟩ [(15, (.i y8)), (14, (.p g35)), (4, (.q (Ty.arr .u8 32) ch_4_0 ch_4_1 x5))] (subR rfl) (by kernel_rfl) (by kernel_rfl) ?_); clear S; intro w S CL hw le
        refine h_fieldAddr S CL hw le (subR rfl) rfl I45_7 T31 (by decide) rfl rfl rfl trivial fun a S CL => h_load1 S CL hw le (subR rfl) rfl .h T31 (v := (.slice A1 nn1 cp1)) rfl rfl rfl trivial fun a S CL => h_move S CL hw le (subR rfl) rfl rfl rfl trivial fun a S CL => ?_
        obtain ⟨c7, h2⟩ := chk_of h1; clear h1
        refine h_iaddrO S CL hw le (subR rfl) (ty' := (Ty.arr .u8 32)) rfl .h1 rfl underlying31 T23 c7.1 c7.2 rfl rfl trivial fun g38 a hA1 S CL => h_move S CL hw le (subR rfl) rfl rfl rfl trivial fun a S CL => h_move S CL hw le (subR rfl) rfl rfl rfl trivial fun a S CL => ?_
        obtain ⟨c8, h3⟩ := chk_of h2; clear h2
        refine h_iaddrS S CL hw le (subR rfl) rfl rfl rfl underlying31 T23 c8.1 c8.2 rfl rfl trivial fun p1 a S CL => h_ldA S CL hw le (subR rfl) (fun (c : Unit) => [.b32 (gt x5 y8)]) rfl T23 (fun _ => rfl) rfl rfl trivial fun ch10 a S CL => h_run' S rfl trivial (s_ldRA S (ty' := (Ty.arr .u8 32)) (i := y8) (off := 0) (fun (c : Unit) => [.b32 (gt t3.2.2.2.2.2.2.2 y8)]) rfl hA1 .h1 T23 c7.1 c7.2 rfl (fun _ => rfl) rfl fun ch11 a S => ?_)
        replace hw := CL.again hw S (.c0 (.c0 (.c0 (.c0 .n)))) le
        refine h_back ⟨fun _ => hw, ?_⟩
        replace CL := CL.add (t := 102) (d := (.a32 (gt t3.2.2.2.2.2.2.2 y8))) S rfl rfl
        refine h_nea S CL hw le (subR rfl) rfl rfl underlying23 underlying5 T5 Q23 rfl rfl trivial fun a S CL => ?_
        refine h_done ?_; clear CL hw le
        refine x_thenN ?_
        rcases ite_of h3 with ⟨c9, h4⟩ | ⟨c9, h4⟩
        ·refine c_condT S rfl c9 (c_region (s_assign S rfl rfl fun a S => c_end (wp_ret (x_blockR (x_thenR (x_thenR (x_blockR (x_thenR ?_))))))))
         obtain rfl := Option.some.inj h4
         exact b_ret1 (d := (.b false)) S rfl rfl (S.rt hb)
        ·refine c_condF S rfl c9 (wp_skip (x_blockN (x_thenN (c_region' (s_bin S rfl rfl rfl rfl fun a S => s_move S rfl rfl fun a S => c_end' (x_thenN ?_))))))
         exact ⟨_, (wr .i64 (y8 + 1)), g35, g36, g37, (S.sb rfl (.c0 (.c0 (.c0 (.c0 .n))))), h4⟩
       ·refine c_condF S rfl c6 (wp_exit (x_thenX (x_thenX (x_blockX (x_thenN ?_)))))
        exact j4 _ g36 g37 a w (S.sb rfl (.c2 (.c2 .n))) h1
    refine c_region' (s_fieldAddr S rfl I45_0 T24 (by decide) rfl rfl fun a S => s_load1 S rfl .h T24 (v := (.int .u64 t3.1)) rfl rfl fun a S => s_fieldAddr S rfl I30_1 T24 (by decide) rfl rfl fun a S => s_load1 S rfl .h2 T24 (v := (.int .u64 t2.2.1)) rfl rfl fun a S => s_bin S rfl rfl rfl rfl fun a S => s_move S rfl rfl fun a S => ?_)
    rcases ite_of h2 with ⟨c10, h3⟩ | ⟨c10, h3⟩
    ·refine s_gF S (b := (t3.1 != t2.2.1)) rfl rfl c10 rfl fun a S => s_gF S (b := (t3.1 != t2.2.1)) rfl rfl c10 rfl fun a S => s_gF S (b := (t3.1 != t2.2.1)) rfl rfl c10 rfl fun a S => s_gF S (b := (t3.1 != t2.2.1)) rfl rfl c10 rfl fun a S => s_pick S (b := true) (hc_of rfl c10) rfl rfl fun a S => s_move S rfl rfl fun a S => s_gF S (b := true) rfl rfl rfl rfl fun a S => s_gF S (b := true) rfl rfl rfl rfl fun a S => s_gF S (b := true) rfl rfl rfl rfl fun a S => s_gF S (b := true) rfl rfl rfl rfl fun a S => s_pick S (b := true) (hc_of rfl rfl) rfl rfl fun a S => s_move S rfl rfl fun a S => s_gF S (b := true) rfl rfl rfl rfl fun a S => s_gF S (b := true) rfl rfl rfl rfl fun a S => s_gF S (b := true) rfl rfl rfl rfl fun a S => s_gF S (b := true) rfl rfl rfl rfl fun a S => s_gF S (b := true) rfl rfl rfl rfl fun a S => s_pick S (b := true) (hc_of rfl rfl) rfl rfl fun a S => s_move S rfl rfl fun a S => s_gF S (b := true) rfl rfl rfl rfl fun a S => s_gF S (b := true) rfl rfl rfl rfl fun a S => s_gF S (b := true) rfl rfl rfl rfl fun a S => s_gF S (b := true) rfl rfl rfl rfl fun a S => s_gF S (b := true) rfl rfl rfl rfl fun a S => s_pick S (b := true) (hc_of rfl rfl) rfl rfl fun a S => s_move S rfl rfl fun a S => s_gF S (b := true) rfl rfl rfl rfl fun a S => s_gF S (b := true) rfl rfl rfl rfl fun a S => s_gF S (b := true) rfl rfl rfl rfl fun a S => s_gF S (b := true) rfl rfl rfl rfl fun a S => s_gF S (b := true) rfl rfl rfl rfl fun a S => s_pick S (b := true) (hc_of rfl rfl) rfl rfl fun a S => s_move S rfl rfl fun a S => s_gF S (b := true) rfl rfl rfl rfl fun a S => s_gF S (b := true) rfl rfl rfl rfl fun a S => s_gF S (b := true) rfl rfl rfl rfl fun a S => s_pick S (b := true) (hc_of rfl rfl) rfl rfl fun a S => s_move S rfl rfl fun a S => s_gF S (b := true) rfl rfl rfl rfl fun a S => s_gF S (b := true) rfl rfl rfl rfl fun a S => s_gF S (b := true) rfl rfl rfl rfl fun a S => s_gF S (b := true) rfl rfl rfl rfl fun a S => s_gF S (b := true) rfl rfl rfl rfl fun a S => s_gF S (b := true) rfl rfl rfl rfl fun a S => s_pick S (b := true) (hc_of rfl rfl) rfl rfl fun a S => c_end' (x_thenN ?_)
     exact j3 _ true g10 g9 g8 ch3.1 ch3.2.1 ch3.2.2 a w (S.sb rfl (.c0 (.c0 (.c0 (.c0 .n))))) h3
    ·refine s_gT S (b := (t3.1 != t2.2.1)) rfl rfl c10 (s_fieldAddr S rfl I45_1 T24 (by decide) rfl rfl fun a S => s_gT S (b := (t3.1 != t2.2.1)) rfl rfl c10 (s_load1 S rfl .h T24 (v := (.int .u64 t3.2.1)) rfl rfl fun a S => s_gT S (b := (t3.1 != t2.2.1)) rfl rfl c10 (s_move S rfl rfl fun a S => s_gT S (b := (t3.1 != t2.2.1)) rfl rfl c10 (s_bin S rfl rfl rfl rfl fun a S => s_pick S (b := false) (hc_of rfl c10) rfl rfl fun a S => s_move S rfl rfl fun a S => ?_))))
     rcases ite_of h3 with ⟨c11, h4⟩ | ⟨c11, h4⟩
     ·refine s_gF S (b := (t3.2.1 != x2)) rfl rfl c11 rfl fun a S => s_gF S (b := (t3.2.1 != x2)) rfl rfl c11 rfl fun a S => s_gF S (b := (t3.2.1 != x2)) rfl rfl c11 rfl fun a S => s_gF S (b := (t3.2.1 != x2)) rfl rfl c11 rfl fun a S => s_pick S (b := true) (hc_of rfl c11) rfl rfl fun a S => s_move S rfl rfl fun a S => s_gF S (b := true) rfl rfl rfl rfl fun a S => s_gF S (b := true) rfl rfl rfl rfl fun a S => s_gF S (b := true) rfl rfl rfl rfl fun a S => s_gF S (b := true) rfl rfl rfl rfl fun a S => s_gF S (b := true) rfl rfl rfl rfl fun a S => s_pick S (b := true) (hc_of rfl rfl) rfl rfl fun a S => s_move S rfl rfl fun a S => s_gF S (b := true) rfl rfl rfl rfl fun a S => s_gF S (b := true) rfl rfl rfl rfl fun a S => s_gF S (b := true) rfl rfl rfl rfl fun a S => s_gF S (b := true) rfl rfl rfl rfl fun a S => s_gF S (b := true) rfl rfl rfl rfl fun a S => s_pick S (b := true) (hc_of rfl rfl) rfl rfl fun a S => s_move S rfl rfl fun a S => s_gF S (b := true) rfl rfl rfl rfl fun a S => s_gF S (b := true) rfl rfl rfl rfl fun a S => s_gF S (b := true) rfl rfl rfl rfl fun a S => s_gF S (b := true) rfl rfl rfl rfl fun a S => s_gF S (b := true) rfl rfl rfl rfl fun a S => s_pick S (b := true) (hc_of rfl rfl) rfl rfl fun a S => s_move S rfl rfl fun a S => s_gF S (b := true) rfl rfl rfl rfl fun a S => s_gF S (b := true) rfl rfl rfl rfl fun a S => s_gF S (b := true) rfl rfl rfl rfl fun a S => s_pick S (b := true) (hc_of rfl rfl) rfl rfl fun a S => s_move S rfl rfl fun a S => s_gF S (b := true) rfl rfl rfl rfl fun a S => s_gF S (b := true) rfl rfl rfl rfl fun a S => s_gF S (b := true) rfl rfl rfl rfl fun a S => s_gF S (b := true) rfl rfl rfl rfl fun a S => s_gF S (b := true) rfl rfl rfl rfl fun a S => s_gF S (b := true) rfl rfl rfl rfl fun a S => s_pick S (b := true) (hc_of rfl rfl) rfl rfl fun a S => c_end' (x_thenN ?_)
      exact j3 _ true g10 g9 g8 ch3.1 ch3.2.1 ch3.2.2 a w (S.sb rfl (.c0 (.c0 (.c0 (.c0 .n))))) h4
     ·refine s_gT S (b := (t3.2.1 != x2)) rfl rfl c11 (s_fieldAddr S rfl I45_2 T24 (by decide) rfl rfl fun a S => s_gT S (b := (t3.2.1 != x2)) rfl rfl c11 (s_load1 S rfl .h T24 (v := (.int .u64 t3.2.2.1)) rfl rfl fun a S => s_gT S (b := (t3.2.1 != x2)) rfl rfl c11 (s_move S rfl rfl fun a S => s_gT S (b := (t3.2.1 != x2)) rfl rfl c11 (s_bin S rfl rfl rfl rfl fun a S => s_pick S (b := false) (hc_of rfl c11) rfl rfl fun a S => s_move S rfl rfl fun a S => ?_))))
      rcases ite_of h4 with ⟨c12, h5⟩ | ⟨c12, h5⟩
      ·refine s_gF S (b := (t3.2.2.1 != x3)) rfl rfl c12 rfl fun a S => s_gF S (b := (t3.2.2.1 != x3)) rfl rfl c12 rfl fun a S => s_gF S (b := (t3.2.2.1 != x3)) rfl rfl c12 rfl fun a S => s_gF S (b := (t3.2.2.1 != x3)) rfl rfl c12 rfl fun a S => s_gF S (b := (t3.2.2.1 != x3)) rfl rfl c12 rfl fun a S => s_pick S (b := true) (hc_of rfl c12) rfl rfl fun a S => s_move S rfl rfl fun a S => s_gF S (b := true) rfl rfl rfl rfl fun a S => s_gF S (b := true) rfl rfl rfl rfl fun a S => s_gF S (b := true) rfl rfl rfl rfl fun a S => s_gF S (b := true) rfl rfl rfl rfl fun a S => s_gF S (b := true) rfl rfl rfl rfl fun a S => s_pick S (b := true) (hc_of rfl rfl) rfl rfl fun a S => s_move S rfl rfl fun a S => s_gF S (b := true) rfl rfl rfl rfl fun a S => s_gF S (b := true) rfl rfl rfl rfl fun a S => s_gF S (b := true) rfl rfl rfl rfl fun a S => s_gF S (b := true) rfl rfl rfl rfl fun a S => s_gF S (b := true) rfl rfl rfl rfl fun a S => s_pick S (b := true) (hc_of rfl rfl) rfl rfl fun a S => s_move S rfl rfl fun a S => s_gF S (b := true) rfl rfl rfl rfl fun a S => s_gF S (b := true) rfl rfl rfl rfl fun a S => s_gF S (b := true) rfl rfl rfl rfl fun a S => s_pick S (b := true) (hc_of rfl rfl) rfl rfl fun a S => s_move S rfl rfl fun a S => s_gF S (b := true) rfl rfl rfl rfl fun a S => s_gF S (b := true) rfl rfl rfl rfl fun a S => s_gF S (b := true) rfl rfl rfl rfl fun a S => s_gF S (b := true) rfl rfl rfl rfl fun a S => s_gF S (b := true) rfl rfl rfl rfl fun a S => s_gF S (b := true) rfl rfl rfl rfl fun a S => s_pick S (b := true) (hc_of rfl rfl) rfl rfl fun a S => c_end' (x_thenN ?_)
       exact j3 _ true g10 g9 g8 ch3.1 ch3.2.1 ch3.2.2 a w (S.sb rfl (.c0 (.c0 (.c0 (.c0 .n))))) h5
      ·refine s_gT S (b := (t3.2.2.1 != x3)) rfl rfl c12 (s_fieldAddr S rfl I45_3 T28 (by decide) rfl rfl fun a S => s_gT S (b := (t3.2.2.1 != x3)) rfl rfl c12 (s_loada S rfl .h T28 (s' := [.b20 t3.2.2.2.1]) rfl rfl fun a S => s_gT S (b := (t3.2.2.1 != x3)) rfl rfl c12 (s_fieldAddr S rfl I30_6 T28 (by decide) rfl rfl fun a S => s_gT S (b := (t3.2.2.1 != x3)) rfl rfl c12 (s_loada S rfl .h2 T28 (s' := [.b20 t2.2.2.2.2.2.2.1]) rfl rfl fun a S => s_gT S (b := (t3.2.2.1 != x3)) rfl rfl c12 (s_nea S rfl rfl underlying28 underlying5 T5 Q28 rfl fun a S => s_pick S (b := false) (hc_of rfl c12) rfl rfl fun a S => s_move S rfl rfl fun a S => ?_)))))
       rcases ite_of h5 with ⟨c13, h6⟩ | ⟨c13, h6⟩
       ·refine s_gF S (b := (!(decide (t3.2.2.2.1 = t2.2.2.2.2.2.2.1)))) rfl rfl c13 rfl fun a S => s_gF S (b := (!(decide (t3.2.2.2.1 = t2.2.2.2.2.2.2.1)))) rfl rfl c13 rfl fun a S => s_gF S (b := (!(decide (t3.2.2.2.1 = t2.2.2.2.2.2.2.1)))) rfl rfl c13 rfl fun a S => s_gF S (b := (!(decide (t3.2.2.2.1 = t2.2.2.2.2.2.2.1)))) rfl rfl c13 rfl fun a S => s_gF S (b := (!(decide (t3.2.2.2.1 = t2.2.2.2.2.2.2.1)))) rfl rfl c13 rfl fun a S => s_pick S (b := true) (hc_of rfl c13) rfl rfl fun a S => s_move S rfl rfl fun a S => s_gF S (b := true) rfl rfl rfl rfl fun a S => s_gF S (b := true) rfl rfl rfl rfl fun a S => s_gF S (b := true) rfl rfl rfl rfl fun a S => s_gF S (b := true) rfl rfl rfl rfl fun a S => s_gF S (b := true) rfl rfl rfl rfl fun a S => s_pick S (b := true) (hc_of rfl rfl) rfl rfl fun a S => s_move S rfl rfl fun a S => s_gF S (b := true) rfl rfl rfl rfl fun a S => s_gF S (b := true) rfl rfl rfl rfl fun a S => s_gF S (b := true) rfl rfl rfl rfl fun a S => s_pick S (b := true) (hc_of rfl rfl) rfl rfl fun a S => s_move S rfl rfl fun a S => s_gF S (b := true) rfl rfl rfl rfl fun a S => s_gF S (b := true) rfl rfl rfl rfl fun a S => s_gF S (b := true) rfl rfl rfl rfl fun a S => s_gF S (b := true) rfl rfl rfl rfl fun a S => s_gF S (b := true) rfl rfl rfl rfl fun a S => s_gF S (b := true) rfl rfl rfl rfl fun a S => s_pick S (b := true) (hc_of rfl rfl) rfl rfl fun a S => c_end' (x_thenN ?_)
        exact j3 _ true g10 g9 g8 ch3.1 ch3.2.1 ch3.2.2 a w (S.sb rfl (.c0 (.c0 (.c0 (.c0 .n))))) h6
       ·refine s_gT S (b := (!(decide (t3.2.2.2.1 = t2.2.2.2.2.2.2.1)))) rfl rfl c13 (s_fieldAddr S rfl I45_4 T26 (by decide) rfl rfl fun a S => s_gT S (b := (!(decide (t3.2.2.2.1 = t2.2.2.2.2.2.2.1)))) rfl rfl c13 (s_loada S rfl .h T26 (s' := [.w4 t3.2.2.2.2.1]) rfl rfl fun a S => s_gT S (b := (!(decide (t3.2.2.2.1 = t2.2.2.2.2.2.2.1)))) rfl rfl c13 (s_fieldAddr S rfl I30_5 T26 (by decide) rfl rfl fun a S => s_gT S (b := (!(decide (t3.2.2.2.1 = t2.2.2.2.2.2.2.1)))) rfl rfl c13 (s_loada S rfl .h2 T26 (s' := [.w4 t2.2.2.2.2.2.1]) rfl rfl fun a S => s_gT S (b := (!(decide (t3.2.2.2.1 = t2.2.2.2.2.2.2.1)))) rfl rfl c13 (s_nea S rfl rfl underlying26 underlying24 T24 Q26 rfl fun a S => s_pick S (b := false) (hc_of rfl c13) rfl rfl fun a S => s_move S rfl rfl fun a S => ?_)))))
        rcases ite_of h6 with ⟨c14, h7⟩ | ⟨c14, h7⟩
        ·refine s_gF S (b := (!(decide (t3.2.2.2.2.1 = t2.2.2.2.2.2.1)))) rfl rfl c14 rfl fun a S => s_gF S (b := (!(decide (t3.2.2.2.2.1 = t2.2.2.2.2.2.1)))) rfl rfl c14 rfl fun a S => s_gF S (b := (!(decide (t3.2.2.2.2.1 = t2.2.2.2.2.2.1)))) rfl rfl c14 rfl fun a S => s_gF S (b := (!(decide (t3.2.2.2.2.1 = t2.2.2.2.2.2.1)))) rfl rfl c14 rfl fun a S => s_gF S (b := (!(decide (t3.2.2.2.2.1 = t2.2.2.2.2.2.1)))) rfl rfl c14 rfl fun a S => s_pick S (b := true) (hc_of rfl c14) rfl rfl fun a S => s_move S rfl rfl fun a S => s_gF S (b := true) rfl rfl rfl rfl fun a S => s_gF S (b := true) rfl rfl rfl rfl fun a S => s_gF S (b := true) rfl rfl rfl rfl fun a S => s_pick S (b := true) (hc_of rfl rfl) rfl rfl fun a S => s_move S rfl rfl fun a S => s_gF S (b := true) rfl rfl rfl rfl fun a S => s_gF S (b := true) rfl rfl rfl rfl fun a S => s_gF S (b := true) rfl rfl rfl rfl fun a S => s_gF S (b := true) rfl rfl rfl rfl fun a S => s_gF S (b := true) rfl rfl rfl rfl fun a S => s_gF S (b := true) rfl rfl rfl rfl fun a S => s_pick S (b := true) (hc_of rfl rfl) rfl rfl fun a S => c_end' (x_thenN ?_)
         exact j3 _ true g10 g9 g8 ch3.1 ch3.2.1 ch3.2.2 a w (S.sb rfl (.c0 (.c0 (.c0 (.c0 .n))))) h7
        ·refine s_gT S (b := (!(decide (t3.2.2.2.2.1 = t2.2.2.2.2.2.1)))) rfl rfl c14 (s_fieldAddr S rfl I45_5 T26 (by decide) rfl rfl fun a S => s_gT S (b := (!(decide (t3.2.2.2.2.1 = t2.2.2.2.2.2.1)))) rfl rfl c14 (s_loada S rfl .h T26 (s' := [.w4 t3.2.2.2.2.2.1]) rfl rfl fun a S => s_gT S (b := (!(decide (t3.2.2.2.2.1 = t2.2.2.2.2.2.1)))) rfl rfl c14 (s_fieldAddr S rfl I30_7 T26 (by decide) rfl rfl fun a S => s_gT S (b := (!(decide (t3.2.2.2.2.1 = t2.2.2.2.2.2.1)))) rfl rfl c14 (s_loada S rfl .h2 T26 (s' := [.w4 t2.2.2.2.2.2.2.2.1]) rfl rfl fun a S => s_gT S (b := (!(decide (t3.2.2.2.2.1 = t2.2.2.2.2.2.1)))) rfl rfl c14 (s_nea S rfl rfl underlying26 underlying24 T24 Q26 rfl fun a S => s_pick S (b := false) (hc_of rfl c14) rfl rfl fun a S => s_move S rfl rfl fun a S => ?_)))))
         rcases ite_of h7 with ⟨c15, h8⟩ | ⟨c15, h8⟩
         ·refine s_gF S (b := (!(decide (t3.2.2.2.2.2.1 = t2.2.2.2.2.2.2.2.1)))) rfl rfl c15 rfl fun a S => s_gF S (b := (!(decide (t3.2.2.2.2.2.1 = t2.2.2.2.2.2.2.2.1)))) rfl rfl c15 rfl fun a S => s_gF S (b := (!(decide (t3.2.2.2.2.2.1 = t2.2.2.2.2.2.2.2.1)))) rfl rfl c15 rfl fun a S => s_pick S (b := true) (hc_of rfl c15) rfl rfl fun a S => s_move S rfl rfl fun a S => s_gF S (b := true) rfl rfl rfl rfl fun a S => s_gF S (b := true) rfl rfl rfl rfl fun a S => s_gF S (b := true) rfl rfl rfl rfl fun a S => s_gF S (b := true) rfl rfl rfl rfl fun a S => s_gF S (b := true) rfl rfl rfl rfl fun a S => s_gF S (b := true) rfl rfl rfl rfl fun a S => s_pick S (b := true) (hc_of rfl rfl) rfl rfl fun a S => c_end' (x_thenN ?_)
          exact j3 _ true g10 g9 g8 ch3.1 ch3.2.1 ch3.2.2 a w (S.sb rfl (.c0 (.c0 (.c0 (.c0 .n))))) h8
         ·refine s_gT S (b := (!(decide (t3.2.2.2.2.2.1 = t2.2.2.2.2.2.2.2.1)))) rfl rfl c15 (s_fieldAddr S rfl I45_6 T24 (by decide) rfl rfl fun a S => s_gT S (b := (!(decide (t3.2.2.2.2.2.1 = t2.2.2.2.2.2.2.2.1)))) rfl rfl c15 (s_load1 S rfl .h T24 (v := (.int .u64 t3.2.2.2.2.2.2.1)) rfl rfl fun a S => s_gT S (b := (!(decide (t3.2.2.2.2.2.1 = t2.2.2.2.2.2.2.2.1)))) rfl rfl c15 (s_bin S rfl rfl rfl rfl fun a S => s_pick S (b := false) (hc_of rfl c15) rfl rfl fun a S => s_move S rfl rfl fun a S => ?_)))
          rcases ite_of h8 with ⟨c16, h9⟩ | ⟨c16, h9⟩
          ·refine s_gF S (b := (t3.2.2.2.2.2.2.1 != 7)) rfl rfl c16 rfl fun a S => s_gF S (b := (t3.2.2.2.2.2.2.1 != 7)) rfl rfl c16 rfl fun a S => s_gF S (b := (t3.2.2.2.2.2.2.1 != 7)) rfl rfl c16 rfl fun a S => s_gF S (b := (t3.2.2.2.2.2.2.1 != 7)) rfl rfl c16 rfl fun a S => s_gF S (b := (t3.2.2.2.2.2.2.1 != 7)) rfl rfl c16 rfl fun a S => s_gF S (b := (t3.2.2.2.2.2.2.1 != 7)) rfl rfl c16 rfl fun a S => s_pick S (b := true) (hc_of rfl c16) rfl rfl fun a S => c_end' (x_thenN ?_)
           exact j3 _ true g10 g9 g8 ch3.1 ch3.2.1 ch3.2.2 a w (S.sb rfl (.c0 (.c0 (.c0 (.c0 .n))))) h9
          ·refine s_gT S (b := (t3.2.2.2.2.2.2.1 != 7)) rfl rfl c16 (s_fieldAddr S rfl I45_7 T31 (by decide) rfl rfl fun a S => s_gT S (b := (t3.2.2.2.2.2.2.1 != 7)) rfl rfl c16 (s_load1 S rfl .h T31 (v := (.slice ch3.1 ch3.2.1 ch3.2.2)) rfl rfl fun a S => s_gT S (b := (t3.2.2.2.2.2.2.1 != 7)) rfl rfl c16 (s_lenO S rfl .h1 underlying31 rfl fun a S => s_gT S (b := (t3.2.2.2.2.2.2.1 != 7)) rfl rfl c16 (s_move S rfl rfl fun a S => s_gT S (b := (t3.2.2.2.2.2.2.1 != 7)) rfl rfl c16 (s_lenS S rfl underlying31 rfl fun a S => s_gT S (b := (t3.2.2.2.2.2.2.1 != 7)) rfl rfl c16 (s_bin S rfl rfl rfl rfl fun a S => s_pick S (b := false) (hc_of rfl c16) rfl rfl fun a S => c_end' (x_thenN ?_)))))))
           exact j3 _ (((t3.2.2.2.2.2.2.2).length : Int) != ((x5).length : Int)) g10 g9 g8 ch3.1 ch3.2.1 ch3.2.2 a w (S.sb rfl (.c0 (.c0 (.c0 (.c0 .n))))) h9
   refine c_region (s_move S rfl rfl fun a S => s_lenS S rfl underlying42 rfl fun a S => s_move S rfl rfl fun a S => c_end (wp_block ?_))
   refine c_loop (fun q2 a w => ∃ m y10 g43, St 142 m b0 [(27, (.i y10)), (26, (.i ((x4).length : Int))), (25, (.q Y39 ch_3_0 ch_3_1 x4)), (5, (.p g43)), (1, (.w x2)), (2, (.w x3)), (3, (.q Y39 ch_3_0 ch_3_1 x4)), (4, (.q (Ty.arr .u8 32) ch_4_0 ch_4_1 x5))] [Res.cells g43 30 [.b32 x1.1, .w x1.2.1, .w x1.2.2.1, .w x1.2.2.2.1, .w x1.2.2.2.2.1, .w4 x1.2.2.2.2.2.1, .b20 x1.2.2.2.2.2.2.1, .w4 x1.2.2.2.2.2.2.2.1, .b32 x1.2.2.2.2.2.2.2.2.1, .b32 x1.2.2.2.2.2.2.2.2.2]] a w ∧ smithylaw23_BlockNext.l2 k x1 x2 x3 x4 x5 q2 y10 = some r) ?_ ?_ (k := k) ⟨_, 0, g2, (S.sb rfl (.c0 .n)), h1⟩
   ·rintro a w ⟨m, y10, g43, S, h0⟩
    exact (nomatch (show (none : Option Bool) = some r from h0))
   ·clear S h1
    rintro q2 a w ⟨m, y10, g43, S, h0⟩
    replace h0 : smithylaw23_BlockNext.b2 k x1 x2 x3 x4 x5 (smithylaw23_BlockNext.l2 k x1 x2 x3 x4 x5 q2) y10 = some r := h0
    delta smithylaw23_BlockNext.b2 at h0
    refine c_region (s_bin S rfl rfl rfl rfl fun a S => c_end (wp_seq ?_))
    rcases ite_of h0 with ⟨c17, h1⟩ | ⟨c17, h1⟩
    ·refine c_condT S rfl c17 (wp_skip (x_thenN (wp_seq (wp_block (c_region ?_)))))
     obtain ⟨c18, h2⟩ := chk_of h1; clear h1
     refine s_iaddrS S rfl rfl rfl underlying42 T39 c18.1 c18.2 rfl fun p4 a S => s_ldA S (fun (c : Unit × Unit × Unit × Unit × Unit × Unit × (Option Addr × Nat) × (Option Addr × Nat)) => [.b20 ((gt x4 y10).1), .w ((gt x4 y10).2.1), .b ((gt x4 y10).2.2.1), .w ((gt x4 y10).2.2.2.1), .w4 ((gt x4 y10).2.2.2.2.1), .b20 ((gt x4 y10).2.2.2.2.2.1), .q Y68 c.2.2.2.2.2.2.1.1 c.2.2.2.2.2.2.1.2 ((gt x4 y10).2.2.2.2.2.2.1), .q yb c.2.2.2.2.2.2.2.1 c.2.2.2.2.2.2.2.2 ((gt x4 y10).2.2.2.2.2.2.2)]) rfl T39 (fun _ => rfl) rfl fun ch14 a S => s_alloc S Z39 rfl ⟨rfl, rfl, rfl, rfl, rfl, rfl, rfl, rfl, trivial⟩ rfl fun g44 a w S => s_store S rfl rfl rfl (s' := [.b20 ((gt x4 y10).1), .w ((gt x4 y10).2.1), .b ((gt x4 y10).2.2.1), .w ((gt x4 y10).2.2.2.1), .w4 ((gt x4 y10).2.2.2.2.1), .b20 ((gt x4 y10).2.2.2.2.2.1), .q Y68 ch14.2.2.2.2.2.2.1.1 ch14.2.2.2.2.2.2.1.2 ((gt x4 y10).2.2.2.2.2.2.1), .q yb ch14.2.2.2.2.2.2.2.1 ch14.2.2.2.2.2.2.2.2 ((gt x4 y10).2.2.2.2.2.2.2)]) .h T39 rfl rfl fun w S => c_end (c_region (s_loada S rfl .h T39 (s' := [.b20 ((gt x4 y10).1), .w ((gt x4 y10).2.1), .b ((gt x4 y10).2.2.1), .w ((gt x4 y10).2.2.2.1), .w4 ((gt x4 y10).2.2.2.2.1), .b20 ((gt x4 y10).2.2.2.2.2.1), .q Y68 ch14.2.2.2.2.2.2.1.1 ch14.2.2.2.2.2.2.1.2 ((gt x4 y10).2.2.2.2.2.2.1), .q yb ch14.2.2.2.2.2.2.2.1 ch14.2.2.2.2.2.2.2.2 ((gt x4 y10).2.2.2.2.2.2.2)]) rfl rfl fun a S => bindX h2 fun t12 et12 h3 => s_callP S _ N11 rfl rfl (smithyref23_Great.ok k ((gt x4 y10).1, (gt x4 y10).2.1, (gt x4 y10).2.2.1, (gt x4 y10).2.2.2.1, (gt x4 y10).2.2.2.2.1, (gt x4 y10).2.2.2.2.2.1, (gt x4 y10).2.2.2.2.2.2.1, (gt x4 y10).2.2.2.2.2.2.2) ch14.2.2.2.2.2.2.1.1 ch14.2.2.2.2.2.2.1.2 ch14.2.2.2.2.2.2.2.1 ch14.2.2.2.2.2.2.2.2 t12 et12 _ _) fun ch15 m le1 a w S => c_end ?_))
     rcases ite_of h3 with ⟨c19, h4⟩ | ⟨c19, h4⟩
     ·refine c_condT S rfl c19 (c_region (bindX h4 fun t13 et13 h5 => s_callP S _ N6 rfl rfl (smithylaw23_fixed.ok k t13 et13 _ _ (G.mono (S.leB hb))) fun ch16 m le1 a w S => s_assign S rfl rfl fun a S => c_end (wp_ret (x_blockR (x_thenR (x_thenR (x_blockR (x_thenR ?_))))))))
      obtain rfl := Option.some.inj h5
      exact b_ret1 (d := (.b t13)) S rfl rfl (S.rt hb)
     ·refine c_condF S rfl c19 (wp_skip (x_blockN (x_thenN (c_region' (s_bin S rfl rfl rfl rfl fun a S => s_move S rfl rfl fun a S => c_end' (x_thenN ?_))))))
      exact ⟨_, (wr .i64 (y10 + 1)), g43, (S.sb rfl (.c1 .n)), h4⟩
    ·refine c_condF S rfl c17 (wp_exit (x_thenX (x_thenX (x_blockX (x_thenN ?_)))))
     exact j2 _ g43 a w (S.sb rfl (.c0 .n)) h1
 refine c_region' (s_move S rfl rfl fun a S => s_lenS S rfl underlying42 rfl fun a S => s_bin S rfl rfl rfl rfl fun a S => s_move S rfl rfl fun a S => ?_)
 rcases ite_of h0 with ⟨c20, h1⟩ | ⟨c20, h1⟩
 ·refine s_gF S (b := (decide (20 < ((x4).length : Int)))) rfl rfl c20 rfl fun a S => s_gF S (b := (decide (20 < ((x4).length : Int)))) rfl rfl c20 rfl fun a S => s_gF S (b := (decide (20 < ((x4).length : Int)))) rfl rfl c20 rfl fun a S => s_pick S (b := true) (hc_of rfl c20) rfl rfl fun a S => c_end' (x_thenN ?_)
  exact j1 _ true g1 a w (S.sb rfl (.c0 .n)) h1
 ·refine s_gT S (b := (decide (20 < ((x4).length : Int)))) rfl rfl c20 (s_move S rfl rfl fun a S => s_gT S (b := (decide (20 < ((x4).length : Int)))) rfl rfl c20 (s_lenS S rfl underlying31 rfl fun a S => s_gT S (b := (decide (20 < ((x4).length : Int)))) rfl rfl c20 (s_bin S rfl rfl rfl rfl fun a S => s_pick S (b := false) (hc_of rfl c20) rfl rfl fun a S => c_end' (x_thenN ?_))))
  exact j1 _ (decide (100 < ((x5).length : Int))) g1 a w (S.sb rfl (.c0 .n)) h1
end GW
