import Derived.Test.YtkohappfcfimmaaDoorProg
import Derived.Test.YtkohappfcfimmaaDoorGA
set_option linter.unusedVariables false
set_option linter.unusedSimpArgs false
set_option maxRecDepth 10000
set_option maxHeartbeats 4000000
namespace GW
open Go Go.RowKit Go.Proofs Go.Proofs.Tryd
noncomputable section
abbrev bloom_Has.Ty : Type := (List Int) → (List Int) → Option Bool
def bloom_Has.Ctr (s : bloom_Has.Ty) : Prop := ∀ (x1 : List Int) (x2 : List Int) (ch_1_0 : Option Addr) (ch_1_1 : Nat) (r : Bool), CtG (C := Unit) Tryd.prog Glob 14 (s x1 x2 = some r) [] [(.agg [.ints .u8 x1 256]), (.q yb ch_1_0 ch_1_1 x2)] (fun _ => (.b r)) fun _ => []
def bloom_Has.j1 : Option Bool := some true
def bloom_Has.b1 (x1 : List Int) (t1 : (List Int)) (rec1 : Int → Option Bool) (y1 : Int) : Option Bool := if (decide (y1 < 3)) = true then (if (0 : Int) ≤ y1 ∧ y1 < 3 then (if (0 : Int) ≤ (wr .i64 (255 - (wr .i64 (Int.tdiv (rd t1 y1) 8)))) ∧ (wr .i64 (255 - (wr .i64 (Int.tdiv (rd t1 y1) 8)))) < 256 then (if (0 : Int) ≤ (Int.tmod (rd t1 y1) 8) then (if ((bits .and .u8 (shr (rd x1 (wr .i64 (255 - (wr .i64 (Int.tdiv (rd t1 y1) 8))))) (min (Int.toNat (Int.tmod (rd t1 y1) 8)) 8)) 1) == 0) = true then (some false) else (rec1 (wr .i64 (y1 + 1)))) else none) else none) else none) else bloom_Has.j1
def bloom_Has.l1 (x1 : List Int) (t1 : (List Int)) : Nat → Int → Option Bool
  | 0, _ => none
  | q + 1, y1 => bloom_Has.b1 x1 t1 (bloom_Has.l1 x1 t1 q) y1
def bloom_Has.f (k : Nat) (x1 : List Int) (x2 : List Int) : Option Bool := (bloom_places.f k x2).bind fun t1 => (bloom_Has.l1 x1 t1 k 0)
theorem bloom_Has.ok (k : Nat) : bloom_Has.Ctr (bloom_Has.f k) := by
 intro x1 x2 ch_1_0 ch_1_1 r h0 mi w0 G ok hm
 delta bloom_Has.f at h0
 refine c_enterZ (n := 23) ok hm func14 rfl rfl rfl fun b0 hb a S => c_region (s_box S rfl rfl rfl fun g1 a w S => s_assign S rfl rfl fun a S => c_end (wp_seq_k fun K1 hK1 => ?_))
 have j1 : ∀ m a w, St 23 m b0 [] [] a w → bloom_Has.j1 = some r → K1 a w := by
  intro m a w S h0
  delta bloom_Has.j1 at h0
  refine hK1 a w (c_region (s_assign S rfl rfl fun a S => c_end (wp_ret ?_)))
  obtain rfl := Option.some.inj h0
  exact b_ret1 (d := (.b true)) S rfl rfl (S.rt hb)
 refine c_region (s_move S rfl rfl fun a S => bindX h0 fun t1 et1 h1 => s_callP S _ N27 rfl rfl (bloom_places.ok k x2 ch_1_0 ch_1_1 t1 et1 _ _ (G.mono (S.leB hb))) fun ch1 m le1 a w S => s_move S rfl rfl fun a S => c_end (wp_block ?_))
 refine c_loop (fun q1 a w => ∃ m y1 g7, St 23 m b0 [(9, (.i y1)), (8, (.agg [.ints .i64 t1 3])), (2, (.p g7))] [Res.cells g7 24 [.ints .u8 x1 256]] a w ∧ bloom_Has.l1 x1 t1 q1 y1 = some r) ?_ ?_ (k := k) ⟨_, 0, g1, (S.sb rfl (.c0 .n)), h1⟩
 ·rintro a w ⟨m, y1, g7, S, h0⟩
  exact (nomatch (show (none : Option Bool) = some r from h0))
 ·clear S h1
  rintro q1 a w ⟨m, y1, g7, S, h0⟩
  replace h0 : bloom_Has.b1 x1 t1 (bloom_Has.l1 x1 t1 q1) y1 = some r := h0
  delta bloom_Has.b1 at h0
  refine c_region (s_bin S rfl rfl rfl rfl fun a S => c_end (wp_seq ?_))
  rcases ite_of h0 with ⟨c1, h1⟩ | ⟨c1, h1⟩
  ·refine c_condT S rfl c1 (wp_skip (x_thenN (wp_seq (wp_block (c_region ?_)))))
   obtain ⟨c2, h2⟩ := chk_of h1; clear h1
   refine s_index S rfl rfl underlying71 T3 c2.1 c2.2 rfl fun a S => s_assign S rfl rfl fun a S => c_end (c_region (s_move S rfl rfl fun a S => s_quo S rfl rfl (by decide) rfl fun a S => s_bin S rfl rfl rfl rfl fun a S => ?_))
   obtain ⟨c3, h3⟩ := chk_of h2; clear h2
   refine s_iaddr S rfl rfl underlying24 T5 c3.1 c3.2 (mul1 _ _) rfl fun a S => s_loadi S (i := (wr .i64 (255 - (wr .i64 (Int.tdiv (rd t1 y1) 8))))) rfl .h T5 .h rfl c3.1 c3.2 rfl fun a S => s_move S rfl rfl fun a S => s_rem S rfl rfl (by decide) rfl fun a S => ?_
   obtain ⟨c4, h4⟩ := chk_of h3; clear h3
   refine s_shr S (e := (min (Int.toNat (Int.tmod (rd t1 y1) 8)) 8)) rfl rfl c4 rfl rfl fun a S => s_bin S rfl rfl rfl rfl fun a S => s_bin S rfl rfl rfl rfl fun a S => c_end ?_
   rcases ite_of h4 with ⟨c5, h5⟩ | ⟨c5, h5⟩
   ·refine c_condT S rfl c5 (c_region (s_assign S rfl rfl fun a S => c_end (wp_ret (x_blockR (x_thenR (x_thenR (x_blockR (x_thenR ?_))))))))
    obtain rfl := Option.some.inj h5
    exact b_ret1 (d := (.b false)) S rfl rfl (S.rt hb)
   ·refine c_condF S rfl c5 (wp_skip (x_blockN (x_thenN (c_region' (s_bin S rfl rfl rfl rfl fun a S => s_move S rfl rfl fun a S => c_end' (x_thenN ?_))))))
    exact ⟨_, (wr .i64 (y1 + 1)), g7, (S.sb rfl (.c0 .n)), h5⟩
  ·refine c_condF S rfl c1 (wp_exit (x_thenX (x_thenX (x_blockX (x_thenN ?_)))))
   exact j1 _ a w (S.sub trivial .nil) h1
abbrev bloom_may.Ty : Type := (List Int) → (List Int) → (List (List Int)) → Option Bool
def bloom_may.Ctr (s : bloom_may.Ty) : Prop := ∀ (x1 : List Int) (x2 : List Int) (x3 : List (List Int)) (ch_2_0 : Option Addr) (ch_2_1 : Nat) (r : Bool), CtG (C := Unit) Tryd.prog Glob 30 (s x1 x2 x3 = some r) [] [(.agg [.ints .u8 x1 256]), (.agg [.b20 x2]), (.q (Ty.arr .u64 4) ch_2_0 ch_2_1 x3)] (fun _ => (.b r)) fun _ => []
def bloom_may.j1 (k : Nat) (x1 : List Int) (x2 : List Int) : Option Bool := (bloom_Has.f k x1 (((x2).drop 0).take 20)).bind fun t1 => (some t1)
def bloom_may.b1 (k : Nat) (x1 : List Int) (x2 : List Int) (x3 : List (List Int)) (rec1 : Int → Option Bool) (y1 : Int) : Option Bool := if (decide (y1 < ((x3).length : Int))) = true then (if (0 : Int) ≤ y1 ∧ y1 < ((x3).length : Int) then ((word_Bytes.f k (gt x3 y1)).bind fun t6 => ((bloom_Has.f k x1 (((t6).drop 0).take 32)).bind fun t7 => (if (!t7) = true then (some false) else (rec1 (wr .i64 (y1 + 1)))))) else none) else (bloom_may.j1 k x1 x2)
def bloom_may.l1 (k : Nat) (x1 : List Int) (x2 : List Int) (x3 : List (List Int)) : Nat → Int → Option Bool
  | 0, _ => none
  | q + 1, y1 => bloom_may.b1 k x1 x2 x3 (bloom_may.l1 k x1 x2 x3 q) y1
def bloom_may.f (k : Nat) (x1 : List Int) (x2 : List Int) (x3 : List (List Int)) : Option Bool := bloom_may.l1 k x1 x2 x3 k 0
theorem bloom_may.ok (k : Nat) : bloom_may.Ctr (bloom_may.f k) := by
 intro x1 x2 x3 ch_2_0 ch_2_1 r h0 mi w0 G ok hm
 delta bloom_may.f at h0
 refine c_enterZ (n := 26) ok hm func30 rfl rfl rfl fun b0 hb a S => c_region (s_box S rfl rfl rfl fun g1 a w S => s_box S rfl rfl rfl fun g2 a w S => s_assign S rfl rfl fun a S => c_end (wp_seq_k fun K1 hK1 => ?_))
 have j1 : ∀ m g13 g14 a w, St 26 m b0 [(4, (.p g13)), (3, (.p g14))] [Res.cells g13 34 [.b20 x2], Res.cells g14 24 [.ints .u8 x1 256]] a w → bloom_may.j1 k x1 x2 = some r → K1 a w := by
  intro m g13 g14 a w S h0
  delta bloom_may.j1 at h0
  refine hK1 a w ?_
  replace S := S.freeze .h
  obtain ⟨m, le1, S⟩ := S
  refine wp_seq (c_heldS S (.take 0 (.take 1 (.alts (.run 2 true (.take 3 .done) .nil)))) 4 [Res.fro g13 34 [.b20 x2], Res.cells g14 24 [.ints .u8 x1 256]] (.c0 (.c0 .n)) ⟨Res.stay_fro, Res.stay_cells, trivial⟩ [(4, (.p g13)), (3, (.p g14))] (subR rfl) (by kernel_rfl) (by kernel_rfl) ?_); clear S; intro w S CL hw le
  refine h_loada S CL hw le (subR rfl) rfl .h1 T24 (s' := [.ints .u8 x1 256]) rfl rfl rfl trivial fun a S CL => h_sliceA S CL hw le (subR rfl) (i := 0) (j := 20) (o' := 0) (len := 20) (cap := 20) rfl underlying34 T5 (.inl ⟨rfl, rfl⟩) (.inl ⟨rfl, rfl⟩) (by decide) rfl rfl rfl rfl rfl trivial fun a S CL => h_run' S rfl trivial ?_
  replace S := (S.slup' (u := 24) (lo := 0) (c := 20) (ys := ((x2).drop 0).take 20) rfl (Pull.mem .h).1 .h (.inl rfl) (by decide) (by decide) rfl).2
  replace CL := CL.drop (lq' := [(23, (.agg [.ints .u8 x1 256])), (4, (.p g13)), (3, (.p g14))]) (subR rfl)
  refine bindX h0 fun t1 et1 h1 => s_callP S _ N14 rfl rfl (bloom_Has.ok k x1 (((x2).drop 0).take 20) (ad g13) 20 t1 et1 _ _ (G.mono (S.leB hb))) fun ch1 m le1 a w S => ?_
  replace le := le.trans le1
  refine CL.bk hw S (.c0 (.c0 .n)) le fun hw => ?_
  replace CL := CL.add (t := 25) (d := (.b t1)) S rfl rfl
  refine h_assign S CL hw le (subR rfl) rfl rfl rfl trivial fun a S CL => ?_
  refine h_done ?_; clear CL hw le
  refine x_thenN (wp_ret ?_)
  obtain rfl := Option.some.inj h1
  exact b_ret1 (d := (.b t1)) S rfl rfl (S.rt hb)
 refine c_region (s_move S rfl rfl fun a S => s_lenS S rfl underlying35 rfl fun a S => s_move S rfl rfl fun a S => c_end (wp_block ?_))
 refine c_loop (fun q1 a w => ∃ m y1 g23 g24, St 26 m b0 [(12, (.i y1)), (11, (.i ((x3).length : Int))), (10, (.q (Ty.arr .u64 4) ch_2_0 ch_2_1 x3)), (4, (.p g23)), (3, (.p g24))] [Res.cells g23 34 [.b20 x2], Res.cells g24 24 [.ints .u8 x1 256]] a w ∧ bloom_may.l1 k x1 x2 x3 q1 y1 = some r) ?_ ?_ (k := k) ⟨_, 0, g2, g1, (S.sb rfl (.c0 (.c0 .n))), h0⟩
 ·rintro a w ⟨m, y1, g23, g24, S, h0⟩
  exact (nomatch (show (none : Option Bool) = some r from h0))
 ·clear S h0
  rintro q1 a w ⟨m, y1, g23, g24, S, h0⟩
  replace h0 : bloom_may.b1 k x1 x2 x3 (bloom_may.l1 k x1 x2 x3 q1) y1 = some r := h0
  delta bloom_may.b1 at h0
  refine c_region (s_bin S rfl rfl rfl rfl fun a S => c_end (wp_seq ?_))
  rcases ite_of h0 with ⟨c1, h1⟩ | ⟨c1, h1⟩
  ·refine c_condT S rfl c1 (wp_skip (x_thenN (wp_seq (wp_block (c_region ?_)))))
   obtain ⟨c2, h2⟩ := chk_of h1; clear h1
   refine s_iaddrS S rfl rfl rfl underlying35 T53 c2.1 c2.2 rfl fun p1 a S => s_ldA S (fun (c : Unit) => [.w4 (gt x3 y1)]) rfl T53 (fun _ => rfl) rfl fun ch2 a S => ?_
   refine s_alloc S Z53 rfl ⟨rfl, trivial⟩ rfl fun g25 a w S => s_store S rfl rfl rfl (s' := [.w4 (gt x3 y1)]) .h T53 rfl rfl fun w S => c_end (c_region (s_loada S rfl .h T53 (s' := [.w4 (gt x3 y1)]) rfl rfl fun a S => bindX h2 fun t6 et6 h3 => s_callP S _ N24 rfl rfl (word_Bytes.ok k (gt x3 y1) t6 et6 _ _) fun ch3 m le1 a w S => s_alloc S Z49 rfl ⟨rfl, trivial⟩ rfl fun g26 a w S => s_store S rfl rfl rfl (s' := [.b32 t6]) .h T49 rfl rfl fun w S => c_end ?_))
   replace S := S.freeze .h
   obtain ⟨m, le1, S⟩ := S
   refine wp_seq (c_heldS S (.take 0 (.take 1 (.alts (.run 2 true (.take 3 .done) .nil)))) 4 [Res.fro g26 49 [.b32 t6], Res.cells g25 53 [.w4 (gt x3 y1)], Res.cells g23 34 [.b20 x2], Res.cells g24 24 [.ints .u8 x1 256]] (.c0 (.c0 (.c0 (.c0 .n)))) ⟨Res.stay_fro, Res.stay_cells, Res.stay_cells, Res.stay_cells, trivial⟩ [(9, (.p g26)), (3, (.p g24))] (subR rfl) (by kernel_rfl) (by kernel_rfl) ?_); clear S; intro w S CL hw le
   refine h_loada S CL hw le (subR rfl) rfl .h3 T24 (s' := [.ints .u8 x1 256]) rfl rfl rfl trivial fun a S CL => h_sliceA S CL hw le (subR rfl) (i := 0) (j := 32) (o' := 0) (len := 32) (cap := 32) rfl underlying49 T5 (.inl ⟨rfl, rfl⟩) (.inl ⟨rfl, rfl⟩) (by decide) rfl rfl rfl rfl rfl trivial fun a S CL => h_run' S rfl trivial ?_
   replace S := (S.slup' (u := 19) (lo := 0) (c := 32) (ys := ((t6).drop 0).take 32) rfl (Pull.mem .h).1 .h (.inl rfl) (by decide) (by decide) rfl).2
   replace CL := CL.drop (lq' := [(18, (.agg [.ints .u8 x1 256])), (9, (.p g26)), (3, (.p g24))]) (subR rfl)
   refine bindX h3 fun t7 et7 h4 => s_callP S _ N14 rfl rfl (bloom_Has.ok k x1 (((t6).drop 0).take 32) (ad g26) 32 t7 et7 _ _ (G.mono (S.leB hb))) fun ch4 m le1 a w S => ?_
   replace le := le.trans le1
   refine CL.bk hw S (.c0 (.c0 (.c0 (.c0 .n)))) le fun hw => ?_
   replace CL := CL.add (t := 20) (d := (.b t7)) S rfl rfl
   refine h_not S CL hw le (subR rfl) rfl rfl rfl trivial fun a S CL => ?_
   refine h_done ?_; clear CL hw le
   refine x_thenN ?_
   rcases ite_of h4 with ⟨c3, h5⟩ | ⟨c3, h5⟩
   ·refine c_condT S rfl c3 (c_region (s_assign S rfl rfl fun a S => c_end (wp_ret (x_blockR (x_thenR (x_thenR (x_blockR (x_thenR ?_))))))))
    obtain rfl := Option.some.inj h5
    exact b_ret1 (d := (.b false)) S rfl rfl (S.rt hb)
   ·refine c_condF S rfl c3 (wp_skip (x_blockN (x_thenN (c_region' (s_bin S rfl rfl rfl rfl fun a S => s_move S rfl rfl fun a S => c_end' (x_thenN ?_))))))
    exact ⟨_, (wr .i64 (y1 + 1)), g23, g24, (S.sb rfl (.c2 (.c2 .n))), h5⟩
  ·refine c_condF S rfl c1 (wp_exit (x_thenX (x_thenX (x_blockX (x_thenN ?_)))))
   exact j1 _ g23 g24 a w (S.sb rfl (.c0 (.c0 .n))) h1
abbrev api_Word_n40.Ty : Type := (List (List Int)) → (List Int) → Option Int
def api_Word_n40.Ctr (s : api_Word_n40.Ty) : Prop := ∀ (x1 : List (List Int)) (x2 : List Int) (ch_0_0 : Option Addr) (ch_0_1 : Nat) (r : Int), Ct (C := Unit) Tryd.prog 40 (s x1 x2 = some r) [] [(.q (Ty.arr .u64 4) ch_0_0 ch_0_1 x1), (.a4 x2)] (fun _ => (.i r)) fun _ => []
def api_Word_n40.j1 : Option Int := some (-1)
def api_Word_n40.b1 (x1 : List (List Int)) (x2 : List Int) (rec1 : Int → Option Int) (y1 : Int) : Option Int := if (decide (y1 < ((x1).length : Int))) = true then (if (0 : Int) ≤ y1 ∧ y1 < ((x1).length : Int) then (if (decide (x2 = gt x1 y1)) = true then (some y1) else (rec1 (wr .i64 (y1 + 1)))) else none) else api_Word_n40.j1
def api_Word_n40.l1 (x1 : List (List Int)) (x2 : List Int) : Nat → Int → Option Int
  | 0, _ => none
  | q + 1, y1 => api_Word_n40.b1 x1 x2 (api_Word_n40.l1 x1 x2 q) y1
def api_Word_n40.f (k : Nat) (x1 : List (List Int)) (x2 : List Int) : Option Int := api_Word_n40.l1 x1 x2 k 0
theorem api_Word_n40.ok (k : Nat) : api_Word_n40.Ctr (api_Word_n40.f k) := by
 intro x1 x2 ch_0_0 ch_0_1 r h0 mi w0 ok hm
 delta api_Word_n40.f at h0
 refine c_enterZ (n := 19) ok hm func40 rfl rfl rfl fun b0 hb a S => c_region (s_box S rfl rfl rfl fun g1 a w S => s_assign S rfl rfl fun a S => c_end (wp_seq_k fun K1 hK1 => ?_))
 have j1 : ∀ m a w, St 19 m b0 [] [] a w → api_Word_n40.j1 = some r → K1 a w := by
  intro m a w S h0
  delta api_Word_n40.j1 at h0
  refine hK1 a w (c_region (s_assign S rfl rfl fun a S => c_end (wp_ret ?_)))
  obtain rfl := Option.some.inj h0
  exact b_ret1 (d := (.i (-1))) S rfl rfl (S.rt hb)
 refine c_region (s_move S rfl rfl fun a S => s_lenS S rfl underlying35 rfl fun a S => s_move S rfl rfl fun a S => c_end (wp_block ?_))
 refine c_loop (fun q1 a w => ∃ m y1 g7, St 19 m b0 [(8, (.i y1)), (7, (.i ((x1).length : Int))), (3, (.p g7)), (0, (.q (Ty.arr .u64 4) ch_0_0 ch_0_1 x1))] [Res.cells g7 53 [.w4 x2]] a w ∧ api_Word_n40.l1 x1 x2 q1 y1 = some r) ?_ ?_ (k := k) ⟨_, 0, g1, (S.sb rfl (.c0 .n)), h0⟩
 ·rintro a w ⟨m, y1, g7, S, h0⟩
  exact (nomatch (show (none : Option Int) = some r from h0))
 ·clear S h0
  rintro q1 a w ⟨m, y1, g7, S, h0⟩
  replace h0 : api_Word_n40.b1 x1 x2 (api_Word_n40.l1 x1 x2 q1) y1 = some r := h0
  delta api_Word_n40.b1 at h0
  refine c_region (s_bin S rfl rfl rfl rfl fun a S => c_end (wp_seq ?_))
  rcases ite_of h0 with ⟨c1, h1⟩ | ⟨c1, h1⟩
  ·refine c_condT S rfl c1 (wp_skip (x_thenN (wp_seq (wp_block (c_region (s_move S rfl rfl fun a S => s_assign S rfl rfl fun a S => c_end ?_))))))
   refine wp_seq (c_heldS S (.take 0 (.take 1 (.take 2 (.take 3 (.take 4 (.take 5 .done)))))) 6 [Res.cells g7 53 [.w4 x2]] (.c0 .n) ⟨Res.stay_cells, trivial⟩ [(5, (.i y1)), (3, (.p g7)), (0, (.q (Ty.arr .u64 4) ch_0_0 ch_0_1 x1))] (subR rfl) (by kernel_rfl) (by kernel_rfl) ?_); clear S; intro w S CL hw le
   refine h_loada S CL hw le (subR rfl) rfl .h T53 (s' := [.w4 x2]) rfl rfl rfl trivial fun a S CL => h_move S CL hw le (subR rfl) rfl rfl rfl trivial fun a S CL => h_move S CL hw le (subR rfl) rfl rfl rfl trivial fun a S CL => ?_
   obtain ⟨c2, h2⟩ := chk_of h1; clear h1
   refine h_iaddrS S CL hw le (subR rfl) rfl rfl rfl underlying35 T53 c2.1 c2.2 rfl rfl trivial fun p1 a S CL => h_ldA S CL hw le (subR rfl) (fun (c : Unit) => [.w4 (gt x1 y1)]) rfl T53 (fun _ => rfl) rfl rfl trivial fun ch1 a S CL => ?_
   refine h_eqa S CL hw le (subR rfl) rfl rfl underlying53 underlying51 T51 Q53 rfl rfl trivial fun a S CL => ?_
   refine h_done ?_; clear CL hw le
   refine x_thenN ?_
   rcases ite_of h2 with ⟨c3, h3⟩ | ⟨c3, h3⟩
   ·refine c_condT S rfl c3 (c_region (s_move S rfl rfl fun a S => s_assign S rfl rfl fun a S => c_end (wp_ret (x_blockR (x_thenR (x_thenR (x_blockR (x_thenR ?_))))))))
    obtain rfl := Option.some.inj h3
    exact b_ret1 (d := (.i y1)) S rfl rfl (S.rt hb)
   ·refine c_condF S rfl c3 (wp_skip (x_blockN (x_thenN (c_region' (s_bin S rfl rfl rfl rfl fun a S => s_move S rfl rfl fun a S => c_end' (x_thenN ?_))))))
    exact ⟨_, (wr .i64 (y1 + 1)), g7, (S.sb rfl (.c0 .n)), h3⟩
  ·refine c_condF S rfl c1 (wp_exit (x_thenX (x_thenX (x_blockX (x_thenN ?_)))))
   exact j1 _ a w (S.sub trivial .nil) h1
abbrev api_Word_n36.Ty : Type := (List (List Int)) → (List Int) → Option Bool
def api_Word_n36.Ctr (s : api_Word_n36.Ty) : Prop := ∀ (x1 : List (List Int)) (x2 : List Int) (ch_0_0 : Option Addr) (ch_0_1 : Nat) (r : Bool), Ct (C := Unit) Tryd.prog 36 (s x1 x2 = some r) [] [(.q (Ty.arr .u64 4) ch_0_0 ch_0_1 x1), (.a4 x2)] (fun _ => (.b r)) fun _ => []
def api_Word_n36.f (k : Nat) (x1 : List (List Int)) (x2 : List Int) : Option Bool := (api_Word_n40.f k x1 x2).bind fun t1 => (some (decide (0 ≤ t1)))
theorem api_Word_n36.ok (k : Nat) : api_Word_n36.Ctr (api_Word_n36.f k) := by
 intro x1 x2 ch_0_0 ch_0_1 r h0 mi w0 ok hm
 delta api_Word_n36.f at h0
 refine c_enterZ (n := 9) ok hm func36 rfl rfl rfl fun b0 hb a S => c_region (s_box S rfl rfl rfl fun g1 a w S => s_assign S rfl rfl fun a S => c_end (c_region (s_move S rfl rfl fun a S => s_loada S rfl .h T53 (s' := [.w4 x2]) rfl rfl fun a S => bindX h0 fun t1 et1 h1 => s_callP S _ N40 rfl rfl (api_Word_n40.ok k x1 x2 ch_0_0 ch_0_1 t1 et1 _ _) fun ch1 m le1 a w S => s_bin S rfl rfl rfl rfl fun a S => s_assign S rfl rfl fun a S => c_end (wp_ret ?_))))
 obtain rfl := Option.some.inj h1
 exact b_ret1 (d := (.b (decide (0 ≤ t1)))) S rfl rfl (S.rt hb)
abbrev bloom_fits.Ty : Type := (L38) → (List Int) → (List (List Int)) → Option Bool
def bloom_fits.Ctr (s : bloom_fits.Ty) : Prop := ∀ (x1 : L38) (x2 : List Int) (x3 : List (List Int)) (ch_0_0 : Option Addr) (ch_0_1 : Nat) (ch_0_2 : Option Addr) (ch_0_3 : Nat) (ch_2_0 : Option Addr) (ch_2_1 : Nat) (r : Bool), Ct (C := Unit) Tryd.prog 31 (s x1 x2 x3 = some r) [] [(.agg [.b20 x1.1, .q (Ty.arr .u64 4) ch_0_0 ch_0_1 x1.2.1, .q yb ch_0_2 ch_0_3 x1.2.2]), (.agg [.b20 x2]), (.q (Ty.arr .u64 4) ch_2_0 ch_2_1 x3)] (fun _ => (.b r)) fun _ => []
def bloom_fits.j1 (x1 : L38) (x2 : List Int) : Option Bool := some (decide (x1.1 = x2))
def bloom_fits.b1 (k : Nat) (x1 : L38) (x2 : List Int) (x3 : List (List Int)) (rec1 : Int → Option Bool) (y1 : Int) : Option Bool := if (decide (y1 < ((x3).length : Int))) = true then (if (0 : Int) ≤ y1 ∧ y1 < ((x3).length : Int) then ((api_Word_n36.f k x1.2.1 (gt x3 y1)).bind fun t1 => (if (!t1) = true then (some false) else (rec1 (wr .i64 (y1 + 1))))) else none) else (bloom_fits.j1 x1 x2)
def bloom_fits.l1 (k : Nat) (x1 : L38) (x2 : List Int) (x3 : List (List Int)) : Nat → Int → Option Bool
  | 0, _ => none
  | q + 1, y1 => bloom_fits.b1 k x1 x2 x3 (bloom_fits.l1 k x1 x2 x3 q) y1
def bloom_fits.f (k : Nat) (x1 : L38) (x2 : List Int) (x3 : List (List Int)) : Option Bool := bloom_fits.l1 k x1 x2 x3 k 0
theorem bloom_fits.ok (k : Nat) : bloom_fits.Ctr (bloom_fits.f k) := by
 intro x1 x2 x3 ch_0_0 ch_0_1 ch_0_2 ch_0_3 ch_2_0 ch_2_1 r h0 mi w0 ok hm
 delta bloom_fits.f at h0
 refine c_enterZ (n := 25) ok hm func31 rfl rfl rfl fun b0 hb a S => c_region (s_box S rfl rfl rfl fun g1 a w S => s_box S rfl rfl rfl fun g2 a w S => s_assign S rfl rfl fun a S => c_end (wp_seq_k fun K1 hK1 => ?_))
 have j1 : ∀ m g11 g12 a w, St 25 m b0 [(4, (.p g11)), (3, (.p g12))] [Res.cells g11 34 [.b20 x2], Res.cells g12 38 [.b20 x1.1, .q (Ty.arr .u64 4) ch_0_0 ch_0_1 x1.2.1, .q yb ch_0_2 ch_0_3 x1.2.2]] a w → bloom_fits.j1 x1 x2 = some r → K1 a w := by
  intro m g11 g12 a w S h0
  delta bloom_fits.j1 at h0
  refine hK1 a w (c_region (s_fieldAddr S rfl I38_0 T34 (by decide) rfl rfl fun a S => s_loada S rfl .h1 T34 (s' := [.b20 x1.1]) rfl rfl fun a S => s_loada S rfl .h T34 (s' := [.b20 x2]) rfl rfl fun a S => s_eqa S rfl rfl underlying34 underlying5 T5 Q34 rfl fun a S => s_assign S rfl rfl fun a S => c_end (wp_ret ?_)))
  obtain rfl := Option.some.inj h0
  exact b_ret1 (d := (.b (decide (x1.1 = x2)))) S rfl rfl (S.rt hb)
 refine c_region (s_move S rfl rfl fun a S => s_lenS S rfl underlying35 rfl fun a S => s_move S rfl rfl fun a S => c_end (wp_block ?_))
 refine c_loop (fun q1 a w => ∃ m y1 g19 g20, St 25 m b0 [(11, (.i y1)), (10, (.i ((x3).length : Int))), (9, (.q (Ty.arr .u64 4) ch_2_0 ch_2_1 x3)), (4, (.p g19)), (3, (.p g20))] [Res.cells g19 34 [.b20 x2], Res.cells g20 38 [.b20 x1.1, .q (Ty.arr .u64 4) ch_0_0 ch_0_1 x1.2.1, .q yb ch_0_2 ch_0_3 x1.2.2]] a w ∧ bloom_fits.l1 k x1 x2 x3 q1 y1 = some r) ?_ ?_ (k := k) ⟨_, 0, g2, g1, (S.sb rfl (.c0 (.c0 .n))), h0⟩
 ·rintro a w ⟨m, y1, g19, g20, S, h0⟩
  exact (nomatch (show (none : Option Bool) = some r from h0))
 ·clear S h0
  rintro q1 a w ⟨m, y1, g19, g20, S, h0⟩
  replace h0 : bloom_fits.b1 k x1 x2 x3 (bloom_fits.l1 k x1 x2 x3 q1) y1 = some r := h0
  delta bloom_fits.b1 at h0
  refine c_region (s_bin S rfl rfl rfl rfl fun a S => c_end (wp_seq ?_))
  rcases ite_of h0 with ⟨c1, h1⟩ | ⟨c1, h1⟩
  ·refine c_condT S rfl c1 (wp_skip (x_thenN (wp_seq (wp_block (c_region ?_)))))
   obtain ⟨c2, h2⟩ := chk_of h1; clear h1
   refine s_iaddrS S rfl rfl rfl underlying35 T53 c2.1 c2.2 rfl fun p1 a S => s_ldA S (fun (c : Unit) => [.w4 (gt x3 y1)]) rfl T53 (fun _ => rfl) rfl fun ch1 a S => ?_
   refine s_alloc S Z53 rfl ⟨rfl, trivial⟩ rfl fun g21 a w S => s_store S rfl rfl rfl (s' := [.w4 (gt x3 y1)]) .h T53 rfl rfl fun w S => c_end (c_region (s_fieldAddr S rfl I38_1 T35 (by decide) rfl rfl fun a S => s_loadSl S rfl .h2 T35 (A := ch_0_0) (len := (x1.2.1).length) (cap := ch_0_1) rfl rfl fun a S => s_loada S rfl .h T53 (s' := [.w4 (gt x3 y1)]) rfl rfl fun a S => bindX h2 fun t1 et1 h3 => s_callP S _ N36 rfl rfl (api_Word_n36.ok k x1.2.1 (gt x3 y1) ch_0_0 ch_0_1 t1 et1 _ _) fun ch2 m le1 a w S => s_not S rfl rfl fun a S => c_end ?_))
   rcases ite_of h3 with ⟨c3, h4⟩ | ⟨c3, h4⟩
   ·refine c_condT S rfl c3 (c_region (s_assign S rfl rfl fun a S => c_end (wp_ret (x_blockR (x_thenR (x_thenR (x_blockR (x_thenR ?_))))))))
    obtain rfl := Option.some.inj h4
    exact b_ret1 (d := (.b false)) S rfl rfl (S.rt hb)
   ·refine c_condF S rfl c3 (wp_skip (x_blockN (x_thenN (c_region' (s_bin S rfl rfl rfl rfl fun a S => s_move S rfl rfl fun a S => c_end' (x_thenN ?_))))))
    exact ⟨_, (wr .i64 (y1 + 1)), g19, g20, (S.sb rfl (.c1 (.c1 .n))), h4⟩
  ·refine c_condF S rfl c1 (wp_exit (x_thenX (x_thenX (x_blockX (x_thenN ?_)))))
   exact j1 _ g19 g20 a w (S.sb rfl (.c0 (.c0 .n))) h1
abbrev api_Word_n32.Ty : Type := (List (List Int)) → Option ((List (List Int)))
def api_Word_n32.Ctr (s : api_Word_n32.Ty) : Prop := ∀ (x1 : List (List Int)) (ch_0_0 : Option Addr) (ch_0_1 : Nat) (r : (List (List Int))), Ct (C := ((Option Addr) × Nat × Nat)) Tryd.prog 32 (s x1 = some r) [] [(.q (Ty.arr .u64 4) ch_0_0 ch_0_1 x1)] (fun ch => (.s ch.1 ch.2.1 ch.2.2)) fun ch => [Res.row (Ty.arr .u64 4) 53 ch.1 ch.2.1 ch.2.2 r]
def api_Word_n32.f (x1 : List (List Int)) : Option ((List (List Int))) := if ((([] : List (List Int))).length + (x1).length) * 32 ≤ 140737488355328 then (some (([] : List (List Int)) ++ x1)) else none
theorem api_Word_n32.ok : api_Word_n32.Ctr (api_Word_n32.f) := by
 intro x1 ch_0_0 ch_0_1 r h0 mi w0 ok hm
 delta api_Word_n32.f at h0
 refine c_enterZ (n := 8) ok hm func32 rfl rfl rfl fun b0 hb a S => c_region (s_assign S rfl rfl fun a S => c_end (wp_seq (c_region (s_move S rfl rfl fun a S => s_eqnil S (b := (ch_0_0).isNone) (d := (.q (Ty.arr .u64 4) ch_0_0 ch_0_1 x1)) rfl rfl underlying35 rfl rfl rfl fun a S => c_end ?_))))
 cases hc : (ch_0_0).isNone
 ·refine c_condF S rfl hc (wp_skip (x_thenN (c_region (s_bldSl S (ty' := (Ty.arr .u64 4)) (ds := []) (z := [0, 0, 0, 0]) (c0 := ()) (ys := ([] : List (List Int))) (cs := []) rfl underlying35 J53 Z53 rfl ⟨rfl, trivial⟩ rfl rfl rfl rfl rfl rfl fun g1 a w S => s_move S rfl rfl fun a S => ?_))))
  obtain ⟨c1, h1⟩ := chk_of h0; clear h0
  refine s_app S (k2 := ((x1).length)) (ys := x1) rfl (fun _ _ => .h) rfl rfl rfl (RdS.src (S.get 6 (.q (Ty.arr .u64 4) ch_0_0 ch_0_1 x1) rfl).2.2.2.1 (by decide) S.frz) underlying35 J53 c1 rfl fun A1 cp1 a w S => s_assign S rfl rfl fun a S => c_end (wp_ret ?_)
  obtain rfl := Option.some.inj h1
  exact b_ret1 (d := (.s A1 (0 + ((x1).length)) cp1)) S rfl rfl fun ok => S.retX (Hx := []) hb _ _ ((A1, 0 + ((x1).length), cp1) : (Option Addr) × Nat × Nat) (.c0 .n) ok
 ·have hxs : x1 = [] := rd_nil hc (S.get 3 (.q (Ty.arr .u64 4) ch_0_0 ch_0_1 x1) rfl).2.2.2.1
  have h1 : (some ([] : List (List Int))) = some r := by simpa [hxs] using h0
  clear h0
  refine c_condT S rfl hc (c_region (s_assign S rfl rfl fun a S => c_end (wp_ret (x_thenR ?_))))
  replace S := S.nilrow (Ty.arr .u64 4) 53
  replace S := S.slot (u := 2) (d' := (.s none 0 0)) rfl rfl (S.get 2 (.s none 0 0) rfl).2
  obtain rfl := Option.some.inj h1
  exact b_ret1 (d := (.s none 0 0)) S rfl rfl fun ok => S.retX (Hx := []) hb _ _ ((none, 0, 0) : (Option Addr) × Nat × Nat) (.c0 .n) ok
abbrev slices_Clone_byte_byte.Ty : Type := (List Int) → Option ((List Int))
def slices_Clone_byte_byte.Ctr (s : slices_Clone_byte_byte.Ty) : Prop := ∀ (x1 : List Int) (ch_0_0 : Option Addr) (ch_0_1 : Nat) (r : (List Int)), Ct (C := ((Option Addr) × Nat × Nat)) Tryd.prog 33 (s x1 = some r) [] [(.q yb ch_0_0 ch_0_1 x1)] (fun ch => (.s ch.1 ch.2.1 ch.2.2)) fun ch => [Res.row yb 5 ch.1 ch.2.1 ch.2.2 r]
def slices_Clone_byte_byte.f (x1 : List Int) : Option ((List Int)) := if ((([] : List Int)).length + (x1).length) * 1 ≤ 140737488355328 then (some (([] : List Int) ++ x1)) else none
theorem slices_Clone_byte_byte.ok : slices_Clone_byte_byte.Ctr (slices_Clone_byte_byte.f) := by
 intro x1 ch_0_0 ch_0_1 r h0 mi w0 ok hm
 delta slices_Clone_byte_byte.f at h0
 refine c_enterZ (n := 8) ok hm func33 rfl rfl rfl fun b0 hb a S => c_region (s_assign S rfl rfl fun a S => c_end (wp_seq (c_region (s_move S rfl rfl fun a S => s_eqnil S (b := (ch_0_0).isNone) (d := (.q yb ch_0_0 ch_0_1 x1)) rfl rfl underlying36 rfl rfl rfl fun a S => c_end ?_))))
 cases hc : (ch_0_0).isNone
 ·refine c_condF S rfl hc (wp_skip (x_thenN (c_region (s_bldSl S (ty' := yb) (ds := []) (z := 0) (c0 := ()) (ys := ([] : List Int)) (cs := []) rfl underlying36 J5 Z5 rfl ⟨rfl, trivial⟩ rfl rfl rfl rfl rfl rfl fun g1 a w S => s_move S rfl rfl fun a S => ?_))))
  obtain ⟨c1, h1⟩ := chk_of h0; clear h0
  refine s_app S (k2 := ((x1).length)) (ys := x1) rfl (fun _ _ => .h) rfl rfl rfl (RdS.src (S.get 6 (.q yb ch_0_0 ch_0_1 x1) rfl).2.2.2.1 (by decide) S.frz) underlying36 J5 c1 rfl fun A1 cp1 a w S => s_assign S rfl rfl fun a S => c_end (wp_ret ?_)
  obtain rfl := Option.some.inj h1
  exact b_ret1 (d := (.s A1 (0 + ((x1).length)) cp1)) S rfl rfl fun ok => S.retX (Hx := []) hb _ _ ((A1, 0 + ((x1).length), cp1) : (Option Addr) × Nat × Nat) (.c0 .n) ok
 ·have hxs : x1 = [] := rd_nil hc (S.get 3 (.q yb ch_0_0 ch_0_1 x1) rfl).2.2.2.1
  have h1 : (some ([] : List Int)) = some r := by simpa [hxs] using h0
  clear h0
  refine c_condT S rfl hc (c_region (s_assign S rfl rfl fun a S => c_end (wp_ret (x_thenR ?_))))
  replace S := S.nilrow yb 5
  replace S := S.slot (u := 2) (d' := (.s none 0 0)) rfl rfl (S.get 2 (.s none 0 0) rfl).2
  obtain rfl := Option.some.inj h1
  exact b_ret1 (d := (.s none 0 0)) S rfl rfl fun ok => S.retX (Hx := []) hb _ _ ((none, 0, 0) : (Option Addr) × Nat × Nat) (.c0 .n) ok
abbrev bloom_Find.Ty : Type := (List L59) → (List Int) → (List (List Int)) → Option ((List L38))
def bloom_Find.Ctr (s : bloom_Find.Ty) : Prop := ∀ (x1 : List L59) (x2 : List Int) (x3 : List (List Int)) (ch_0_0 : Option Addr) (ch_0_1 : Nat) (ch_2_0 : Option Addr) (ch_2_1 : Nat) (r : (List L38)), CtG (C := ((Option Addr) × Nat × Nat × Mem)) Tryd.prog Glob 21 (s x1 x2 x3 = some r) [] [(.q Y59 ch_0_0 ch_0_1 x1), (.agg [.b20 x2]), (.q (Ty.arr .u64 4) ch_2_0 ch_2_1 x3)] (fun ch => (.s ch.1 ch.2.1 ch.2.2.1)) fun ch => [Res.row (Ty.atZ ch.2.2.2 Y38) 38 ch.1 ch.2.1 ch.2.2.1 r, Res.priv ch.2.2.2]
def bloom_Find.j1 (y1 : List L38) : Option ((List L38)) := some y1
def bloom_Find.j2 (y43 : Int) (rec1 : (List L38) → Int → Option ((List L38))) (y62 : List L38) : Option ((List L38)) := rec1 y62 (wr .i64 (y43 + 1))
def bloom_Find.j3 (y79 : Int) (rec2 : Int → (List L38) → Option ((List L38))) (y87 : List L38) : Option ((List L38)) := rec2 (wr .i64 (y79 + 1)) y87
def bloom_Find.j4 (y92 : Int) (rec3 : Int → (List L38) → Option ((List L38))) (y94 : List L38) : Option ((List L38)) := rec3 (wr .i64 (y92 + 1)) y94
def bloom_Find.b3 (k : Nat) (x1 : List L59) (x2 : List Int) (x3 : List (List Int)) (y43 : Int) (y79 : Int) (rec2 : Int → (List L38) → Option ((List L38))) (rec3 : Int → (List L38) → Option ((List L38))) (y92 : Int) (y93 : List L38) : Option ((List L38)) := if (decide (y92 < (((gt ((gt x1 y43).2.2.2) y79).2.2.2.2.2.2.1).length : Int))) = true then (if (0 : Int) ≤ y92 ∧ y92 < (((gt ((gt x1 y43).2.2.2) y79).2.2.2.2.2.2.1).length : Int) then ((bloom_fits.f k (gt ((gt ((gt x1 y43).2.2.2) y79).2.2.2.2.2.2.1) y92) x2 x3).bind fun t6 => (if t6 = true then ((api_Word_n32.f ((gt ((gt ((gt x1 y43).2.2.2) y79).2.2.2.2.2.2.1) y92).2.1)).bind fun t7 => ((slices_Clone_byte_byte.f ((gt ((gt ((gt x1 y43).2.2.2) y79).2.2.2.2.2.2.1) y92).2.2)).bind fun t8 => (if ((y93).length + ([((gt ((gt ((gt x1 y43).2.2.2) y79).2.2.2.2.2.2.1) y92).1, t7, t8)]).length) * 72 ≤ 140737488355328 then (bloom_Find.j4 y92 rec3 (y93 ++ [((gt ((gt ((gt x1 y43).2.2.2) y79).2.2.2.2.2.2.1) y92).1, t7, t8)])) else none))) else (bloom_Find.j4 y92 rec3 y93))) else none) else (bloom_Find.j3 y79 rec2 y93)
def bloom_Find.l3 (k : Nat) (x1 : List L59) (x2 : List Int) (x3 : List (List Int)) (y43 : Int) (y79 : Int) (rec2 : Int → (List L38) → Option ((List L38))) : Nat → Int → (List L38) → Option ((List L38))
  | 0, _, _ => none
  | q + 1, y92, y93 => bloom_Find.b3 k x1 x2 x3 y43 y79 rec2 (bloom_Find.l3 k x1 x2 x3 y43 y79 rec2 q) y92 y93
def bloom_Find.b2 (k : Nat) (x1 : List L59) (x2 : List Int) (x3 : List (List Int)) (y43 : Int) (rec1 : (List L38) → Int → Option ((List L38))) (rec2 : Int → (List L38) → Option ((List L38))) (y79 : Int) (y80 : List L38) : Option ((List L38)) := if (decide (y79 < (((gt x1 y43).2.2.2).length : Int))) = true then (if (0 : Int) ≤ y79 ∧ y79 < (((gt x1 y43).2.2.2).length : Int) then ((bloom_Of.f k ((gt ((gt x1 y43).2.2.2) y79).2.2.2.2.2.2.1)).bind fun t1 => ((bloom_may.f k t1 x2 x3).bind fun t2 => (if (!t2) = true then (bloom_Find.j3 y79 rec2 y80) else (bloom_Find.l3 k x1 x2 x3 y43 y79 rec2 k 0 y80)))) else none) else (bloom_Find.j2 y43 rec1 y80)
def bloom_Find.l2 (k : Nat) (x1 : List L59) (x2 : List Int) (x3 : List (List Int)) (y43 : Int) (rec1 : (List L38) → Int → Option ((List L38))) : Nat → Int → (List L38) → Option ((List L38))
  | 0, _, _ => none
  | q + 1, y79, y80 => bloom_Find.b2 k x1 x2 x3 y43 rec1 (bloom_Find.l2 k x1 x2 x3 y43 rec1 q) y79 y80
def bloom_Find.b1 (k : Nat) (x1 : List L59) (x2 : List Int) (x3 : List (List Int)) (rec1 : (List L38) → Int → Option ((List L38))) (y42 : List L38) (y43 : Int) : Option ((List L38)) := if (decide (y43 < ((x1).length : Int))) = true then (if (0 : Int) ≤ y43 ∧ y43 < ((x1).length : Int) then (bloom_Find.l2 k x1 x2 x3 y43 rec1 k 0 y42) else none) else (bloom_Find.j1 y42)
def bloom_Find.l1 (k : Nat) (x1 : List L59) (x2 : List Int) (x3 : List (List Int)) : Nat → (List L38) → Int → Option ((List L38))
  | 0, _, _ => none
  | q + 1, y42, y43 => bloom_Find.b1 k x1 x2 x3 (bloom_Find.l1 k x1 x2 x3 q) y42 y43
def bloom_Find.f (k : Nat) (x1 : List L59) (x2 : List Int) (x3 : List (List Int)) : Option ((List L38)) := bloom_Find.l1 k x1 x2 x3 k ([] : List L38) 0
theorem bloom_Find.ok (k : Nat) : bloom_Find.Ctr (bloom_Find.f k) := by
 intro x1 x2 x3 ch_0_0 ch_0_1 ch_2_0 ch_2_1 r h0 mi w0 G ok hm
 delta bloom_Find.f at h0
 refine c_enterZ (n := 61) ok hm func21 rfl rfl rfl fun b0 hb a S => ?_
 replace S := S.privnew
 refine c_region (s_box S rfl rfl rfl fun g1 a w S => s_assign S rfl rfl fun a S => c_end (c_region (s_assign S rfl rfl fun a S => c_end (wp_seq_k fun K1 hK1 => ?_))))
 have j1 : ∀ m A1 nn1 cp1 y1 Z1 a w, St 61 m b0 [(7, (.s A1 nn1 cp1))] [Res.row (Ty.atZ Z1 Y38) 38 A1 nn1 cp1 y1, Res.priv Z1] a w → bloom_Find.j1 y1 = some r → K1 a w := by
  intro m A1 nn1 cp1 y1 Z1 a w S h0
  delta bloom_Find.j1 at h0
  refine hK1 a w (c_region (s_move S rfl rfl fun a S => s_assign S rfl rfl fun a S => c_end (wp_ret ?_)))
  obtain rfl := Option.some.inj h0
  exact b_ret1 (d := (.s A1 nn1 cp1)) S rfl rfl fun ok => S.retX (Hx := []) hb _ _ ((A1, nn1, cp1, Z1) : (Option Addr) × Nat × Nat × Mem) (.c0 (.c0 .n)) ok
 refine c_region (s_move S rfl rfl fun a S => s_lenS S rfl underlying48 rfl fun a S => s_move S rfl rfl fun a S => c_end (wp_block ?_))
 replace S := S.nilrow (Ty.atZ GW.m0 Y38) 38
 refine c_loop (fun q1 a w => ∃ m A2 nn29 cp55 y42 Z2 y43 g115, St 61 m b0 [(7, (.s A2 nn29 cp55)), (16, (.i y43)), (15, (.i ((x1).length : Int))), (14, (.q Y59 ch_0_0 ch_0_1 x1)), (4, (.p g115)), (2, (.q (Ty.arr .u64 4) ch_2_0 ch_2_1 x3))] [Res.row (Ty.atZ Z2 Y38) 38 A2 nn29 cp55 y42, Res.cells g115 34 [.b20 x2], Res.priv Z2] a w ∧ bloom_Find.l1 k x1 x2 x3 q1 y42 y43 = some r) ?_ ?_ (k := k) ⟨_, none, 0, 0, ([] : List L38), GW.m0, 0, g1, (S.sb rfl (.c0 (.c0 (.c0 .n)))), h0⟩
 ·rintro a w ⟨m, A2, nn29, cp55, y42, Z2, y43, g115, S, h0⟩
  exact (nomatch (show (none : Option ((List L38))) = some r from h0))
 ·clear S h0
  rintro q1 a w ⟨m, A2, nn29, cp55, y42, Z2, y43, g115, S, h0⟩
  replace h0 : bloom_Find.b1 k x1 x2 x3 (bloom_Find.l1 k x1 x2 x3 q1) y42 y43 = some r := h0
  delta bloom_Find.b1 at h0
  refine c_region (s_bin S rfl rfl rfl rfl fun a S => c_end (wp_seq ?_))
  rcases ite_of h0 with ⟨c1, h1⟩ | ⟨c1, h1⟩
  ·refine c_condT S rfl c1 (wp_skip (x_thenN (wp_seq_k fun K2 hK2 => ?_)))
   have j2 : ∀ m A3 nn42 cp81 y62 Z3 g142 a w, St 61 m b0 [(7, (.s A3 nn42 cp81)), (16, (.i y43)), (15, (.i ((x1).length : Int))), (14, (.q Y59 ch_0_0 ch_0_1 x1)), (4, (.p g142)), (2, (.q (Ty.arr .u64 4) ch_2_0 ch_2_1 x3))] [Res.row (Ty.atZ Z3 Y38) 38 A3 nn42 cp81 y62, Res.cells g142 34 [.b20 x2], Res.priv Z3] a w → bloom_Find.j2 y43 (bloom_Find.l1 k x1 x2 x3 q1) y62 = some r → K2 a w := by
    intro m A3 nn42 cp81 y62 Z3 g142 a w S h0
    delta bloom_Find.j2 at h0
    refine hK2 a w (c_region' (s_bin S rfl rfl rfl rfl fun a S => s_move S rfl rfl fun a S => c_end' (x_thenN ?_)))
    exact ⟨_, A3, nn42, cp81, y62, Z3, (wr .i64 (y43 + 1)), g142, (S.sb rfl (.c0 (.c0 (.c0 .n)))), h0⟩
   refine wp_block (c_region ?_)
   obtain ⟨c2, h2⟩ := chk_of h1; clear h1
   refine s_iaddrS S rfl rfl rfl underlying48 T59 c2.1 c2.2 rfl fun p1 a S => s_ldA S (fun (c : (Unit × Unit × Unit × Unit × Unit × Unit × Unit × Unit × Unit × Unit) × Unit × (Option Addr × Nat) × (Option Addr × Nat)) => [.b32 (((gt x1 y43).1).1), .w (((gt x1 y43).1).2.1), .w (((gt x1 y43).1).2.2.1), .w (((gt x1 y43).1).2.2.2.1), .w (((gt x1 y43).1).2.2.2.2.1), .w4 (((gt x1 y43).1).2.2.2.2.2.1), .b20 (((gt x1 y43).1).2.2.2.2.2.2.1), .w4 (((gt x1 y43).1).2.2.2.2.2.2.2.1), .b32 (((gt x1 y43).1).2.2.2.2.2.2.2.2.1), .b32 (((gt x1 y43).1).2.2.2.2.2.2.2.2.2), .b32 ((gt x1 y43).2.1), .q (Ty.arr .u8 32) c.2.2.1.1 c.2.2.1.2 ((gt x1 y43).2.2.1), .q Y61 c.2.2.2.1 c.2.2.2.2 ((gt x1 y43).2.2.2)]) rfl T59 (fun _ => rfl) rfl fun ch1 a S => ?_
   refine s_alloc S Z59 rfl ⟨rfl, rfl, rfl, rfl, rfl, rfl, rfl, rfl, rfl, rfl, rfl, rfl, rfl, trivial⟩ rfl fun g143 a w S => s_store S rfl rfl rfl (s' := [.b32 (((gt x1 y43).1).1), .w (((gt x1 y43).1).2.1), .w (((gt x1 y43).1).2.2.1), .w (((gt x1 y43).1).2.2.2.1), .w (((gt x1 y43).1).2.2.2.2.1), .w4 (((gt x1 y43).1).2.2.2.2.2.1), .b20 (((gt x1 y43).1).2.2.2.2.2.2.1), .w4 (((gt x1 y43).1).2.2.2.2.2.2.2.1), .b32 (((gt x1 y43).1).2.2.2.2.2.2.2.2.1), .b32 (((gt x1 y43).1).2.2.2.2.2.2.2.2.2), .b32 ((gt x1 y43).2.1), .q (Ty.arr .u8 32) ch1.2.2.1.1 ch1.2.2.1.2 ((gt x1 y43).2.2.1), .q Y61 ch1.2.2.2.1 ch1.2.2.2.2 ((gt x1 y43).2.2.2)]) .h T59 rfl rfl fun w S => c_end (c_region (s_fieldAddr S rfl I59_3 T57 (by decide) rfl rfl fun a S => s_loadSl S rfl .h T57 (A := ch1.2.2.2.1) (len := ((gt x1 y43).2.2.2).length) (cap := ch1.2.2.2.2) rfl rfl fun a S => s_lenS S rfl underlying57 rfl fun a S => s_move S rfl rfl fun a S => c_end (wp_block ?_)))
   refine c_loop (fun q2 a w => ∃ m y79 A4 cp105 A5 nn54 cp106 y80 Z4 g168, St 61 m b0 [(23, (.i y79)), (22, (.i (((gt x1 y43).2.2.2).length : Int))), (21, (.q Y61 A4 cp105 ((gt x1 y43).2.2.2))), (7, (.s A5 nn54 cp106)), (16, (.i y43)), (15, (.i ((x1).length : Int))), (14, (.q Y59 ch_0_0 ch_0_1 x1)), (4, (.p g168)), (2, (.q (Ty.arr .u64 4) ch_2_0 ch_2_1 x3))] [Res.row (Ty.atZ Z4 Y38) 38 A5 nn54 cp106 y80, Res.cells g168 34 [.b20 x2], Res.priv Z4] a w ∧ bloom_Find.l2 k x1 x2 x3 y43 (bloom_Find.l1 k x1 x2 x3 q1) q2 y79 y80 = some r) ?_ ?_ (k := k) ⟨_, 0, ch1.2.2.2.1, ch1.2.2.2.2, A2, nn29, cp55, y42, Z2, g115, (S.sb rfl (.c1 (.c1 (.c1 .n)))), h2⟩
   ·rintro a w ⟨m, y79, A4, cp105, A5, nn54, cp106, y80, Z4, g168, S, h0⟩
    exact (nomatch (show (none : Option ((List L38))) = some r from h0))
   ·clear S h2
    rintro q2 a w ⟨m, y79, A4, cp105, A5, nn54, cp106, y80, Z4, g168, S, h0⟩
    replace h0 : bloom_Find.b2 k x1 x2 x3 y43 (bloom_Find.l1 k x1 x2 x3 q1) (bloom_Find.l2 k x1 x2 x3 y43 (bloom_Find.l1 k x1 x2 x3 q1) q2) y79 y80 = some r := h0
    delta bloom_Find.b2 at h0
    refine c_region (s_bin S rfl rfl rfl rfl fun a S => c_end (wp_seq ?_))
    rcases ite_of h0 with ⟨c3, h1⟩ | ⟨c3, h1⟩
    ·refine c_condT S rfl c3 (wp_skip (x_thenN (wp_seq_k fun K3 hK3 => ?_)))
     have j3 : ∀ m A6 nn59 cp116 y87 Z5 g179 a w, St 61 m b0 [(23, (.i y79)), (22, (.i (((gt x1 y43).2.2.2).length : Int))), (21, (.q Y61 A4 cp105 ((gt x1 y43).2.2.2))), (7, (.s A6 nn59 cp116)), (16, (.i y43)), (15, (.i ((x1).length : Int))), (14, (.q Y59 ch_0_0 ch_0_1 x1)), (4, (.p g179)), (2, (.q (Ty.arr .u64 4) ch_2_0 ch_2_1 x3))] [Res.row (Ty.atZ Z5 Y38) 38 A6 nn59 cp116 y87, Res.cells g179 34 [.b20 x2], Res.priv Z5] a w → bloom_Find.j3 y79 (bloom_Find.l2 k x1 x2 x3 y43 (bloom_Find.l1 k x1 x2 x3 q1) q2) y87 = some r → K3 a w := by
      intro m A6 nn59 cp116 y87 Z5 g179 a w S h0
      delta bloom_Find.j3 at h0
      refine hK3 a w (c_region' (s_bin S rfl rfl rfl rfl fun a S => s_move S rfl rfl fun a S => c_end' (x_thenN ?_)))
      exact ⟨_, (wr .i64 (y79 + 1)), A4, cp105, A6, nn59, cp116, y87, Z5, g179, (S.sb rfl (.c0 (.c0 (.c0 .n)))), h0⟩
     refine wp_block (c_region ?_)
     obtain ⟨c4, h2⟩ := chk_of h1; clear h1
     refine s_iaddrS S rfl rfl rfl underlying57 T61 c4.1 c4.2 rfl fun p3 a S => s_ldA S (fun (c : Unit × Unit × Unit × Unit × Unit × Unit × (Option Addr × Nat) × (Option Addr × Nat)) => [.b20 ((gt ((gt x1 y43).2.2.2) y79).1), .w ((gt ((gt x1 y43).2.2.2) y79).2.1), .b ((gt ((gt x1 y43).2.2.2) y79).2.2.1), .w ((gt ((gt x1 y43).2.2.2) y79).2.2.2.1), .w4 ((gt ((gt x1 y43).2.2.2) y79).2.2.2.2.1), .b20 ((gt ((gt x1 y43).2.2.2) y79).2.2.2.2.2.1), .q Y38 c.2.2.2.2.2.2.1.1 c.2.2.2.2.2.2.1.2 ((gt ((gt x1 y43).2.2.2) y79).2.2.2.2.2.2.1), .q yb c.2.2.2.2.2.2.2.1 c.2.2.2.2.2.2.2.2 ((gt ((gt x1 y43).2.2.2) y79).2.2.2.2.2.2.2)]) rfl T61 (fun _ => rfl) rfl fun ch3 a S => ?_
     refine s_alloc S Z61 rfl ⟨rfl, rfl, rfl, rfl, rfl, rfl, rfl, rfl, trivial⟩ rfl fun g180 a w S => s_store S rfl rfl rfl (s' := [.b20 ((gt ((gt x1 y43).2.2.2) y79).1), .w ((gt ((gt x1 y43).2.2.2) y79).2.1), .b ((gt ((gt x1 y43).2.2.2) y79).2.2.1), .w ((gt ((gt x1 y43).2.2.2) y79).2.2.2.1), .w4 ((gt ((gt x1 y43).2.2.2) y79).2.2.2.2.1), .b20 ((gt ((gt x1 y43).2.2.2) y79).2.2.2.2.2.1), .q Y38 ch3.2.2.2.2.2.2.1.1 ch3.2.2.2.2.2.2.1.2 ((gt ((gt x1 y43).2.2.2) y79).2.2.2.2.2.2.1), .q yb ch3.2.2.2.2.2.2.2.1 ch3.2.2.2.2.2.2.2.2 ((gt ((gt x1 y43).2.2.2) y79).2.2.2.2.2.2.2)]) .h T61 rfl rfl fun w S => c_end (wp_seq ?_)
     refine wp_seq (c_heldS S (.take 0 (.take 1 (.take 3 (.take 4 (.alts (.run 2 true (.alts (.run 5 true (.take 6 .done) .nil)) .nil)))))) 7 [Res.cells g180 61 [.b20 ((gt ((gt x1 y43).2.2.2) y79).1), .w ((gt ((gt x1 y43).2.2.2) y79).2.1), .b ((gt ((gt x1 y43).2.2.2) y79).2.2.1), .w ((gt ((gt x1 y43).2.2.2) y79).2.2.2.1), .w4 ((gt ((gt x1 y43).2.2.2) y79).2.2.2.2.1), .b20 ((gt ((gt x1 y43).2.2.2) y79).2.2.2.2.2.1), .q Y38 ch3.2.2.2.2.2.2.1.1 ch3.2.2.2.2.2.2.1.2 ((gt ((gt x1 y43).2.2.2) y79).2.2.2.2.2.2.1), .q yb ch3.2.2.2.2.2.2.2.1 ch3.2.2.2.2.2.2.2.2 ((gt ((gt x1 y43).2.2.2) y79).2.2.2.2.2.2.2)], Res.cells g168 34 [.b20 x2]] (.c0 (.c1 .n)) ⟨Res.stay_cells, Res.stay_cells, trivial⟩ [(11, (.p g180)), (4, (.p g168)), (2, (.q (Ty.arr .u64 4) ch_2_0 ch_2_1 x3))] (subR rfl) (by kernel_rfl) (by kernel_rfl) ?_); clear S; intro w S CL hw le
     refine h_fieldAddr S CL hw le (subR rfl) rfl I61_6 T22 (by decide) rfl rfl rfl trivial fun a S CL => h_loadSl S CL hw le (subR rfl) rfl .h T22 (A := ch3.2.2.2.2.2.2.1.1) (len := ((gt ((gt x1 y43).2.2.2) y79).2.2.2.2.2.2.1).length) (cap := ch3.2.2.2.2.2.2.1.2) rfl rfl rfl trivial fun a S CL => h_loada S CL hw le (subR rfl) rfl .h1 T34 (s' := [.b20 x2]) rfl rfl rfl trivial fun a S CL => h_move S CL hw le (subR rfl) rfl rfl rfl trivial fun a S CL => h_run' S rfl trivial (bindX h2 fun t1 et1 h3 => s_callP S _ N11 rfl rfl (bloom_Of.ok k ((gt ((gt x1 y43).2.2.2) y79).2.2.2.2.2.2.1) ch3.2.2.2.2.2.2.1.1 ch3.2.2.2.2.2.2.1.2 t1 et1 _ _ (G.mono (S.leB hb))) fun ch4 m le1 a w S => ?_)
     replace le := le.trans le1
     refine CL.bk hw S (.c0 (.c1 .n)) le fun hw => h_run' S rfl trivial (bindX h3 fun t2 et2 h4 => s_callP S _ N30 rfl rfl (bloom_may.ok k t1 x2 x3 ch_2_0 ch_2_1 t2 et2 _ _ (G.mono (S.leB hb))) fun ch5 m le1 a w S => ?_)
     replace le := le.trans le1
     refine CL.bk hw S (.c0 (.c1 .n)) le fun hw => ?_
     replace CL := CL.add (t := 32) (d := (.b t2)) S rfl rfl
     refine h_not S CL hw le (subR rfl) rfl rfl rfl trivial fun a S CL => ?_
     refine h_done ?_; clear CL hw le
     refine x_thenN ?_
     rcases ite_of h4 with ⟨c5, h5⟩ | ⟨c5, h5⟩
     ·refine c_condT S rfl c5 (wp_exit (x_thenX (x_blockX (x_thenN ?_))))
      exact j3 _ A5 nn54 cp106 y80 Z4 g168 a w (S.sb rfl (.c1 (.c1 (.c1 .n)))) h5
     ·refine c_condF S rfl c5 (wp_skip (x_thenN (c_region (s_fieldAddr S rfl I61_6 T22 (by decide) rfl rfl fun a S => s_loadSl S rfl .h T22 (A := ch3.2.2.2.2.2.2.1.1) (len := ((gt ((gt x1 y43).2.2.2) y79).2.2.2.2.2.2.1).length) (cap := ch3.2.2.2.2.2.2.1.2) rfl rfl fun a S => s_lenS S rfl underlying22 rfl fun a S => s_move S rfl rfl fun a S => c_end (wp_block ?_)))))
      refine c_loop (fun q3 a w => ∃ m y92 A7 cp124 A8 nn63 cp125 y93 Z6 g189, St 61 m b0 [(37, (.i y92)), (36, (.i (((gt ((gt x1 y43).2.2.2) y79).2.2.2.2.2.2.1).length : Int))), (35, (.q Y38 A7 cp124 ((gt ((gt x1 y43).2.2.2) y79).2.2.2.2.2.2.1))), (23, (.i y79)), (22, (.i (((gt x1 y43).2.2.2).length : Int))), (21, (.q Y61 A4 cp105 ((gt x1 y43).2.2.2))), (7, (.s A8 nn63 cp125)), (16, (.i y43)), (15, (.i ((x1).length : Int))), (14, (.q Y59 ch_0_0 ch_0_1 x1)), (4, (.p g189)), (2, (.q (Ty.arr .u64 4) ch_2_0 ch_2_1 x3))] [Res.row (Ty.atZ Z6 Y38) 38 A8 nn63 cp125 y93, Res.cells g189 34 [.b20 x2], Res.priv Z6] a w ∧ bloom_Find.l3 k x1 x2 x3 y43 y79 (bloom_Find.l2 k x1 x2 x3 y43 (bloom_Find.l1 k x1 x2 x3 q1) q2) q3 y92 y93 = some r) ?_ ?_ (k := k) ⟨_, 0, ch3.2.2.2.2.2.2.1.1, ch3.2.2.2.2.2.2.1.2, A5, nn54, cp106, y80, Z4, g168, (S.sb rfl (.c1 (.c1 (.c1 .n)))), h5⟩
      ·rintro a w ⟨m, y92, A7, cp124, A8, nn63, cp125, y93, Z6, g189, S, h0⟩
       exact (nomatch (show (none : Option ((List L38))) = some r from h0))
      ·clear S h5
       rintro q3 a w ⟨m, y92, A7, cp124, A8, nn63, cp125, y93, Z6, g189, S, h0⟩
       replace h0 : bloom_Find.b3 k x1 x2 x3 y43 y79 (bloom_Find.l2 k x1 x2 x3 y43 (bloom_Find.l1 k x1 x2 x3 q1) q2) (bloom_Find.l3 k x1 x2 x3 y43 y79 (bloom_Find.l2 k x1 x2 x3 y43 (bloom_Find.l1 k x1 x2 x3 q1) q2) q3) y92 y93 = some r := h0
       delta bloom_Find.b3 at h0
       refine c_region (s_bin S rfl rfl rfl rfl fun a S => c_end (wp_seq ?_))
       rcases ite_of h0 with ⟨c6, h1⟩ | ⟨c6, h1⟩
       ·refine c_condT S rfl c6 (wp_skip (x_thenN (wp_seq_k fun K4 hK4 => ?_)))
        have j4 : ∀ m A9 nn64 cp127 y94 Z7 g192 a w, St 61 m b0 [(7, (.s A9 nn64 cp127)), (37, (.i y92)), (36, (.i (((gt ((gt x1 y43).2.2.2) y79).2.2.2.2.2.2.1).length : Int))), (35, (.q Y38 A7 cp124 ((gt ((gt x1 y43).2.2.2) y79).2.2.2.2.2.2.1))), (23, (.i y79)), (22, (.i (((gt x1 y43).2.2.2).length : Int))), (21, (.q Y61 A4 cp105 ((gt x1 y43).2.2.2))), (16, (.i y43)), (15, (.i ((x1).length : Int))), (14, (.q Y59 ch_0_0 ch_0_1 x1)), (4, (.p g192)), (2, (.q (Ty.arr .u64 4) ch_2_0 ch_2_1 x3))] [Res.row (Ty.atZ Z7 Y38) 38 A9 nn64 cp127 y94, Res.cells g192 34 [.b20 x2], Res.priv Z7] a w → bloom_Find.j4 y92 (bloom_Find.l3 k x1 x2 x3 y43 y79 (bloom_Find.l2 k x1 x2 x3 y43 (bloom_Find.l1 k x1 x2 x3 q1) q2) q3) y94 = some r → K4 a w := by
         intro m A9 nn64 cp127 y94 Z7 g192 a w S h0
         delta bloom_Find.j4 at h0
         refine hK4 a w (c_region' (s_bin S rfl rfl rfl rfl fun a S => s_move S rfl rfl fun a S => c_end' (x_thenN ?_)))
         exact ⟨_, (wr .i64 (y92 + 1)), A7, cp124, A9, nn64, cp127, y94, Z7, g192, (S.sb rfl (.c0 (.c0 (.c0 .n)))), h0⟩
        refine wp_block (c_region ?_)
        obtain ⟨c7, h2⟩ := chk_of h1; clear h1
        refine s_iaddrS S rfl rfl rfl underlying22 T38 c7.1 c7.2 rfl fun p5 a S => s_ldA S (fun (c : Unit × (Option Addr × Nat) × (Option Addr × Nat)) => [.b20 ((gt ((gt ((gt x1 y43).2.2.2) y79).2.2.2.2.2.2.1) y92).1), .q (Ty.arr .u64 4) c.2.1.1 c.2.1.2 ((gt ((gt ((gt x1 y43).2.2.2) y79).2.2.2.2.2.2.1) y92).2.1), .q yb c.2.2.1 c.2.2.2 ((gt ((gt ((gt x1 y43).2.2.2) y79).2.2.2.2.2.2.1) y92).2.2)]) rfl T38 (fun _ => rfl) rfl fun ch10 a S => ?_
        refine s_alloc S Z38 rfl ⟨rfl, rfl, rfl, trivial⟩ rfl fun g193 a w S => s_store S rfl rfl rfl (s' := [.b20 ((gt ((gt ((gt x1 y43).2.2.2) y79).2.2.2.2.2.2.1) y92).1), .q (Ty.arr .u64 4) ch10.2.1.1 ch10.2.1.2 ((gt ((gt ((gt x1 y43).2.2.2) y79).2.2.2.2.2.2.1) y92).2.1), .q yb ch10.2.2.1 ch10.2.2.2 ((gt ((gt ((gt x1 y43).2.2.2) y79).2.2.2.2.2.2.1) y92).2.2)]) .h T38 rfl rfl fun w S => c_end (c_region (s_loada S rfl .h T38 (s' := [.b20 ((gt ((gt ((gt x1 y43).2.2.2) y79).2.2.2.2.2.2.1) y92).1), .q (Ty.arr .u64 4) ch10.2.1.1 ch10.2.1.2 ((gt ((gt ((gt x1 y43).2.2.2) y79).2.2.2.2.2.2.1) y92).2.1), .q yb ch10.2.2.1 ch10.2.2.2 ((gt ((gt ((gt x1 y43).2.2.2) y79).2.2.2.2.2.2.1) y92).2.2)]) rfl rfl fun a S => s_loada S rfl .h2 T34 (s' := [.b20 x2]) rfl rfl fun a S => s_move S rfl rfl fun a S => bindX h2 fun t6 et6 h3 => s_callP S _ N31 rfl rfl (bloom_fits.ok k (gt ((gt ((gt x1 y43).2.2.2) y79).2.2.2.2.2.2.1) y92) x2 x3 ch10.2.1.1 ch10.2.1.2 ch10.2.2.1 ch10.2.2.2 ch_2_0 ch_2_1 t6 et6 _ _) fun ch11 m le1 a w S => c_end ?_))
        rcases ite_of h3 with ⟨c8, h4⟩ | ⟨c8, h4⟩
        ·refine c_condT S rfl c8 (c_heldS S (.take 1 (.take 2 (.take 3 (.take 4 (.take 6 (.take 7 (.alts (.run 0 true (.alts (.run 5 true (.alts (.run 8 true (.take 9 (.alts (.run 10 true (.alts (.run 11 true (.take 12 .done) .nil)) .nil))) .nil)) .nil)) (.run 5 true (.alts (.run 0 true (.alts (.run 8 true (.take 9 (.alts (.run 10 true (.alts (.run 11 true (.take 12 .done) .nil)) .nil))) .nil)) (.run 8 true (.take 9 (.alts (.run 0 true (.alts (.run 10 true (.alts (.run 11 true (.take 12 .done) .nil)) .nil)) (.run 10 true (.alts (.run 0 true (.alts (.run 11 true (.take 12 .done) .nil)) .nil)) .nil)))) .nil))) .nil))))))))) 13 [Res.cells g193 38 [.b20 ((gt ((gt ((gt x1 y43).2.2.2) y79).2.2.2.2.2.2.1) y92).1), .q (Ty.arr .u64 4) ch10.2.1.1 ch10.2.1.2 ((gt ((gt ((gt x1 y43).2.2.2) y79).2.2.2.2.2.2.1) y92).2.1), .q yb ch10.2.2.1 ch10.2.2.2 ((gt ((gt ((gt x1 y43).2.2.2) y79).2.2.2.2.2.2.1) y92).2.2)], Res.cells g189 34 [.b20 x2]] (.c0 (.c1 .n)) ⟨Res.stay_cells, Res.stay_cells, trivial⟩ [(13, (.p g193))] ⟨rfl, trivial⟩ (by kernel_rfl) (by kernel_rfl) fun w S CL hw le => ?_)
         refine h_fieldAddr S CL hw le ⟨rfl, trivial⟩ rfl I38_0 T34 (by decide) rfl rfl rfl trivial fun a S CL => h_loada S CL hw le (subR rfl) rfl .h T34 (s' := [.b20 ((gt ((gt ((gt x1 y43).2.2.2) y79).2.2.2.2.2.2.1) y92).1)]) rfl rfl rfl trivial fun a S CL => h_fieldAddr S CL hw le (subR rfl) rfl I38_1 T35 (by decide) rfl rfl rfl trivial fun a S CL => h_loadSl S CL hw le (subR rfl) rfl .h T35 (A := ch10.2.1.1) (len := ((gt ((gt ((gt x1 y43).2.2.2) y79).2.2.2.2.2.2.1) y92).2.1).length) (cap := ch10.2.1.2) rfl rfl rfl trivial fun a S CL => h_fieldAddr S CL hw le (subR rfl) rfl I38_2 T36 (by decide) rfl rfl rfl trivial fun a S CL => h_loadSl S CL hw le (subR rfl) rfl .h T36 (A := ch10.2.2.1) (len := ((gt ((gt ((gt x1 y43).2.2.2) y79).2.2.2.2.2.2.1) y92).2.2).length) (cap := ch10.2.2.2) rfl rfl rfl trivial fun a S CL => bindX h4 fun t7 et7 h5 => bindX h5 fun t8 et8 h6 => ?_
         obtain ⟨c9, h7⟩ := chk_of h6; clear h6
         refine h_alts ?_
         refine h_runO S rfl trivial ?_ ?_
         ·refine s_move S rfl rfl fun a S => CL.bk hw S (.c0 (.c1 .n)) le fun hw => h_run' S rfl trivial (s_callR S (fun (ch : (Option Addr) × Nat × Nat) => ((.s ch.1 ch.2.1 ch.2.2) : D)) (fun (ch : (Option Addr) × Nat × Nat) => Res.row (Ty.arr .u64 4) 53 ch.1 ch.2.1 ch.2.2 t7) N32 rfl rfl (api_Word_n32.ok ((gt ((gt ((gt x1 y43).2.2.2) y79).2.2.2.2.2.2.1) y92).2.1) ch10.2.1.1 ch10.2.1.2 t7 et7 _ _) fun ch12 m le1 a w S => ?_)
          replace le := le.trans le1
          refine CL.bk hw S (.c1 (.c2 .n)) le fun hw => ?_
          replace CL := CL.add (t := 50) (d := (.s ch12.1 ch12.2.1 ch12.2.2)) S rfl rfl
          refine h_run' S rfl trivial (s_callR S (fun (ch : (Option Addr) × Nat × Nat) => ((.s ch.1 ch.2.1 ch.2.2) : D)) (fun (ch : (Option Addr) × Nat × Nat) => Res.row yb 5 ch.1 ch.2.1 ch.2.2 t8) N33 rfl rfl (slices_Clone_byte_byte.ok ((gt ((gt ((gt x1 y43).2.2.2) y79).2.2.2.2.2.2.1) y92).2.2) ch10.2.2.1 ch10.2.2.2 t8 et8 _ _) fun ch13 m le1 a w S => ?_)
          replace le := le.trans le1
          refine CL.bk hw S (.c2 (.c3 .n)) le fun hw => ?_
          replace CL := CL.add (t := 53) (d := (.s ch13.1 ch13.2.1 ch13.2.2)) S rfl rfl
          refine h_bldS S CL hw le (subR rfl) (ds := [(0, (.agg [.b20 ((gt ((gt ((gt x1 y43).2.2.2) y79).2.2.2.2.2.2.1) y92).1)])), (1, (.s ch12.1 ch12.2.1 ch12.2.2)), (2, (.s ch13.1 ch13.2.1 ch13.2.2))]) (zs := [.b20 z20, .s none 0 0, .s none 0 0]) (s' := [.b20 ((gt ((gt ((gt x1 y43).2.2.2) y79).2.2.2.2.2.2.1) y92).1), .s ch12.1 ch12.2.1 ch12.2.2, .s ch13.1 ch13.2.1 ch13.2.2]) rfl underlying38 P38 Z38 ⟨rfl, rfl, rfl, trivial⟩ rfl rfl rfl trivial fun a S CL => h_run' S rfl trivial ?_
          replace S := S.privrow flatT_arr .h1 (fun _ => .h4)
          obtain ⟨Z8, le2, S, hro⟩ := S
          replace S := S.zup (Z' := Z8) .h2 le2
          replace S := S.slot (u := 54) (d' := (.agg [.b20 ((gt ((gt ((gt x1 y43).2.2.2) y79).2.2.2.2.2.2.1) y92).1), .sl ch12.1 (t7).length ch12.2.2 (atR Z8 (RdS (Ty.arr .u64 4) ch12.1 t7)), .s ch13.1 ch13.2.1 ch13.2.2])) rfl (by simp [D.val, pd, cellsOf, Seg.cells, hro.2.1]) (by have h := (S.get 54 (.agg [.b20 ((gt ((gt ((gt x1 y43).2.2.2) y79).2.2.2.2.2.2.1) y92).1), .s ch12.1 ch12.2.1 ch12.2.2, .s ch13.1 ch13.2.1 ch13.2.2]) rfl).2; exact ⟨h.1, (okz_of hro _), h.2.2.1, trivial⟩)
          replace S := S.slotz (u := 50) rfl hro
          replace S := S.privrow flatT_int .h (fun _ => .h3)
          obtain ⟨Z9, le2, S, hro⟩ := S
          replace S := S.zup (Z' := Z9) .h1 le2
          replace S := S.slot (u := 50) (d' := (.sl ch12.1 (t7).length ch12.2.2 (atR Z9 (RdS (Ty.arr .u64 4) ch12.1 t7)))) rfl rfl (okzD_up le2 (S.get 50 (.sl ch12.1 (t7).length ch12.2.2 (atR Z8 (RdS (Ty.arr .u64 4) ch12.1 t7))) rfl).2)
          replace S := S.slot (u := 54) (d' := (.agg [.b20 ((gt ((gt ((gt x1 y43).2.2.2) y79).2.2.2.2.2.2.1) y92).1), .sl ch12.1 (t7).length ch12.2.2 (atR Z9 (RdS (Ty.arr .u64 4) ch12.1 t7)), .s ch13.1 ch13.2.1 ch13.2.2])) rfl rfl (by have h := (S.get 54 (.agg [.b20 ((gt ((gt ((gt x1 y43).2.2.2) y79).2.2.2.2.2.2.1) y92).1), .sl ch12.1 (t7).length ch12.2.2 (atR Z8 (RdS (Ty.arr .u64 4) ch12.1 t7)), .s ch13.1 ch13.2.1 ch13.2.2]) rfl).2; exact ⟨h.1, (okz_up le2 h.2.1), h.2.2.1, trivial⟩)
          replace S := S.slot (u := 54) (d' := (.agg [.b20 ((gt ((gt ((gt x1 y43).2.2.2) y79).2.2.2.2.2.2.1) y92).1), .sl ch12.1 (t7).length ch12.2.2 (atR Z9 (RdS (Ty.arr .u64 4) ch12.1 t7)), .sl ch13.1 (t8).length ch13.2.2 (atR Z9 (RdS yb ch13.1 t8))])) rfl (by simp [D.val, pd, cellsOf, Seg.cells, hro.2.1]) (by have h := (S.get 54 (.agg [.b20 ((gt ((gt ((gt x1 y43).2.2.2) y79).2.2.2.2.2.2.1) y92).1), .sl ch12.1 (t7).length ch12.2.2 (atR Z9 (RdS (Ty.arr .u64 4) ch12.1 t7)), .s ch13.1 ch13.2.1 ch13.2.2]) rfl).2; exact ⟨h.1, h.2.1, (okz_of hro _), trivial⟩)
          replace S := S.slotz (u := 53) rfl hro
          replace CL := CL.drop (lq' := [(52, (.q yb ch10.2.2.1 ch10.2.2.2 ((gt ((gt ((gt x1 y43).2.2.2) y79).2.2.2.2.2.2.1) y92).2.2))), (51, (.o g193 21)), (49, (.q (Ty.arr .u64 4) ch10.2.1.1 ch10.2.1.2 ((gt ((gt ((gt x1 y43).2.2.2) y79).2.2.2.2.2.2.1) y92).2.1))), (48, (.o g193 20)), (47, (.agg [.b20 ((gt ((gt ((gt x1 y43).2.2.2) y79).2.2.2.2.2.2.1) y92).1)])), (46, (.p g193)), (13, (.p g193))]) (subR rfl)
          refine s_bldSl S (ty' := (Ty.atZ Z9 Y38)) (ds := [(0, (.agg [.b20 ((gt ((gt ((gt x1 y43).2.2.2) y79).2.2.2.2.2.2.1) y92).1), .sl ch12.1 (t7).length ch12.2.2 (atR Z9 (RdS (Ty.arr .u64 4) ch12.1 t7)), .sl ch13.1 (t8).length ch13.2.2 (atR Z9 (RdS yb ch13.1 t8))]))]) (z := (z20, ([] : List (List Int)), ([] : List Int))) (c0 := ((), (none, 0), (none, 0))) (ys := [((gt ((gt ((gt x1 y43).2.2.2) y79).2.2.2.2.2.2.1) y92).1, t7, t8)]) (cs := [((), (ch12.1, ch12.2.2), (ch13.1, ch13.2.2))]) rfl underlying22 J38 Z38 rfl ⟨rfl, okz_nil, okz_nil, trivial⟩ rfl rfl rfl rfl rfl rfl fun g194 a w S => CL.bk hw S (.c1 (.c2 .n)) le fun hw => h_run' S rfl trivial (s_app S (k2 := 1) (ys := [((gt ((gt ((gt x1 y43).2.2.2) y79).2.2.2.2.2.2.1) y92).1, t7, t8)]) rfl (fun _ _ => .h2) rfl rfl (S.holds _ (Pull.mem .h).1).1 (Res.row.src (S.holds _ (Pull.mem .h).1)) underlying22 J38 c9 rfl fun A10 cp128 a w S => CL.bk hw S (.c1 (.c2 .n)) le fun hw => ?_)
          replace CL := CL.add (t := 56) (d := (.s A10 (nn63 + 1) cp128)) S rfl rfl
          refine h_assign S CL hw le (subR rfl) rfl rfl rfl trivial fun a S CL => ?_
          refine h_done ?_; clear CL hw le
          refine x_blockN (x_thenN ?_)
          exact j4 _ A10 (nn63 + 1) cp128 (y93 ++ [((gt ((gt ((gt x1 y43).2.2.2) y79).2.2.2.2.2.2.1) y92).1, t7, t8)]) Z9 g189 a w (S.sb rfl (.c2 (.c2 (.c2 .n)))) h7
         refine h_runO S rfl trivial ?_ ?_
         ·refine s_callR S (fun (ch : (Option Addr) × Nat × Nat) => ((.s ch.1 ch.2.1 ch.2.2) : D)) (fun (ch : (Option Addr) × Nat × Nat) => Res.row (Ty.arr .u64 4) 53 ch.1 ch.2.1 ch.2.2 t7) N32 rfl rfl (api_Word_n32.ok ((gt ((gt ((gt x1 y43).2.2.2) y79).2.2.2.2.2.2.1) y92).2.1) ch10.2.1.1 ch10.2.1.2 t7 et7 _ _) fun ch12 m le1 a w S => ?_
          replace le := le.trans le1
          refine CL.bk hw S (.c1 (.c2 .n)) le fun hw => ?_
          replace CL := CL.add (t := 50) (d := (.s ch12.1 ch12.2.1 ch12.2.2)) S rfl rfl
          refine h_alts ?_
          refine h_runO S rfl trivial ?_ ?_
          ·refine s_move S rfl rfl fun a S => CL.bk hw S (.c1 (.c2 .n)) le fun hw => h_run' S rfl trivial (s_callR S (fun (ch : (Option Addr) × Nat × Nat) => ((.s ch.1 ch.2.1 ch.2.2) : D)) (fun (ch : (Option Addr) × Nat × Nat) => Res.row yb 5 ch.1 ch.2.1 ch.2.2 t8) N33 rfl rfl (slices_Clone_byte_byte.ok ((gt ((gt ((gt x1 y43).2.2.2) y79).2.2.2.2.2.2.1) y92).2.2) ch10.2.2.1 ch10.2.2.2 t8 et8 _ _) fun ch13 m le1 a w S => ?_)
           replace le := le.trans le1
           refine CL.bk hw S (.c2 (.c3 .n)) le fun hw => ?_
           replace CL := CL.add (t := 53) (d := (.s ch13.1 ch13.2.1 ch13.2.2)) S rfl rfl
           refine h_bldS S CL hw le (subR rfl) (ds := [(0, (.agg [.b20 ((gt ((gt ((gt x1 y43).2.2.2) y79).2.2.2.2.2.2.1) y92).1)])), (1, (.s ch12.1 ch12.2.1 ch12.2.2)), (2, (.s ch13.1 ch13.2.1 ch13.2.2))]) (zs := [.b20 z20, .s none 0 0, .s none 0 0]) (s' := [.b20 ((gt ((gt ((gt x1 y43).2.2.2) y79).2.2.2.2.2.2.1) y92).1), .s ch12.1 ch12.2.1 ch12.2.2, .s ch13.1 ch13.2.1 ch13.2.2]) rfl underlying38 P38 Z38 ⟨rfl, rfl, rfl, trivial⟩ rfl rfl rfl trivial fun a S CL => h_run' S rfl trivial ?_
           replace S := S.privrow flatT_arr .h1 (fun _ => .h4)
           obtain ⟨Z8, le2, S, hro⟩ := S
           replace S := S.zup (Z' := Z8) .h2 le2
           replace S := S.slot (u := 54) (d' := (.agg [.b20 ((gt ((gt ((gt x1 y43).2.2.2) y79).2.2.2.2.2.2.1) y92).1), .sl ch12.1 (t7).length ch12.2.2 (atR Z8 (RdS (Ty.arr .u64 4) ch12.1 t7)), .s ch13.1 ch13.2.1 ch13.2.2])) rfl (by simp [D.val, pd, cellsOf, Seg.cells, hro.2.1]) (by have h := (S.get 54 (.agg [.b20 ((gt ((gt ((gt x1 y43).2.2.2) y79).2.2.2.2.2.2.1) y92).1), .s ch12.1 ch12.2.1 ch12.2.2, .s ch13.1 ch13.2.1 ch13.2.2]) rfl).2; exact ⟨h.1, (okz_of hro _), h.2.2.1, trivial⟩)
           replace S := S.slotz (u := 50) rfl hro
           replace S := S.privrow flatT_int .h (fun _ => .h3)
           obtain ⟨Z9, le2, S, hro⟩ := S
           replace S := S.zup (Z' := Z9) .h1 le2
           replace S := S.slot (u := 50) (d' := (.sl ch12.1 (t7).length ch12.2.2 (atR Z9 (RdS (Ty.arr .u64 4) ch12.1 t7)))) rfl rfl (okzD_up le2 (S.get 50 (.sl ch12.1 (t7).length ch12.2.2 (atR Z8 (RdS (Ty.arr .u64 4) ch12.1 t7))) rfl).2)
           replace S := S.slot (u := 54) (d' := (.agg [.b20 ((gt ((gt ((gt x1 y43).2.2.2) y79).2.2.2.2.2.2.1) y92).1), .sl ch12.1 (t7).length ch12.2.2 (atR Z9 (RdS (Ty.arr .u64 4) ch12.1 t7)), .s ch13.1 ch13.2.1 ch13.2.2])) rfl rfl (by have h := (S.get 54 (.agg [.b20 ((gt ((gt ((gt x1 y43).2.2.2) y79).2.2.2.2.2.2.1) y92).1), .sl ch12.1 (t7).length ch12.2.2 (atR Z8 (RdS (Ty.arr .u64 4) ch12.1 t7)), .s ch13.1 ch13.2.1 ch13.2.2]) rfl).2; exact ⟨h.1, (okz_up le2 h.2.1), h.2.2.1, trivial⟩)
           replace S := S.slot (u := 54) (d' := (.agg [.b20 ((gt ((gt ((gt x1 y43).2.2.2) y79).2.2.2.2.2.2.1) y92).1), .sl ch12.1 (t7).length ch12.2.2 (atR Z9 (RdS (Ty.arr .u64 4) ch12.1 t7)), .sl ch13.1 (t8).length ch13.2.2 (atR Z9 (RdS yb ch13.1 t8))])) rfl (by simp [D.val, pd, cellsOf, Seg.cells, hro.2.1]) (by have h := (S.get 54 (.agg [.b20 ((gt ((gt ((gt x1 y43).2.2.2) y79).2.2.2.2.2.2.1) y92).1), .sl ch12.1 (t7).length ch12.2.2 (atR Z9 (RdS (Ty.arr .u64 4) ch12.1 t7)), .s ch13.1 ch13.2.1 ch13.2.2]) rfl).2; exact ⟨h.1, h.2.1, (okz_of hro _), trivial⟩)
           replace S := S.slotz (u := 53) rfl hro
           replace CL := CL.drop (lq' := [(52, (.q yb ch10.2.2.1 ch10.2.2.2 ((gt ((gt ((gt x1 y43).2.2.2) y79).2.2.2.2.2.2.1) y92).2.2))), (51, (.o g193 21)), (49, (.q (Ty.arr .u64 4) ch10.2.1.1 ch10.2.1.2 ((gt ((gt ((gt x1 y43).2.2.2) y79).2.2.2.2.2.2.1) y92).2.1))), (48, (.o g193 20)), (47, (.agg [.b20 ((gt ((gt ((gt x1 y43).2.2.2) y79).2.2.2.2.2.2.1) y92).1)])), (46, (.p g193)), (13, (.p g193))]) (subR rfl)
           refine s_bldSl S (ty' := (Ty.atZ Z9 Y38)) (ds := [(0, (.agg [.b20 ((gt ((gt ((gt x1 y43).2.2.2) y79).2.2.2.2.2.2.1) y92).1), .sl ch12.1 (t7).length ch12.2.2 (atR Z9 (RdS (Ty.arr .u64 4) ch12.1 t7)), .sl ch13.1 (t8).length ch13.2.2 (atR Z9 (RdS yb ch13.1 t8))]))]) (z := (z20, ([] : List (List Int)), ([] : List Int))) (c0 := ((), (none, 0), (none, 0))) (ys := [((gt ((gt ((gt x1 y43).2.2.2) y79).2.2.2.2.2.2.1) y92).1, t7, t8)]) (cs := [((), (ch12.1, ch12.2.2), (ch13.1, ch13.2.2))]) rfl underlying22 J38 Z38 rfl ⟨rfl, okz_nil, okz_nil, trivial⟩ rfl rfl rfl rfl rfl rfl fun g194 a w S => CL.bk hw S (.c1 (.c2 .n)) le fun hw => h_run' S rfl trivial (s_app S (k2 := 1) (ys := [((gt ((gt ((gt x1 y43).2.2.2) y79).2.2.2.2.2.2.1) y92).1, t7, t8)]) rfl (fun _ _ => .h2) rfl rfl (S.holds _ (Pull.mem .h).1).1 (Res.row.src (S.holds _ (Pull.mem .h).1)) underlying22 J38 c9 rfl fun A10 cp128 a w S => CL.bk hw S (.c1 (.c2 .n)) le fun hw => ?_)
           replace CL := CL.add (t := 56) (d := (.s A10 (nn63 + 1) cp128)) S rfl rfl
           refine h_assign S CL hw le (subR rfl) rfl rfl rfl trivial fun a S CL => ?_
           refine h_done ?_; clear CL hw le
           refine x_blockN (x_thenN ?_)
           exact j4 _ A10 (nn63 + 1) cp128 (y93 ++ [((gt ((gt ((gt x1 y43).2.2.2) y79).2.2.2.2.2.2.1) y92).1, t7, t8)]) Z9 g189 a w (S.sb rfl (.c2 (.c2 (.c2 .n)))) h7
          refine h_runO S rfl trivial ?_ ?_
          ·refine s_callR S (fun (ch : (Option Addr) × Nat × Nat) => ((.s ch.1 ch.2.1 ch.2.2) : D)) (fun (ch : (Option Addr) × Nat × Nat) => Res.row yb 5 ch.1 ch.2.1 ch.2.2 t8) N33 rfl rfl (slices_Clone_byte_byte.ok ((gt ((gt ((gt x1 y43).2.2.2) y79).2.2.2.2.2.2.1) y92).2.2) ch10.2.2.1 ch10.2.2.2 t8 et8 _ _) fun ch13 m le1 a w S => ?_
           replace le := le.trans le1
           refine CL.bk hw S (.c2 (.c3 .n)) le fun hw => ?_
           replace CL := CL.add (t := 53) (d := (.s ch13.1 ch13.2.1 ch13.2.2)) S rfl rfl
           refine h_bldS S CL hw le (subR rfl) (ds := [(0, (.agg [.b20 ((gt ((gt ((gt x1 y43).2.2.2) y79).2.2.2.2.2.2.1) y92).1)])), (1, (.s ch12.1 ch12.2.1 ch12.2.2)), (2, (.s ch13.1 ch13.2.1 ch13.2.2))]) (zs := [.b20 z20, .s none 0 0, .s none 0 0]) (s' := [.b20 ((gt ((gt ((gt x1 y43).2.2.2) y79).2.2.2.2.2.2.1) y92).1), .s ch12.1 ch12.2.1 ch12.2.2, .s ch13.1 ch13.2.1 ch13.2.2]) rfl underlying38 P38 Z38 ⟨rfl, rfl, rfl, trivial⟩ rfl rfl rfl trivial fun a S CL => h_alts ?_
           refine h_runO S rfl trivial ?_ ?_
           ·refine s_move S rfl rfl fun a S => CL.bk hw S (.c2 (.c3 .n)) le fun hw => h_run' S rfl trivial ?_
            replace S := S.privrow flatT_arr .h1 (fun _ => .h4)
            obtain ⟨Z8, le2, S, hro⟩ := S
            replace S := S.zup (Z' := Z8) .h2 le2
            replace S := S.slot (u := 54) (d' := (.agg [.b20 ((gt ((gt ((gt x1 y43).2.2.2) y79).2.2.2.2.2.2.1) y92).1), .sl ch12.1 (t7).length ch12.2.2 (atR Z8 (RdS (Ty.arr .u64 4) ch12.1 t7)), .s ch13.1 ch13.2.1 ch13.2.2])) rfl (by simp [D.val, pd, cellsOf, Seg.cells, hro.2.1]) (by have h := (S.get 54 (.agg [.b20 ((gt ((gt ((gt x1 y43).2.2.2) y79).2.2.2.2.2.2.1) y92).1), .s ch12.1 ch12.2.1 ch12.2.2, .s ch13.1 ch13.2.1 ch13.2.2]) rfl).2; exact ⟨h.1, (okz_of hro _), h.2.2.1, trivial⟩)
            replace S := S.slotz (u := 50) rfl hro
            replace S := S.privrow flatT_int .h (fun _ => .h3)
            obtain ⟨Z9, le2, S, hro⟩ := S
            replace S := S.zup (Z' := Z9) .h1 le2
            replace S := S.slot (u := 50) (d' := (.sl ch12.1 (t7).length ch12.2.2 (atR Z9 (RdS (Ty.arr .u64 4) ch12.1 t7)))) rfl rfl (okzD_up le2 (S.get 50 (.sl ch12.1 (t7).length ch12.2.2 (atR Z8 (RdS (Ty.arr .u64 4) ch12.1 t7))) rfl).2)
            replace S := S.slot (u := 54) (d' := (.agg [.b20 ((gt ((gt ((gt x1 y43).2.2.2) y79).2.2.2.2.2.2.1) y92).1), .sl ch12.1 (t7).length ch12.2.2 (atR Z9 (RdS (Ty.arr .u64 4) ch12.1 t7)), .s ch13.1 ch13.2.1 ch13.2.2])) rfl rfl (by have h := (S.get 54 (.agg [.b20 ((gt ((gt ((gt x1 y43).2.2.2) y79).2.2.2.2.2.2.1) y92).1), .sl ch12.1 (t7).length ch12.2.2 (atR Z8 (RdS (Ty.arr .u64 4) ch12.1 t7)), .s ch13.1 ch13.2.1 ch13.2.2]) rfl).2; exact ⟨h.1, (okz_up le2 h.2.1), h.2.2.1, trivial⟩)
            replace S := S.slot (u := 54) (d' := (.agg [.b20 ((gt ((gt ((gt x1 y43).2.2.2) y79).2.2.2.2.2.2.1) y92).1), .sl ch12.1 (t7).length ch12.2.2 (atR Z9 (RdS (Ty.arr .u64 4) ch12.1 t7)), .sl ch13.1 (t8).length ch13.2.2 (atR Z9 (RdS yb ch13.1 t8))])) rfl (by simp [D.val, pd, cellsOf, Seg.cells, hro.2.1]) (by have h := (S.get 54 (.agg [.b20 ((gt ((gt ((gt x1 y43).2.2.2) y79).2.2.2.2.2.2.1) y92).1), .sl ch12.1 (t7).length ch12.2.2 (atR Z9 (RdS (Ty.arr .u64 4) ch12.1 t7)), .s ch13.1 ch13.2.1 ch13.2.2]) rfl).2; exact ⟨h.1, h.2.1, (okz_of hro _), trivial⟩)
            replace S := S.slotz (u := 53) rfl hro
            replace CL := CL.drop (lq' := [(52, (.q yb ch10.2.2.1 ch10.2.2.2 ((gt ((gt ((gt x1 y43).2.2.2) y79).2.2.2.2.2.2.1) y92).2.2))), (51, (.o g193 21)), (49, (.q (Ty.arr .u64 4) ch10.2.1.1 ch10.2.1.2 ((gt ((gt ((gt x1 y43).2.2.2) y79).2.2.2.2.2.2.1) y92).2.1))), (48, (.o g193 20)), (47, (.agg [.b20 ((gt ((gt ((gt x1 y43).2.2.2) y79).2.2.2.2.2.2.1) y92).1)])), (46, (.p g193)), (13, (.p g193))]) (subR rfl)
            refine s_bldSl S (ty' := (Ty.atZ Z9 Y38)) (ds := [(0, (.agg [.b20 ((gt ((gt ((gt x1 y43).2.2.2) y79).2.2.2.2.2.2.1) y92).1), .sl ch12.1 (t7).length ch12.2.2 (atR Z9 (RdS (Ty.arr .u64 4) ch12.1 t7)), .sl ch13.1 (t8).length ch13.2.2 (atR Z9 (RdS yb ch13.1 t8))]))]) (z := (z20, ([] : List (List Int)), ([] : List Int))) (c0 := ((), (none, 0), (none, 0))) (ys := [((gt ((gt ((gt x1 y43).2.2.2) y79).2.2.2.2.2.2.1) y92).1, t7, t8)]) (cs := [((), (ch12.1, ch12.2.2), (ch13.1, ch13.2.2))]) rfl underlying22 J38 Z38 rfl ⟨rfl, okz_nil, okz_nil, trivial⟩ rfl rfl rfl rfl rfl rfl fun g194 a w S => CL.bk hw S (.c1 (.c2 .n)) le fun hw => h_run' S rfl trivial (s_app S (k2 := 1) (ys := [((gt ((gt ((gt x1 y43).2.2.2) y79).2.2.2.2.2.2.1) y92).1, t7, t8)]) rfl (fun _ _ => .h2) rfl rfl (S.holds _ (Pull.mem .h).1).1 (Res.row.src (S.holds _ (Pull.mem .h).1)) underlying22 J38 c9 rfl fun A10 cp128 a w S => CL.bk hw S (.c1 (.c2 .n)) le fun hw => ?_)
            replace CL := CL.add (t := 56) (d := (.s A10 (nn63 + 1) cp128)) S rfl rfl
            refine h_assign S CL hw le (subR rfl) rfl rfl rfl trivial fun a S CL => ?_
            refine h_done ?_; clear CL hw le
            refine x_blockN (x_thenN ?_)
            exact j4 _ A10 (nn63 + 1) cp128 (y93 ++ [((gt ((gt ((gt x1 y43).2.2.2) y79).2.2.2.2.2.2.1) y92).1, t7, t8)]) Z9 g189 a w (S.sb rfl (.c2 (.c2 (.c2 .n)))) h7
           refine h_runO S rfl trivial ?_ ?_
           ·replace S := S.privrow flatT_arr .h1 (fun _ => .h4)
            obtain ⟨Z8, le2, S, hro⟩ := S
            replace S := S.zup (Z' := Z8) .h2 le2
            replace S := S.slot (u := 54) (d' := (.agg [.b20 ((gt ((gt ((gt x1 y43).2.2.2) y79).2.2.2.2.2.2.1) y92).1), .sl ch12.1 (t7).length ch12.2.2 (atR Z8 (RdS (Ty.arr .u64 4) ch12.1 t7)), .s ch13.1 ch13.2.1 ch13.2.2])) rfl (by simp [D.val, pd, cellsOf, Seg.cells, hro.2.1]) (by have h := (S.get 54 (.agg [.b20 ((gt ((gt ((gt x1 y43).2.2.2) y79).2.2.2.2.2.2.1) y92).1), .s ch12.1 ch12.2.1 ch12.2.2, .s ch13.1 ch13.2.1 ch13.2.2]) rfl).2; exact ⟨h.1, (okz_of hro _), h.2.2.1, trivial⟩)
            replace S := S.slotz (u := 50) rfl hro
            replace S := S.privrow flatT_int .h (fun _ => .h3)
            obtain ⟨Z9, le2, S, hro⟩ := S
            replace S := S.zup (Z' := Z9) .h1 le2
            replace S := S.slot (u := 50) (d' := (.sl ch12.1 (t7).length ch12.2.2 (atR Z9 (RdS (Ty.arr .u64 4) ch12.1 t7)))) rfl rfl (okzD_up le2 (S.get 50 (.sl ch12.1 (t7).length ch12.2.2 (atR Z8 (RdS (Ty.arr .u64 4) ch12.1 t7))) rfl).2)
            replace S := S.slot (u := 54) (d' := (.agg [.b20 ((gt ((gt ((gt x1 y43).2.2.2) y79).2.2.2.2.2.2.1) y92).1), .sl ch12.1 (t7).length ch12.2.2 (atR Z9 (RdS (Ty.arr .u64 4) ch12.1 t7)), .s ch13.1 ch13.2.1 ch13.2.2])) rfl rfl (by have h := (S.get 54 (.agg [.b20 ((gt ((gt ((gt x1 y43).2.2.2) y79).2.2.2.2.2.2.1) y92).1), .sl ch12.1 (t7).length ch12.2.2 (atR Z8 (RdS (Ty.arr .u64 4) ch12.1 t7)), .s ch13.1 ch13.2.1 ch13.2.2]) rfl).2; exact ⟨h.1, (okz_up le2 h.2.1), h.2.2.1, trivial⟩)
            replace S := S.slot (u := 54) (d' := (.agg [.b20 ((gt ((gt ((gt x1 y43).2.2.2) y79).2.2.2.2.2.2.1) y92).1), .sl ch12.1 (t7).length ch12.2.2 (atR Z9 (RdS (Ty.arr .u64 4) ch12.1 t7)), .sl ch13.1 (t8).length ch13.2.2 (atR Z9 (RdS yb ch13.1 t8))])) rfl (by simp [D.val, pd, cellsOf, Seg.cells, hro.2.1]) (by have h := (S.get 54 (.agg [.b20 ((gt ((gt ((gt x1 y43).2.2.2) y79).2.2.2.2.2.2.1) y92).1), .sl ch12.1 (t7).length ch12.2.2 (atR Z9 (RdS (Ty.arr .u64 4) ch12.1 t7)), .s ch13.1 ch13.2.1 ch13.2.2]) rfl).2; exact ⟨h.1, h.2.1, (okz_of hro _), trivial⟩)
            replace S := S.slotz (u := 53) rfl hro
            replace CL := CL.drop (lq' := [(52, (.q yb ch10.2.2.1 ch10.2.2.2 ((gt ((gt ((gt x1 y43).2.2.2) y79).2.2.2.2.2.2.1) y92).2.2))), (51, (.o g193 21)), (49, (.q (Ty.arr .u64 4) ch10.2.1.1 ch10.2.1.2 ((gt ((gt ((gt x1 y43).2.2.2) y79).2.2.2.2.2.2.1) y92).2.1))), (48, (.o g193 20)), (47, (.agg [.b20 ((gt ((gt ((gt x1 y43).2.2.2) y79).2.2.2.2.2.2.1) y92).1)])), (46, (.p g193)), (13, (.p g193))]) (subR rfl)
            refine s_bldSl S (ty' := (Ty.atZ Z9 Y38)) (ds := [(0, (.agg [.b20 ((gt ((gt ((gt x1 y43).2.2.2) y79).2.2.2.2.2.2.1) y92).1), .sl ch12.1 (t7).length ch12.2.2 (atR Z9 (RdS (Ty.arr .u64 4) ch12.1 t7)), .sl ch13.1 (t8).length ch13.2.2 (atR Z9 (RdS yb ch13.1 t8))]))]) (z := (z20, ([] : List (List Int)), ([] : List Int))) (c0 := ((), (none, 0), (none, 0))) (ys := [((gt ((gt ((gt x1 y43).2.2.2) y79).2.2.2.2.2.2.1) y92).1, t7, t8)]) (cs := [((), (ch12.1, ch12.2.2), (ch13.1, ch13.2.2))]) rfl underlying22 J38 Z38 rfl ⟨rfl, okz_nil, okz_nil, trivial⟩ rfl rfl rfl rfl rfl rfl fun g194 a w S => CL.bk hw S (.c1 (.c2 .n)) le fun hw => h_run' S rfl trivial (s_move S rfl rfl fun a S => CL.bk hw S (.c1 (.c2 .n)) le fun hw => h_run' S rfl trivial (s_app S (k2 := 1) (ys := [((gt ((gt ((gt x1 y43).2.2.2) y79).2.2.2.2.2.2.1) y92).1, t7, t8)]) rfl (fun _ _ => .h2) rfl rfl (S.holds _ (Pull.mem .h).1).1 (Res.row.src (S.holds _ (Pull.mem .h).1)) underlying22 J38 c9 rfl fun A10 cp128 a w S => CL.bk hw S (.c1 (.c2 .n)) le fun hw => ?_))
            replace CL := CL.add (t := 56) (d := (.s A10 (nn63 + 1) cp128)) S rfl rfl
            refine h_assign S CL hw le (subR rfl) rfl rfl rfl trivial fun a S CL => ?_
            refine h_done ?_; clear CL hw le
            refine x_blockN (x_thenN ?_)
            exact j4 _ A10 (nn63 + 1) cp128 (y93 ++ [((gt ((gt ((gt x1 y43).2.2.2) y79).2.2.2.2.2.2.1) y92).1, t7, t8)]) Z9 g189 a w (S.sb rfl (.c2 (.c2 (.c2 .n)))) h7
           exact h_nil
          exact h_nil
         exact h_nil
        ·refine c_condF S rfl c8 (wp_skip (x_blockN (x_thenN ?_)))
         exact j4 _ A8 nn63 cp125 y93 Z6 g189 a w (S.sb rfl (.c1 (.c1 (.c1 .n)))) h4
       ·refine c_condF S rfl c6 (wp_exit (x_thenX (x_thenX (x_blockX (x_blockN (x_thenN ?_))))))
        exact j3 _ A8 nn63 cp125 y93 Z6 g189 a w (S.sb rfl (.c0 (.c0 (.c0 .n)))) h1
    ·refine c_condF S rfl c3 (wp_exit (x_thenX (x_thenX (x_blockX (x_blockN (x_thenN ?_))))))
     exact j2 _ A5 nn54 cp106 y80 Z4 g168 a w (S.sb rfl (.c0 (.c0 (.c0 .n)))) h1
  ·refine c_condF S rfl c1 (wp_exit (x_thenX (x_thenX (x_blockX (x_thenN ?_)))))
   exact j1 _ A2 nn29 cp55 y42 Z2 a w (S.sub ⟨rfl, trivial⟩ (.c0 (.c1 .n))) h1
abbrev smithyref14_SameLogs.Ty : Type := (List L38) → (List L38) → Option Bool
def smithyref14_SameLogs.Ctr (s : smithyref14_SameLogs.Ty) : Prop := ∀ (x1 : List L38) (x2 : List L38) (ch_0_0 : Option Addr) (ch_0_1 : Nat) (ch_1_0 : Option Addr) (ch_1_1 : Nat) (r : Bool), Ct (C := Unit) Tryd.prog 22 (s x1 x2 = some r) [] [(.q Y38 ch_0_0 ch_0_1 x1), (.q Y38 ch_1_0 ch_1_1 x2)] (fun _ => (.b r)) fun _ => []
def smithyref14_SameLogs.j1 : Option Bool := some true
def smithyref14_SameLogs.j2 (y1 : Int) (rec1 : Int → Option Bool) : Option Bool := rec1 (wr .i64 (y1 + 1))
def smithyref14_SameLogs.b2 (x1 : List L38) (x2 : List L38) (y1 : Int) (rec1 : Int → Option Bool) (rec2 : Int → Option Bool) (y7 : Int) : Option Bool := if (decide (y7 < (((gt x1 y1).2.1).length : Int))) = true then (if (0 : Int) ≤ y7 ∧ y7 < (((gt x1 y1).2.1).length : Int) then (if (0 : Int) ≤ y1 ∧ y1 < ((x2).length : Int) then (if (0 : Int) ≤ y7 ∧ y7 < (((gt x2 y1).2.1).length : Int) then (if (!(decide (gt ((gt x1 y1).2.1) y7 = gt ((gt x2 y1).2.1) y7))) = true then (some false) else (rec2 (wr .i64 (y7 + 1)))) else none) else none) else none) else (smithyref14_SameLogs.j2 y1 rec1)
def smithyref14_SameLogs.l2 (x1 : List L38) (x2 : List L38) (y1 : Int) (rec1 : Int → Option Bool) : Nat → Int → Option Bool
  | 0, _ => none
  | q + 1, y7 => smithyref14_SameLogs.b2 x1 x2 y1 rec1 (smithyref14_SameLogs.l2 x1 x2 y1 rec1 q) y7
def smithyref14_SameLogs.j3 (k : Nat) (x1 : List L38) (x2 : List L38) (y1 : Int) (rec1 : Int → Option Bool) (y5 : Bool) : Option Bool := if y5 = true then (some false) else (if (0 : Int) ≤ y1 ∧ y1 < ((x1).length : Int) then (smithyref14_SameLogs.l2 x1 x2 y1 rec1 k 0) else none)
def smithyref14_SameLogs.b1 (k : Nat) (x1 : List L38) (x2 : List L38) (rec1 : Int → Option Bool) (y1 : Int) : Option Bool := if (decide (y1 < ((x1).length : Int))) = true then (if (0 : Int) ≤ y1 ∧ y1 < ((x1).length : Int) then (if (0 : Int) ≤ y1 ∧ y1 < ((x2).length : Int) then (if (!(decide ((gt x1 y1).1 = (gt x2 y1).1))) = true then (smithyref14_SameLogs.j3 k x1 x2 y1 rec1 true) else (if (!((bstr ((gt x1 y1).2.2)).toList == (bstr ((gt x2 y1).2.2)).toList)) = true then (smithyref14_SameLogs.j3 k x1 x2 y1 rec1 true) else (smithyref14_SameLogs.j3 k x1 x2 y1 rec1 ((((gt x1 y1).2.1).length : Int) != (((gt x2 y1).2.1).length : Int))))) else none) else none) else smithyref14_SameLogs.j1
def smithyref14_SameLogs.l1 (k : Nat) (x1 : List L38) (x2 : List L38) : Nat → Int → Option Bool
  | 0, _ => none
  | q + 1, y1 => smithyref14_SameLogs.b1 k x1 x2 (smithyref14_SameLogs.l1 k x1 x2 q) y1
def smithyref14_SameLogs.f (k : Nat) (x1 : List L38) (x2 : List L38) : Option Bool := if (((x1).length : Int) != ((x2).length : Int)) = true then (some false) else (smithyref14_SameLogs.l1 k x1 x2 k 0)
theorem smithyref14_SameLogs.ok (k : Nat) : smithyref14_SameLogs.Ctr (smithyref14_SameLogs.f k) := by
 intro x1 x2 ch_0_0 ch_0_1 ch_1_0 ch_1_1 r h0 mi w0 ok hm
 delta smithyref14_SameLogs.f at h0
 refine c_enterZ (n := 86) ok hm func22 rfl rfl rfl fun b0 hb a S => c_region (s_assign S rfl rfl fun a S => c_end (wp_seq (c_region (s_move S rfl rfl fun a S => s_lenS S rfl underlying22 rfl fun a S => s_move S rfl rfl fun a S => s_lenS S rfl underlying22 rfl fun a S => s_bin S rfl rfl rfl rfl fun a S => c_end ?_))))
 rcases ite_of h0 with ⟨c1, h1⟩ | ⟨c1, h1⟩
 ·refine c_condT S rfl c1 (c_region (s_assign S rfl rfl fun a S => c_end (wp_ret (x_thenR ?_))))
  obtain rfl := Option.some.inj h1
  exact b_ret1 (d := (.b false)) S rfl rfl (S.rt hb)
 ·refine c_condF S rfl c1 (wp_skip (x_thenN (wp_seq_k fun K1 hK1 => ?_)))
  have j1 : ∀ m a w, St 86 m b0 [] [] a w → smithyref14_SameLogs.j1 = some r → K1 a w := by
   intro m a w S h0
   delta smithyref14_SameLogs.j1 at h0
   refine hK1 a w (c_region (s_assign S rfl rfl fun a S => c_end (wp_ret ?_)))
   obtain rfl := Option.some.inj h0
   exact b_ret1 (d := (.b true)) S rfl rfl (S.rt hb)
  refine c_region (s_move S rfl rfl fun a S => s_lenS S rfl underlying22 rfl fun a S => s_move S rfl rfl fun a S => c_end (wp_block ?_))
  refine c_loop (fun q1 a w => ∃ m y1, St 86 m b0 [(14, (.i y1)), (13, (.i ((x1).length : Int))), (0, (.q Y38 ch_0_0 ch_0_1 x1)), (1, (.q Y38 ch_1_0 ch_1_1 x2))] [] a w ∧ smithyref14_SameLogs.l1 k x1 x2 q1 y1 = some r) ?_ ?_ (k := k) ⟨_, 0, (S.sb rfl .nil), h1⟩
  ·rintro a w ⟨m, y1, S, h0⟩
   exact (nomatch (show (none : Option Bool) = some r from h0))
  ·clear S h1
   rintro q1 a w ⟨m, y1, S, h0⟩
   replace h0 : smithyref14_SameLogs.b1 k x1 x2 (smithyref14_SameLogs.l1 k x1 x2 q1) y1 = some r := h0
   delta smithyref14_SameLogs.b1 at h0
   refine c_region (s_bin S rfl rfl rfl rfl fun a S => c_end (wp_seq ?_))
   rcases ite_of h0 with ⟨c2, h1⟩ | ⟨c2, h1⟩
   ·refine c_condT S rfl c2 (wp_skip (x_thenN (wp_seq_k fun K2 hK2 => ?_)))
    have j2 : ∀ m a w, St 86 m b0 [(14, (.i y1)), (13, (.i ((x1).length : Int))), (0, (.q Y38 ch_0_0 ch_0_1 x1)), (1, (.q Y38 ch_1_0 ch_1_1 x2))] [] a w → smithyref14_SameLogs.j2 y1 (smithyref14_SameLogs.l1 k x1 x2 q1) = some r → K2 a w := by
     intro m a w S h0
     delta smithyref14_SameLogs.j2 at h0
     refine hK2 a w (c_region' (s_bin S rfl rfl rfl rfl fun a S => s_move S rfl rfl fun a S => c_end' (x_thenN ?_)))
     exact ⟨_, (wr .i64 (y1 + 1)), (S.sb rfl .nil), h0⟩
    refine wp_block (c_region (s_move S rfl rfl fun a S => s_assign S rfl rfl fun a S => c_end (wp_seq (wp_seq_k fun K3 hK3 => ?_))))
    have j3 : ∀ m y5 a w, St 86 m b0 [(57, (.b y5)), (5, (.i y1)), (14, (.i y1)), (13, (.i ((x1).length : Int))), (0, (.q Y38 ch_0_0 ch_0_1 x1)), (1, (.q Y38 ch_1_0 ch_1_1 x2))] [] a w → smithyref14_SameLogs.j3 k x1 x2 y1 (smithyref14_SameLogs.l1 k x1 x2 q1) y5 = some r → K3 a w := by
     intro m y5 a w S h0
     delta smithyref14_SameLogs.j3 at h0
     refine hK3 a w ?_
     rcases ite_of h0 with ⟨c3, h1⟩ | ⟨c3, h1⟩
     ·refine c_condT S rfl c3 (c_region (s_assign S rfl rfl fun a S => c_end (wp_ret (x_thenR (x_blockR (x_thenR (x_thenR (x_blockR (x_thenR ?_)))))))))
      obtain rfl := Option.some.inj h1
      exact b_ret1 (d := (.b false)) S rfl rfl (S.rt hb)
     ·refine c_condF S rfl c3 (wp_skip (x_thenN (c_region (s_move S rfl rfl fun a S => s_move S rfl rfl fun a S => ?_))))
      obtain ⟨c4, h2⟩ := chk_of h1; clear h1
      refine s_iaddrS S rfl rfl rfl underlying22 T38 c4.1 c4.2 rfl fun p1 a S => s_faddrP S (tF := (Ty.slice (Ty.arr .u64 4))) (y := (gt x1 y1).2.1) rfl I38_1 T35 (by decide) (fun m h => (at_fst (at_snd (at_0 h)))) rfl fun a S => s_ldS S (fun c => c) rfl T35 (fun _ => rfl) rfl fun A1 cp1 a S => s_lenS S rfl underlying35 rfl fun a S => s_move S rfl rfl fun a S => c_end (wp_block ?_)
      refine c_loop (fun q2 a w => ∃ m y7, St 86 m b0 [(64, (.i y7)), (63, (.i (((gt x1 y1).2.1).length : Int))), (5, (.i y1)), (14, (.i y1)), (13, (.i ((x1).length : Int))), (0, (.q Y38 ch_0_0 ch_0_1 x1)), (1, (.q Y38 ch_1_0 ch_1_1 x2))] [] a w ∧ smithyref14_SameLogs.l2 x1 x2 y1 (smithyref14_SameLogs.l1 k x1 x2 q1) q2 y7 = some r) ?_ ?_ (k := k) ⟨_, 0, (S.sb rfl .nil), h2⟩
      ·rintro a w ⟨m, y7, S, h0⟩
       exact (nomatch (show (none : Option Bool) = some r from h0))
      ·clear S h2
       rintro q2 a w ⟨m, y7, S, h0⟩
       replace h0 : smithyref14_SameLogs.b2 x1 x2 y1 (smithyref14_SameLogs.l1 k x1 x2 q1) (smithyref14_SameLogs.l2 x1 x2 y1 (smithyref14_SameLogs.l1 k x1 x2 q1) q2) y7 = some r := h0
       delta smithyref14_SameLogs.b2 at h0
       refine c_region (s_bin S rfl rfl rfl rfl fun a S => c_end (wp_seq ?_))
       rcases ite_of h0 with ⟨c5, h1⟩ | ⟨c5, h1⟩
       ·refine c_condT S rfl c5 (wp_skip (x_thenN (wp_seq (wp_block (c_region (s_move S rfl rfl fun a S => s_assign S rfl rfl fun a S => c_end ?_))))))
        refine wp_seq (c_heldS S (.take 0 (.take 1 (.take 2 (.take 3 (.take 4 (.take 5 (.take 6 (.take 7 (.take 8 (.take 9 (.take 10 (.take 11 (.take 12 (.take 13 (.take 14 (.take 15 (.take 16 .done))))))))))))))))) 17 [] .nil trivial [(6, (.i y7)), (5, (.i y1)), (0, (.q Y38 ch_0_0 ch_0_1 x1)), (1, (.q Y38 ch_1_0 ch_1_1 x2))] (subR rfl) (by kernel_rfl) (by kernel_rfl) ?_); clear S; intro w S CL hw le
        refine h_move S CL hw le (subR rfl) rfl rfl rfl trivial fun a S CL => h_move S CL hw le (subR rfl) rfl rfl rfl trivial fun a S CL => h_iaddrS S CL hw le (subR rfl) rfl rfl rfl underlying22 T38 c4.1 c4.2 rfl rfl trivial fun p10 a S CL => h_faddrP S CL hw le (subR rfl) (tF := (Ty.slice (Ty.arr .u64 4))) (y := (gt x1 y1).2.1) rfl I38_1 T35 (by decide) (fun m h => (at_fst (at_snd (at_0 h)))) rfl rfl trivial fun a S CL => h_ldS S CL hw le (subR rfl) (fun c => c) rfl T35 (fun _ => rfl) rfl rfl trivial fun A2 cp6 a S CL => h_move S CL hw le (subR rfl) rfl rfl rfl trivial fun a S CL => ?_
        obtain ⟨c6, h2⟩ := chk_of h1; clear h1
        refine h_iaddrS S CL hw le (subR rfl) rfl rfl rfl underlying35 T53 c6.1 c6.2 rfl rfl trivial fun p11 a S CL => h_ldA S CL hw le (subR rfl) (fun (c : Unit) => [.w4 (gt ((gt x1 y1).2.1) y7)]) rfl T53 (fun _ => rfl) rfl rfl trivial fun ch1 a S CL => ?_
        refine h_move S CL hw le (subR rfl) rfl rfl rfl trivial fun a S CL => h_move S CL hw le (subR rfl) rfl rfl rfl trivial fun a S CL => ?_
        obtain ⟨c7, h3⟩ := chk_of h2; clear h2
        refine h_iaddrS S CL hw le (subR rfl) rfl rfl rfl underlying22 T38 c7.1 c7.2 rfl rfl trivial fun p12 a S CL => h_faddrP S CL hw le (subR rfl) (tF := (Ty.slice (Ty.arr .u64 4))) (y := (gt x2 y1).2.1) rfl I38_1 T35 (by decide) (fun m h => (at_fst (at_snd (at_0 h)))) rfl rfl trivial fun a S CL => h_ldS S CL hw le (subR rfl) (fun c => c) rfl T35 (fun _ => rfl) rfl rfl trivial fun A3 cp7 a S CL => h_move S CL hw le (subR rfl) rfl rfl rfl trivial fun a S CL => ?_
        obtain ⟨c8, h4⟩ := chk_of h3; clear h3
        refine h_iaddrS S CL hw le (subR rfl) rfl rfl rfl underlying35 T53 c8.1 c8.2 rfl rfl trivial fun p13 a S CL => h_ldA S CL hw le (subR rfl) (fun (c : Unit) => [.w4 (gt ((gt x2 y1).2.1) y7)]) rfl T53 (fun _ => rfl) rfl rfl trivial fun ch2 a S CL => ?_
        refine h_nea S CL hw le (subR rfl) rfl rfl underlying53 underlying51 T51 Q53 rfl rfl trivial fun a S CL => ?_
        refine h_done ?_; clear CL hw le
        refine x_thenN ?_
        rcases ite_of h4 with ⟨c9, h5⟩ | ⟨c9, h5⟩
        ·refine c_condT S rfl c9 (c_region (s_assign S rfl rfl fun a S => c_end (wp_ret (x_blockR (x_thenR (x_thenR (x_blockR (x_blockR (x_thenR (x_thenR (x_blockR (x_thenR ?_))))))))))))
         obtain rfl := Option.some.inj h5
         exact b_ret1 (d := (.b false)) S rfl rfl (S.rt hb)
        ·refine c_condF S rfl c9 (wp_skip (x_blockN (x_thenN (c_region' (s_bin S rfl rfl rfl rfl fun a S => s_move S rfl rfl fun a S => c_end' (x_thenN ?_))))))
         exact ⟨_, (wr .i64 (y7 + 1)), (S.sb rfl .nil), h5⟩
       ·refine c_condF S rfl c5 (wp_exit (x_thenX (x_thenX (x_blockX (x_blockN (x_thenN ?_))))))
        exact j2 _ a w (S.sb rfl .nil) h1
    refine c_heldS S (.take 0 (.take 1 (.take 2 (.take 3 (.take 4 (.take 5 (.take 6 (.take 7 (.take 8 (.take 9 (.take 10 (.take 11 (.take 12 (.take 13 (.take 14 (.take 15 (.take 16 (.take 17 (.take 18 (.take 19 (.take 20 (.take 21 (.take 22 (.take 23 (.take 24 (.take 25 (.take 26 (.take 27 (.take 28 (.take 29 (.take 30 (.take 31 (.take 32 (.take 33 (.take 34 (.take 35 (.take 36 (.take 37 (.take 38 (.take 39 (.take 40 .done))))))))))))))))))))))))))))))))))))))))) 41 [] .nil trivial [(5, (.i y1)), (0, (.q Y38 ch_0_0 ch_0_1 x1)), (1, (.q Y38 ch_1_0 ch_1_1 x2))] (subR rfl) (by kernel_rfl) (by kernel_rfl) fun w S CL hw le => ?_
    refine h_move S CL hw le (subR rfl) rfl rfl rfl trivial fun a S CL => h_move S CL hw le (subR rfl) rfl rfl rfl trivial fun a S CL => ?_
    obtain ⟨c10, h2⟩ := chk_of h1; clear h1
    refine h_iaddrS S CL hw le (subR rfl) rfl rfl rfl underlying22 T38 c10.1 c10.2 rfl rfl trivial fun p14 a S CL => h_faddrP S CL hw le (subR rfl) (tF := (Ty.arr .u8 20)) (y := (gt x1 y1).1) rfl I38_0 T34 (by decide) (fun m h => (at_fst (at_0 h))) rfl rfl trivial fun a S CL => h_ldA S CL hw le (subR rfl) (fun (c : Unit) => [.b20 ((gt x1 y1).1)]) rfl T34 (fun _ => rfl) rfl rfl trivial fun ch3 a S CL => ?_
    refine h_move S CL hw le (subR rfl) rfl rfl rfl trivial fun a S CL => h_move S CL hw le (subR rfl) rfl rfl rfl trivial fun a S CL => ?_
    obtain ⟨c11, h3⟩ := chk_of h2; clear h2
    refine h_iaddrS S CL hw le (subR rfl) rfl rfl rfl underlying22 T38 c11.1 c11.2 rfl rfl trivial fun p15 a S CL => h_faddrP S CL hw le (subR rfl) (tF := (Ty.arr .u8 20)) (y := (gt x2 y1).1) rfl I38_0 T34 (by decide) (fun m h => (at_fst (at_0 h))) rfl rfl trivial fun a S CL => h_ldA S CL hw le (subR rfl) (fun (c : Unit) => [.b20 ((gt x2 y1).1)]) rfl T34 (fun _ => rfl) rfl rfl trivial fun ch4 a S CL => ?_
    refine h_nea S CL hw le (subR rfl) rfl rfl underlying34 underlying5 T5 Q34 rfl rfl trivial fun a S CL => h_move S CL hw le (subR rfl) rfl rfl rfl trivial fun a S CL => ?_
    rcases ite_of h3 with ⟨c12, h4⟩ | ⟨c12, h4⟩
    ·refine h_skip S CL rfl rfl rfl (ne_bool c12) rfl fun a S CL => h_skip S CL rfl rfl rfl (ne_bool c12) rfl fun a S CL => h_skip S CL rfl rfl rfl (ne_bool c12) rfl fun a S CL => h_skip S CL rfl rfl rfl (ne_bool c12) rfl fun a S CL => h_skip S CL rfl rfl rfl (ne_bool c12) rfl fun a S CL => h_skip S CL rfl rfl rfl (ne_bool c12) rfl fun a S CL => h_skip S CL rfl rfl rfl (ne_bool c12) rfl fun a S CL => h_skip S CL rfl rfl rfl (ne_bool c12) rfl fun a S CL => h_skip S CL rfl rfl rfl (ne_bool c12) rfl fun a S CL => h_skip S CL rfl rfl rfl (ne_bool c12) rfl fun a S CL => h_skip S CL rfl rfl rfl (ne_bool c12) rfl fun a S CL => h_skip S CL rfl rfl rfl (ne_bool c12) rfl fun a S CL => h_skip S CL rfl rfl rfl (ne_bool c12) rfl fun a S CL => h_pick S CL hw le (subR rfl) (b := true) (hc_of rfl c12) rfl rfl rfl trivial fun a S CL => h_move S CL hw le (subR rfl) rfl rfl rfl trivial fun a S CL => h_skip S CL rfl rfl rfl (ne_bool rfl) rfl fun a S CL => h_skip S CL rfl rfl rfl (ne_bool rfl) rfl fun a S CL => h_skip S CL rfl rfl rfl (ne_bool rfl) rfl fun a S CL => h_skip S CL rfl rfl rfl (ne_bool rfl) rfl fun a S CL => h_skip S CL rfl rfl rfl (ne_bool rfl) rfl fun a S CL => h_skip S CL rfl rfl rfl (ne_bool rfl) rfl fun a S CL => h_skip S CL rfl rfl rfl (ne_bool rfl) rfl fun a S CL => h_skip S CL rfl rfl rfl (ne_bool rfl) rfl fun a S CL => h_skip S CL rfl rfl rfl (ne_bool rfl) rfl fun a S CL => h_skip S CL rfl rfl rfl (ne_bool rfl) rfl fun a S CL => h_skip S CL rfl rfl rfl (ne_bool rfl) rfl fun a S CL => h_skip S CL rfl rfl rfl (ne_bool rfl) rfl fun a S CL => h_skip S CL rfl rfl rfl (ne_bool rfl) rfl fun a S CL => h_pick S CL hw le (subR rfl) (b := true) (hc_of rfl rfl) rfl rfl rfl trivial fun a S CL => ?_
     refine h_done ?_; clear CL hw le
     refine x_thenN ?_
     exact j3 _ true a w (S.sb rfl .nil) h4
    ·refine h_move S CL hw le (subR rfl) rfl rfl rfl ⟨_, _, rfl, rfl, c12⟩ fun a S CL => h_move S CL hw le (subR rfl) rfl rfl rfl ⟨_, _, rfl, rfl, c12⟩ fun a S CL => h_iaddrS S CL hw le (subR rfl) rfl rfl rfl underlying22 T38 c10.1 c10.2 rfl rfl ⟨_, _, rfl, rfl, c12⟩ fun p16 a S CL => h_faddrP S CL hw le (subR rfl) (tF := (Ty.slice yb)) (y := (gt x1 y1).2.2) rfl I38_2 T36 (by decide) (fun m h => (at_snd (at_snd (at_0 h)))) rfl rfl ⟨_, _, rfl, rfl, c12⟩ fun a S CL => h_ldS S CL hw le (subR rfl) (fun c => c) rfl T36 (fun _ => rfl) rfl rfl ⟨_, _, rfl, rfl, c12⟩ fun A4 cp8 a S CL => h_strS S CL hw le (subR rfl) rfl rfl underlying36 underlying5 underlying9 rfl rfl ⟨_, _, rfl, rfl, c12⟩ fun a S CL => h_move S CL hw le (subR rfl) rfl rfl rfl ⟨_, _, rfl, rfl, c12⟩ fun a S CL => h_move S CL hw le (subR rfl) rfl rfl rfl ⟨_, _, rfl, rfl, c12⟩ fun a S CL => h_iaddrS S CL hw le (subR rfl) rfl rfl rfl underlying22 T38 c11.1 c11.2 rfl rfl ⟨_, _, rfl, rfl, c12⟩ fun p17 a S CL => h_faddrP S CL hw le (subR rfl) (tF := (Ty.slice yb)) (y := (gt x2 y1).2.2) rfl I38_2 T36 (by decide) (fun m h => (at_snd (at_snd (at_0 h)))) rfl rfl ⟨_, _, rfl, rfl, c12⟩ fun a S CL => h_ldS S CL hw le (subR rfl) (fun c => c) rfl T36 (fun _ => rfl) rfl rfl ⟨_, _, rfl, rfl, c12⟩ fun A5 cp9 a S CL => h_strS S CL hw le (subR rfl) rfl rfl underlying36 underlying5 underlying9 rfl rfl ⟨_, _, rfl, rfl, c12⟩ fun a S CL => h_neT S CL hw le (subR rfl) rfl rfl rfl rfl ⟨_, _, rfl, rfl, c12⟩ fun a S CL => h_pick S CL hw le (subR rfl) (b := false) (hc_of rfl c12) rfl rfl rfl trivial fun a S CL => h_move S CL hw le (subR rfl) rfl rfl rfl trivial fun a S CL => ?_
     rcases ite_of h4 with ⟨c13, h5⟩ | ⟨c13, h5⟩
     ·refine h_skip S CL rfl rfl rfl (ne_bool c13) rfl fun a S CL => h_skip S CL rfl rfl rfl (ne_bool c13) rfl fun a S CL => h_skip S CL rfl rfl rfl (ne_bool c13) rfl fun a S CL => h_skip S CL rfl rfl rfl (ne_bool c13) rfl fun a S CL => h_skip S CL rfl rfl rfl (ne_bool c13) rfl fun a S CL => h_skip S CL rfl rfl rfl (ne_bool c13) rfl fun a S CL => h_skip S CL rfl rfl rfl (ne_bool c13) rfl fun a S CL => h_skip S CL rfl rfl rfl (ne_bool c13) rfl fun a S CL => h_skip S CL rfl rfl rfl (ne_bool c13) rfl fun a S CL => h_skip S CL rfl rfl rfl (ne_bool c13) rfl fun a S CL => h_skip S CL rfl rfl rfl (ne_bool c13) rfl fun a S CL => h_skip S CL rfl rfl rfl (ne_bool c13) rfl fun a S CL => h_skip S CL rfl rfl rfl (ne_bool c13) rfl fun a S CL => h_pick S CL hw le (subR rfl) (b := true) (hc_of rfl c13) rfl rfl rfl trivial fun a S CL => ?_
      refine h_done ?_; clear CL hw le
      refine x_thenN ?_
      exact j3 _ true a w (S.sb rfl .nil) h5
     ·refine h_move S CL hw le (subR rfl) rfl rfl rfl ⟨_, _, rfl, rfl, c13⟩ fun a S CL => h_move S CL hw le (subR rfl) rfl rfl rfl ⟨_, _, rfl, rfl, c13⟩ fun a S CL => h_iaddrS S CL hw le (subR rfl) rfl rfl rfl underlying22 T38 c10.1 c10.2 rfl rfl ⟨_, _, rfl, rfl, c13⟩ fun p18 a S CL => h_faddrP S CL hw le (subR rfl) (tF := (Ty.slice (Ty.arr .u64 4))) (y := (gt x1 y1).2.1) rfl I38_1 T35 (by decide) (fun m h => (at_fst (at_snd (at_0 h)))) rfl rfl ⟨_, _, rfl, rfl, c13⟩ fun a S CL => h_ldS S CL hw le (subR rfl) (fun c => c) rfl T35 (fun _ => rfl) rfl rfl ⟨_, _, rfl, rfl, c13⟩ fun A6 cp10 a S CL => h_lenS S CL hw le (subR rfl) rfl underlying35 rfl rfl ⟨_, _, rfl, rfl, c13⟩ fun a S CL => h_move S CL hw le (subR rfl) rfl rfl rfl ⟨_, _, rfl, rfl, c13⟩ fun a S CL => h_move S CL hw le (subR rfl) rfl rfl rfl ⟨_, _, rfl, rfl, c13⟩ fun a S CL => h_iaddrS S CL hw le (subR rfl) rfl rfl rfl underlying22 T38 c11.1 c11.2 rfl rfl ⟨_, _, rfl, rfl, c13⟩ fun p19 a S CL => h_faddrP S CL hw le (subR rfl) (tF := (Ty.slice (Ty.arr .u64 4))) (y := (gt x2 y1).2.1) rfl I38_1 T35 (by decide) (fun m h => (at_fst (at_snd (at_0 h)))) rfl rfl ⟨_, _, rfl, rfl, c13⟩ fun a S CL => h_ldS S CL hw le (subR rfl) (fun c => c) rfl T35 (fun _ => rfl) rfl rfl ⟨_, _, rfl, rfl, c13⟩ fun A7 cp11 a S CL => h_lenS S CL hw le (subR rfl) rfl underlying35 rfl rfl ⟨_, _, rfl, rfl, c13⟩ fun a S CL => h_bin S CL hw le (subR rfl) rfl rfl rfl rfl rfl ⟨_, _, rfl, rfl, c13⟩ fun a S CL => h_pick S CL hw le (subR rfl) (b := false) (hc_of rfl c13) rfl rfl rfl trivial fun a S CL => ?_
      refine h_done ?_; clear CL hw le
      refine x_thenN ?_
      exact j3 _ ((((gt x1 y1).2.1).length : Int) != (((gt x2 y1).2.1).length : Int)) a w (S.sb rfl .nil) h5
   ·refine c_condF S rfl c2 (wp_exit (x_thenX (x_thenX (x_blockX (x_thenN ?_)))))
    exact j1 _ a w (S.sub trivial .nil) h1
abbrev smithylaw29_BloomFinds.Ty : Type := (List L59) → (List Int) → (List (List Int)) → Option Bool
def smithylaw29_BloomFinds.Ctr (s : smithylaw29_BloomFinds.Ty) : Prop := ∀ (x1 : List L59) (x2 : List Int) (x3 : List (List Int)) (ch_0_0 : Option Addr) (ch_0_1 : Nat) (ch_2_0 : Option Addr) (ch_2_1 : Nat) (r : Bool), CtG (C := Unit) Tryd.prog Glob 6 (s x1 x2 x3 = some r) [] [(.q Y59 ch_0_0 ch_0_1 x1), (.agg [.b20 x2]), (.q (Ty.arr .u64 4) ch_2_0 ch_2_1 x3)] (fun _ => (.b r)) fun _ => []
def smithylaw29_BloomFinds.j3 (k : Nat) (x1 : List L59) (x2 : List Int) (x3 : List (List Int)) : Option Bool := (smithylaw29_fixed.f k).bind fun t5 => (if t5 = true then ((bloom_Find.f k x1 x2 x3).bind fun t6 => ((smithyref29_Find.f k x1 x2 x3).bind fun t7 => ((smithyref14_SameLogs.f k t6 t7).bind fun t8 => (some t8)))) else (some false))
def smithylaw29_BloomFinds.b1 (k : Nat) (x1 : List L59) (x2 : List Int) (x3 : List (List Int)) (t3 : (List L38)) (rec1 : Int → Option Bool) (y7 : Int) : Option Bool := if (decide (y7 < ((t3).length : Int))) = true then (if (0 : Int) ≤ y7 ∧ y7 < ((t3).length : Int) then (rec1 (wr .i64 (y7 + 1))) else none) else (smithylaw29_BloomFinds.j3 k x1 x2 x3)
def smithylaw29_BloomFinds.l1 (k : Nat) (x1 : List L59) (x2 : List Int) (x3 : List (List Int)) (t3 : (List L38)) : Nat → Int → Option Bool
  | 0, _ => none
  | q + 1, y7 => smithylaw29_BloomFinds.b1 k x1 x2 x3 t3 (smithylaw29_BloomFinds.l1 k x1 x2 x3 t3 q) y7
def smithylaw29_BloomFinds.j2 (k : Nat) (x1 : List L59) (x2 : List Int) (x3 : List (List Int)) : Option Bool := (smithyref29_Find.f k x1 x2 x3).bind fun t2 => ((bloom_Find.f k x1 x2 x3).bind fun t3 => ((smithyref14_SameLogs.f k t3 t2).bind fun t4 => (if (!t4) = true then (some false) else (smithylaw29_BloomFinds.l1 k x1 x2 x3 t3 k 0))))
def smithylaw29_BloomFinds.j4 (y9 : Int) (rec2 : Int → Option Bool) : Option Bool := rec2 (wr .i64 (y9 + 1))
def smithylaw29_BloomFinds.b3 (k : Nat) (x1 : List L59) (y9 : Int) (rec2 : Int → Option Bool) (rec3 : Int → Option Bool) (y13 : Int) : Option Bool := if (decide (y13 < (((gt x1 y9).2.2.2).length : Int))) = true then (if (0 : Int) ≤ y13 ∧ y13 < (((gt x1 y9).2.2.2).length : Int) then ((smithylaw29_great.f k ((gt ((gt x1 y9).2.2.2) y13).2.2.2.2.2.2.1)).bind fun t12 => (if t12 = true then ((smithylaw29_fixed.f k).bind fun t13 => (some t13)) else (rec3 (wr .i64 (y13 + 1))))) else none) else (smithylaw29_BloomFinds.j4 y9 rec2)
def smithylaw29_BloomFinds.l3 (k : Nat) (x1 : List L59) (y9 : Int) (rec2 : Int → Option Bool) : Nat → Int → Option Bool
  | 0, _ => none
  | q + 1, y13 => smithylaw29_BloomFinds.b3 k x1 y9 rec2 (smithylaw29_BloomFinds.l3 k x1 y9 rec2 q) y13
def smithylaw29_BloomFinds.b2 (k : Nat) (x1 : List L59) (x2 : List Int) (x3 : List (List Int)) (rec2 : Int → Option Bool) (y9 : Int) : Option Bool := if (decide (y9 < ((x1).length : Int))) = true then (if (0 : Int) ≤ y9 ∧ y9 < ((x1).length : Int) then (if (decide (10 < (((gt x1 y9).2.2.2).length : Int))) = true then ((smithylaw29_fixed.f k).bind fun t9 => (some t9)) else (smithylaw29_BloomFinds.l3 k x1 y9 rec2 k 0)) else none) else (smithylaw29_BloomFinds.j2 k x1 x2 x3)
def smithylaw29_BloomFinds.l2 (k : Nat) (x1 : List L59) (x2 : List Int) (x3 : List (List Int)) : Nat → Int → Option Bool
  | 0, _ => none
  | q + 1, y9 => smithylaw29_BloomFinds.b2 k x1 x2 x3 (smithylaw29_BloomFinds.l2 k x1 x2 x3 q) y9
def smithylaw29_BloomFinds.j1 (k : Nat) (x1 : List L59) (x2 : List Int) (x3 : List (List Int)) (y1 : Bool) : Option Bool := if y1 = true then ((smithylaw29_fixed.f k).bind fun t1 => (some t1)) else (smithylaw29_BloomFinds.l2 k x1 x2 x3 k 0)
def smithylaw29_BloomFinds.f (k : Nat) (x1 : List L59) (x2 : List Int) (x3 : List (List Int)) : Option Bool := if (decide (10 < ((x1).length : Int))) = true then (smithylaw29_BloomFinds.j1 k x1 x2 x3 true) else (smithylaw29_BloomFinds.j1 k x1 x2 x3 (decide (20 < ((x3).length : Int))))
theorem smithylaw29_BloomFinds.ok (k : Nat) : smithylaw29_BloomFinds.Ctr (smithylaw29_BloomFinds.f k) := by
 intro x1 x2 x3 ch_0_0 ch_0_1 ch_2_0 ch_2_1 r h0 mi w0 G ok hm
 delta smithylaw29_BloomFinds.f at h0
 refine c_enterZ (n := 83) ok hm func6 rfl rfl rfl fun b0 hb a S => c_region (s_box S rfl rfl rfl fun g1 a w S => s_assign S rfl rfl fun a S => c_end (wp_seq (wp_seq_k fun K1 hK1 => ?_)))
 have j1 : ∀ m y1 g2 a w, St 83 m b0 [(22, (.b y1)), (4, (.p g2)), (0, (.q Y59 ch_0_0 ch_0_1 x1)), (2, (.q (Ty.arr .u64 4) ch_2_0 ch_2_1 x3))] [Res.cells g2 34 [.b20 x2]] a w → smithylaw29_BloomFinds.j1 k x1 x2 x3 y1 = some r → K1 a w := by
  intro m y1 g2 a w S h0
  delta smithylaw29_BloomFinds.j1 at h0
  refine hK1 a w ?_
  rcases ite_of h0 with ⟨c1, h1⟩ | ⟨c1, h1⟩
  ·refine c_condT S rfl c1 (c_region (bindX h1 fun t1 et1 h2 => s_callP S _ N8 rfl rfl (smithylaw29_fixed.ok k t1 et1 _ _ (G.mono (S.leB hb))) fun ch1 m le1 a w S => s_assign S rfl rfl fun a S => c_end (wp_ret (x_thenR ?_))))
   obtain rfl := Option.some.inj h2
   exact b_ret1 (d := (.b t1)) S rfl rfl (S.rt hb)
  ·refine c_condF S rfl c1 (wp_skip (x_thenN (wp_seq_k fun K2 hK2 => ?_)))
   have j2 : ∀ m g20 a w, St 83 m b0 [(4, (.p g20)), (0, (.q Y59 ch_0_0 ch_0_1 x1)), (2, (.q (Ty.arr .u64 4) ch_2_0 ch_2_1 x3))] [Res.cells g20 34 [.b20 x2]] a w → smithylaw29_BloomFinds.j2 k x1 x2 x3 = some r → K2 a w := by
    intro m g20 a w S h0
    delta smithylaw29_BloomFinds.j2 at h0
    refine hK2 a w (c_region (s_move S rfl rfl fun a S => s_loada S rfl .h T34 (s' := [.b20 x2]) rfl rfl fun a S => s_move S rfl rfl fun a S => bindX h0 fun t2 et2 h1 => s_callR S (fun (ch : (Option Addr) × Nat × Nat) => ((.s ch.1 ch.2.1 ch.2.2) : D)) (fun (ch : (Option Addr) × Nat × Nat) => Res.row Y38 38 ch.1 ch.2.1 ch.2.2 t2) N20 rfl rfl (smithyref29_Find.ok k x1 x2 x3 ch_0_0 ch_0_1 ch_2_0 ch_2_1 t2 et2 _ _) fun ch2 m le1 a w S => s_assign S rfl rfl fun a S => c_end (c_region (s_move S rfl rfl fun a S => s_loada S rfl .h1 T34 (s' := [.b20 x2]) rfl rfl fun a S => s_move S rfl rfl fun a S => bindX h1 fun t3 et3 h2 => s_callX S (ds' := [(.q Y59 ch_0_0 ch_0_1 x1), (.agg [.b20 x2]), (.q (Ty.arr .u64 4) ch_2_0 ch_2_1 x3)]) (ds := [(.q Y59 ch_0_0 ch_0_1 x1), (.agg [.b20 x2]), (.q (Ty.arr .u64 4) ch_2_0 ch_2_1 x3)]) [] [Res.row Y38 38 ch2.1 ch2.2.1 ch2.2.2 t2, Res.cells g20 34 [.b20 x2]] (fun (ch : (Option Addr) × Nat × Nat × Mem) => ((.s ch.1 ch.2.1 ch.2.2.1) : D)) (fun (ch : (Option Addr) × Nat × Nat × Mem) => [Res.row (Ty.atZ ch.2.2.2 Y38) 38 ch.1 ch.2.1 ch.2.2.1 t3, Res.priv ch.2.2.2]) (fun (ch : (Option Addr) × Nat × Nat × Mem) => [Res.row (Ty.atZ ch.2.2.2 Y38) 38 ch.1 ch.2.1 ch.2.2.1 t3, Res.priv ch.2.2.2, Res.row Y38 38 ch2.1 ch2.2.1 ch2.2.2 t2, Res.cells g20 34 [.b20 x2]]) (fun _ => rfl) N21 rfl rfl (fun ok => ok) (.c0 (.c0 .n)) rfl (bloom_Find.ok k x1 x2 x3 ch_0_0 ch_0_1 ch_2_0 ch_2_1 t3 et3 _ _ (G.mono (S.leB hb))) fun ch3 m le1 a w S => s_assign S rfl rfl fun a S => c_end (wp_seq (c_region (s_move S rfl rfl fun a S => s_move S rfl rfl fun a S => ?_)))))))
    replace S := S.rowfro .h2
    obtain ⟨m, le1, S, hro⟩ := S
    replace S := S.slotro (u := 57) rfl hro
    replace S := S.slotro (u := 11) rfl hro
    replace S := S.slotro (u := 51) rfl hro
    refine bindX h2 fun t4 et4 h3 => s_callL S (ds' := [(.s ch3.1 ch3.2.1 ch3.2.2.1), (.q Y38 ch2.1 ch2.2.2 t2)]) (ds := [(.q Y38 ch3.1 ch3.2.2.1 t3), (.q Y38 ch2.1 ch2.2.2 t2)]) (fun (ch : Unit) => ((.b t4) : D)) (fun _ _ _ h => h) (by obtain ⟨mm, g1, g2, g3⟩ := S.zlend .h1 .h; exact ⟨mm, g1, g2, fun ok => ⟨⟨by have := g3.2.2.1; omega, g3.2.2.2, g3.1, RdS.mono _ _ _⟩, ok.2.1, trivial⟩⟩) N22 rfl (congrArg (fun z => [Value.slice ch3.1 z ch3.2.2.1, D.val (.q Y38 ch2.1 ch2.2.2 t2)]) (S.holds _ (Pull.mem .h).1).1.symm) rfl (fun _ => smithyref14_SameLogs.ok k t3 t2 ch3.1 ch3.2.2.1 ch2.1 ch2.2.2 t4 et4 _ _) fun ch4 a w S => s_not S rfl rfl fun a S => c_end ?_
    rcases ite_of h3 with ⟨c2, h4⟩ | ⟨c2, h4⟩
    ·refine c_condT S rfl c2 (c_region (s_assign S rfl rfl fun a S => c_end (wp_ret (x_thenR ?_))))
     obtain rfl := Option.some.inj h4
     exact b_ret1 (d := (.b false)) S rfl rfl (S.rt hb)
    ·refine c_condF S rfl c2 (wp_skip (x_thenN (wp_seq_k fun K3 hK3 => ?_)))
     have j3 : ∀ m g28 a w, St 83 m b0 [(4, (.p g28)), (0, (.q Y59 ch_0_0 ch_0_1 x1)), (2, (.q (Ty.arr .u64 4) ch_2_0 ch_2_1 x3))] [Res.cells g28 34 [.b20 x2]] a w → smithylaw29_BloomFinds.j3 k x1 x2 x3 = some r → K3 a w := by
      intro m g28 a w S h0
      delta smithylaw29_BloomFinds.j3 at h0
      refine hK3 a w ?_
      refine wp_seq (c_heldS S (.alts (.run 0 true (.take 1 (.take 2 (.take 3 (.take 4 (.take 6 (.take 7 (.take 8 (.alts (.run 5 true (.alts (.run 9 true (.alts (.run 10 true (.take 11 (.take 12 .done)) .nil)) .nil)) .nil))))))))) .nil)) 13 [Res.cells g28 34 [.b20 x2]] (.c0 .n) ⟨Res.stay_cells, trivial⟩ [(4, (.p g28)), (0, (.q Y59 ch_0_0 ch_0_1 x1)), (2, (.q (Ty.arr .u64 4) ch_2_0 ch_2_1 x3))] (subR rfl) (by kernel_rfl) (by kernel_rfl) ?_); clear S; intro w S CL hw le
      refine h_run' S rfl trivial (bindX h0 fun t5 et5 h1 => s_callP S _ N8 rfl rfl (smithylaw29_fixed.ok k t5 et5 _ _ (G.mono (S.leB hb))) fun ch5 m le1 a w S => ?_)
      replace le := le.trans le1
      refine CL.bk hw S (.c0 .n) le fun hw => ?_
      replace CL := CL.add (t := 71) (d := (.b t5)) S rfl rfl
      refine h_move S CL hw le (subR rfl) rfl rfl rfl trivial fun a S CL => ?_
      rcases ite_of h1 with ⟨c3, h2⟩ | ⟨c3, h2⟩
      ·refine h_move S CL hw le (subR rfl) rfl rfl rfl ⟨_, _, rfl, rfl, c3⟩ fun a S CL => h_loada S CL hw le (subR rfl) rfl .h T34 (s' := [.b20 x2]) rfl rfl rfl ⟨_, _, rfl, rfl, c3⟩ fun a S CL => h_move S CL hw le (subR rfl) rfl rfl rfl ⟨_, _, rfl, rfl, c3⟩ fun a S CL => h_move S CL hw le (subR rfl) rfl rfl rfl ⟨_, _, rfl, rfl, c3⟩ fun a S CL => h_loada S CL hw le (subR rfl) rfl .h T34 (s' := [.b20 x2]) rfl rfl rfl ⟨_, _, rfl, rfl, c3⟩ fun a S CL => h_move S CL hw le (subR rfl) rfl rfl rfl ⟨_, _, rfl, rfl, c3⟩ fun a S CL => h_run' S rfl ⟨_, _, rfl, rfl, c3⟩ (bindX h2 fun t6 et6 h3 => s_callX S (ds' := [(.q Y59 ch_0_0 ch_0_1 x1), (.agg [.b20 x2]), (.q (Ty.arr .u64 4) ch_2_0 ch_2_1 x3)]) (ds := [(.q Y59 ch_0_0 ch_0_1 x1), (.agg [.b20 x2]), (.q (Ty.arr .u64 4) ch_2_0 ch_2_1 x3)]) [] [Res.cells g28 34 [.b20 x2]] (fun (ch : (Option Addr) × Nat × Nat × Mem) => ((.s ch.1 ch.2.1 ch.2.2.1) : D)) (fun (ch : (Option Addr) × Nat × Nat × Mem) => [Res.row (Ty.atZ ch.2.2.2 Y38) 38 ch.1 ch.2.1 ch.2.2.1 t6, Res.priv ch.2.2.2]) (fun (ch : (Option Addr) × Nat × Nat × Mem) => [Res.row (Ty.atZ ch.2.2.2 Y38) 38 ch.1 ch.2.1 ch.2.2.1 t6, Res.priv ch.2.2.2, Res.cells g28 34 [.b20 x2]]) (fun _ => rfl) N21 rfl rfl (fun ok => ok) (.c0 .n) rfl (bloom_Find.ok k x1 x2 x3 ch_0_0 ch_0_1 ch_2_0 ch_2_1 t6 et6 _ _ (G.mono (S.leB hb))) fun ch6 m le1 a w S => ?_)
       replace le := le.trans le1
       refine CL.bk hw S (.c2 .n) le fun hw => h_run' S rfl ⟨_, _, rfl, rfl, c3⟩ (bindX h3 fun t7 et7 h4 => s_callR S (fun (ch : (Option Addr) × Nat × Nat) => ((.s ch.1 ch.2.1 ch.2.2) : D)) (fun (ch : (Option Addr) × Nat × Nat) => Res.row Y38 38 ch.1 ch.2.1 ch.2.2 t7) N20 rfl rfl (smithyref29_Find.ok k x1 x2 x3 ch_0_0 ch_0_1 ch_2_0 ch_2_1 t7 et7 _ _) fun ch7 m le1 a w S => ?_)
       replace le := le.trans le1
       refine CL.bk hw S (.c3 .n) le fun hw => h_run' S rfl ⟨_, _, rfl, rfl, c3⟩ ?_
       replace S := S.rowfro .h
       obtain ⟨m, le1, S, hro⟩ := S
       replace le := le.trans le1
       replace S := S.slotro (u := 80) rfl hro
       refine bindX h4 fun t8 et8 h5 => s_callL S (ds' := [(.s ch6.1 ch6.2.1 ch6.2.2.1), (.q Y38 ch7.1 ch7.2.2 t7)]) (ds := [(.q Y38 ch6.1 ch6.2.2.1 t6), (.q Y38 ch7.1 ch7.2.2 t7)]) (fun (ch : Unit) => ((.b t8) : D)) (fun _ _ _ h => h) (by obtain ⟨mm, g1, g2, g3⟩ := S.zlend .h1 .h; exact ⟨mm, g1, g2, fun ok => ⟨⟨by have := g3.2.2.1; omega, g3.2.2.2, g3.1, RdS.mono _ _ _⟩, ok.2.1, trivial⟩⟩) N22 rfl (congrArg (fun z => [Value.slice ch6.1 z ch6.2.2.1, D.val (.q Y38 ch7.1 ch7.2.2 t7)]) (S.holds _ (Pull.mem .h).1).1.symm) rfl (fun _ => smithyref14_SameLogs.ok k t6 t7 ch6.1 ch6.2.2.1 ch7.1 ch7.2.2 t8 et8 _ _) fun ch8 a w S => CL.bk hw S (.c2 .n) le fun hw => ?_
       replace CL := CL.add (t := 81) (d := (.b t8)) S rfl rfl
       refine h_pick S CL hw le (subR rfl) (b := true) (hc_of rfl c3) rfl rfl rfl trivial fun a S CL => h_assign S CL hw le (subR rfl) rfl rfl rfl trivial fun a S CL => ?_
       refine h_done ?_; clear CL hw le
       refine x_thenN (wp_ret ?_)
       obtain rfl := Option.some.inj h5
       exact b_ret1 (d := (.b t8)) S rfl rfl (S.rt hb)
      ·refine h_skip S CL rfl rfl rfl (ne_bool c3) rfl fun a S CL => h_skip S CL rfl rfl rfl (ne_bool c3) rfl fun a S CL => h_skip S CL rfl rfl rfl (ne_bool c3) rfl fun a S CL => h_skip S CL rfl rfl rfl (ne_bool c3) rfl fun a S CL => h_skip S CL rfl rfl rfl (ne_bool c3) rfl fun a S CL => h_skip S CL rfl rfl rfl (ne_bool c3) rfl fun a S CL => h_skipRt S rfl rfl rfl (ne_bool c3) rfl fun a S => CL.bk hw S (.c0 .n) le fun hw => h_skipRt S rfl rfl rfl (ne_bool c3) rfl fun a S => CL.bk hw S (.c0 .n) le fun hw => h_skipRt S rfl rfl rfl (ne_bool c3) rfl fun a S => CL.bk hw S (.c0 .n) le fun hw => ?_
       replace CL := CL.add (t := 81) (d := .u) S rfl rfl
       refine h_pick S CL hw le (subR rfl) (b := false) (hc_of rfl c3) rfl rfl rfl trivial fun a S CL => h_assign S CL hw le (subR rfl) rfl rfl rfl trivial fun a S CL => ?_
       refine h_done ?_; clear CL hw le
       refine x_thenN (wp_ret ?_)
       obtain rfl := Option.some.inj h2
       exact b_ret1 (d := (.b false)) S rfl rfl (S.rt hb)
     refine c_region (s_move S rfl rfl fun a S => s_lenO S rfl .h underlying22 rfl fun a S => s_move S rfl rfl fun a S => c_end (wp_block ?_))
     replace S := S.zjunk .h1
     refine c_loop (fun q1 a w => ∃ m y7 g35, St 83 m b0 [(62, (.i y7)), (61, (.i ((t3).length : Int))), (60, (.s ch3.1 ch3.2.1 ch3.2.2.1)), (4, (.p g35)), (0, (.q Y59 ch_0_0 ch_0_1 x1)), (2, (.q (Ty.arr .u64 4) ch_2_0 ch_2_1 x3))] [Res.row (Ty.atZ ch3.2.2.2 Y38) 38 ch3.1 ch3.2.1 ch3.2.2.1 t3, Res.junk ch3.2.2.2, Res.cells g35 34 [.b20 x2]] a w ∧ smithylaw29_BloomFinds.l1 k x1 x2 x3 t3 q1 y7 = some r) ?_ ?_ (k := k) ⟨_, 0, g20, (S.sb rfl (.c0 (.c0 (.c0 .n)))), h4⟩
     ·rintro a w ⟨m, y7, g35, S, h0⟩
      exact (nomatch (show (none : Option Bool) = some r from h0))
     ·clear S h4
      rintro q1 a w ⟨m, y7, g35, S, h0⟩
      replace h0 : smithylaw29_BloomFinds.b1 k x1 x2 x3 t3 (smithylaw29_BloomFinds.l1 k x1 x2 x3 t3 q1) y7 = some r := h0
      delta smithylaw29_BloomFinds.b1 at h0
      refine c_region (s_bin S rfl rfl rfl rfl fun a S => c_end (wp_seq ?_))
      rcases ite_of h0 with ⟨c4, h1⟩ | ⟨c4, h1⟩
      ·refine c_condT S rfl c4 (wp_skip (x_thenN (wp_seq (wp_block (c_region ?_)))))
       obtain ⟨c5, h2⟩ := chk_of h1; clear h1
       refine s_iaddrO S (ty' := (Ty.atZ ch3.2.2.2 Y38)) rfl .h rfl underlying22 T38 c5.1 c5.2 rfl fun g36 a hA1 S => s_ldRA S (ty' := (Ty.atZ ch3.2.2.2 Y38)) (i := y7) (off := 0) (fun (c : Unit × (Option Addr × Nat) × (Option Addr × Nat)) => [.b20 ((gt t3 y7).1), .sl c.2.1.1 ((gt t3 y7).2.1).length c.2.1.2 (atR ch3.2.2.2 (RdS (Ty.arr .u64 4) c.2.1.1 ((gt t3 y7).2.1))), .sl c.2.2.1 ((gt t3 y7).2.2).length c.2.2.2 (atR ch3.2.2.2 (RdS yb c.2.2.1 ((gt t3 y7).2.2)))]) rfl hA1 .h T38 c5.1 c5.2 rfl (fun _ => rfl) rfl fun ch11 a S => ?_
       refine s_alloc S Z38 rfl ⟨rfl, rfl, rfl, trivial⟩ rfl fun g37 a w S => s_store S rfl rfl rfl (s' := [.b20 ((gt t3 y7).1), .sl ch11.2.1.1 ((gt t3 y7).2.1).length ch11.2.1.2 (atR ch3.2.2.2 (RdS (Ty.arr .u64 4) ch11.2.1.1 ((gt t3 y7).2.1))), .sl ch11.2.2.1 ((gt t3 y7).2.2).length ch11.2.2.2 (atR ch3.2.2.2 (RdS yb ch11.2.2.1 ((gt t3 y7).2.2)))]) .h T38 rfl rfl fun w S => c_end (c_region (s_fieldAddr S rfl I38_1 T35 (by decide) rfl rfl fun a S => s_loadSl S rfl .h T35 (A := ch11.2.1.1) (len := ((gt t3 y7).2.1).length) (cap := ch11.2.1.2) rfl rfl fun a S => s_clearZn S rfl rfl .h2 underlying35 Z53 rfl rfl (by decide) fun w S => c_end (c_region' (s_fieldAddr S rfl I38_2 T36 (by decide) rfl rfl fun a S => s_loadSl S rfl .h T36 (A := ch11.2.2.1) (len := ((gt t3 y7).2.2).length) (cap := ch11.2.2.2) rfl rfl fun a S => s_clearZn S rfl rfl .h2 underlying36 Z5 rfl rfl (by decide) fun w S => c_end' (x_blockN (x_thenN (c_region' (s_bin S rfl rfl rfl rfl fun a S => s_move S rfl rfl fun a S => c_end' (x_thenN ?_)))))))))
       exact ⟨_, (wr .i64 (y7 + 1)), g35, (S.sb rfl (.c1 (.c1 (.c1 .n)))), h2⟩
      ·refine c_condF S rfl c4 (wp_exit (x_thenX (x_thenX (x_blockX (x_thenN ?_)))))
       exact j3 _ g35 a w (S.sb rfl (.c2 .n)) h1
   refine c_region (s_move S rfl rfl fun a S => s_lenS S rfl underlying48 rfl fun a S => s_move S rfl rfl fun a S => c_end (wp_block ?_))
   refine c_loop (fun q2 a w => ∃ m y9 g54, St 83 m b0 [(26, (.i y9)), (25, (.i ((x1).length : Int))), (24, (.q Y59 ch_0_0 ch_0_1 x1)), (4, (.p g54)), (0, (.q Y59 ch_0_0 ch_0_1 x1)), (2, (.q (Ty.arr .u64 4) ch_2_0 ch_2_1 x3))] [Res.cells g54 34 [.b20 x2]] a w ∧ smithylaw29_BloomFinds.l2 k x1 x2 x3 q2 y9 = some r) ?_ ?_ (k := k) ⟨_, 0, g2, (S.sb rfl (.c0 .n)), h1⟩
   ·rintro a w ⟨m, y9, g54, S, h0⟩
    exact (nomatch (show (none : Option Bool) = some r from h0))
   ·clear S h1
    rintro q2 a w ⟨m, y9, g54, S, h0⟩
    replace h0 : smithylaw29_BloomFinds.b2 k x1 x2 x3 (smithylaw29_BloomFinds.l2 k x1 x2 x3 q2) y9 = some r := h0
    delta smithylaw29_BloomFinds.b2 at h0
    refine c_region (s_bin S rfl rfl rfl rfl fun a S => c_end (wp_seq ?_))
    rcases ite_of h0 with ⟨c6, h1⟩ | ⟨c6, h1⟩
    ·refine c_condT S rfl c6 (wp_skip (x_thenN (wp_seq_k fun K4 hK4 => ?_)))
     have j4 : ∀ m g61 a w, St 83 m b0 [(26, (.i y9)), (25, (.i ((x1).length : Int))), (24, (.q Y59 ch_0_0 ch_0_1 x1)), (4, (.p g61)), (0, (.q Y59 ch_0_0 ch_0_1 x1)), (2, (.q (Ty.arr .u64 4) ch_2_0 ch_2_1 x3))] [Res.cells g61 34 [.b20 x2]] a w → smithylaw29_BloomFinds.j4 y9 (smithylaw29_BloomFinds.l2 k x1 x2 x3 q2) = some r → K4 a w := by
      intro m g61 a w S h0
      delta smithylaw29_BloomFinds.j4 at h0
      refine hK4 a w (c_region' (s_bin S rfl rfl rfl rfl fun a S => s_move S rfl rfl fun a S => c_end' (x_thenN ?_)))
      exact ⟨_, (wr .i64 (y9 + 1)), g61, (S.sb rfl (.c0 .n)), h0⟩
     refine wp_block (c_region ?_)
     obtain ⟨c7, h2⟩ := chk_of h1; clear h1
     refine s_iaddrS S rfl rfl rfl underlying48 T59 c7.1 c7.2 rfl fun p1 a S => s_ldA S (fun (c : (Unit × Unit × Unit × Unit × Unit × Unit × Unit × Unit × Unit × Unit) × Unit × (Option Addr × Nat) × (Option Addr × Nat)) => [.b32 (((gt x1 y9).1).1), .w (((gt x1 y9).1).2.1), .w (((gt x1 y9).1).2.2.1), .w (((gt x1 y9).1).2.2.2.1), .w (((gt x1 y9).1).2.2.2.2.1), .w4 (((gt x1 y9).1).2.2.2.2.2.1), .b20 (((gt x1 y9).1).2.2.2.2.2.2.1), .w4 (((gt x1 y9).1).2.2.2.2.2.2.2.1), .b32 (((gt x1 y9).1).2.2.2.2.2.2.2.2.1), .b32 (((gt x1 y9).1).2.2.2.2.2.2.2.2.2), .b32 ((gt x1 y9).2.1), .q (Ty.arr .u8 32) c.2.2.1.1 c.2.2.1.2 ((gt x1 y9).2.2.1), .q Y61 c.2.2.2.1 c.2.2.2.2 ((gt x1 y9).2.2.2)]) rfl T59 (fun _ => rfl) rfl fun ch12 a S => ?_
     refine s_alloc S Z59 rfl ⟨rfl, rfl, rfl, rfl, rfl, rfl, rfl, rfl, rfl, rfl, rfl, rfl, rfl, trivial⟩ rfl fun g62 a w S => s_store S rfl rfl rfl (s' := [.b32 (((gt x1 y9).1).1), .w (((gt x1 y9).1).2.1), .w (((gt x1 y9).1).2.2.1), .w (((gt x1 y9).1).2.2.2.1), .w (((gt x1 y9).1).2.2.2.2.1), .w4 (((gt x1 y9).1).2.2.2.2.2.1), .b20 (((gt x1 y9).1).2.2.2.2.2.2.1), .w4 (((gt x1 y9).1).2.2.2.2.2.2.2.1), .b32 (((gt x1 y9).1).2.2.2.2.2.2.2.2.1), .b32 (((gt x1 y9).1).2.2.2.2.2.2.2.2.2), .b32 ((gt x1 y9).2.1), .q (Ty.arr .u8 32) ch12.2.2.1.1 ch12.2.2.1.2 ((gt x1 y9).2.2.1), .q Y61 ch12.2.2.2.1 ch12.2.2.2.2 ((gt x1 y9).2.2.2)]) .h T59 rfl rfl fun w S => c_end (wp_seq (c_region (s_fieldAddr S rfl I59_3 T57 (by decide) rfl rfl fun a S => s_loadSl S rfl .h T57 (A := ch12.2.2.2.1) (len := ((gt x1 y9).2.2.2).length) (cap := ch12.2.2.2.2) rfl rfl fun a S => s_lenS S rfl underlying57 rfl fun a S => s_bin S rfl rfl rfl rfl fun a S => c_end ?_)))
     rcases ite_of h2 with ⟨c8, h3⟩ | ⟨c8, h3⟩
     ·refine c_condT S rfl c8 (c_region (bindX h3 fun t9 et9 h4 => s_callP S _ N8 rfl rfl (smithylaw29_fixed.ok k t9 et9 _ _ (G.mono (S.leB hb))) fun ch13 m le1 a w S => s_assign S rfl rfl fun a S => c_end (wp_ret (x_thenR (x_blockR (x_thenR (x_thenR (x_blockR (x_thenR ?_)))))))))
      obtain rfl := Option.some.inj h4
      exact b_ret1 (d := (.b t9)) S rfl rfl (S.rt hb)
     ·refine c_condF S rfl c8 (wp_skip (x_thenN (c_region (s_fieldAddr S rfl I59_3 T57 (by decide) rfl rfl fun a S => s_loadSl S rfl .h T57 (A := ch12.2.2.2.1) (len := ((gt x1 y9).2.2.2).length) (cap := ch12.2.2.2.2) rfl rfl fun a S => s_lenS S rfl underlying57 rfl fun a S => s_move S rfl rfl fun a S => c_end (wp_block ?_)))))
      refine c_loop (fun q3 a w => ∃ m y13 A1 cp1 g67, St 83 m b0 [(38, (.i y13)), (37, (.i (((gt x1 y9).2.2.2).length : Int))), (36, (.q Y61 A1 cp1 ((gt x1 y9).2.2.2))), (26, (.i y9)), (25, (.i ((x1).length : Int))), (24, (.q Y59 ch_0_0 ch_0_1 x1)), (4, (.p g67)), (0, (.q Y59 ch_0_0 ch_0_1 x1)), (2, (.q (Ty.arr .u64 4) ch_2_0 ch_2_1 x3))] [Res.cells g67 34 [.b20 x2]] a w ∧ smithylaw29_BloomFinds.l3 k x1 y9 (smithylaw29_BloomFinds.l2 k x1 x2 x3 q2) q3 y13 = some r) ?_ ?_ (k := k) ⟨_, 0, ch12.2.2.2.1, ch12.2.2.2.2, g54, (S.sb rfl (.c1 .n)), h3⟩
      ·rintro a w ⟨m, y13, A1, cp1, g67, S, h0⟩
       exact (nomatch (show (none : Option Bool) = some r from h0))
      ·clear S h3
       rintro q3 a w ⟨m, y13, A1, cp1, g67, S, h0⟩
       replace h0 : smithylaw29_BloomFinds.b3 k x1 y9 (smithylaw29_BloomFinds.l2 k x1 x2 x3 q2) (smithylaw29_BloomFinds.l3 k x1 y9 (smithylaw29_BloomFinds.l2 k x1 x2 x3 q2) q3) y13 = some r := h0
       delta smithylaw29_BloomFinds.b3 at h0
       refine c_region (s_bin S rfl rfl rfl rfl fun a S => c_end (wp_seq ?_))
       rcases ite_of h0 with ⟨c9, h1⟩ | ⟨c9, h1⟩
       ·refine c_condT S rfl c9 (wp_skip (x_thenN (wp_seq (wp_block (c_region ?_)))))
        obtain ⟨c10, h2⟩ := chk_of h1; clear h1
        refine s_iaddrS S rfl rfl rfl underlying57 T61 c10.1 c10.2 rfl fun p4 a S => s_ldA S (fun (c : Unit × Unit × Unit × Unit × Unit × Unit × (Option Addr × Nat) × (Option Addr × Nat)) => [.b20 ((gt ((gt x1 y9).2.2.2) y13).1), .w ((gt ((gt x1 y9).2.2.2) y13).2.1), .b ((gt ((gt x1 y9).2.2.2) y13).2.2.1), .w ((gt ((gt x1 y9).2.2.2) y13).2.2.2.1), .w4 ((gt ((gt x1 y9).2.2.2) y13).2.2.2.2.1), .b20 ((gt ((gt x1 y9).2.2.2) y13).2.2.2.2.2.1), .q Y38 c.2.2.2.2.2.2.1.1 c.2.2.2.2.2.2.1.2 ((gt ((gt x1 y9).2.2.2) y13).2.2.2.2.2.2.1), .q yb c.2.2.2.2.2.2.2.1 c.2.2.2.2.2.2.2.2 ((gt ((gt x1 y9).2.2.2) y13).2.2.2.2.2.2.2)]) rfl T61 (fun _ => rfl) rfl fun ch16 a S => ?_
        refine s_alloc S Z61 rfl ⟨rfl, rfl, rfl, rfl, rfl, rfl, rfl, rfl, trivial⟩ rfl fun g68 a w S => s_store S rfl rfl rfl (s' := [.b20 ((gt ((gt x1 y9).2.2.2) y13).1), .w ((gt ((gt x1 y9).2.2.2) y13).2.1), .b ((gt ((gt x1 y9).2.2.2) y13).2.2.1), .w ((gt ((gt x1 y9).2.2.2) y13).2.2.2.1), .w4 ((gt ((gt x1 y9).2.2.2) y13).2.2.2.2.1), .b20 ((gt ((gt x1 y9).2.2.2) y13).2.2.2.2.2.1), .q Y38 ch16.2.2.2.2.2.2.1.1 ch16.2.2.2.2.2.2.1.2 ((gt ((gt x1 y9).2.2.2) y13).2.2.2.2.2.2.1), .q yb ch16.2.2.2.2.2.2.2.1 ch16.2.2.2.2.2.2.2.2 ((gt ((gt x1 y9).2.2.2) y13).2.2.2.2.2.2.2)]) .h T61 rfl rfl fun w S => c_end (c_region (s_fieldAddr S rfl I61_6 T22 (by decide) rfl rfl fun a S => s_loadSl S rfl .h T22 (A := ch16.2.2.2.2.2.2.1.1) (len := ((gt ((gt x1 y9).2.2.2) y13).2.2.2.2.2.2.1).length) (cap := ch16.2.2.2.2.2.2.1.2) rfl rfl fun a S => bindX h2 fun t12 et12 h3 => s_callP S _ N7 rfl rfl (smithylaw29_great.ok k ((gt ((gt x1 y9).2.2.2) y13).2.2.2.2.2.2.1) ch16.2.2.2.2.2.2.1.1 ch16.2.2.2.2.2.2.1.2 t12 et12 _ _) fun ch17 m le1 a w S => c_end ?_))
        rcases ite_of h3 with ⟨c11, h4⟩ | ⟨c11, h4⟩
        ·refine c_condT S rfl c11 (c_region (bindX h4 fun t13 et13 h5 => s_callP S _ N8 rfl rfl (smithylaw29_fixed.ok k t13 et13 _ _ (G.mono (S.leB hb))) fun ch18 m le1 a w S => s_assign S rfl rfl fun a S => c_end (wp_ret (x_blockR (x_thenR (x_thenR (x_blockR (x_blockR (x_thenR (x_thenR (x_blockR (x_thenR ?_))))))))))))
         obtain rfl := Option.some.inj h5
         exact b_ret1 (d := (.b t13)) S rfl rfl (S.rt hb)
        ·refine c_condF S rfl c11 (wp_skip (x_blockN (x_thenN (c_region' (s_bin S rfl rfl rfl rfl fun a S => s_move S rfl rfl fun a S => c_end' (x_thenN ?_))))))
         exact ⟨_, (wr .i64 (y13 + 1)), A1, cp1, g67, (S.sb rfl (.c1 .n)), h4⟩
       ·refine c_condF S rfl c9 (wp_exit (x_thenX (x_thenX (x_blockX (x_blockN (x_thenN ?_))))))
        exact j4 _ g67 a w (S.sb rfl (.c0 .n)) h1
    ·refine c_condF S rfl c6 (wp_exit (x_thenX (x_thenX (x_blockX (x_thenN ?_)))))
     exact j2 _ g54 a w (S.sb rfl (.c0 .n)) h1
 refine c_region' (s_move S rfl rfl fun a S => s_lenS S rfl underlying48 rfl fun a S => s_bin S rfl rfl rfl rfl fun a S => s_move S rfl rfl fun a S => ?_)
 rcases ite_of h0 with ⟨c12, h1⟩ | ⟨c12, h1⟩
 ·refine s_gF S (b := (decide (10 < ((x1).length : Int)))) rfl rfl c12 rfl fun a S => s_gF S (b := (decide (10 < ((x1).length : Int)))) rfl rfl c12 rfl fun a S => s_gF S (b := (decide (10 < ((x1).length : Int)))) rfl rfl c12 rfl fun a S => s_pick S (b := true) (hc_of rfl c12) rfl rfl fun a S => c_end' (x_thenN ?_)
  exact j1 _ true g1 a w (S.sb rfl (.c0 .n)) h1
 ·refine s_gT S (b := (decide (10 < ((x1).length : Int)))) rfl rfl c12 (s_move S rfl rfl fun a S => s_gT S (b := (decide (10 < ((x1).length : Int)))) rfl rfl c12 (s_lenS S rfl underlying35 rfl fun a S => s_gT S (b := (decide (10 < ((x1).length : Int)))) rfl rfl c12 (s_bin S rfl rfl rfl rfl fun a S => s_pick S (b := false) (hc_of rfl c12) rfl rfl fun a S => c_end' (x_thenN ?_))))
  exact j1 _ (decide (20 < ((x3).length : Int))) g1 a w (S.sb rfl (.c0 .n)) h1
abbrev smithyref05_Constants.Ty : Type := Option ((List Int))
def smithyref05_Constants.Ctr (s : smithyref05_Constants.Ty) : Prop := ∀ (r : (List Int)), Ct (C := Unit) Tryd.prog 38 (s = some r) [] [] (fun _ => (.agg [.ints .u64 r 24])) fun _ => []
def smithyref05_Constants.j1 (y1 : List Int) : Option ((List Int)) := some y1
def smithyref05_Constants.j2 (y31 : Int) (rec1 : Int → Int → (List Int) → Option ((List Int))) (y46 : Int) (y47 : List Int) : Option ((List Int)) := rec1 (wr .i64 (y31 + 1)) y46 y47
def smithyref05_Constants.j3 (y57 : Int) (rec2 : Int → Int → (List Int) → Option ((List Int))) (y61 : Int) (y62 : List Int) : Option ((List Int)) := rec2 (wr .i64 (y57 + 1)) y61 y62
def smithyref05_Constants.j4 (y57 : Int) (y58 : Int) (rec2 : Int → Int → (List Int) → Option ((List Int))) (y63 : List Int) : Option ((List Int)) := if (decide (256 ≤ (wr .i64 (y58 * 2)))) = true then (smithyref05_Constants.j3 y57 rec2 (bits .xor .i64 (wr .i64 (y58 * 2)) 369) y63) else (smithyref05_Constants.j3 y57 rec2 (wr .i64 (y58 * 2)) y63)
def smithyref05_Constants.b2 (y31 : Int) (rec1 : Int → Int → (List Int) → Option ((List Int))) (rec2 : Int → Int → (List Int) → Option ((List Int))) (y57 : Int) (y58 : Int) (y59 : List Int) : Option ((List Int)) := if (decide (y57 < 7)) = true then (if ((Int.tmod y58 2) == 1) = true then (if (0 : Int) ≤ y31 ∧ y31 < 24 then (if (0 : Int) ≤ y57 then (if (0 : Int) ≤ (wr .u64 ((shl .u64 1 (min (Int.toNat y57) 64)) - 1)) then (smithyref05_Constants.j4 y57 y58 rec2 (y59.set (Int.toNat y31) (bits .or .u64 (rd y59 y31) (shl .u64 1 (min (Int.toNat (wr .u64 ((shl .u64 1 (min (Int.toNat y57) 64)) - 1))) 64))))) else none) else none) else none) else (smithyref05_Constants.j4 y57 y58 rec2 y59)) else (smithyref05_Constants.j2 y31 rec1 y58 y59)
def smithyref05_Constants.l2 (y31 : Int) (rec1 : Int → Int → (List Int) → Option ((List Int))) : Nat → Int → Int → (List Int) → Option ((List Int))
  | 0, _, _, _ => none
  | q + 1, y57, y58, y59 => smithyref05_Constants.b2 y31 rec1 (smithyref05_Constants.l2 y31 rec1 q) y57 y58 y59
def smithyref05_Constants.b1 (k : Nat) (rec1 : Int → Int → (List Int) → Option ((List Int))) (y31 : Int) (y32 : Int) (y33 : List Int) : Option ((List Int)) := if (decide (y31 < 24)) = true then (smithyref05_Constants.l2 y31 rec1 k 0 y32 y33) else (smithyref05_Constants.j1 y33)
def smithyref05_Constants.l1 (k : Nat) : Nat → Int → Int → (List Int) → Option ((List Int))
  | 0, _, _, _ => none
  | q + 1, y31, y32, y33 => smithyref05_Constants.b1 k (smithyref05_Constants.l1 k q) y31 y32 y33
def smithyref05_Constants.f (k : Nat) : Option ((List Int)) := smithyref05_Constants.l1 k k 0 1 [0, 0, 0, 0, 0, 0, 0, 0, 0, 0, 0, 0, 0, 0, 0, 0, 0, 0, 0, 0, 0, 0, 0, 0]
theorem smithyref05_Constants.ok (k : Nat) : smithyref05_Constants.Ctr (smithyref05_Constants.f k) := by
 intro r h0 mi w0 ok hm
 delta smithyref05_Constants.f at h0
 refine c_enterZ (n := 34) ok hm func38 rfl rfl rfl fun b0 hb a S => c_region (s_alloc S Z85 rfl ⟨rfl, trivial⟩ rfl fun g1 a w S => c_end (c_region (s_build S (ds := []) (dv := (.agg [.ints .u64 z24 24])) rfl (fun _ => by kernel_rfl) ⟨rfl, trivial⟩ rfl fun a S => s_alloc S Z85 rfl ⟨rfl, trivial⟩ rfl fun g2 a w S => s_store S rfl rfl rfl (s' := [.ints .u64 z24 24]) .h T85 rfl rfl fun w S => c_end (c_region (s_assign S rfl rfl fun a S => c_end (wp_seq_k fun K1 hK1 => ?_))))))
 have j1 : ∀ m g39 g40 y1 a w, St 34 m b0 [(1, (.p g39)), (0, (.p g40))] [Res.cells g39 85 [.ints .u64 y1 24], Res.cells g40 85 [.ints .u64 z24 24]] a w → smithyref05_Constants.j1 y1 = some r → K1 a w := by
  intro m g39 g40 y1 a w S h0
  delta smithyref05_Constants.j1 at h0
  refine hK1 a w (c_region (s_loada S rfl .h T85 (s' := [.ints .u64 y1 24]) rfl rfl fun a S => s_store S rfl rfl rfl (s' := [.ints .u64 y1 24]) .h1 T85 rfl rfl fun w S => c_end (wp_ret ?_)))
  obtain rfl := Option.some.inj h0
  exact b_ret1 (d := (.agg [.ints .u64 y1 24])) S rfl (resD_cell rfl .h1 T85 rfl rfl) (S.rt hb)
 refine c_region (s_assign S rfl rfl fun a S => c_end (wp_block ?_))
 refine c_loop (fun q1 a w => ∃ m y31 y32 g75 g76 y33, St 34 m b0 [(3, (.i y31)), (2, (.i y32)), (1, (.p g75)), (0, (.p g76))] [Res.cells g75 85 [.ints .u64 y33 24], Res.cells g76 85 [.ints .u64 z24 24]] a w ∧ smithyref05_Constants.l1 k q1 y31 y32 y33 = some r) ?_ ?_ (k := k) ⟨_, 0, 1, g2, g1, z24, (S.sb rfl (.c0 (.c0 .n))), h0⟩
 ·rintro a w ⟨m, y31, y32, g75, g76, y33, S, h0⟩
  exact (nomatch (show (none : Option ((List Int))) = some r from h0))
 ·clear S h0
  rintro q1 a w ⟨m, y31, y32, g75, g76, y33, S, h0⟩
  replace h0 : smithyref05_Constants.b1 k (smithyref05_Constants.l1 k q1) y31 y32 y33 = some r := h0
  delta smithyref05_Constants.b1 at h0
  refine wp_seq (c_region (s_move S rfl rfl fun a S => s_bin S rfl rfl rfl rfl fun a S => c_end ?_))
  rcases ite_of h0 with ⟨c1, h1⟩ | ⟨c1, h1⟩
  ·refine c_condT S rfl c1 (wp_skip (x_thenN (wp_seq_k fun K2 hK2 => ?_)))
   have j2 : ∀ m y46 g91 g92 y47 a w, St 34 m b0 [(3, (.i y31)), (2, (.i y46)), (1, (.p g91)), (0, (.p g92))] [Res.cells g91 85 [.ints .u64 y47 24], Res.cells g92 85 [.ints .u64 z24 24]] a w → smithyref05_Constants.j2 y31 (smithyref05_Constants.l1 k q1) y46 y47 = some r → K2 a w := by
    intro m y46 g91 g92 y47 a w S h0
    delta smithyref05_Constants.j2 at h0
    refine hK2 a w (c_region' (s_move S rfl rfl fun a S => s_bin S rfl rfl rfl rfl fun a S => s_assign S rfl rfl fun a S => c_end' (x_thenN ?_)))
    exact ⟨_, (wr .i64 (y31 + 1)), y46, g91, g92, y47, (S.sb rfl (.c0 (.c0 .n))), h0⟩
   refine wp_block (c_region (s_assign S rfl rfl fun a S => c_end (wp_block ?_)))
   refine c_loop (fun q2 a w => ∃ m y57 y58 g105 g106 y59, St 34 m b0 [(4, (.i y57)), (3, (.i y31)), (2, (.i y58)), (1, (.p g105)), (0, (.p g106))] [Res.cells g105 85 [.ints .u64 y59 24], Res.cells g106 85 [.ints .u64 z24 24]] a w ∧ smithyref05_Constants.l2 y31 (smithyref05_Constants.l1 k q1) q2 y57 y58 y59 = some r) ?_ ?_ (k := k) ⟨_, 0, y32, g75, g76, y33, (S.sb rfl (.c0 (.c0 .n))), h1⟩
   ·rintro a w ⟨m, y57, y58, g105, g106, y59, S, h0⟩
    exact (nomatch (show (none : Option ((List Int))) = some r from h0))
   ·clear S h1
    rintro q2 a w ⟨m, y57, y58, g105, g106, y59, S, h0⟩
    replace h0 : smithyref05_Constants.b2 y31 (smithyref05_Constants.l1 k q1) (smithyref05_Constants.l2 y31 (smithyref05_Constants.l1 k q1) q2) y57 y58 y59 = some r := h0
    delta smithyref05_Constants.b2 at h0
    refine wp_seq (c_region (s_move S rfl rfl fun a S => s_bin S rfl rfl rfl rfl fun a S => c_end ?_))
    rcases ite_of h0 with ⟨c2, h1⟩ | ⟨c2, h1⟩
    ·refine c_condT S rfl c2 (wp_skip (x_thenN (wp_seq_k fun K3 hK3 => ?_)))
     have j3 : ∀ m y61 g109 g110 y62 a w, St 34 m b0 [(2, (.i y61)), (4, (.i y57)), (3, (.i y31)), (1, (.p g109)), (0, (.p g110))] [Res.cells g109 85 [.ints .u64 y62 24], Res.cells g110 85 [.ints .u64 z24 24]] a w → smithyref05_Constants.j3 y57 (smithyref05_Constants.l2 y31 (smithyref05_Constants.l1 k q1) q2) y61 y62 = some r → K3 a w := by
      intro m y61 g109 g110 y62 a w S h0
      delta smithyref05_Constants.j3 at h0
      refine hK3 a w (c_region' (s_move S rfl rfl fun a S => s_bin S rfl rfl rfl rfl fun a S => s_assign S rfl rfl fun a S => c_end' (x_thenN ?_)))
      exact ⟨_, (wr .i64 (y57 + 1)), y61, g109, g110, y62, (S.sb rfl (.c0 (.c0 .n))), h0⟩
     refine wp_block (wp_seq_k fun K4 hK4 => ?_)
     have j4 : ∀ m g111 g112 y63 a w, St 34 m b0 [(4, (.i y57)), (3, (.i y31)), (2, (.i y58)), (1, (.p g111)), (0, (.p g112))] [Res.cells g111 85 [.ints .u64 y63 24], Res.cells g112 85 [.ints .u64 z24 24]] a w → smithyref05_Constants.j4 y57 y58 (smithyref05_Constants.l2 y31 (smithyref05_Constants.l1 k q1) q2) y63 = some r → K4 a w := by
      intro m g111 g112 y63 a w S h0
      delta smithyref05_Constants.j4 at h0
      refine hK4 a w (c_region (s_move S rfl rfl fun a S => s_bin S rfl rfl rfl rfl fun a S => s_assign S rfl rfl fun a S => c_end (c_region (s_move S rfl rfl fun a S => s_bin S rfl rfl rfl rfl fun a S => c_end ?_))))
      rcases ite_of h0 with ⟨c3, h1⟩ | ⟨c3, h1⟩
      ·refine c_condT S rfl c3 (c_region' (s_move S rfl rfl fun a S => s_bin S rfl rfl rfl rfl fun a S => s_assign S rfl rfl fun a S => c_end' (x_blockN (x_thenN ?_))))
       exact j3 _ (bits .xor .i64 (wr .i64 (y58 * 2)) 369) g111 g112 y63 a w (S.sb rfl (.c0 (.c0 .n))) h1
      ·refine c_condF S rfl c3 (wp_skip (x_blockN (x_thenN ?_)))
       exact j3 _ (wr .i64 (y58 * 2)) g111 g112 y63 a w (S.sb rfl (.c0 (.c0 .n))) h1
     refine c_region (s_move S rfl rfl fun a S => s_rem S rfl rfl (by decide) rfl fun a S => s_bin S rfl rfl rfl rfl fun a S => c_end ?_)
     rcases ite_of h1 with ⟨c4, h2⟩ | ⟨c4, h2⟩
     ·refine c_condT S rfl c4 (c_heldS S (.take 0 (.take 1 (.take 2 (.take 3 (.take 4 (.take 5 (.take 6 (.take 7 (.take 8 (.take 9 (.alts (.run 10 false .done .nil)))))))))))) 10 [Res.cells g105 85 [.ints .u64 y59 24], Res.cells g106 85 [.ints .u64 z24 24]] (.c0 (.c0 .n)) ⟨Res.stay_cells, Res.stay_cells, trivial⟩ [(4, (.i y57)), (3, (.i y31)), (1, (.p g105))] (subR rfl) (by kernel_rfl) (by kernel_rfl) fun w S CL hw le => ?_)
      refine h_move S CL hw le (subR rfl) rfl rfl rfl trivial fun a S CL => h_move S CL hw le (subR rfl) rfl rfl rfl trivial fun a S CL => ?_
      obtain ⟨c5, h3⟩ := chk_of h2; clear h2
      refine h_iaddr S CL hw le (subR rfl) rfl rfl underlying85 T51 c5.1 c5.2 (mul1 _ _) rfl rfl trivial fun a S CL => h_loadi S CL hw le (subR rfl) (i := y31) rfl .h T51 .h rfl c5.1 c5.2 rfl rfl trivial fun a S CL => h_move S CL hw le (subR rfl) rfl rfl rfl trivial fun a S CL => ?_
      obtain ⟨c6, h4⟩ := chk_of h3; clear h3
      refine h_shl S CL hw le (subR rfl) (e := (min (Int.toNat y57) 64)) rfl rfl c6 rfl rfl rfl trivial fun a S CL => h_bin S CL hw le (subR rfl) rfl rfl rfl rfl rfl trivial fun a S CL => ?_
      obtain ⟨c7, h5⟩ := chk_of h4; clear h4
      refine h_shl S CL hw le (subR rfl) (e := (min (Int.toNat (wr .u64 ((shl .u64 1 (min (Int.toNat y57) 64)) - 1))) 64)) rfl rfl c7 rfl rfl rfl trivial fun a S CL => h_bin S CL hw le (subR rfl) rfl rfl rfl rfl rfl trivial fun a S CL => h_iaddr S CL hw le (subR rfl) rfl rfl underlying85 T51 c5.1 c5.2 (mul1 _ _) rfl rfl trivial fun a S CL => h_run' S rfl trivial (s_storei S (i := y31) rfl rfl .h T51 .h rfl c5.1 c5.2 fun w S => ?_)
      refine h_back ⟨fun h => (nomatch h), ?_⟩
      refine h_done ?_; clear CL hw le
      refine x_thenN ?_
      exact j4 _ g105 g106 (y59.set (Int.toNat y31) (bits .or .u64 (rd y59 y31) (shl .u64 1 (min (Int.toNat (wr .u64 ((shl .u64 1 (min (Int.toNat y57) 64)) - 1))) 64)))) a w (S.sb rfl (.c0 (.c0 .n))) h5
     ·refine c_condF S rfl c4 (wp_skip (x_thenN ?_))
      exact j4 _ g105 g106 y59 a w (S.sb rfl (.c0 (.c0 .n))) h2
    ·refine c_condF S rfl c2 (wp_exit (x_thenX (x_thenX (x_blockX (x_blockN (x_thenN ?_))))))
     exact j2 _ y58 g105 g106 y59 a w (S.sb rfl (.c0 (.c0 .n))) h1
  ·refine c_condF S rfl c1 (wp_exit (x_thenX (x_thenX (x_blockX (x_thenN ?_)))))
   exact j1 _ g75 g76 y33 a w (S.sb rfl (.c0 (.c0 .n))) h1
end
end GW
