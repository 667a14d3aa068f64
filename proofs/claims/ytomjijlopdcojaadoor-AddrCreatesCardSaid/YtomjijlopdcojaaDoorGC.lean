/-
  Printed by a program of these sessions (wip/gw/gx.py): for each Go function a Lean function with the same answers, and the walk that shows it.
-/
import Derived.Test.YtomjijlopdcojaaDoorProg
import Derived.Test.YtomjijlopdcojaaDoorGB
set_option linter.unusedVariables false
set_option maxRecDepth 10000
namespace GW
open Go Go.RowKit Go.Proofs
/-! smithy/smithylaw08.AddrWords -/
abbrev smithylaw08_AddrWords.Ty : Type := (List Int) → (List Int) → Option Bool
def smithylaw08_AddrWords.Ctr (s : smithylaw08_AddrWords.Ty) : Prop := ∀ (x1 : List Int) (x2 : List Int) (r : Bool) (h0 : s x1 x2 = some r) (mi : Mem) (w0 : World) (G : Glob mi), okL mi [(.agg [.ints .u8 x1 20]), (.agg [.ints .u64 x2 4])] → Pre mi [] w0 → Calls Tryd.prog 4 (([(.agg [.ints .u8 x1 20]), (.agg [.ints .u64 x2 4])] : List D).map D.val).toArray w0 (RetX mi [] (fun (ch : Unit) => ((.v (.bool r)) : D)) (fun (ch : Unit) => []) w0)
def smithylaw08_AddrWords.f (k : Nat) (x1 : List Int) (x2 : List Int) : Option Bool := (smithylaw08_fixed.f k).bind fun t1 => (if t1 = true then ((addr_Word.f k x1).bind fun t2 => ((smithyref08_Word.f k x1).bind fun t3 => (if (decide (t2 = t3)) = true then ((addr_Of.f k x2).bind fun t4 => ((smithyref08_Of.f k x2).bind fun t5 => (if (decide (t4 = t5)) = true then ((addr_Word.f k x1).bind fun t6 => ((addr_Of.f k t6).bind fun t7 => (some (decide (t7 = x1))))) else (some false)))) else (some false)))) else (some false))
theorem smithylaw08_AddrWords.ok (k : Nat) : smithylaw08_AddrWords.Ctr (smithylaw08_AddrWords.f k) := by
  intro x1 x2 r h0 mi w0 G ok hm
  delta smithylaw08_AddrWords.f at h0
  refine c_enterX (n := 27) [(.agg [.ints .u8 x1 20]), (.agg [.ints .u64 x2 4])] (l := [(0, (.agg [.ints .u8 x1 20])), (1, (.agg [.ints .u64 x2 4]))]) Tryd.func4 rfl rfl rfl rfl ok hm ?_
  clear ok hm
  intro b0 hb a S
  refine c_region ?_
  refine s_box S rfl rfl rfl ?_; clear S a; intro g1 a w S
  refine s_box S rfl rfl rfl ?_; clear S a w; intro g2 a w S
  refine s_assign S rfl rfl ?_; clear S a; intro a S
  refine c_end ?_
  refine wp_seq (c_heldS S (.alts (.run 0 true (.take 1 (.take 2 (.take 4 (.alts (.run 3 true (.alts (.run 5 true (.take 6 (.take 7 (.take 8 (.take 9 (.take 11 (.alts (.run 10 true (.alts (.run 12 true (.take 13 (.take 14 (.take 15 (.take 16 (.take 19 (.alts (.run 17 true (.alts (.run 18 true (.take 20 (.take 21 (.take 22 .done))) .nil)) .nil))))))) .nil)) .nil))))))) .nil)) .nil))))) .nil)) 23 [Res.cells g2 26 [.ints .u64 x2 4], Res.cells g1 23 [.ints .u8 x1 20]] (.cons .here (.cons .here .nil)) ⟨Res.stay_cells, Res.stay_cells, trivial⟩ [(3, (.v (.pointer (some ⟨g2, 0, none⟩)))), (2, (.v (.pointer (some ⟨g1, 0, none⟩))))] ⟨rfl, rfl, trivial⟩ (by kernel_rfl) (by kernel_rfl) ?_); clear S; intro w S CL hw le
  refine h_run' S rfl trivial ?_
  obtain ⟨t1, et1, h1⟩ := bind_of h0; clear h0
  refine s_callX S (ds' := []) (ds := []) [] [Res.cells g2 26 [.ints .u64 x2 4], Res.cells g1 23 [.ints .u8 x1 20]] (fun (ch : Unit) => ((.v (.bool t1)) : D)) (fun (ch : Unit) => []) (fun (ch : Unit) => [Res.cells g2 26 [.ints .u64 x2 4], Res.cells g1 23 [.ints .u8 x1 20]]) (fun _ => rfl) N7 rfl rfl (fun ok => ok) (.cons .here (.cons .here .nil)) rfl (smithylaw08_fixed.ok k t1 et1 _ _ (G.mono (S.leB hb))) ?_; clear S a; intro ch1 m le1 a w S
  replace le := le.trans le1
  replace hw := CL.again hw S (.cons .here (.cons .here .nil)) le
  refine h_back ⟨fun _ => hw, ?_⟩
  replace CL := CL.add (t := 5) (d := (.v (.bool t1))) S rfl rfl
  refine h_move S CL hw le ⟨rfl, rfl, rfl, trivial⟩ rfl rfl rfl trivial ?_; clear S CL a; intro a S CL
  rcases ite_of h1 with ⟨c1, h2⟩ | ⟨c1, h2⟩ <;> clear h1
  · refine h_loada S CL hw le ⟨rfl, rfl, rfl, rfl, trivial⟩ rfl (.there .here) T23 (s' := [.ints .u8 x1 20]) rfl rfl rfl ⟨_, _, rfl, rfl, c1⟩ ?_; clear S CL a; intro a S CL
    refine h_loada S CL hw le ⟨rfl, rfl, rfl, rfl, rfl, trivial⟩ rfl (.there .here) T23 (s' := [.ints .u8 x1 20]) rfl rfl rfl ⟨_, _, rfl, rfl, c1⟩ ?_; clear S CL a; intro a S CL
    refine h_run' S rfl ⟨_, _, rfl, rfl, c1⟩ ?_
    obtain ⟨t2, et2, h3⟩ := bind_of h2; clear h2
    refine s_callX S (ds' := [(.agg [.ints .u8 x1 20])]) (ds := [(.agg [.ints .u8 x1 20])]) [] [Res.cells g2 26 [.ints .u64 x2 4], Res.cells g1 23 [.ints .u8 x1 20]] (fun (ch : Unit) => ((.agg [.ints .u64 t2 4]) : D)) (fun (ch : Unit) => []) (fun (ch : Unit) => [Res.cells g2 26 [.ints .u64 x2 4], Res.cells g1 23 [.ints .u8 x1 20]]) (fun _ => rfl) N10 rfl rfl (fun ok => ok) (.cons .here (.cons .here .nil)) rfl (addr_Word.ok k x1 t2 et2 _ _) ?_; clear S a; intro ch2 m le1 a w S
    replace le := le.trans le1
    replace hw := CL.again hw S (.cons .here (.cons .here .nil)) le
    refine h_back ⟨fun _ => hw, ?_⟩
    replace CL := CL.add (t := 8) (d := (.agg [.ints .u64 t2 4])) S rfl rfl
    refine h_run' S rfl ⟨_, _, rfl, rfl, c1⟩ ?_
    obtain ⟨t3, et3, h4⟩ := bind_of h3; clear h3
    refine s_callX S (ds' := [(.agg [.ints .u8 x1 20])]) (ds := [(.agg [.ints .u8 x1 20])]) [] [Res.cells g2 26 [.ints .u64 x2 4], Res.cells g1 23 [.ints .u8 x1 20]] (fun (ch : Unit) => ((.agg [.ints .u64 t3 4]) : D)) (fun (ch : Unit) => []) (fun (ch : Unit) => [Res.cells g2 26 [.ints .u64 x2 4], Res.cells g1 23 [.ints .u8 x1 20]]) (fun _ => rfl) N11 rfl rfl (fun ok => ok) (.cons .here (.cons .here .nil)) rfl (smithyref08_Word.ok k x1 t3 et3 _ _) ?_; clear S a; intro ch3 m le1 a w S
    replace le := le.trans le1
    replace hw := CL.again hw S (.cons .here (.cons .here .nil)) le
    refine h_back ⟨fun _ => hw, ?_⟩
    replace CL := CL.add (t := 10) (d := (.agg [.ints .u64 t3 4])) S rfl rfl
    refine h_eqa S CL hw le ⟨rfl, rfl, rfl, rfl, rfl, rfl, rfl, rfl, trivial⟩ rfl rfl Tryd.underlying26 Tryd.underlying24 T24 Q26 rfl rfl ⟨_, _, rfl, rfl, c1⟩ ?_; clear S CL a; intro a S CL
    refine h_pick S CL hw le ⟨rfl, rfl, rfl, rfl, rfl, rfl, rfl, rfl, rfl, trivial⟩ (b := true) (hc_of rfl c1) rfl rfl rfl trivial ?_; clear S CL a; intro a S CL
    refine h_move S CL hw le ⟨rfl, rfl, rfl, rfl, rfl, rfl, rfl, rfl, rfl, rfl, trivial⟩ rfl rfl rfl trivial ?_; clear S CL a; intro a S CL
    rcases ite_of h4 with ⟨c2, h5⟩ | ⟨c2, h5⟩ <;> clear h4
    · refine h_loada S CL hw le ⟨rfl, rfl, rfl, rfl, rfl, rfl, rfl, rfl, rfl, rfl, rfl, trivial⟩ rfl .here T26 (s' := [.ints .u64 x2 4]) rfl rfl rfl ⟨_, _, rfl, rfl, c2⟩ ?_; clear S CL a; intro a S CL
      refine h_loada S CL hw le ⟨rfl, rfl, rfl, rfl, rfl, rfl, rfl, rfl, rfl, rfl, rfl, rfl, trivial⟩ rfl .here T26 (s' := [.ints .u64 x2 4]) rfl rfl rfl ⟨_, _, rfl, rfl, c2⟩ ?_; clear S CL a; intro a S CL
      refine h_run' S rfl ⟨_, _, rfl, rfl, c2⟩ ?_
      obtain ⟨t4, et4, h6⟩ := bind_of h5; clear h5
      refine s_callX S (ds' := [(.agg [.ints .u64 x2 4])]) (ds := [(.agg [.ints .u64 x2 4])]) [] [Res.cells g2 26 [.ints .u64 x2 4], Res.cells g1 23 [.ints .u8 x1 20]] (fun (ch : Unit) => ((.agg [.ints .u8 t4 20]) : D)) (fun (ch : Unit) => []) (fun (ch : Unit) => [Res.cells g2 26 [.ints .u64 x2 4], Res.cells g1 23 [.ints .u8 x1 20]]) (fun _ => rfl) N12 rfl rfl (fun ok => ok) (.cons .here (.cons .here .nil)) rfl (addr_Of.ok k x2 t4 et4 _ _) ?_; clear S a; intro ch4 m le1 a w S
      replace le := le.trans le1
      replace hw := CL.again hw S (.cons .here (.cons .here .nil)) le
      refine h_back ⟨fun _ => hw, ?_⟩
      replace CL := CL.add (t := 15) (d := (.agg [.ints .u8 t4 20])) S rfl rfl
      refine h_run' S rfl ⟨_, _, rfl, rfl, c2⟩ ?_
      obtain ⟨t5, et5, h7⟩ := bind_of h6; clear h6
      refine s_callX S (ds' := [(.agg [.ints .u64 x2 4])]) (ds := [(.agg [.ints .u64 x2 4])]) [] [Res.cells g2 26 [.ints .u64 x2 4], Res.cells g1 23 [.ints .u8 x1 20]] (fun (ch : Unit) => ((.agg [.ints .u8 t5 20]) : D)) (fun (ch : Unit) => []) (fun (ch : Unit) => [Res.cells g2 26 [.ints .u64 x2 4], Res.cells g1 23 [.ints .u8 x1 20]]) (fun _ => rfl) N13 rfl rfl (fun ok => ok) (.cons .here (.cons .here .nil)) rfl (smithyref08_Of.ok k x2 t5 et5 _ _) ?_; clear S a; intro ch5 m le1 a w S
      replace le := le.trans le1
      replace hw := CL.again hw S (.cons .here (.cons .here .nil)) le
      refine h_back ⟨fun _ => hw, ?_⟩
      replace CL := CL.add (t := 17) (d := (.agg [.ints .u8 t5 20])) S rfl rfl
      refine h_eqa S CL hw le ⟨rfl, rfl, rfl, rfl, rfl, rfl, rfl, rfl, rfl, rfl, rfl, rfl, rfl, rfl, rfl, trivial⟩ rfl rfl Tryd.underlying23 Tryd.underlying5 T5 Q23 rfl rfl ⟨_, _, rfl, rfl, c2⟩ ?_; clear S CL a; intro a S CL
      refine h_pick S CL hw le ⟨rfl, rfl, rfl, rfl, rfl, rfl, rfl, rfl, rfl, rfl, rfl, rfl, rfl, rfl, rfl, rfl, trivial⟩ (b := true) (hc_of rfl c2) rfl rfl rfl trivial ?_; clear S CL a; intro a S CL
      refine h_move S CL hw le ⟨rfl, rfl, rfl, rfl, rfl, rfl, rfl, rfl, rfl, rfl, rfl, rfl, rfl, rfl, rfl, rfl, rfl, trivial⟩ rfl rfl rfl trivial ?_; clear S CL a; intro a S CL
      rcases ite_of h7 with ⟨c3, h8⟩ | ⟨c3, h8⟩ <;> clear h7
      · refine h_loada S CL hw le ⟨rfl, rfl, rfl, rfl, rfl, rfl, rfl, rfl, rfl, rfl, rfl, rfl, rfl, rfl, rfl, rfl, rfl, rfl, trivial⟩ rfl (.there .here) T23 (s' := [.ints .u8 x1 20]) rfl rfl rfl ⟨_, _, rfl, rfl, c3⟩ ?_; clear S CL a; intro a S CL
        refine h_loada S CL hw le ⟨rfl, rfl, rfl, rfl, rfl, rfl, rfl, rfl, rfl, rfl, rfl, rfl, rfl, rfl, rfl, rfl, rfl, rfl, rfl, trivial⟩ rfl (.there .here) T23 (s' := [.ints .u8 x1 20]) rfl rfl rfl ⟨_, _, rfl, rfl, c3⟩ ?_; clear S CL a; intro a S CL
        refine h_run' S rfl ⟨_, _, rfl, rfl, c3⟩ ?_
        obtain ⟨t6, et6, h9⟩ := bind_of h8; clear h8
        refine s_callX S (ds' := [(.agg [.ints .u8 x1 20])]) (ds := [(.agg [.ints .u8 x1 20])]) [] [Res.cells g2 26 [.ints .u64 x2 4], Res.cells g1 23 [.ints .u8 x1 20]] (fun (ch : Unit) => ((.agg [.ints .u64 t6 4]) : D)) (fun (ch : Unit) => []) (fun (ch : Unit) => [Res.cells g2 26 [.ints .u64 x2 4], Res.cells g1 23 [.ints .u8 x1 20]]) (fun _ => rfl) N10 rfl rfl (fun ok => ok) (.cons .here (.cons .here .nil)) rfl (addr_Word.ok k x1 t6 et6 _ _) ?_; clear S a; intro ch6 m le1 a w S
        replace le := le.trans le1
        replace hw := CL.again hw S (.cons .here (.cons .here .nil)) le
        refine h_back ⟨fun _ => hw, ?_⟩
        refine h_run' S rfl ⟨_, _, rfl, rfl, c3⟩ ?_
        obtain ⟨t7, et7, h10⟩ := bind_of h9; clear h9
        refine s_callX S (ds' := [(.agg [.ints .u64 t6 4])]) (ds := [(.agg [.ints .u64 t6 4])]) [] [Res.cells g2 26 [.ints .u64 x2 4], Res.cells g1 23 [.ints .u8 x1 20]] (fun (ch : Unit) => ((.agg [.ints .u8 t7 20]) : D)) (fun (ch : Unit) => []) (fun (ch : Unit) => [Res.cells g2 26 [.ints .u64 x2 4], Res.cells g1 23 [.ints .u8 x1 20]]) (fun _ => rfl) N12 rfl rfl (fun ok => ok) (.cons .here (.cons .here .nil)) rfl (addr_Of.ok k t6 t7 et7 _ _) ?_; clear S a; intro ch7 m le1 a w S
        replace le := le.trans le1
        replace hw := CL.again hw S (.cons .here (.cons .here .nil)) le
        refine h_back ⟨fun _ => hw, ?_⟩
        replace CL := CL.add (t := 23) (d := (.agg [.ints .u8 t7 20])) S rfl rfl
        refine h_eqa S CL hw le ⟨rfl, rfl, rfl, rfl, rfl, rfl, rfl, rfl, rfl, rfl, rfl, rfl, rfl, rfl, rfl, rfl, rfl, rfl, rfl, rfl, rfl, trivial⟩ rfl rfl Tryd.underlying23 Tryd.underlying5 T5 Q23 rfl rfl ⟨_, _, rfl, rfl, c3⟩ ?_; clear S CL a; intro a S CL
        refine h_pick S CL hw le ⟨rfl, rfl, rfl, rfl, rfl, rfl, rfl, rfl, rfl, rfl, rfl, rfl, rfl, rfl, rfl, rfl, rfl, rfl, rfl, rfl, rfl, rfl, trivial⟩ (b := true) (hc_of rfl c3) rfl rfl rfl trivial ?_; clear S CL a; intro a S CL
        refine h_assign S CL hw le ⟨rfl, rfl, rfl, rfl, rfl, rfl, rfl, rfl, rfl, rfl, rfl, rfl, rfl, rfl, rfl, rfl, rfl, rfl, rfl, rfl, rfl, rfl, rfl, trivial⟩ rfl rfl rfl trivial ?_; clear S CL a; intro a S CL
        refine h_done ?_; clear CL hw le
        refine x_thenN ?_
        refine wp_ret ?_
        obtain rfl := Option.some.inj h10
        exact b_ret1 (d := (.v (.bool (decide (t7 = x1))))) S rfl rfl fun ok => S.retX (Hx := []) hb _ _ (() : Unit) .nil ok
      · refine h_skip S CL rfl rfl rfl (ne_bool c3) rfl ?_; clear S CL a; intro a S CL
        refine h_skip S CL rfl rfl rfl (ne_bool c3) rfl ?_; clear S CL a; intro a S CL
        refine h_skipRt S rfl rfl rfl (ne_bool c3) rfl ?_; clear S a; intro a S
        replace hw := CL.again hw S (.cons .here (.cons .here .nil)) le
        refine h_back ⟨fun _ => hw, ?_⟩
        refine h_skipRt S rfl rfl rfl (ne_bool c3) rfl ?_; clear S a; intro a S
        replace hw := CL.again hw S (.cons .here (.cons .here .nil)) le
        refine h_back ⟨fun _ => hw, ?_⟩
        replace CL := CL.add (t := 23) (d := .u) S rfl rfl
        refine h_skip S CL rfl rfl rfl (ne_bool c3) rfl ?_; clear S CL a; intro a S CL
        refine h_pick S CL hw le ⟨rfl, rfl, rfl, rfl, rfl, rfl, rfl, rfl, rfl, rfl, rfl, rfl, rfl, rfl, rfl, rfl, rfl, rfl, rfl, rfl, rfl, rfl, trivial⟩ (b := false) (hc_of rfl c3) rfl rfl rfl trivial ?_; clear S CL a; intro a S CL
        refine h_assign S CL hw le ⟨rfl, rfl, rfl, rfl, rfl, rfl, rfl, rfl, rfl, rfl, rfl, rfl, rfl, rfl, rfl, rfl, rfl, rfl, rfl, rfl, rfl, rfl, rfl, trivial⟩ rfl rfl rfl trivial ?_; clear S CL a; intro a S CL
        refine h_done ?_; clear CL hw le
        refine x_thenN ?_
        refine wp_ret ?_
        obtain rfl := Option.some.inj h8
        exact b_ret1 (d := (.v (.bool false))) S rfl rfl fun ok => S.retX (Hx := []) hb _ _ (() : Unit) .nil ok
    · refine h_skip S CL rfl rfl rfl (ne_bool c2) rfl ?_; clear S CL a; intro a S CL
      refine h_skip S CL rfl rfl rfl (ne_bool c2) rfl ?_; clear S CL a; intro a S CL
      refine h_skipRt S rfl rfl rfl (ne_bool c2) rfl ?_; clear S a; intro a S
      replace hw := CL.again hw S (.cons .here (.cons .here .nil)) le
      refine h_back ⟨fun _ => hw, ?_⟩
      replace CL := CL.add (t := 15) (d := .u) S rfl rfl
      refine h_skipRt S rfl rfl rfl (ne_bool c2) rfl ?_; clear S a; intro a S
      replace hw := CL.again hw S (.cons .here (.cons .here .nil)) le
      refine h_back ⟨fun _ => hw, ?_⟩
      replace CL := CL.add (t := 17) (d := .u) S rfl rfl
      refine h_skip S CL rfl rfl rfl (ne_bool c2) rfl ?_; clear S CL a; intro a S CL
      refine h_pick S CL hw le ⟨rfl, rfl, rfl, rfl, rfl, rfl, rfl, rfl, rfl, rfl, rfl, rfl, rfl, rfl, rfl, rfl, trivial⟩ (b := false) (hc_of rfl c2) rfl rfl rfl trivial ?_; clear S CL a; intro a S CL
      refine h_move S CL hw le ⟨rfl, rfl, rfl, rfl, rfl, rfl, rfl, rfl, rfl, rfl, rfl, rfl, rfl, rfl, rfl, rfl, rfl, trivial⟩ rfl rfl rfl trivial ?_; clear S CL a; intro a S CL
      refine h_skip S CL rfl rfl rfl (ne_bool rfl) rfl ?_; clear S CL a; intro a S CL
      refine h_skip S CL rfl rfl rfl (ne_bool rfl) rfl ?_; clear S CL a; intro a S CL
      refine h_skipRt S rfl rfl rfl (ne_bool rfl) rfl ?_; clear S a; intro a S
      replace hw := CL.again hw S (.cons .here (.cons .here .nil)) le
      refine h_back ⟨fun _ => hw, ?_⟩
      refine h_skipRt S rfl rfl rfl (ne_bool rfl) rfl ?_; clear S a; intro a S
      replace hw := CL.again hw S (.cons .here (.cons .here .nil)) le
      refine h_back ⟨fun _ => hw, ?_⟩
      replace CL := CL.add (t := 23) (d := .u) S rfl rfl
      refine h_skip S CL rfl rfl rfl (ne_bool rfl) rfl ?_; clear S CL a; intro a S CL
      refine h_pick S CL hw le ⟨rfl, rfl, rfl, rfl, rfl, rfl, rfl, rfl, rfl, rfl, rfl, rfl, rfl, rfl, rfl, rfl, rfl, rfl, rfl, rfl, rfl, rfl, trivial⟩ (b := false) (hc_of rfl rfl) rfl rfl rfl trivial ?_; clear S CL a; intro a S CL
      refine h_assign S CL hw le ⟨rfl, rfl, rfl, rfl, rfl, rfl, rfl, rfl, rfl, rfl, rfl, rfl, rfl, rfl, rfl, rfl, rfl, rfl, rfl, rfl, rfl, rfl, rfl, trivial⟩ rfl rfl rfl trivial ?_; clear S CL a; intro a S CL
      refine h_done ?_; clear CL hw le
      refine x_thenN ?_
      refine wp_ret ?_
      obtain rfl := Option.some.inj h5
      exact b_ret1 (d := (.v (.bool false))) S rfl rfl fun ok => S.retX (Hx := []) hb _ _ (() : Unit) .nil ok
  · refine h_skip S CL rfl rfl rfl (ne_bool c1) rfl ?_; clear S CL a; intro a S CL
    refine h_skip S CL rfl rfl rfl (ne_bool c1) rfl ?_; clear S CL a; intro a S CL
    refine h_skipRt S rfl rfl rfl (ne_bool c1) rfl ?_; clear S a; intro a S
    replace hw := CL.again hw S (.cons .here (.cons .here .nil)) le
    refine h_back ⟨fun _ => hw, ?_⟩
    replace CL := CL.add (t := 8) (d := .u) S rfl rfl
    refine h_skipRt S rfl rfl rfl (ne_bool c1) rfl ?_; clear S a; intro a S
    replace hw := CL.again hw S (.cons .here (.cons .here .nil)) le
    refine h_back ⟨fun _ => hw, ?_⟩
    replace CL := CL.add (t := 10) (d := .u) S rfl rfl
    refine h_skip S CL rfl rfl rfl (ne_bool c1) rfl ?_; clear S CL a; intro a S CL
    refine h_pick S CL hw le ⟨rfl, rfl, rfl, rfl, rfl, rfl, rfl, rfl, rfl, trivial⟩ (b := false) (hc_of rfl c1) rfl rfl rfl trivial ?_; clear S CL a; intro a S CL
    refine h_move S CL hw le ⟨rfl, rfl, rfl, rfl, rfl, rfl, rfl, rfl, rfl, rfl, trivial⟩ rfl rfl rfl trivial ?_; clear S CL a; intro a S CL
    refine h_skip S CL rfl rfl rfl (ne_bool rfl) rfl ?_; clear S CL a; intro a S CL
    refine h_skip S CL rfl rfl rfl (ne_bool rfl) rfl ?_; clear S CL a; intro a S CL
    refine h_skipRt S rfl rfl rfl (ne_bool rfl) rfl ?_; clear S a; intro a S
    replace hw := CL.again hw S (.cons .here (.cons .here .nil)) le
    refine h_back ⟨fun _ => hw, ?_⟩
    replace CL := CL.add (t := 15) (d := .u) S rfl rfl
    refine h_skipRt S rfl rfl rfl (ne_bool rfl) rfl ?_; clear S a; intro a S
    replace hw := CL.again hw S (.cons .here (.cons .here .nil)) le
    refine h_back ⟨fun _ => hw, ?_⟩
    replace CL := CL.add (t := 17) (d := .u) S rfl rfl
    refine h_skip S CL rfl rfl rfl (ne_bool rfl) rfl ?_; clear S CL a; intro a S CL
    refine h_pick S CL hw le ⟨rfl, rfl, rfl, rfl, rfl, rfl, rfl, rfl, rfl, rfl, rfl, rfl, rfl, rfl, rfl, rfl, trivial⟩ (b := false) (hc_of rfl rfl) rfl rfl rfl trivial ?_; clear S CL a; intro a S CL
    refine h_move S CL hw le ⟨rfl, rfl, rfl, rfl, rfl, rfl, rfl, rfl, rfl, rfl, rfl, rfl, rfl, rfl, rfl, rfl, rfl, trivial⟩ rfl rfl rfl trivial ?_; clear S CL a; intro a S CL
    refine h_skip S CL rfl rfl rfl (ne_bool rfl) rfl ?_; clear S CL a; intro a S CL
    refine h_skip S CL rfl rfl rfl (ne_bool rfl) rfl ?_; clear S CL a; intro a S CL
    refine h_skipRt S rfl rfl rfl (ne_bool rfl) rfl ?_; clear S a; intro a S
    replace hw := CL.again hw S (.cons .here (.cons .here .nil)) le
    refine h_back ⟨fun _ => hw, ?_⟩
    refine h_skipRt S rfl rfl rfl (ne_bool rfl) rfl ?_; clear S a; intro a S
    replace hw := CL.again hw S (.cons .here (.cons .here .nil)) le
    refine h_back ⟨fun _ => hw, ?_⟩
    replace CL := CL.add (t := 23) (d := .u) S rfl rfl
    refine h_skip S CL rfl rfl rfl (ne_bool rfl) rfl ?_; clear S CL a; intro a S CL
    refine h_pick S CL hw le ⟨rfl, rfl, rfl, rfl, rfl, rfl, rfl, rfl, rfl, rfl, rfl, rfl, rfl, rfl, rfl, rfl, rfl, rfl, rfl, rfl, rfl, rfl, trivial⟩ (b := false) (hc_of rfl rfl) rfl rfl rfl trivial ?_; clear S CL a; intro a S CL
    refine h_assign S CL hw le ⟨rfl, rfl, rfl, rfl, rfl, rfl, rfl, rfl, rfl, rfl, rfl, rfl, rfl, rfl, rfl, rfl, rfl, rfl, rfl, rfl, rfl, rfl, rfl, trivial⟩ rfl rfl rfl trivial ?_; clear S CL a; intro a S CL
    refine h_done ?_; clear CL hw le
    refine x_thenN ?_
    refine wp_ret ?_
    obtain rfl := Option.some.inj h2
    exact b_ret1 (d := (.v (.bool false))) S rfl rfl fun ok => S.retX (Hx := []) hb _ _ (() : Unit) .nil ok
/-! smithy/smithyref08.Less -/
abbrev smithyref08_Less.Ty : Type := (List Int) → (List Int) → Option Bool
def smithyref08_Less.Ctr (s : smithyref08_Less.Ty) : Prop := ∀ (x1 : List Int) (x2 : List Int) (r : Bool) (h0 : s x1 x2 = some r) (mi : Mem) (w0 : World), okL mi [(.agg [.ints .u8 x1 20]), (.agg [.ints .u8 x2 20])] → Pre mi [] w0 → Calls Tryd.prog 14 (([(.agg [.ints .u8 x1 20]), (.agg [.ints .u8 x2 20])] : List D).map D.val).toArray w0 (RetX mi [] (fun (ch : Unit) => ((.v (.bool r)) : D)) (fun (ch : Unit) => []) w0)
def smithyref08_Less.j1 : Option Bool := some false
def smithyref08_Less.b1 (x1 : List Int) (x2 : List Int) (rec1 : Int → Option Bool) (y1 : Int) : Option Bool := if (decide (y1 < 20)) = true then (if (0 : Int) ≤ y1 ∧ y1 < 20 then (if ((rd x1 y1) != (rd x2 y1)) = true then (some (decide ((rd x1 y1) < (rd x2 y1)))) else (rec1 (wr .i64 (y1 + 1)))) else none) else smithyref08_Less.j1
def smithyref08_Less.l1 (x1 : List Int) (x2 : List Int) : Nat → Int → Option Bool
  | 0, _ => none
  | q + 1, y1 => smithyref08_Less.b1 x1 x2 (smithyref08_Less.l1 x1 x2 q) y1
def smithyref08_Less.f (k : Nat) (x1 : List Int) (x2 : List Int) : Option Bool := smithyref08_Less.l1 x1 x2 k 0
theorem smithyref08_Less.ok (k : Nat) : smithyref08_Less.Ctr (smithyref08_Less.f k) := by
  intro x1 x2 r h0 mi w0 ok hm
  delta smithyref08_Less.f at h0
  refine c_enterX (n := 24) [(.agg [.ints .u8 x1 20]), (.agg [.ints .u8 x2 20])] (l := [(0, (.agg [.ints .u8 x1 20])), (1, (.agg [.ints .u8 x2 20]))]) Tryd.func14 rfl rfl rfl rfl ok hm ?_
  clear ok hm
  intro b0 hb a S
  refine c_region ?_
  refine s_box S rfl rfl rfl ?_; clear S a; intro g1 a w S
  refine s_box S rfl rfl rfl ?_; clear S a w; intro g2 a w S
  refine s_assign S rfl rfl ?_; clear S a; intro a S
  refine c_end ?_
  refine wp_seq_k ?_
  intro K1 hK1
  have j1 : ∀ (m : Mem) (a : Act) (w : World), St 24 m b0 [] [] a w → smithyref08_Less.j1 = some r → K1 a w := by
    intro m a w S h0
    delta smithyref08_Less.j1 at h0
    refine hK1 a w ?_
    refine c_region ?_
    refine s_assign S rfl rfl ?_; clear S a; intro a S
    refine c_end ?_
    refine wp_ret ?_
    obtain rfl := Option.some.inj h0
    exact b_ret1 (d := (.v (.bool false))) S rfl rfl fun ok => S.retX (Hx := []) hb _ _ (() : Unit) .nil ok
  refine c_region ?_
  refine s_assign S rfl rfl ?_; clear S a; intro a S
  refine c_end ?_
  refine wp_block ?_
  refine c_loop (fun q1 a w => ∃ (m : Mem) (y1 : Int) (g13 : Nat) (g14 : Nat), St 24 m b0 [(5, (.v (.int .i64 y1))), (3, (.v (.pointer (some ⟨g13, 0, none⟩)))), (2, (.v (.pointer (some ⟨g14, 0, none⟩))))] [Res.cells g13 23 [.ints .u8 x2 20], Res.cells g14 23 [.ints .u8 x1 20]] a w ∧ smithyref08_Less.l1 x1 x2 q1 y1 = some r) ?_ ?_ (k := k) ⟨_, 0, g2, g1, (S.sub ⟨rfl, rfl, rfl, trivial⟩ (.cons .here (.cons .here .nil))), h0⟩
  · rintro a w ⟨m, y1, g13, g14, S, h0⟩
    exact (nomatch (show (none : Option Bool) = some r from h0))
  · clear S h0
    rintro q1 a w ⟨m, y1, g13, g14, S, h0⟩
    replace h0 : smithyref08_Less.b1 x1 x2 (smithyref08_Less.l1 x1 x2 q1) y1 = some r := h0
    delta smithyref08_Less.b1 at h0
    refine wp_seq ?_
    refine c_region ?_
    refine s_move S rfl rfl ?_; clear S a; intro a S
    refine s_bin S rfl rfl rfl rfl ?_; clear S a; intro a S
    refine c_end ?_
    rcases ite_of h0 with ⟨c1, h1⟩ | ⟨c1, h1⟩ <;> clear h0
    · refine c_condT S rfl c1 ?_
      refine wp_skip ?_
      refine x_thenN ?_
      refine wp_seq ?_
      refine wp_block ?_
      refine wp_seq (c_heldS S (.take 0 (.take 1 (.take 2 (.take 3 (.take 4 (.take 5 (.take 6 .done))))))) 7 [Res.cells g13 23 [.ints .u8 x2 20], Res.cells g14 23 [.ints .u8 x1 20]] (.cons .here (.cons .here .nil)) ⟨Res.stay_cells, Res.stay_cells, trivial⟩ [(5, (.v (.int .i64 y1))), (3, (.v (.pointer (some ⟨g13, 0, none⟩)))), (2, (.v (.pointer (some ⟨g14, 0, none⟩))))] ⟨rfl, rfl, rfl, trivial⟩ (by kernel_rfl) (by kernel_rfl) ?_); clear S; intro w S CL hw le
      refine h_move S CL hw le ⟨rfl, rfl, rfl, trivial⟩ rfl rfl rfl trivial ?_; clear S CL a; intro a S CL
      obtain ⟨c2, h2⟩ := chk_of h1; clear h1
      refine h_iaddr S CL hw le ⟨rfl, rfl, rfl, rfl, trivial⟩ rfl rfl Tryd.underlying23 T5 c2.1 c2.2 (mul1 _ _) rfl rfl trivial ?_; clear S CL a; intro a S CL
      refine h_loadi S CL hw le ⟨rfl, rfl, rfl, rfl, rfl, trivial⟩ (i := y1) rfl (.there .here) T5 .here rfl c2.1 c2.2 rfl rfl trivial ?_; clear S CL a; intro a S CL
      refine h_move S CL hw le ⟨rfl, rfl, rfl, rfl, rfl, rfl, trivial⟩ rfl rfl rfl trivial ?_; clear S CL a; intro a S CL
      refine h_iaddr S CL hw le ⟨rfl, rfl, rfl, rfl, rfl, rfl, rfl, trivial⟩ rfl rfl Tryd.underlying23 T5 c2.1 c2.2 (mul1 _ _) rfl rfl trivial ?_; clear S CL a; intro a S CL
      refine h_loadi S CL hw le ⟨rfl, rfl, rfl, rfl, rfl, rfl, rfl, rfl, trivial⟩ (i := y1) rfl .here T5 .here rfl c2.1 c2.2 rfl rfl trivial ?_; clear S CL a; intro a S CL
      refine h_bin S CL hw le ⟨rfl, rfl, rfl, rfl, rfl, rfl, rfl, rfl, rfl, trivial⟩ rfl rfl rfl rfl rfl trivial ?_; clear S CL a; intro a S CL
      refine h_done ?_; clear CL hw le
      refine x_thenN ?_
      rcases ite_of h2 with ⟨c3, h3⟩ | ⟨c3, h3⟩ <;> clear h2
      · refine c_condT S rfl c3 ?_
        refine wp_seq (c_heldS S (.take 0 (.take 1 (.take 2 (.take 3 (.take 4 (.take 5 (.take 6 (.take 7 .done)))))))) 8 [Res.cells g13 23 [.ints .u8 x2 20], Res.cells g14 23 [.ints .u8 x1 20]] (.cons .here (.cons .here .nil)) ⟨Res.stay_cells, Res.stay_cells, trivial⟩ [(5, (.v (.int .i64 y1))), (3, (.v (.pointer (some ⟨g13, 0, none⟩)))), (2, (.v (.pointer (some ⟨g14, 0, none⟩))))] ⟨rfl, rfl, rfl, trivial⟩ (by kernel_rfl) (by kernel_rfl) ?_); clear S; intro w S CL hw le
        refine h_move S CL hw le ⟨rfl, rfl, rfl, trivial⟩ rfl rfl rfl trivial ?_; clear S CL a; intro a S CL
        refine h_iaddr S CL hw le ⟨rfl, rfl, rfl, rfl, trivial⟩ rfl rfl Tryd.underlying23 T5 c2.1 c2.2 (mul1 _ _) rfl rfl trivial ?_; clear S CL a; intro a S CL
        refine h_loadi S CL hw le ⟨rfl, rfl, rfl, rfl, rfl, trivial⟩ (i := y1) rfl (.there .here) T5 .here rfl c2.1 c2.2 rfl rfl trivial ?_; clear S CL a; intro a S CL
        refine h_move S CL hw le ⟨rfl, rfl, rfl, rfl, rfl, rfl, trivial⟩ rfl rfl rfl trivial ?_; clear S CL a; intro a S CL
        refine h_iaddr S CL hw le ⟨rfl, rfl, rfl, rfl, rfl, rfl, rfl, trivial⟩ rfl rfl Tryd.underlying23 T5 c2.1 c2.2 (mul1 _ _) rfl rfl trivial ?_; clear S CL a; intro a S CL
        refine h_loadi S CL hw le ⟨rfl, rfl, rfl, rfl, rfl, rfl, rfl, rfl, trivial⟩ (i := y1) rfl .here T5 .here rfl c2.1 c2.2 rfl rfl trivial ?_; clear S CL a; intro a S CL
        refine h_bin S CL hw le ⟨rfl, rfl, rfl, rfl, rfl, rfl, rfl, rfl, rfl, trivial⟩ rfl rfl rfl rfl rfl trivial ?_; clear S CL a; intro a S CL
        refine h_assign S CL hw le ⟨rfl, rfl, rfl, rfl, rfl, rfl, rfl, rfl, rfl, rfl, trivial⟩ rfl rfl rfl trivial ?_; clear S CL a; intro a S CL
        refine h_done ?_; clear CL hw le
        refine x_thenN ?_
        refine wp_ret ?_
        refine x_blockR ?_
        refine x_thenR ?_
        refine x_thenR ?_
        refine x_blockR ?_
        refine x_thenR ?_
        obtain rfl := Option.some.inj h3
        exact b_ret1 (d := (.v (.bool (decide ((rd x1 y1) < (rd x2 y1)))))) S rfl rfl fun ok => S.retX (Hx := []) hb _ _ (() : Unit) .nil ok
      · refine c_condF S rfl c3 ?_
        refine wp_skip ?_
        refine x_blockN ?_
        refine x_thenN ?_
        refine c_region' ?_
        refine s_move S rfl rfl ?_; clear S a; intro a S
        refine s_bin S rfl rfl rfl rfl ?_; clear S a; intro a S
        refine s_assign S rfl rfl ?_; clear S a; intro a S
        refine c_end' ?_
        refine x_thenN ?_
        exact ⟨_, (wr .i64 (y1 + 1)), g13, g14, (S.sub ⟨rfl, rfl, rfl, trivial⟩ (.cons .here (.cons .here .nil))), h3⟩
    · refine c_condF S rfl c1 ?_
      refine wp_exit ?_
      refine x_thenX ?_
      refine x_thenX ?_
      refine x_blockX ?_
      refine x_thenN ?_
      exact j1 _ a w (S.sub trivial .nil) h1
/-! bytes.Compare -/
abbrev bytes_Compare.Ty : Type := (List Int) → (List Int) → Option Int
def bytes_Compare.Ctr (s : bytes_Compare.Ty) : Prop := ∀ (x1 : List Int) (x2 : List Int) (ch_0_0 : Option Addr) (ch_0_1 : Nat) (ch_1_0 : Option Addr) (ch_1_1 : Nat) (r : Int) (h0 : s x1 x2 = some r) (mi : Mem) (w0 : World), okL mi [(.sl ch_0_0 (x1).length ch_0_1 (RdS (Ty.int .u8) ch_0_0 x1)), (.sl ch_1_0 (x2).length ch_1_1 (RdS (Ty.int .u8) ch_1_0 x2))] → Pre mi [] w0 → Calls Tryd.prog 30 (([(.sl ch_0_0 (x1).length ch_0_1 (RdS (Ty.int .u8) ch_0_0 x1)), (.sl ch_1_0 (x2).length ch_1_1 (RdS (Ty.int .u8) ch_1_0 x2))] : List D).map D.val).toArray w0 (RetX mi [] (fun (ch : Unit) => ((.v (.int .i64 r)) : D)) (fun (ch : Unit) => []) w0)
def bytes_Compare.f (x1 : List Int) (x2 : List Int) : Option Int := some (Lib.compareBytes (u8s x1) (u8s x2))
theorem bytes_Compare.ok : bytes_Compare.Ctr (bytes_Compare.f) := by
  intro x1 x2 ch_0_0 ch_0_1 ch_1_0 ch_1_1 r h0 mi w0 ok hm
  delta bytes_Compare.f at h0
  refine c_enterX (n := 8) [(.sl ch_0_0 (x1).length ch_0_1 (RdS (Ty.int .u8) ch_0_0 x1)), (.sl ch_1_0 (x2).length ch_1_1 (RdS (Ty.int .u8) ch_1_0 x2))] (l := [(0, (.sl ch_0_0 (x1).length ch_0_1 (RdS (Ty.int .u8) ch_0_0 x1))), (1, (.sl ch_1_0 (x2).length ch_1_1 (RdS (Ty.int .u8) ch_1_0 x2)))]) Tryd.func30 rfl rfl rfl rfl ok hm ?_
  clear ok hm
  intro b0 hb a S
  refine c_region ?_
  refine s_assign S rfl rfl ?_; clear S a; intro a S
  refine c_end ?_
  refine c_region ?_
  refine s_move S rfl rfl ?_; clear S a; intro a S
  refine s_move S rfl rfl ?_; clear S a; intro a S
  refine s_extCmp S X38 rfl rfl rfl ?_; clear S a; intro a S
  refine s_assign S rfl rfl ?_; clear S a; intro a S
  refine c_end ?_
  refine wp_ret ?_
  obtain rfl := Option.some.inj h0
  exact b_ret1 (d := (.v (.int .i64 (Lib.compareBytes (u8s x1) (u8s x2))))) S rfl rfl fun ok => S.retX (Hx := []) hb _ _ (() : Unit) .nil ok
/-! smithy/addr.Compare -/
abbrev addr_Compare.Ty : Type := (List Int) → (List Int) → Option Int
def addr_Compare.Ctr (s : addr_Compare.Ty) : Prop := ∀ (x1 : List Int) (x2 : List Int) (r : Int) (h0 : s x1 x2 = some r) (mi : Mem) (w0 : World), okL mi [(.agg [.ints .u8 x1 20]), (.agg [.ints .u8 x2 20])] → Pre mi [] w0 → Calls Tryd.prog 15 (([(.agg [.ints .u8 x1 20]), (.agg [.ints .u8 x2 20])] : List D).map D.val).toArray w0 (RetX mi [] (fun (ch : Unit) => ((.v (.int .i64 r)) : D)) (fun (ch : Unit) => []) w0)
def addr_Compare.f (x1 : List Int) (x2 : List Int) : Option Int := (bytes_Compare.f (((x1).drop 0).take 20) (((x2).drop 0).take 20)).bind fun t1 => (some t1)
theorem addr_Compare.ok : addr_Compare.Ctr (addr_Compare.f) := by
  intro x1 x2 r h0 mi w0 ok hm
  delta addr_Compare.f at h0
  refine c_enterX (n := 8) [(.agg [.ints .u8 x1 20]), (.agg [.ints .u8 x2 20])] (l := [(0, (.agg [.ints .u8 x1 20])), (1, (.agg [.ints .u8 x2 20]))]) Tryd.func15 rfl rfl rfl rfl ok hm ?_
  clear ok hm
  intro b0 hb a S
  refine c_region ?_
  refine s_box S rfl rfl rfl ?_; clear S a; intro g1 a w S
  refine s_box S rfl rfl rfl ?_; clear S a w; intro g2 a w S
  refine s_assign S rfl rfl ?_; clear S a; intro a S
  refine c_end ?_
  refine wp_seq (c_heldS S (.take 0 (.take 1 (.alts (.run 2 true (.take 3 .done) .nil)))) 4 [] .nil trivial [(3, (.v (.pointer (some ⟨g2, 0, none⟩)))), (2, (.v (.pointer (some ⟨g1, 0, none⟩))))] ⟨rfl, rfl, trivial⟩ (by kernel_rfl) (by kernel_rfl) ?_); clear S; intro w S CL hw le
  refine h_sliceA S CL hw le ⟨rfl, rfl, trivial⟩ (i := 0) (j := 20) (o' := 0) (len := 20) (cap := 20) rfl Tryd.underlying23 T5 (.inl ⟨rfl, rfl⟩) (.inl ⟨rfl, rfl⟩) (by decide) rfl rfl rfl rfl rfl trivial ?_; clear S CL a; intro a S CL
  refine h_sliceA S CL hw le ⟨rfl, rfl, rfl, trivial⟩ (i := 0) (j := 20) (o' := 0) (len := 20) (cap := 20) rfl Tryd.underlying23 T5 (.inl ⟨rfl, rfl⟩) (.inl ⟨rfl, rfl⟩) (by decide) rfl rfl rfl rfl rfl trivial ?_; clear S CL a; intro a S CL
  refine h_run' S rfl trivial ?_
  replace S := S.freeze (.there .here)
  obtain ⟨m, le1, S⟩ := S
  replace le := le.trans le1
  replace S := (S.slup' (u := 5) (lo := 0) (c := 20) (ys := ((x1).drop 0).take 20) rfl (Pull.mem (.there .here)).1 .here (.inl rfl) (by decide) (by decide) rfl).2
  replace S := S.freeze .here
  obtain ⟨m, le1, S⟩ := S
  replace le := le.trans le1
  replace S := (S.slup' (u := 6) (lo := 0) (c := 20) (ys := ((x2).drop 0).take 20) rfl (Pull.mem .here).1 .here (.inl rfl) (by decide) (by decide) rfl).2
  replace CL := CL.drop (lq' := [(3, (.v (.pointer (some ⟨g2, 0, none⟩)))), (2, (.v (.pointer (some ⟨g1, 0, none⟩))))]) ⟨rfl, rfl, trivial⟩
  obtain ⟨t1, et1, h1⟩ := bind_of h0; clear h0
  refine s_callX S (ds' := [(.sl (some ⟨g1, 0, none⟩) (((x1).drop 0).take 20).length 20 (RdS (Ty.int .u8) (some ⟨g1, 0, none⟩) (((x1).drop 0).take 20))), (.sl (some ⟨g2, 0, none⟩) (((x2).drop 0).take 20).length 20 (RdS (Ty.int .u8) (some ⟨g2, 0, none⟩) (((x2).drop 0).take 20)))]) (ds := [(.sl (some ⟨g1, 0, none⟩) (((x1).drop 0).take 20).length 20 (RdS (Ty.int .u8) (some ⟨g1, 0, none⟩) (((x1).drop 0).take 20))), (.sl (some ⟨g2, 0, none⟩) (((x2).drop 0).take 20).length 20 (RdS (Ty.int .u8) (some ⟨g2, 0, none⟩) (((x2).drop 0).take 20)))]) [] [Res.fro g2 23 [.ints .u8 x2 20], Res.fro g1 23 [.ints .u8 x1 20]] (fun (ch : Unit) => ((.v (.int .i64 t1)) : D)) (fun (ch : Unit) => []) (fun (ch : Unit) => [Res.fro g2 23 [.ints .u8 x2 20], Res.fro g1 23 [.ints .u8 x1 20]]) (fun _ => rfl) N30 rfl rfl (fun ok => ok) (.cons .here (.cons .here .nil)) rfl (bytes_Compare.ok (((x1).drop 0).take 20) (((x2).drop 0).take 20) (some ⟨g1, 0, none⟩) 20 (some ⟨g2, 0, none⟩) 20 t1 et1 _ _) ?_; clear S a; intro ch1 m le1 a w S
  replace le := le.trans le1
  replace hw := CL.again hw S .nil le
  refine h_back ⟨fun _ => hw, ?_⟩
  replace CL := CL.add (t := 7) (d := (.v (.int .i64 t1))) S rfl rfl
  refine h_assign S CL hw le ⟨rfl, rfl, rfl, trivial⟩ rfl rfl rfl trivial ?_; clear S CL a; intro a S CL
  refine h_done ?_; clear CL hw le
  refine x_thenN ?_
  refine wp_ret ?_
  obtain rfl := Option.some.inj h1
  exact b_ret1 (d := (.v (.int .i64 t1))) S rfl rfl fun ok => S.retX (Hx := []) hb _ _ (() : Unit) .nil ok
/-! smithy/word.Small -/
abbrev word_Small.Ty : Type := (List Int) → Option (Int × Bool)
def word_Small.Ctr (s : word_Small.Ty) : Prop := ∀ (x1 : List Int) (r : Int × Bool) (h0 : s x1 = some r) (mi : Mem) (w0 : World), okL mi [(.agg [.ints .u64 x1 4])] → Pre mi [] w0 → Calls Tryd.prog 31 (([(.agg [.ints .u64 x1 4])] : List D).map D.val).toArray w0 (RetX mi [] (fun (ch : Unit) => ((.tup [(false, [.one (.int .u64 r.1)]), (false, [.one (.bool r.2)])]) : D)) (fun (ch : Unit) => []) w0)
def word_Small.f (x1 : List Int) : Option (Int × Bool) := if ((bits .or .u64 (bits .or .u64 (rd x1 1) (rd x1 2)) (rd x1 3)) != 0) = true then (some (0, false)) else (some (rd x1 0, true))
theorem word_Small.ok : word_Small.Ctr (word_Small.f) := by
  intro x1 r h0 mi w0 ok hm
  delta word_Small.f at h0
  refine c_enterX (n := 15) [(.agg [.ints .u64 x1 4])] (l := [(0, (.agg [.ints .u64 x1 4]))]) Tryd.func31 rfl rfl rfl rfl ok hm ?_
  clear ok hm
  intro b0 hb a S
  refine c_region ?_
  refine s_box S rfl rfl rfl ?_; clear S a; intro g1 a w S
  refine s_assign S rfl rfl ?_; clear S a; intro a S
  refine s_assign S rfl rfl ?_; clear S a; intro a S
  refine c_end ?_
  refine wp_seq ?_
  refine c_region ?_
  refine s_iaddr S (o' := 1) rfl rfl Tryd.underlying26 T24 (by decide) (by decide) rfl rfl ?_; clear S a; intro a S
  refine s_loadi S (i := 1) rfl .here T24 .here rfl (by decide) (by decide) rfl ?_; clear S a; intro a S
  refine s_iaddr S (o' := 2) rfl rfl Tryd.underlying26 T24 (by decide) (by decide) rfl rfl ?_; clear S a; intro a S
  refine s_loadi S (i := 2) rfl .here T24 .here rfl (by decide) (by decide) rfl ?_; clear S a; intro a S
  refine s_bin S rfl rfl rfl rfl ?_; clear S a; intro a S
  refine s_iaddr S (o' := 3) rfl rfl Tryd.underlying26 T24 (by decide) (by decide) rfl rfl ?_; clear S a; intro a S
  refine s_loadi S (i := 3) rfl .here T24 .here rfl (by decide) (by decide) rfl ?_; clear S a; intro a S
  refine s_bin S rfl rfl rfl rfl ?_; clear S a; intro a S
  refine s_bin S rfl rfl rfl rfl ?_; clear S a; intro a S
  refine c_end ?_
  rcases ite_of h0 with ⟨c1, h1⟩ | ⟨c1, h1⟩ <;> clear h0
  · refine c_condT S rfl c1 ?_
    refine c_region ?_
    refine s_assign S rfl rfl ?_; clear S a; intro a S
    refine s_assign S rfl rfl ?_; clear S a; intro a S
    refine c_end ?_
    refine wp_ret ?_
    refine x_thenR ?_
    obtain rfl := Option.some.inj h1
    exact b_ret2 (d1 := (.v (.int .u64 0))) (d2 := (.v (.bool false))) S rfl rfl rfl fun ok1 ok2 => S.retX (Hx := []) hb _ _ (() : Unit) .nil ⟨⟨ok1, trivial⟩, ⟨ok2, trivial⟩, trivial⟩
  · refine c_condF S rfl c1 ?_
    refine wp_skip ?_
    refine x_thenN ?_
    refine c_region ?_
    refine s_iaddr S (o' := 0) rfl rfl Tryd.underlying26 T24 (by decide) (by decide) rfl rfl ?_; clear S a; intro a S
    refine s_loadi S (i := 0) rfl .here T24 .here rfl (by decide) (by decide) rfl ?_; clear S a; intro a S
    refine s_assign S rfl rfl ?_; clear S a; intro a S
    refine s_assign S rfl rfl ?_; clear S a; intro a S
    refine c_end ?_
    refine wp_ret ?_
    obtain rfl := Option.some.inj h1
    exact b_ret2 (d1 := (.v (.int .u64 (rd x1 0)))) (d2 := (.v (.bool true))) S rfl rfl rfl fun ok1 ok2 => S.retX (Hx := []) hb _ _ (() : Unit) .nil ⟨⟨ok1, trivial⟩, ⟨ok2, trivial⟩, trivial⟩
/-! smithy/addr.Precompile -/
abbrev addr_Precompile.Ty : Type := (List Int) → Option Int
def addr_Precompile.Ctr (s : addr_Precompile.Ty) : Prop := ∀ (x1 : List Int) (r : Int) (h0 : s x1 = some r) (mi : Mem) (w0 : World), okL mi [(.agg [.ints .u8 x1 20])] → Pre mi [] w0 → Calls Tryd.prog 16 (([(.agg [.ints .u8 x1 20])] : List D).map D.val).toArray w0 (RetX mi [] (fun (ch : Unit) => ((.v (.int .i64 r)) : D)) (fun (ch : Unit) => []) w0)
def addr_Precompile.j1 (t2 : Int × Bool) (y1 : Bool) : Option Int := if y1 = true then (some 0) else (some (wr .i64 t2.1))
def addr_Precompile.f (k : Nat) (x1 : List Int) : Option Int := (addr_Word.f k x1).bind fun t1 => ((word_Small.f t1).bind fun t2 => (if (!t2.2) = true then (addr_Precompile.j1 t2 true) else (addr_Precompile.j1 t2 (decide (9 < t2.1)))))
theorem addr_Precompile.ok (k : Nat) : addr_Precompile.Ctr (addr_Precompile.f k) := by
  intro x1 r h0 mi w0 ok hm
  delta addr_Precompile.f at h0
  refine c_enterX (n := 19) [(.agg [.ints .u8 x1 20])] (l := [(0, (.agg [.ints .u8 x1 20]))]) Tryd.func16 rfl rfl rfl rfl ok hm ?_
  clear ok hm
  intro b0 hb a S
  refine c_region ?_
  refine s_box S rfl rfl rfl ?_; clear S a; intro g1 a w S
  refine s_assign S rfl rfl ?_; clear S a; intro a S
  refine c_end ?_
  refine c_region ?_
  refine s_loada S rfl .here T23 (s' := [.ints .u8 x1 20]) rfl rfl ?_; clear S a; intro a S
  obtain ⟨t1, et1, h1⟩ := bind_of h0; clear h0
  refine s_callX S (ds' := [(.agg [.ints .u8 x1 20])]) (ds := [(.agg [.ints .u8 x1 20])]) [] [Res.cells g1 23 [.ints .u8 x1 20]] (fun (ch : Unit) => ((.agg [.ints .u64 t1 4]) : D)) (fun (ch : Unit) => []) (fun (ch : Unit) => [Res.cells g1 23 [.ints .u8 x1 20]]) (fun _ => rfl) N10 rfl rfl (fun ok => ok) (.cons .here .nil) rfl (addr_Word.ok k x1 t1 et1 _ _) ?_; clear S a w; intro ch1 m le1 a w S
  obtain ⟨t2, et2, h2⟩ := bind_of h1; clear h1
  refine s_callX S (ds' := [(.agg [.ints .u64 t1 4])]) (ds := [(.agg [.ints .u64 t1 4])]) [] [Res.cells g1 23 [.ints .u8 x1 20]] (fun (ch : Unit) => ((.tup [(false, [.one (.int .u64 t2.1)]), (false, [.one (.bool t2.2)])]) : D)) (fun (ch : Unit) => []) (fun (ch : Unit) => [Res.cells g1 23 [.ints .u8 x1 20]]) (fun _ => rfl) N31 rfl rfl (fun ok => ok) (.cons .here .nil) rfl (word_Small.ok t1 t2 et2 _ _) ?_; clear S a w; intro ch2 m le1 a w S
  refine s_move S rfl rfl ?_; clear S a; intro a S
  refine s_extract S rfl rfl rfl rfl ?_; clear S a; intro a S
  refine s_extract S rfl rfl rfl rfl ?_; clear S a; intro a S
  refine s_assign S rfl rfl ?_; clear S a; intro a S
  refine s_assign S rfl rfl ?_; clear S a; intro a S
  refine c_end ?_
  refine wp_seq ?_
  refine wp_seq_k ?_
  intro K1 hK1
  have j1 : ∀ (m : Mem) (y1 : Bool) (a : Act) (w : World), St 19 m b0 [(16, (.v (.bool y1))), (3, (.v (.int .u64 t2.1)))] [] a w → addr_Precompile.j1 t2 y1 = some r → K1 a w := by
    intro m y1 a w S h0
    delta addr_Precompile.j1 at h0
    refine hK1 a w ?_
    rcases ite_of h0 with ⟨c1, h1⟩ | ⟨c1, h1⟩ <;> clear h0
    · refine c_condT S rfl c1 ?_
      refine c_region ?_
      refine s_assign S rfl rfl ?_; clear S a; intro a S
      refine c_end ?_
      refine wp_ret ?_
      refine x_thenR ?_
      obtain rfl := Option.some.inj h1
      exact b_ret1 (d := (.v (.int .i64 0))) S rfl rfl fun ok => S.retX (Hx := []) hb _ _ (() : Unit) .nil ok
    · refine c_condF S rfl c1 ?_
      refine wp_skip ?_
      refine x_thenN ?_
      refine c_region ?_
      refine s_move S rfl rfl ?_; clear S a; intro a S
      refine s_conv S rfl rfl Tryd.underlying3 rfl ?_; clear S a; intro a S
      refine s_assign S rfl rfl ?_; clear S a; intro a S
      refine c_end ?_
      refine wp_ret ?_
      obtain rfl := Option.some.inj h1
      exact b_ret1 (d := (.v (.int .i64 (wr .i64 t2.1)))) S rfl rfl fun ok => S.retX (Hx := []) hb _ _ (() : Unit) .nil ok
  refine c_region' ?_
  refine s_move S rfl rfl ?_; clear S a; intro a S
  refine s_not S rfl rfl ?_; clear S a; intro a S
  refine s_move S rfl rfl ?_; clear S a; intro a S
  rcases ite_of h2 with ⟨c2, h3⟩ | ⟨c2, h3⟩ <;> clear h2
  · refine s_gF S (b := (!t2.2)) rfl rfl c2 rfl ?_; clear S a; intro a S
    refine s_gF S (b := (!t2.2)) rfl rfl c2 rfl ?_; clear S a; intro a S
    refine s_pick S (b := true) (hc_of rfl c2) rfl rfl ?_; clear S a; intro a S
    refine c_end' ?_
    refine x_thenN ?_
    exact j1 _ true a w (S.sub ⟨rfl, rfl, trivial⟩ .nil) h3
  · refine s_gT S (b := (!t2.2)) rfl rfl c2 ?_
    refine s_move S rfl rfl ?_; clear S a; intro a S
    refine s_gT S (b := (!t2.2)) rfl rfl c2 ?_
    refine s_bin S rfl rfl rfl rfl ?_; clear S a; intro a S
    refine s_pick S (b := false) (hc_of rfl c2) rfl rfl ?_; clear S a; intro a S
    refine c_end' ?_
    refine x_thenN ?_
    exact j1 _ (decide (9 < t2.1)) a w (S.sub ⟨rfl, rfl, trivial⟩ .nil) h3
/-! smithy/smithyref08.Precompile -/
abbrev smithyref08_Precompile.Ty : Type := (List Int) → Option Int
def smithyref08_Precompile.Ctr (s : smithyref08_Precompile.Ty) : Prop := ∀ (x1 : List Int) (r : Int) (h0 : s x1 = some r) (mi : Mem) (w0 : World), okL mi [(.agg [.ints .u8 x1 20])] → Pre mi [] w0 → Calls Tryd.prog 17 (([(.agg [.ints .u8 x1 20])] : List D).map D.val).toArray w0 (RetX mi [] (fun (ch : Unit) => ((.v (.int .i64 r)) : D)) (fun (ch : Unit) => []) w0)
def smithyref08_Precompile.j1 (x1 : List Int) : Option Int := if (decide (9 < (rd x1 19))) = true then (some 0) else (some (wr .i64 (rd x1 19)))
def smithyref08_Precompile.b1 (x1 : List Int) (rec1 : Int → Option Int) (y1 : Int) : Option Int := if (decide (y1 < 19)) = true then (if (0 : Int) ≤ y1 ∧ y1 < 20 then (if ((rd x1 y1) != 0) = true then (some 0) else (rec1 (wr .i64 (y1 + 1)))) else none) else (smithyref08_Precompile.j1 x1)
def smithyref08_Precompile.l1 (x1 : List Int) : Nat → Int → Option Int
  | 0, _ => none
  | q + 1, y1 => smithyref08_Precompile.b1 x1 (smithyref08_Precompile.l1 x1 q) y1
def smithyref08_Precompile.f (k : Nat) (x1 : List Int) : Option Int := smithyref08_Precompile.l1 x1 k 0
theorem smithyref08_Precompile.ok (k : Nat) : smithyref08_Precompile.Ctr (smithyref08_Precompile.f k) := by
  intro x1 r h0 mi w0 ok hm
  delta smithyref08_Precompile.f at h0
  refine c_enterX (n := 18) [(.agg [.ints .u8 x1 20])] (l := [(0, (.agg [.ints .u8 x1 20]))]) Tryd.func17 rfl rfl rfl rfl ok hm ?_
  clear ok hm
  intro b0 hb a S
  refine c_region ?_
  refine s_box S rfl rfl rfl ?_; clear S a; intro g1 a w S
  refine s_assign S rfl rfl ?_; clear S a; intro a S
  refine c_end ?_
  refine wp_seq_k ?_
  intro K1 hK1
  have j1 : ∀ (m : Mem) (g5 : Nat) (a : Act) (w : World), St 18 m b0 [(1, (.v (.pointer (some ⟨g5, 0, none⟩))))] [Res.cells g5 23 [.ints .u8 x1 20]] a w → smithyref08_Precompile.j1 x1 = some r → K1 a w := by
    intro m g5 a w S h0
    delta smithyref08_Precompile.j1 at h0
    refine hK1 a w ?_
    refine wp_seq ?_
    refine c_region ?_
    refine s_iaddr S (o' := 19) rfl rfl Tryd.underlying23 T5 (by decide) (by decide) rfl rfl ?_; clear S a; intro a S
    refine s_loadi S (i := 19) rfl .here T5 .here rfl (by decide) (by decide) rfl ?_; clear S a; intro a S
    refine s_bin S rfl rfl rfl rfl ?_; clear S a; intro a S
    refine c_end ?_
    rcases ite_of h0 with ⟨c1, h1⟩ | ⟨c1, h1⟩ <;> clear h0
    · refine c_condT S rfl c1 ?_
      refine c_region ?_
      refine s_assign S rfl rfl ?_; clear S a; intro a S
      refine c_end ?_
      refine wp_ret ?_
      refine x_thenR ?_
      obtain rfl := Option.some.inj h1
      exact b_ret1 (d := (.v (.int .i64 0))) S rfl rfl fun ok => S.retX (Hx := []) hb _ _ (() : Unit) .nil ok
    · refine c_condF S rfl c1 ?_
      refine wp_skip ?_
      refine x_thenN ?_
      refine c_region ?_
      refine s_iaddr S (o' := 19) rfl rfl Tryd.underlying23 T5 (by decide) (by decide) rfl rfl ?_; clear S a; intro a S
      refine s_loadi S (i := 19) rfl .here T5 .here rfl (by decide) (by decide) rfl ?_; clear S a; intro a S
      refine s_conv S rfl rfl Tryd.underlying3 rfl ?_; clear S a; intro a S
      refine s_assign S rfl rfl ?_; clear S a; intro a S
      refine c_end ?_
      refine wp_ret ?_
      obtain rfl := Option.some.inj h1
      exact b_ret1 (d := (.v (.int .i64 (wr .i64 (rd x1 19))))) S rfl rfl fun ok => S.retX (Hx := []) hb _ _ (() : Unit) .nil ok
  refine c_region ?_
  refine s_assign S rfl rfl ?_; clear S a; intro a S
  refine c_end ?_
  refine wp_block ?_
  refine c_loop (fun q1 a w => ∃ (m : Mem) (y1 : Int) (g8 : Nat), St 18 m b0 [(3, (.v (.int .i64 y1))), (1, (.v (.pointer (some ⟨g8, 0, none⟩))))] [Res.cells g8 23 [.ints .u8 x1 20]] a w ∧ smithyref08_Precompile.l1 x1 q1 y1 = some r) ?_ ?_ (k := k) ⟨_, 0, g1, (S.sub ⟨rfl, rfl, trivial⟩ (.cons .here .nil)), h0⟩
  · rintro a w ⟨m, y1, g8, S, h0⟩
    exact (nomatch (show (none : Option Int) = some r from h0))
  · clear S h0
    rintro q1 a w ⟨m, y1, g8, S, h0⟩
    replace h0 : smithyref08_Precompile.b1 x1 (smithyref08_Precompile.l1 x1 q1) y1 = some r := h0
    delta smithyref08_Precompile.b1 at h0
    refine wp_seq ?_
    refine c_region ?_
    refine s_move S rfl rfl ?_; clear S a; intro a S
    refine s_bin S rfl rfl rfl rfl ?_; clear S a; intro a S
    refine c_end ?_
    rcases ite_of h0 with ⟨c2, h1⟩ | ⟨c2, h1⟩ <;> clear h0
    · refine c_condT S rfl c2 ?_
      refine wp_skip ?_
      refine x_thenN ?_
      refine wp_seq ?_
      refine wp_block ?_
      refine c_region ?_
      refine s_move S rfl rfl ?_; clear S a; intro a S
      obtain ⟨c3, h2⟩ := chk_of h1; clear h1
      refine s_iaddr S rfl rfl Tryd.underlying23 T5 c3.1 c3.2 (mul1 _ _) rfl ?_; clear S a; intro a S
      refine s_loadi S (i := y1) rfl .here T5 .here rfl c3.1 c3.2 rfl ?_; clear S a; intro a S
      refine s_bin S rfl rfl rfl rfl ?_; clear S a; intro a S
      refine c_end ?_
      rcases ite_of h2 with ⟨c4, h3⟩ | ⟨c4, h3⟩ <;> clear h2
      · refine c_condT S rfl c4 ?_
        refine c_region ?_
        refine s_assign S rfl rfl ?_; clear S a; intro a S
        refine c_end ?_
        refine wp_ret ?_
        refine x_blockR ?_
        refine x_thenR ?_
        refine x_thenR ?_
        refine x_blockR ?_
        refine x_thenR ?_
        obtain rfl := Option.some.inj h3
        exact b_ret1 (d := (.v (.int .i64 0))) S rfl rfl fun ok => S.retX (Hx := []) hb _ _ (() : Unit) .nil ok
      · refine c_condF S rfl c4 ?_
        refine wp_skip ?_
        refine x_blockN ?_
        refine x_thenN ?_
        refine c_region' ?_
        refine s_move S rfl rfl ?_; clear S a; intro a S
        refine s_bin S rfl rfl rfl rfl ?_; clear S a; intro a S
        refine s_assign S rfl rfl ?_; clear S a; intro a S
        refine c_end' ?_
        refine x_thenN ?_
        exact ⟨_, (wr .i64 (y1 + 1)), g8, (S.sub ⟨rfl, rfl, trivial⟩ (.cons .here .nil)), h3⟩
    · refine c_condF S rfl c2 ?_
      refine wp_exit ?_
      refine x_thenX ?_
      refine x_thenX ?_
      refine x_blockX ?_
      refine x_thenN ?_
      exact j1 _ g8 a w (S.sub ⟨rfl, trivial⟩ (.cons .here .nil)) h1
/-! smithy/smithylaw08.AddrOrder -/
abbrev smithylaw08_AddrOrder.Ty : Type := (List Int) → (List Int) → Option Bool
def smithylaw08_AddrOrder.Ctr (s : smithylaw08_AddrOrder.Ty) : Prop := ∀ (x1 : List Int) (x2 : List Int) (r : Bool) (h0 : s x1 x2 = some r) (mi : Mem) (w0 : World) (G : Glob mi), okL mi [(.agg [.ints .u8 x1 20]), (.agg [.ints .u8 x2 20])] → Pre mi [] w0 → Calls Tryd.prog 5 (([(.agg [.ints .u8 x1 20]), (.agg [.ints .u8 x2 20])] : List D).map D.val).toArray w0 (RetX mi [] (fun (ch : Unit) => ((.v (.bool r)) : D)) (fun (ch : Unit) => []) w0)
def smithylaw08_AddrOrder.j2 (k : Nat) (x1 : List Int) (x2 : List Int) (y2 : Int) : Option Bool := (smithylaw08_fixed.f k).bind fun t1 => (if t1 = true then ((addr_Compare.f x1 x2).bind fun t2 => (if (t2 == y2) = true then ((addr_Compare.f x2 x1).bind fun t3 => (if (t3 == (wr .i64 (0 - y2))) = true then ((addr_Precompile.f k x1).bind fun t4 => ((smithyref08_Precompile.f k x1).bind fun t5 => (some (t4 == t5)))) else (some false))) else (some false))) else (some false))
def smithylaw08_AddrOrder.j1 (k : Nat) (x1 : List Int) (x2 : List Int) (y1 : Int) : Option Bool := (smithyref08_Less.f k x2 x1).bind fun t6 => (if t6 = true then (smithylaw08_AddrOrder.j2 k x1 x2 1) else (smithylaw08_AddrOrder.j2 k x1 x2 y1))
def smithylaw08_AddrOrder.f (k : Nat) (x1 : List Int) (x2 : List Int) : Option Bool := (smithyref08_Less.f k x1 x2).bind fun t7 => (if t7 = true then (smithylaw08_AddrOrder.j1 k x1 x2 (-1)) else (smithylaw08_AddrOrder.j1 k x1 x2 0))
theorem smithylaw08_AddrOrder.ok (k : Nat) : smithylaw08_AddrOrder.Ctr (smithylaw08_AddrOrder.f k) := by
  intro x1 x2 r h0 mi w0 G ok hm
  delta smithylaw08_AddrOrder.f at h0
  refine c_enterX (n := 35) [(.agg [.ints .u8 x1 20]), (.agg [.ints .u8 x2 20])] (l := [(0, (.agg [.ints .u8 x1 20])), (1, (.agg [.ints .u8 x2 20]))]) Tryd.func5 rfl rfl rfl rfl ok hm ?_
  clear ok hm
  intro b0 hb a S
  refine c_region ?_
  refine s_box S rfl rfl rfl ?_; clear S a; intro g1 a w S
  refine s_box S rfl rfl rfl ?_; clear S a w; intro g2 a w S
  refine s_assign S rfl rfl ?_; clear S a; intro a S
  refine c_end ?_
  refine c_region ?_
  refine s_assign S rfl rfl ?_; clear S a; intro a S
  refine c_end ?_
  refine wp_seq_k ?_
  intro K1 hK1
  have j1 : ∀ (m : Mem) (y1 : Int) (g3 : Nat) (g4 : Nat) (a : Act) (w : World), St 35 m b0 [(5, (.v (.int .i64 y1))), (3, (.v (.pointer (some ⟨g3, 0, none⟩)))), (2, (.v (.pointer (some ⟨g4, 0, none⟩))))] [Res.cells g3 23 [.ints .u8 x2 20], Res.cells g4 23 [.ints .u8 x1 20]] a w → smithylaw08_AddrOrder.j1 k x1 x2 y1 = some r → K1 a w := by
    intro m y1 g3 g4 a w S h0
    delta smithylaw08_AddrOrder.j1 at h0
    refine hK1 a w ?_
    refine wp_seq_k ?_
    intro K2 hK2
    have j2 : ∀ (m : Mem) (y2 : Int) (g5 : Nat) (g6 : Nat) (a : Act) (w : World), St 35 m b0 [(5, (.v (.int .i64 y2))), (3, (.v (.pointer (some ⟨g5, 0, none⟩)))), (2, (.v (.pointer (some ⟨g6, 0, none⟩))))] [Res.cells g5 23 [.ints .u8 x2 20], Res.cells g6 23 [.ints .u8 x1 20]] a w → smithylaw08_AddrOrder.j2 k x1 x2 y2 = some r → K2 a w := by
      intro m y2 g5 g6 a w S h0
      delta smithylaw08_AddrOrder.j2 at h0
      refine hK2 a w ?_
      refine wp_seq (c_heldS S (.alts (.run 0 true (.take 1 (.take 2 (.take 3 (.take 5 (.alts (.run 4 true (.take 6 (.take 7 (.take 8 (.take 9 (.take 10 (.take 12 (.take 13 (.alts (.run 11 true (.take 14 (.take 15 (.take 16 (.take 17 (.take 19 (.alts (.run 18 true (.alts (.run 20 true (.take 21 (.take 22 (.take 23 .done))) .nil)) .nil))))))) .nil))))))))) .nil)))))) .nil)) 24 [Res.cells g5 23 [.ints .u8 x2 20], Res.cells g6 23 [.ints .u8 x1 20]] (.cons .here (.cons .here .nil)) ⟨Res.stay_cells, Res.stay_cells, trivial⟩ [(5, (.v (.int .i64 y2))), (3, (.v (.pointer (some ⟨g5, 0, none⟩)))), (2, (.v (.pointer (some ⟨g6, 0, none⟩))))] ⟨rfl, rfl, rfl, trivial⟩ (by kernel_rfl) (by kernel_rfl) ?_); clear S; intro w S CL hw le
      refine h_run' S rfl trivial ?_
      obtain ⟨t1, et1, h1⟩ := bind_of h0; clear h0
      refine s_callX S (ds' := []) (ds := []) [] [Res.cells g5 23 [.ints .u8 x2 20], Res.cells g6 23 [.ints .u8 x1 20]] (fun (ch : Unit) => ((.v (.bool t1)) : D)) (fun (ch : Unit) => []) (fun (ch : Unit) => [Res.cells g5 23 [.ints .u8 x2 20], Res.cells g6 23 [.ints .u8 x1 20]]) (fun _ => rfl) N7 rfl rfl (fun ok => ok) (.cons .here (.cons .here .nil)) rfl (smithylaw08_fixed.ok k t1 et1 _ _ (G.mono (S.leB hb))) ?_; clear S a; intro ch1 m le1 a w S
      replace le := le.trans le1
      replace hw := CL.again hw S (.cons .here (.cons .here .nil)) le
      refine h_back ⟨fun _ => hw, ?_⟩
      replace CL := CL.add (t := 12) (d := (.v (.bool t1))) S rfl rfl
      refine h_move S CL hw le ⟨rfl, rfl, rfl, rfl, trivial⟩ rfl rfl rfl trivial ?_; clear S CL a; intro a S CL
      rcases ite_of h1 with ⟨c1, h2⟩ | ⟨c1, h2⟩ <;> clear h1
      · refine h_loada S CL hw le ⟨rfl, rfl, rfl, rfl, rfl, trivial⟩ rfl (.there .here) T23 (s' := [.ints .u8 x1 20]) rfl rfl rfl ⟨_, _, rfl, rfl, c1⟩ ?_; clear S CL a; intro a S CL
        refine h_loada S CL hw le ⟨rfl, rfl, rfl, rfl, rfl, rfl, trivial⟩ rfl .here T23 (s' := [.ints .u8 x2 20]) rfl rfl rfl ⟨_, _, rfl, rfl, c1⟩ ?_; clear S CL a; intro a S CL
        refine h_move S CL hw le ⟨rfl, rfl, rfl, rfl, rfl, rfl, rfl, trivial⟩ rfl rfl rfl ⟨_, _, rfl, rfl, c1⟩ ?_; clear S CL a; intro a S CL
        refine h_run' S rfl ⟨_, _, rfl, rfl, c1⟩ ?_
        obtain ⟨t2, et2, h3⟩ := bind_of h2; clear h2
        refine s_callX S (ds' := [(.agg [.ints .u8 x1 20]), (.agg [.ints .u8 x2 20])]) (ds := [(.agg [.ints .u8 x1 20]), (.agg [.ints .u8 x2 20])]) [] [Res.cells g5 23 [.ints .u8 x2 20], Res.cells g6 23 [.ints .u8 x1 20]] (fun (ch : Unit) => ((.v (.int .i64 t2)) : D)) (fun (ch : Unit) => []) (fun (ch : Unit) => [Res.cells g5 23 [.ints .u8 x2 20], Res.cells g6 23 [.ints .u8 x1 20]]) (fun _ => rfl) N15 rfl rfl (fun ok => ok) (.cons .here (.cons .here .nil)) rfl (addr_Compare.ok x1 x2 t2 et2 _ _) ?_; clear S a; intro ch2 m le1 a w S
        replace le := le.trans le1
        replace hw := CL.again hw S (.cons .here (.cons .here .nil)) le
        refine h_back ⟨fun _ => hw, ?_⟩
        replace CL := CL.add (t := 16) (d := (.v (.int .i64 t2))) S rfl rfl
        refine h_bin S CL hw le ⟨rfl, rfl, rfl, rfl, rfl, rfl, rfl, rfl, rfl, trivial⟩ rfl rfl rfl rfl rfl ⟨_, _, rfl, rfl, c1⟩ ?_; clear S CL a; intro a S CL
        refine h_pick S CL hw le ⟨rfl, rfl, rfl, rfl, rfl, rfl, rfl, rfl, rfl, rfl, trivial⟩ (b := true) (hc_of rfl c1) rfl rfl rfl trivial ?_; clear S CL a; intro a S CL
        refine h_move S CL hw le ⟨rfl, rfl, rfl, rfl, rfl, rfl, rfl, rfl, rfl, rfl, rfl, trivial⟩ rfl rfl rfl trivial ?_; clear S CL a; intro a S CL
        rcases ite_of h3 with ⟨c2, h4⟩ | ⟨c2, h4⟩ <;> clear h3
        · refine h_loada S CL hw le ⟨rfl, rfl, rfl, rfl, rfl, rfl, rfl, rfl, rfl, rfl, rfl, rfl, trivial⟩ rfl .here T23 (s' := [.ints .u8 x2 20]) rfl rfl rfl ⟨_, _, rfl, rfl, c2⟩ ?_; clear S CL a; intro a S CL
          refine h_loada S CL hw le ⟨rfl, rfl, rfl, rfl, rfl, rfl, rfl, rfl, rfl, rfl, rfl, rfl, rfl, trivial⟩ rfl (.there .here) T23 (s' := [.ints .u8 x1 20]) rfl rfl rfl ⟨_, _, rfl, rfl, c2⟩ ?_; clear S CL a; intro a S CL
          refine h_move S CL hw le ⟨rfl, rfl, rfl, rfl, rfl, rfl, rfl, rfl, rfl, rfl, rfl, rfl, rfl, rfl, trivial⟩ rfl rfl rfl ⟨_, _, rfl, rfl, c2⟩ ?_; clear S CL a; intro a S CL
          refine h_un S CL hw le ⟨rfl, rfl, rfl, rfl, rfl, rfl, rfl, rfl, rfl, rfl, rfl, rfl, rfl, rfl, rfl, trivial⟩ rfl rfl rfl rfl ⟨_, _, rfl, rfl, c2⟩ ?_; clear S CL a; intro a S CL
          refine h_run' S rfl ⟨_, _, rfl, rfl, c2⟩ ?_
          obtain ⟨t3, et3, h5⟩ := bind_of h4; clear h4
          refine s_callX S (ds' := [(.agg [.ints .u8 x2 20]), (.agg [.ints .u8 x1 20])]) (ds := [(.agg [.ints .u8 x2 20]), (.agg [.ints .u8 x1 20])]) [] [Res.cells g5 23 [.ints .u8 x2 20], Res.cells g6 23 [.ints .u8 x1 20]] (fun (ch : Unit) => ((.v (.int .i64 t3)) : D)) (fun (ch : Unit) => []) (fun (ch : Unit) => [Res.cells g5 23 [.ints .u8 x2 20], Res.cells g6 23 [.ints .u8 x1 20]]) (fun _ => rfl) N15 rfl rfl (fun ok => ok) (.cons .here (.cons .here .nil)) rfl (addr_Compare.ok x2 x1 t3 et3 _ _) ?_; clear S a; intro ch3 m le1 a w S
          replace le := le.trans le1
          replace hw := CL.again hw S (.cons .here (.cons .here .nil)) le
          refine h_back ⟨fun _ => hw, ?_⟩
          replace CL := CL.add (t := 23) (d := (.v (.int .i64 t3))) S rfl rfl
          refine h_bin S CL hw le ⟨rfl, rfl, rfl, rfl, rfl, rfl, rfl, rfl, rfl, rfl, rfl, rfl, rfl, rfl, rfl, rfl, rfl, trivial⟩ rfl rfl rfl rfl rfl ⟨_, _, rfl, rfl, c2⟩ ?_; clear S CL a; intro a S CL
          refine h_pick S CL hw le ⟨rfl, rfl, rfl, rfl, rfl, rfl, rfl, rfl, rfl, rfl, rfl, rfl, rfl, rfl, rfl, rfl, rfl, rfl, trivial⟩ (b := true) (hc_of rfl c2) rfl rfl rfl trivial ?_; clear S CL a; intro a S CL
          refine h_move S CL hw le ⟨rfl, rfl, rfl, rfl, rfl, rfl, rfl, rfl, rfl, rfl, rfl, rfl, rfl, rfl, rfl, rfl, rfl, rfl, rfl, trivial⟩ rfl rfl rfl trivial ?_; clear S CL a; intro a S CL
          rcases ite_of h5 with ⟨c3, h6⟩ | ⟨c3, h6⟩ <;> clear h5
          · refine h_loada S CL hw le ⟨rfl, rfl, rfl, rfl, rfl, rfl, rfl, rfl, rfl, rfl, rfl, rfl, rfl, rfl, rfl, rfl, rfl, rfl, rfl, rfl, trivial⟩ rfl (.there .here) T23 (s' := [.ints .u8 x1 20]) rfl rfl rfl ⟨_, _, rfl, rfl, c3⟩ ?_; clear S CL a; intro a S CL
            refine h_loada S CL hw le ⟨rfl, rfl, rfl, rfl, rfl, rfl, rfl, rfl, rfl, rfl, rfl, rfl, rfl, rfl, rfl, rfl, rfl, rfl, rfl, rfl, rfl, trivial⟩ rfl (.there .here) T23 (s' := [.ints .u8 x1 20]) rfl rfl rfl ⟨_, _, rfl, rfl, c3⟩ ?_; clear S CL a; intro a S CL
            refine h_run' S rfl ⟨_, _, rfl, rfl, c3⟩ ?_
            obtain ⟨t4, et4, h7⟩ := bind_of h6; clear h6
            refine s_callX S (ds' := [(.agg [.ints .u8 x1 20])]) (ds := [(.agg [.ints .u8 x1 20])]) [] [Res.cells g5 23 [.ints .u8 x2 20], Res.cells g6 23 [.ints .u8 x1 20]] (fun (ch : Unit) => ((.v (.int .i64 t4)) : D)) (fun (ch : Unit) => []) (fun (ch : Unit) => [Res.cells g5 23 [.ints .u8 x2 20], Res.cells g6 23 [.ints .u8 x1 20]]) (fun _ => rfl) N16 rfl rfl (fun ok => ok) (.cons .here (.cons .here .nil)) rfl (addr_Precompile.ok k x1 t4 et4 _ _) ?_; clear S a; intro ch4 m le1 a w S
            replace le := le.trans le1
            replace hw := CL.again hw S (.cons .here (.cons .here .nil)) le
            refine h_back ⟨fun _ => hw, ?_⟩
            replace CL := CL.add (t := 30) (d := (.v (.int .i64 t4))) S rfl rfl
            refine h_run' S rfl ⟨_, _, rfl, rfl, c3⟩ ?_
            obtain ⟨t5, et5, h8⟩ := bind_of h7; clear h7
            refine s_callX S (ds' := [(.agg [.ints .u8 x1 20])]) (ds := [(.agg [.ints .u8 x1 20])]) [] [Res.cells g5 23 [.ints .u8 x2 20], Res.cells g6 23 [.ints .u8 x1 20]] (fun (ch : Unit) => ((.v (.int .i64 t5)) : D)) (fun (ch : Unit) => []) (fun (ch : Unit) => [Res.cells g5 23 [.ints .u8 x2 20], Res.cells g6 23 [.ints .u8 x1 20]]) (fun _ => rfl) N17 rfl rfl (fun ok => ok) (.cons .here (.cons .here .nil)) rfl (smithyref08_Precompile.ok k x1 t5 et5 _ _) ?_; clear S a; intro ch5 m le1 a w S
            replace le := le.trans le1
            replace hw := CL.again hw S (.cons .here (.cons .here .nil)) le
            refine h_back ⟨fun _ => hw, ?_⟩
            replace CL := CL.add (t := 32) (d := (.v (.int .i64 t5))) S rfl rfl
            refine h_bin S CL hw le ⟨rfl, rfl, rfl, rfl, rfl, rfl, rfl, rfl, rfl, rfl, rfl, rfl, rfl, rfl, rfl, rfl, rfl, rfl, rfl, rfl, rfl, rfl, rfl, rfl, trivial⟩ rfl rfl rfl rfl rfl ⟨_, _, rfl, rfl, c3⟩ ?_; clear S CL a; intro a S CL
            refine h_pick S CL hw le ⟨rfl, rfl, rfl, rfl, rfl, rfl, rfl, rfl, rfl, rfl, rfl, rfl, rfl, rfl, rfl, rfl, rfl, rfl, rfl, rfl, rfl, rfl, rfl, rfl, rfl, trivial⟩ (b := true) (hc_of rfl c3) rfl rfl rfl trivial ?_; clear S CL a; intro a S CL
            refine h_assign S CL hw le ⟨rfl, rfl, rfl, rfl, rfl, rfl, rfl, rfl, rfl, rfl, rfl, rfl, rfl, rfl, rfl, rfl, rfl, rfl, rfl, rfl, rfl, rfl, rfl, rfl, rfl, rfl, trivial⟩ rfl rfl rfl trivial ?_; clear S CL a; intro a S CL
            refine h_done ?_; clear CL hw le
            refine x_thenN ?_
            refine wp_ret ?_
            obtain rfl := Option.some.inj h8
            exact b_ret1 (d := (.v (.bool (t4 == t5)))) S rfl rfl fun ok => S.retX (Hx := []) hb _ _ (() : Unit) .nil ok
          · refine h_skip S CL rfl rfl rfl (ne_bool c3) rfl ?_; clear S CL a; intro a S CL
            refine h_skip S CL rfl rfl rfl (ne_bool c3) rfl ?_; clear S CL a; intro a S CL
            refine h_skipRt S rfl rfl rfl (ne_bool c3) rfl ?_; clear S a; intro a S
            replace hw := CL.again hw S (.cons .here (.cons .here .nil)) le
            refine h_back ⟨fun _ => hw, ?_⟩
            replace CL := CL.add (t := 30) (d := .u) S rfl rfl
            refine h_skipRt S rfl rfl rfl (ne_bool c3) rfl ?_; clear S a; intro a S
            replace hw := CL.again hw S (.cons .here (.cons .here .nil)) le
            refine h_back ⟨fun _ => hw, ?_⟩
            replace CL := CL.add (t := 32) (d := .u) S rfl rfl
            refine h_skip S CL rfl rfl rfl (ne_bool c3) rfl ?_; clear S CL a; intro a S CL
            refine h_pick S CL hw le ⟨rfl, rfl, rfl, rfl, rfl, rfl, rfl, rfl, rfl, rfl, rfl, rfl, rfl, rfl, rfl, rfl, rfl, rfl, rfl, rfl, rfl, rfl, rfl, rfl, rfl, trivial⟩ (b := false) (hc_of rfl c3) rfl rfl rfl trivial ?_; clear S CL a; intro a S CL
            refine h_assign S CL hw le ⟨rfl, rfl, rfl, rfl, rfl, rfl, rfl, rfl, rfl, rfl, rfl, rfl, rfl, rfl, rfl, rfl, rfl, rfl, rfl, rfl, rfl, rfl, rfl, rfl, rfl, rfl, trivial⟩ rfl rfl rfl trivial ?_; clear S CL a; intro a S CL
            refine h_done ?_; clear CL hw le
            refine x_thenN ?_
            refine wp_ret ?_
            obtain rfl := Option.some.inj h6
            exact b_ret1 (d := (.v (.bool false))) S rfl rfl fun ok => S.retX (Hx := []) hb _ _ (() : Unit) .nil ok
        · refine h_skip S CL rfl rfl rfl (ne_bool c2) rfl ?_; clear S CL a; intro a S CL
          refine h_skip S CL rfl rfl rfl (ne_bool c2) rfl ?_; clear S CL a; intro a S CL
          refine h_skip S CL rfl rfl rfl (ne_bool c2) rfl ?_; clear S CL a; intro a S CL
          refine h_skip S CL rfl rfl rfl (ne_bool c2) rfl ?_; clear S CL a; intro a S CL
          refine h_skipRt S rfl rfl rfl (ne_bool c2) rfl ?_; clear S a; intro a S
          replace hw := CL.again hw S (.cons .here (.cons .here .nil)) le
          refine h_back ⟨fun _ => hw, ?_⟩
          replace CL := CL.add (t := 23) (d := .u) S rfl rfl
          refine h_skip S CL rfl rfl rfl (ne_bool c2) rfl ?_; clear S CL a; intro a S CL
          refine h_pick S CL hw le ⟨rfl, rfl, rfl, rfl, rfl, rfl, rfl, rfl, rfl, rfl, rfl, rfl, rfl, rfl, rfl, rfl, rfl, rfl, trivial⟩ (b := false) (hc_of rfl c2) rfl rfl rfl trivial ?_; clear S CL a; intro a S CL
          refine h_move S CL hw le ⟨rfl, rfl, rfl, rfl, rfl, rfl, rfl, rfl, rfl, rfl, rfl, rfl, rfl, rfl, rfl, rfl, rfl, rfl, rfl, trivial⟩ rfl rfl rfl trivial ?_; clear S CL a; intro a S CL
          refine h_skip S CL rfl rfl rfl (ne_bool rfl) rfl ?_; clear S CL a; intro a S CL
          refine h_skip S CL rfl rfl rfl (ne_bool rfl) rfl ?_; clear S CL a; intro a S CL
          refine h_skipRt S rfl rfl rfl (ne_bool rfl) rfl ?_; clear S a; intro a S
          replace hw := CL.again hw S (.cons .here (.cons .here .nil)) le
          refine h_back ⟨fun _ => hw, ?_⟩
          replace CL := CL.add (t := 30) (d := .u) S rfl rfl
          refine h_skipRt S rfl rfl rfl (ne_bool rfl) rfl ?_; clear S a; intro a S
          replace hw := CL.again hw S (.cons .here (.cons .here .nil)) le
          refine h_back ⟨fun _ => hw, ?_⟩
          replace CL := CL.add (t := 32) (d := .u) S rfl rfl
          refine h_skip S CL rfl rfl rfl (ne_bool rfl) rfl ?_; clear S CL a; intro a S CL
          refine h_pick S CL hw le ⟨rfl, rfl, rfl, rfl, rfl, rfl, rfl, rfl, rfl, rfl, rfl, rfl, rfl, rfl, rfl, rfl, rfl, rfl, rfl, rfl, rfl, rfl, rfl, rfl, rfl, trivial⟩ (b := false) (hc_of rfl rfl) rfl rfl rfl trivial ?_; clear S CL a; intro a S CL
          refine h_assign S CL hw le ⟨rfl, rfl, rfl, rfl, rfl, rfl, rfl, rfl, rfl, rfl, rfl, rfl, rfl, rfl, rfl, rfl, rfl, rfl, rfl, rfl, rfl, rfl, rfl, rfl, rfl, rfl, trivial⟩ rfl rfl rfl trivial ?_; clear S CL a; intro a S CL
          refine h_done ?_; clear CL hw le
          refine x_thenN ?_
          refine wp_ret ?_
          obtain rfl := Option.some.inj h4
          exact b_ret1 (d := (.v (.bool false))) S rfl rfl fun ok => S.retX (Hx := []) hb _ _ (() : Unit) .nil ok
      · refine h_skip S CL rfl rfl rfl (ne_bool c1) rfl ?_; clear S CL a; intro a S CL
        refine h_skip S CL rfl rfl rfl (ne_bool c1) rfl ?_; clear S CL a; intro a S CL
        refine h_skip S CL rfl rfl rfl (ne_bool c1) rfl ?_; clear S CL a; intro a S CL
        refine h_skipRt S rfl rfl rfl (ne_bool c1) rfl ?_; clear S a; intro a S
        replace hw := CL.again hw S (.cons .here (.cons .here .nil)) le
        refine h_back ⟨fun _ => hw, ?_⟩
        replace CL := CL.add (t := 16) (d := .u) S rfl rfl
        refine h_skip S CL rfl rfl rfl (ne_bool c1) rfl ?_; clear S CL a; intro a S CL
        refine h_pick S CL hw le ⟨rfl, rfl, rfl, rfl, rfl, rfl, rfl, rfl, rfl, rfl, trivial⟩ (b := false) (hc_of rfl c1) rfl rfl rfl trivial ?_; clear S CL a; intro a S CL
        refine h_move S CL hw le ⟨rfl, rfl, rfl, rfl, rfl, rfl, rfl, rfl, rfl, rfl, rfl, trivial⟩ rfl rfl rfl trivial ?_; clear S CL a; intro a S CL
        refine h_skip S CL rfl rfl rfl (ne_bool rfl) rfl ?_; clear S CL a; intro a S CL
        refine h_skip S CL rfl rfl rfl (ne_bool rfl) rfl ?_; clear S CL a; intro a S CL
        refine h_skip S CL rfl rfl rfl (ne_bool rfl) rfl ?_; clear S CL a; intro a S CL
        refine h_skip S CL rfl rfl rfl (ne_bool rfl) rfl ?_; clear S CL a; intro a S CL
        refine h_skipRt S rfl rfl rfl (ne_bool rfl) rfl ?_; clear S a; intro a S
        replace hw := CL.again hw S (.cons .here (.cons .here .nil)) le
        refine h_back ⟨fun _ => hw, ?_⟩
        replace CL := CL.add (t := 23) (d := .u) S rfl rfl
        refine h_skip S CL rfl rfl rfl (ne_bool rfl) rfl ?_; clear S CL a; intro a S CL
        refine h_pick S CL hw le ⟨rfl, rfl, rfl, rfl, rfl, rfl, rfl, rfl, rfl, rfl, rfl, rfl, rfl, rfl, rfl, rfl, rfl, rfl, trivial⟩ (b := false) (hc_of rfl rfl) rfl rfl rfl trivial ?_; clear S CL a; intro a S CL
        refine h_move S CL hw le ⟨rfl, rfl, rfl, rfl, rfl, rfl, rfl, rfl, rfl, rfl, rfl, rfl, rfl, rfl, rfl, rfl, rfl, rfl, rfl, trivial⟩ rfl rfl rfl trivial ?_; clear S CL a; intro a S CL
        refine h_skip S CL rfl rfl rfl (ne_bool rfl) rfl ?_; clear S CL a; intro a S CL
        refine h_skip S CL rfl rfl rfl (ne_bool rfl) rfl ?_; clear S CL a; intro a S CL
        refine h_skipRt S rfl rfl rfl (ne_bool rfl) rfl ?_; clear S a; intro a S
        replace hw := CL.again hw S (.cons .here (.cons .here .nil)) le
        refine h_back ⟨fun _ => hw, ?_⟩
        replace CL := CL.add (t := 30) (d := .u) S rfl rfl
        refine h_skipRt S rfl rfl rfl (ne_bool rfl) rfl ?_; clear S a; intro a S
        replace hw := CL.again hw S (.cons .here (.cons .here .nil)) le
        refine h_back ⟨fun _ => hw, ?_⟩
        replace CL := CL.add (t := 32) (d := .u) S rfl rfl
        refine h_skip S CL rfl rfl rfl (ne_bool rfl) rfl ?_; clear S CL a; intro a S CL
        refine h_pick S CL hw le ⟨rfl, rfl, rfl, rfl, rfl, rfl, rfl, rfl, rfl, rfl, rfl, rfl, rfl, rfl, rfl, rfl, rfl, rfl, rfl, rfl, rfl, rfl, rfl, rfl, rfl, trivial⟩ (b := false) (hc_of rfl rfl) rfl rfl rfl trivial ?_; clear S CL a; intro a S CL
        refine h_assign S CL hw le ⟨rfl, rfl, rfl, rfl, rfl, rfl, rfl, rfl, rfl, rfl, rfl, rfl, rfl, rfl, rfl, rfl, rfl, rfl, rfl, rfl, rfl, rfl, rfl, rfl, rfl, rfl, trivial⟩ rfl rfl rfl trivial ?_; clear S CL a; intro a S CL
        refine h_done ?_; clear CL hw le
        refine x_thenN ?_
        refine wp_ret ?_
        obtain rfl := Option.some.inj h2
        exact b_ret1 (d := (.v (.bool false))) S rfl rfl fun ok => S.retX (Hx := []) hb _ _ (() : Unit) .nil ok
    refine c_region ?_
    refine s_loada S rfl .here T23 (s' := [.ints .u8 x2 20]) rfl rfl ?_; clear S a; intro a S
    refine s_loada S rfl (.there .here) T23 (s' := [.ints .u8 x1 20]) rfl rfl ?_; clear S a; intro a S
    obtain ⟨t6, et6, h1⟩ := bind_of h0; clear h0
    refine s_callX S (ds' := [(.agg [.ints .u8 x2 20]), (.agg [.ints .u8 x1 20])]) (ds := [(.agg [.ints .u8 x2 20]), (.agg [.ints .u8 x1 20])]) [] [Res.cells g3 23 [.ints .u8 x2 20], Res.cells g4 23 [.ints .u8 x1 20]] (fun (ch : Unit) => ((.v (.bool t6)) : D)) (fun (ch : Unit) => []) (fun (ch : Unit) => [Res.cells g3 23 [.ints .u8 x2 20], Res.cells g4 23 [.ints .u8 x1 20]]) (fun _ => rfl) N14 rfl rfl (fun ok => ok) (.cons .here (.cons .here .nil)) rfl (smithyref08_Less.ok k x2 x1 t6 et6 _ _) ?_; clear S a w; intro ch6 m le1 a w S
    refine c_end ?_
    rcases ite_of h1 with ⟨c4, h2⟩ | ⟨c4, h2⟩ <;> clear h1
    · refine c_condT S rfl c4 ?_
      refine c_region' ?_
      refine s_assign S rfl rfl ?_; clear S a; intro a S
      refine c_end' ?_
      refine x_thenN ?_
      exact j2 _ 1 g3 g4 a w (S.sub ⟨rfl, rfl, rfl, trivial⟩ (.cons .here (.cons .here .nil))) h2
    · refine c_condF S rfl c4 ?_
      refine wp_skip ?_
      refine x_thenN ?_
      exact j2 _ y1 g3 g4 a w (S.sub ⟨rfl, rfl, rfl, trivial⟩ (.cons .here (.cons .here .nil))) h2
  refine c_region ?_
  refine s_loada S rfl (.there .here) T23 (s' := [.ints .u8 x1 20]) rfl rfl ?_; clear S a; intro a S
  refine s_loada S rfl .here T23 (s' := [.ints .u8 x2 20]) rfl rfl ?_; clear S a; intro a S
  obtain ⟨t7, et7, h1⟩ := bind_of h0; clear h0
  refine s_callX S (ds' := [(.agg [.ints .u8 x1 20]), (.agg [.ints .u8 x2 20])]) (ds := [(.agg [.ints .u8 x1 20]), (.agg [.ints .u8 x2 20])]) [] [Res.cells g2 23 [.ints .u8 x2 20], Res.cells g1 23 [.ints .u8 x1 20]] (fun (ch : Unit) => ((.v (.bool t7)) : D)) (fun (ch : Unit) => []) (fun (ch : Unit) => [Res.cells g2 23 [.ints .u8 x2 20], Res.cells g1 23 [.ints .u8 x1 20]]) (fun _ => rfl) N14 rfl rfl (fun ok => ok) (.cons .here (.cons .here .nil)) rfl (smithyref08_Less.ok k x1 x2 t7 et7 _ _) ?_; clear S a w; intro ch7 m le1 a w S
  refine c_end ?_
  rcases ite_of h1 with ⟨c5, h2⟩ | ⟨c5, h2⟩ <;> clear h1
  · refine c_condT S rfl c5 ?_
    refine c_region' ?_
    refine s_assign S rfl rfl ?_; clear S a; intro a S
    refine c_end' ?_
    refine x_thenN ?_
    exact j1 _ (-1) g2 g1 a w (S.sub ⟨rfl, rfl, rfl, trivial⟩ (.cons .here (.cons .here .nil))) h2
  · refine c_condF S rfl c5 ?_
    refine wp_skip ?_
    refine x_thenN ?_
    exact j1 _ 0 g2 g1 a w (S.sub ⟨rfl, rfl, rfl, trivial⟩ (.cons .here (.cons .here .nil))) h2
/-! smithy/word.Of -/
abbrev word_Of.Ty : Type := Int → Option ((List Int))
def word_Of.Ctr (s : word_Of.Ty) : Prop := ∀ (x1 : Int) (r : (List Int)) (h0 : s x1 = some r) (mi : Mem) (w0 : World), okL mi [(.v (.int .u64 x1))] → Pre mi [] w0 → Calls Tryd.prog 33 (([(.v (.int .u64 x1))] : List D).map D.val).toArray w0 (RetX mi [] (fun (ch : Unit) => ((.agg [.ints .u64 r 4]) : D)) (fun (ch : Unit) => []) w0)
def word_Of.f (x1 : Int) : Option ((List Int)) := some [x1, 0, 0, 0]
theorem word_Of.ok : word_Of.Ctr (word_Of.f) := by
  intro x1 r h0 mi w0 ok hm
  delta word_Of.f at h0
  refine c_enterX (n := 5) [(.v (.int .u64 x1))] (l := [(0, (.v (.int .u64 x1)))]) Tryd.func33 rfl rfl rfl rfl ok hm ?_
  clear ok hm
  intro b0 hb a S
  refine c_region ?_
  refine s_alloc S Z26 rfl ⟨rfl, trivial⟩ rfl ?_; clear S a; intro g1 a w S
  refine c_end ?_
  refine c_region ?_
  refine s_move S rfl rfl ?_; clear S a; intro a S
  refine s_build S (ds := [(0, (.v (.int .u64 x1)))]) (dv := (.agg [.ints .u64 [x1, 0, 0, 0] 4])) rfl (fun _ => by kernel_rfl) ⟨rfl, trivial⟩ rfl ?_; clear S a; intro a S
  refine s_store S rfl rfl rfl (s' := [.ints .u64 [x1, 0, 0, 0] 4]) .here T26 rfl rfl ?_; clear S w; intro w S
  refine c_end ?_
  refine wp_ret ?_
  obtain rfl := Option.some.inj h0
  exact b_ret1 (d := (.agg [.ints .u64 [x1, 0, 0, 0] 4])) S rfl (resD_cell rfl .here T26 rfl rfl) fun ok => S.retX (Hx := []) hb _ _ (() : Unit) .nil ok
/-! math/bits.Len64 -/
abbrev bits_Len64.Ty : Type := Int → Option Int
def bits_Len64.Ctr (s : bits_Len64.Ty) : Prop := ∀ (x1 : Int) (r : Int) (h0 : s x1 = some r) (mi : Mem) (w0 : World), okL mi [(.v (.int .u64 x1))] → Pre mi [] w0 → Calls Tryd.prog 50 (([(.v (.int .u64 x1))] : List D).map D.val).toArray w0 (RetX mi [] (fun (ch : Unit) => ((.v (.int .i64 r)) : D)) (fun (ch : Unit) => []) w0)
def bits_Len64.j3 (y5 : Int) (y6 : Int) : Option Int := if (0 : Int) ≤ (wr .u8 y6) ∧ (wr .u8 y6) < (txt0.size : Int) then (some (wr .i64 (y5 + (wr .i64 (bt txt0 (wr .u8 y6)))))) else none
def bits_Len64.j2 (y3 : Int) (y4 : Int) : Option Int := if (decide (256 ≤ y4)) = true then (bits_Len64.j3 (wr .i64 (y3 + 8)) (shr y4 8)) else (bits_Len64.j3 y3 y4)
def bits_Len64.j1 (y1 : Int) (y2 : Int) : Option Int := if (decide (65536 ≤ y2)) = true then (bits_Len64.j2 (wr .i64 (y1 + 16)) (shr y2 16)) else (bits_Len64.j2 y1 y2)
def bits_Len64.f (x1 : Int) : Option Int := if (decide (4294967296 ≤ x1)) = true then (bits_Len64.j1 32 (shr x1 32)) else (bits_Len64.j1 0 x1)
theorem bits_Len64.ok : bits_Len64.Ctr (bits_Len64.f) := by
  intro x1 r h0 mi w0 ok hm
  delta bits_Len64.f at h0
  refine c_enterX (n := 25) [(.v (.int .u64 x1))] (l := [(0, (.v (.int .u64 x1)))]) Tryd.func50 rfl rfl rfl rfl ok hm ?_
  clear ok hm
  intro b0 hb a S
  refine c_region ?_
  refine s_assign S rfl rfl ?_; clear S a; intro a S
  refine c_end ?_
  refine wp_seq_k ?_
  intro K1 hK1
  have j1 : ∀ (m : Mem) (y1 : Int) (y2 : Int) (a : Act) (w : World), St 25 m b0 [(2, (.v (.int .i64 y1))), (0, (.v (.int .u64 y2)))] [] a w → bits_Len64.j1 y1 y2 = some r → K1 a w := by
    intro m y1 y2 a w S h0
    delta bits_Len64.j1 at h0
    refine hK1 a w ?_
    refine wp_seq_k ?_
    intro K2 hK2
    have j2 : ∀ (m : Mem) (y3 : Int) (y4 : Int) (a : Act) (w : World), St 25 m b0 [(2, (.v (.int .i64 y3))), (0, (.v (.int .u64 y4)))] [] a w → bits_Len64.j2 y3 y4 = some r → K2 a w := by
      intro m y3 y4 a w S h0
      delta bits_Len64.j2 at h0
      refine hK2 a w ?_
      refine wp_seq_k ?_
      intro K3 hK3
      have j3 : ∀ (m : Mem) (y5 : Int) (y6 : Int) (a : Act) (w : World), St 25 m b0 [(2, (.v (.int .i64 y5))), (0, (.v (.int .u64 y6)))] [] a w → bits_Len64.j3 y5 y6 = some r → K3 a w := by
        intro m y5 y6 a w S h0
        delta bits_Len64.j3 at h0
        refine hK3 a w ?_
        refine c_region ?_
        refine s_move S rfl rfl ?_; clear S a; intro a S
        refine s_move S rfl rfl ?_; clear S a; intro a S
        refine s_conv S rfl rfl Tryd.underlying5 rfl ?_; clear S a; intro a S
        obtain ⟨c1, h1⟩ := chk_of h0; clear h0
        refine s_indexT S rfl rfl Tryd.underlying9 c1.1 c1.2 rfl ?_; clear S a; intro a S
        refine s_conv S rfl rfl Tryd.underlying3 rfl ?_; clear S a; intro a S
        refine s_bin S rfl rfl rfl rfl ?_; clear S a; intro a S
        refine s_assign S rfl rfl ?_; clear S a; intro a S
        refine c_end ?_
        refine wp_ret ?_
        obtain rfl := Option.some.inj h1
        exact b_ret1 (d := (.v (.int .i64 (wr .i64 (y5 + (wr .i64 (bt txt0 (wr .u8 y6)))))))) S rfl rfl fun ok => S.retX (Hx := []) hb _ _ (() : Unit) .nil ok
      refine c_region ?_
      refine s_move S rfl rfl ?_; clear S a; intro a S
      refine s_bin S rfl rfl rfl rfl ?_; clear S a; intro a S
      refine c_end ?_
      rcases ite_of h0 with ⟨c2, h1⟩ | ⟨c2, h1⟩ <;> clear h0
      · refine c_condT S rfl c2 ?_
        refine c_region ?_
        refine s_move S rfl rfl ?_; clear S a; intro a S
        refine s_shr S (e := 8) rfl rfl (by decide) rfl rfl ?_; clear S a; intro a S
        refine s_assign S rfl rfl ?_; clear S a; intro a S
        refine c_end ?_
        refine c_region' ?_
        refine s_move S rfl rfl ?_; clear S a; intro a S
        refine s_bin S rfl rfl rfl rfl ?_; clear S a; intro a S
        refine s_assign S rfl rfl ?_; clear S a; intro a S
        refine c_end' ?_
        refine x_thenN ?_
        exact j3 _ (wr .i64 (y3 + 8)) (shr y4 8) a w (S.sub ⟨rfl, rfl, trivial⟩ .nil) h1
      · refine c_condF S rfl c2 ?_
        refine wp_skip ?_
        refine x_thenN ?_
        exact j3 _ y3 y4 a w (S.sub ⟨rfl, rfl, trivial⟩ .nil) h1
    refine c_region ?_
    refine s_move S rfl rfl ?_; clear S a; intro a S
    refine s_bin S rfl rfl rfl rfl ?_; clear S a; intro a S
    refine c_end ?_
    rcases ite_of h0 with ⟨c3, h1⟩ | ⟨c3, h1⟩ <;> clear h0
    · refine c_condT S rfl c3 ?_
      refine c_region ?_
      refine s_move S rfl rfl ?_; clear S a; intro a S
      refine s_shr S (e := 16) rfl rfl (by decide) rfl rfl ?_; clear S a; intro a S
      refine s_assign S rfl rfl ?_; clear S a; intro a S
      refine c_end ?_
      refine c_region' ?_
      refine s_move S rfl rfl ?_; clear S a; intro a S
      refine s_bin S rfl rfl rfl rfl ?_; clear S a; intro a S
      refine s_assign S rfl rfl ?_; clear S a; intro a S
      refine c_end' ?_
      refine x_thenN ?_
      exact j2 _ (wr .i64 (y1 + 16)) (shr y2 16) a w (S.sub ⟨rfl, rfl, trivial⟩ .nil) h1
    · refine c_condF S rfl c3 ?_
      refine wp_skip ?_
      refine x_thenN ?_
      exact j2 _ y1 y2 a w (S.sub ⟨rfl, rfl, trivial⟩ .nil) h1
  refine c_region ?_
  refine s_move S rfl rfl ?_; clear S a; intro a S
  refine s_bin S rfl rfl rfl rfl ?_; clear S a; intro a S
  refine c_end ?_
  rcases ite_of h0 with ⟨c4, h1⟩ | ⟨c4, h1⟩ <;> clear h0
  · refine c_condT S rfl c4 ?_
    refine c_region ?_
    refine s_move S rfl rfl ?_; clear S a; intro a S
    refine s_shr S (e := 32) rfl rfl (by decide) rfl rfl ?_; clear S a; intro a S
    refine s_assign S rfl rfl ?_; clear S a; intro a S
    refine c_end ?_
    refine c_region' ?_
    refine s_assign S rfl rfl ?_; clear S a; intro a S
    refine c_end' ?_
    refine x_thenN ?_
    exact j1 _ 32 (shr x1 32) a w0 (S.sub ⟨rfl, rfl, trivial⟩ .nil) h1
  · refine c_condF S rfl c4 ?_
    refine wp_skip ?_
    refine x_thenN ?_
    exact j1 _ 0 x1 a w0 (S.sub ⟨rfl, rfl, trivial⟩ .nil) h1
/-! smithy/word.Len -/
abbrev word_Len.Ty : Type := (List Int) → Option Int
def word_Len.Ctr (s : word_Len.Ty) : Prop := ∀ (x1 : List Int) (r : Int) (h0 : s x1 = some r) (mi : Mem) (w0 : World), okL mi [(.agg [.ints .u64 x1 4])] → Pre mi [] w0 → Calls Tryd.prog 45 (([(.agg [.ints .u64 x1 4])] : List D).map D.val).toArray w0 (RetX mi [] (fun (ch : Unit) => ((.v (.int .i64 r)) : D)) (fun (ch : Unit) => []) w0)
def word_Len.j1 : Option Int := some 0
def word_Len.b1 (x1 : List Int) (rec1 : Int → Option Int) (y1 : Int) : Option Int := if (decide (0 ≤ y1)) = true then (if (0 : Int) ≤ y1 ∧ y1 < 4 then (if ((rd x1 y1) != 0) = true then ((bits_Len64.f (rd x1 y1)).bind fun t1 => (some (wr .i64 ((wr .i64 (64 * y1)) + t1)))) else (rec1 (wr .i64 (y1 - 1)))) else none) else word_Len.j1
def word_Len.l1 (x1 : List Int) : Nat → Int → Option Int
  | 0, _ => none
  | q + 1, y1 => word_Len.b1 x1 (word_Len.l1 x1 q) y1
def word_Len.f (k : Nat) (x1 : List Int) : Option Int := word_Len.l1 x1 k 3
theorem word_Len.ok (k : Nat) : word_Len.Ctr (word_Len.f k) := by
  intro x1 r h0 mi w0 ok hm
  delta word_Len.f at h0
  refine c_enterX (n := 19) [(.agg [.ints .u64 x1 4])] (l := [(0, (.agg [.ints .u64 x1 4]))]) Tryd.func45 rfl rfl rfl rfl ok hm ?_
  clear ok hm
  intro b0 hb a S
  refine c_region ?_
  refine s_box S rfl rfl rfl ?_; clear S a; intro g1 a w S
  refine s_assign S rfl rfl ?_; clear S a; intro a S
  refine c_end ?_
  refine wp_seq_k ?_
  intro K1 hK1
  have j1 : ∀ (m : Mem) (a : Act) (w : World), St 19 m b0 [] [] a w → word_Len.j1 = some r → K1 a w := by
    intro m a w S h0
    delta word_Len.j1 at h0
    refine hK1 a w ?_
    refine c_region ?_
    refine s_assign S rfl rfl ?_; clear S a; intro a S
    refine c_end ?_
    refine wp_ret ?_
    obtain rfl := Option.some.inj h0
    exact b_ret1 (d := (.v (.int .i64 0))) S rfl rfl fun ok => S.retX (Hx := []) hb _ _ (() : Unit) .nil ok
  refine c_region ?_
  refine s_assign S rfl rfl ?_; clear S a; intro a S
  refine c_end ?_
  refine wp_block ?_
  refine c_loop (fun q1 a w => ∃ (m : Mem) (y1 : Int) (g7 : Nat), St 19 m b0 [(3, (.v (.int .i64 y1))), (1, (.v (.pointer (some ⟨g7, 0, none⟩))))] [Res.cells g7 26 [.ints .u64 x1 4]] a w ∧ word_Len.l1 x1 q1 y1 = some r) ?_ ?_ (k := k) ⟨_, 3, g1, (S.sub ⟨rfl, rfl, trivial⟩ (.cons .here .nil)), h0⟩
  · rintro a w ⟨m, y1, g7, S, h0⟩
    exact (nomatch (show (none : Option Int) = some r from h0))
  · clear S h0
    rintro q1 a w ⟨m, y1, g7, S, h0⟩
    replace h0 : word_Len.b1 x1 (word_Len.l1 x1 q1) y1 = some r := h0
    delta word_Len.b1 at h0
    refine wp_seq ?_
    refine c_region ?_
    refine s_move S rfl rfl ?_; clear S a; intro a S
    refine s_bin S rfl rfl rfl rfl ?_; clear S a; intro a S
    refine c_end ?_
    rcases ite_of h0 with ⟨c1, h1⟩ | ⟨c1, h1⟩ <;> clear h0
    · refine c_condT S rfl c1 ?_
      refine wp_skip ?_
      refine x_thenN ?_
      refine wp_seq ?_
      refine wp_block ?_
      refine c_region ?_
      refine s_move S rfl rfl ?_; clear S a; intro a S
      obtain ⟨c2, h2⟩ := chk_of h1; clear h1
      refine s_iaddr S rfl rfl Tryd.underlying26 T24 c2.1 c2.2 (mul1 _ _) rfl ?_; clear S a; intro a S
      refine s_loadi S (i := y1) rfl .here T24 .here rfl c2.1 c2.2 rfl ?_; clear S a; intro a S
      refine s_bin S rfl rfl rfl rfl ?_; clear S a; intro a S
      refine c_end ?_
      rcases ite_of h2 with ⟨c3, h3⟩ | ⟨c3, h3⟩ <;> clear h2
      · refine c_condT S rfl c3 ?_
        refine c_region ?_
        refine s_move S rfl rfl ?_; clear S a; intro a S
        refine s_bin S rfl rfl rfl rfl ?_; clear S a; intro a S
        refine s_move S rfl rfl ?_; clear S a; intro a S
        refine s_iaddr S rfl rfl Tryd.underlying26 T24 c2.1 c2.2 (mul1 _ _) rfl ?_; clear S a; intro a S
        refine s_loadi S (i := y1) rfl .here T24 .here rfl c2.1 c2.2 rfl ?_; clear S a; intro a S
        obtain ⟨t1, et1, h4⟩ := bind_of h3; clear h3
        refine s_callX S (ds' := [(.v (.int .u64 (rd x1 y1)))]) (ds := [(.v (.int .u64 (rd x1 y1)))]) [] [Res.cells g7 26 [.ints .u64 x1 4]] (fun (ch : Unit) => ((.v (.int .i64 t1)) : D)) (fun (ch : Unit) => []) (fun (ch : Unit) => [Res.cells g7 26 [.ints .u64 x1 4]]) (fun _ => rfl) N50 rfl rfl (fun ok => ok) (.cons .here .nil) rfl (bits_Len64.ok (rd x1 y1) t1 et1 _ _) ?_; clear S a w; intro ch1 m le1 a w S
        refine s_bin S rfl rfl rfl rfl ?_; clear S a; intro a S
        refine s_assign S rfl rfl ?_; clear S a; intro a S
        refine c_end ?_
        refine wp_ret ?_
        refine x_blockR ?_
        refine x_thenR ?_
        refine x_thenR ?_
        refine x_blockR ?_
        refine x_thenR ?_
        obtain rfl := Option.some.inj h4
        exact b_ret1 (d := (.v (.int .i64 (wr .i64 ((wr .i64 (64 * y1)) + t1))))) S rfl rfl fun ok => S.retX (Hx := []) hb _ _ (() : Unit) .nil ok
      · refine c_condF S rfl c3 ?_
        refine wp_skip ?_
        refine x_blockN ?_
        refine x_thenN ?_
        refine c_region' ?_
        refine s_move S rfl rfl ?_; clear S a; intro a S
        refine s_bin S rfl rfl rfl rfl ?_; clear S a; intro a S
        refine s_assign S rfl rfl ?_; clear S a; intro a S
        refine c_end' ?_
        refine x_thenN ?_
        exact ⟨_, (wr .i64 (y1 - 1)), g7, (S.sub ⟨rfl, rfl, trivial⟩ (.cons .here .nil)), h3⟩
    · refine c_condF S rfl c1 ?_
      refine wp_exit ?_
      refine x_thenX ?_
      refine x_thenX ?_
      refine x_blockX ?_
      refine x_thenN ?_
      exact j1 _ a w (S.sub trivial .nil) h1
/-! smithy/word.Size -/
abbrev word_Size.Ty : Type := (List Int) → Option Int
def word_Size.Ctr (s : word_Size.Ty) : Prop := ∀ (x1 : List Int) (r : Int) (h0 : s x1 = some r) (mi : Mem) (w0 : World), okL mi [(.agg [.ints .u64 x1 4])] → Pre mi [] w0 → Calls Tryd.prog 39 (([(.agg [.ints .u64 x1 4])] : List D).map D.val).toArray w0 (RetX mi [] (fun (ch : Unit) => ((.v (.int .i64 r)) : D)) (fun (ch : Unit) => []) w0)
def word_Size.f (k : Nat) (x1 : List Int) : Option Int := (word_Len.f k x1).bind fun t1 => (some (wr .i64 (Int.tdiv (wr .i64 (t1 + 7)) 8)))
theorem word_Size.ok (k : Nat) : word_Size.Ctr (word_Size.f k) := by
  intro x1 r h0 mi w0 ok hm
  delta word_Size.f at h0
  refine c_enterX (n := 7) [(.agg [.ints .u64 x1 4])] (l := [(0, (.agg [.ints .u64 x1 4]))]) Tryd.func39 rfl rfl rfl rfl ok hm ?_
  clear ok hm
  intro b0 hb a S
  refine c_region ?_
  refine s_box S rfl rfl rfl ?_; clear S a; intro g1 a w S
  refine s_assign S rfl rfl ?_; clear S a; intro a S
  refine c_end ?_
  refine c_region ?_
  refine s_loada S rfl .here T26 (s' := [.ints .u64 x1 4]) rfl rfl ?_; clear S a; intro a S
  obtain ⟨t1, et1, h1⟩ := bind_of h0; clear h0
  refine s_callX S (ds' := [(.agg [.ints .u64 x1 4])]) (ds := [(.agg [.ints .u64 x1 4])]) [] [Res.cells g1 26 [.ints .u64 x1 4]] (fun (ch : Unit) => ((.v (.int .i64 t1)) : D)) (fun (ch : Unit) => []) (fun (ch : Unit) => [Res.cells g1 26 [.ints .u64 x1 4]]) (fun _ => rfl) N45 rfl rfl (fun ok => ok) (.cons .here .nil) rfl (word_Len.ok k x1 t1 et1 _ _) ?_; clear S a w; intro ch1 m le1 a w S
  refine s_bin S rfl rfl rfl rfl ?_; clear S a; intro a S
  refine s_quo S rfl rfl (by decide) rfl ?_; clear S a; intro a S
  refine s_assign S rfl rfl ?_; clear S a; intro a S
  refine c_end ?_
  refine wp_ret ?_
  obtain rfl := Option.some.inj h1
  exact b_ret1 (d := (.v (.int .i64 (wr .i64 (Int.tdiv (wr .i64 (t1 + 7)) 8))))) S rfl rfl fun ok => S.retX (Hx := []) hb _ _ (() : Unit) .nil ok
/-! smithy/rlp.Number -/
abbrev rlp_Number.Ty : Type := (List Int) → Option ((List Int))
def rlp_Number.Ctr (s : rlp_Number.Ty) : Prop := ∀ (x1 : List Int) (r : (List Int)) (h0 : s x1 = some r) (mi : Mem) (w0 : World), okL mi [(.agg [.ints .u64 x1 4])] → Pre mi [] w0 → Calls Tryd.prog 32 (([(.agg [.ints .u64 x1 4])] : List D).map D.val).toArray w0 (RetX mi [] (fun (ch : (Option Addr) × Nat × Nat) => ((.v (.slice ch.1 ch.2.1 ch.2.2)) : D)) (fun (ch : (Option Addr) × Nat × Nat) => [Res.row (Ty.int .u8) 5 ch.1 ch.2.1 ch.2.2 r]) w0)
def rlp_Number.f (k : Nat) (x1 : List Int) : Option ((List Int)) := (word_Bytes.f k x1).bind fun t1 => ((word_Size.f k x1).bind fun t2 => (if (0 : Int) ≤ (wr .i64 (32 - t2)) ∧ ((wr .i64 (32 - t2)) : Int) ≤ 32 ∧ 32 ≤ ((32 : Nat) : Int) then (if ((([] : List Int)).length + (((t1).drop (Int.toNat (wr .i64 (32 - t2)))).take (Int.toNat 32 - Int.toNat (wr .i64 (32 - t2)))).length) * 1 ≤ 140737488355328 then (some (([] : List Int) ++ (((t1).drop (Int.toNat (wr .i64 (32 - t2)))).take (Int.toNat 32 - Int.toNat (wr .i64 (32 - t2)))))) else none) else none))
theorem rlp_Number.ok (k : Nat) : rlp_Number.Ctr (rlp_Number.f k) := by
  intro x1 r h0 mi w0 ok hm
  delta rlp_Number.f at h0
  refine c_enterX (n := 12) [(.agg [.ints .u64 x1 4])] (l := [(0, (.agg [.ints .u64 x1 4]))]) Tryd.func32 rfl rfl rfl rfl ok hm ?_
  clear ok hm
  intro b0 hb a S
  refine c_region ?_
  refine s_box S rfl rfl rfl ?_; clear S a; intro g1 a w S
  refine s_assign S rfl rfl ?_; clear S a; intro a S
  refine c_end ?_
  refine c_region ?_
  refine s_loada S rfl .here T26 (s' := [.ints .u64 x1 4]) rfl rfl ?_; clear S a; intro a S
  obtain ⟨t1, et1, h1⟩ := bind_of h0; clear h0
  refine s_callX S (ds' := [(.agg [.ints .u64 x1 4])]) (ds := [(.agg [.ints .u64 x1 4])]) [] [Res.cells g1 26 [.ints .u64 x1 4]] (fun (ch : Unit) => ((.agg [.ints .u8 t1 32]) : D)) (fun (ch : Unit) => []) (fun (ch : Unit) => [Res.cells g1 26 [.ints .u64 x1 4]]) (fun _ => rfl) N21 rfl rfl (fun ok => ok) (.cons .here .nil) rfl (word_Bytes.ok k x1 t1 et1 _ _) ?_; clear S a w; intro ch1 m le1 a w S
  refine s_alloc S Z39 rfl ⟨rfl, trivial⟩ rfl ?_; clear S a w; intro g2 a w S
  refine s_store S rfl rfl rfl (s' := [.ints .u8 t1 32]) .here T39 rfl rfl ?_; clear S w; intro w S
  refine c_end ?_
  refine c_region ?_
  refine s_bldSl S (ty' := (Ty.int .u8)) (ds := []) (z := 0) (c0 := ()) (ys := ([] : List Int)) (cs := []) rfl Tryd.underlying27 J5 Z5 rfl ⟨rfl, trivial⟩ rfl rfl rfl rfl rfl rfl ?_; clear S a w; intro g3 a w S
  refine s_loada S rfl (.there (.there .here)) T26 (s' := [.ints .u64 x1 4]) rfl rfl ?_; clear S a; intro a S
  obtain ⟨t2, et2, h2⟩ := bind_of h1; clear h1
  refine s_callX S (ds' := [(.agg [.ints .u64 x1 4])]) (ds := [(.agg [.ints .u64 x1 4])]) [] [Res.row (Ty.int .u8) 5 (some ⟨g3, 0, none⟩) 0 0 ([] : List Int), Res.cells g2 39 [.ints .u8 t1 32], Res.cells g1 26 [.ints .u64 x1 4]] (fun (ch : Unit) => ((.v (.int .i64 t2)) : D)) (fun (ch : Unit) => []) (fun (ch : Unit) => [Res.row (Ty.int .u8) 5 (some ⟨g3, 0, none⟩) 0 0 ([] : List Int), Res.cells g2 39 [.ints .u8 t1 32], Res.cells g1 26 [.ints .u64 x1 4]]) (fun _ => rfl) N39 rfl rfl (fun ok => ok) (.cons .here (.cons .here (.cons .here .nil))) rfl (word_Size.ok k x1 t2 et2 _ _) ?_; clear S a w; intro ch2 m le1 a w S
  refine s_bin S rfl rfl rfl rfl ?_; clear S a; intro a S
  obtain ⟨c1, h3⟩ := chk_of h2; clear h2
  refine s_sliceA S (i := (wr .i64 (32 - t2))) (j := 32) (o' := if 32 = Int.toNat (wr .i64 (32 - t2)) then 0 else 0 + Int.toNat (wr .i64 (32 - t2)) * 1) (len := Int.toNat 32 - Int.toNat (wr .i64 (32 - t2))) (cap := 32 - Int.toNat (wr .i64 (32 - t2))) rfl Tryd.underlying39 T5 (.inr ⟨_, _, rfl, rfl⟩) (.inl ⟨rfl, rfl⟩) c1 rfl rfl rfl rfl ?_; clear S a; intro a S
  replace S := S.freeze (.there .here)
  obtain ⟨m, le1, S⟩ := S
  replace S := (S.slup' (u := 10) (lo := Int.toNat (wr .i64 (32 - t2))) (c := 32) (ys := ((t1).drop (Int.toNat (wr .i64 (32 - t2)))).take (Int.toNat 32 - Int.toNat (wr .i64 (32 - t2)))) rfl (Pull.mem (.there .here)).1 .here (ho_if c1) (hl_if c1) (hcap_if c1 rfl) rfl).2
  obtain ⟨c2, h4⟩ := chk_of h3; clear h3
  refine s_app S (k2 := ((((t1).drop (Int.toNat (wr .i64 (32 - t2)))).take (Int.toNat 32 - Int.toNat (wr .i64 (32 - t2)))).length)) (ys := (((t1).drop (Int.toNat (wr .i64 (32 - t2)))).take (Int.toNat 32 - Int.toNat (wr .i64 (32 - t2))))) rfl (fun _ _ => .here) rfl rfl rfl (RdS.src (S.get 10 (.sl (some ⟨g2, if 32 = Int.toNat (wr .i64 (32 - t2)) then 0 else 0 + Int.toNat (wr .i64 (32 - t2)) * 1, none⟩) (((t1).drop (Int.toNat (wr .i64 (32 - t2)))).take (Int.toNat 32 - Int.toNat (wr .i64 (32 - t2)))).length (32 - Int.toNat (wr .i64 (32 - t2))) (RdS (Ty.int .u8) (some ⟨g2, if 32 = Int.toNat (wr .i64 (32 - t2)) then 0 else 0 + Int.toNat (wr .i64 (32 - t2)) * 1, none⟩) (((t1).drop (Int.toNat (wr .i64 (32 - t2)))).take (Int.toNat 32 - Int.toNat (wr .i64 (32 - t2)))))) rfl).2.2.2.1 (by decide) S.frz) Tryd.underlying27 J5 c2 rfl ?_; clear S a w; intro A1 cp1 a w S
  refine s_assign S rfl rfl ?_; clear S a; intro a S
  refine c_end ?_
  refine wp_ret ?_
  obtain rfl := Option.some.inj h4
  exact b_ret1 (d := (.v (.slice A1 (0 + ((((t1).drop (Int.toNat (wr .i64 (32 - t2)))).take (Int.toNat 32 - Int.toNat (wr .i64 (32 - t2)))).length)) cp1))) S rfl rfl fun ok => S.retX (Hx := []) hb _ _ ((A1, 0 + ((((t1).drop (Int.toNat (wr .i64 (32 - t2)))).take (Int.toNat 32 - Int.toNat (wr .i64 (32 - t2)))).length), cp1) : (Option Addr) × Nat × Nat) (.cons .here .nil) ok
/-! smithy/rlp.one -/
abbrev rlp_one.Ty : Type := (List (Bool × (List Int) × Int)) → Option Bool
def rlp_one.Ctr (s : rlp_one.Ty) : Prop := ∀ (x1 : List (Bool × (List Int) × Int)) (ch_0_0 : Option Addr) (ch_0_1 : Nat) (r : Bool) (h0 : s x1 = some r) (mi : Mem) (w0 : World), okL mi [(.sl ch_0_0 (x1).length ch_0_1 (RdS (Ty.prod Ty.bool (Ty.prod (Ty.slice (Ty.int .u8)) (Ty.int .i64))) ch_0_0 x1))] → Pre mi [] w0 → Calls Tryd.prog 40 (([(.sl ch_0_0 (x1).length ch_0_1 (RdS (Ty.prod Ty.bool (Ty.prod (Ty.slice (Ty.int .u8)) (Ty.int .i64))) ch_0_0 x1))] : List D).map D.val).toArray w0 (RetX mi [] (fun (ch : Unit) => ((.v (.bool r)) : D)) (fun (ch : Unit) => []) w0)
def rlp_one.j2 : Option Bool := some true
def rlp_one.j3 (y27 : Int) (rec1 : (List Int) → Int → Option Bool) (y36 : List Int) : Option Bool := rec1 y36 (wr .i64 (y27 + 1))
def rlp_one.j6 (x1 : List (Bool × (List Int) × Int)) (y27 : Int) (rec1 : (List Int) → Int → Option Bool) (y42 : List Int) (y44 : Bool) : Option Bool := if y44 = true then (some false) else (if ((y42).length + ([wr .i64 ((wr .i64 (y27 + 1)) + ((gt x1 y27).2.2))]).length) * 8 ≤ 140737488355328 then (rlp_one.j3 y27 rec1 (y42 ++ [wr .i64 ((wr .i64 (y27 + 1)) + ((gt x1 y27).2.2))])) else none)
def rlp_one.j5 (x1 : List (Bool × (List Int) × Int)) (y27 : Int) (rec1 : (List Int) → Int → Option Bool) (y42 : List Int) (y43 : Bool) : Option Bool := if y43 = true then (some false) else (if (decide (0 < ((y42).length : Int))) = true then (if (0 : Int) ≤ (wr .i64 (((y42).length : Int) - 1)) ∧ (wr .i64 (((y42).length : Int) - 1)) < ((y42).length : Int) then (rlp_one.j6 x1 y27 rec1 y42 (decide ((rd y42 (wr .i64 (((y42).length : Int) - 1))) < (wr .i64 ((wr .i64 (y27 + 1)) + ((gt x1 y27).2.2)))))) else none) else (rlp_one.j6 x1 y27 rec1 y42 false))
def rlp_one.j4 (x1 : List (Bool × (List Int) × Int)) (y27 : Int) (rec1 : (List Int) → Int → Option Bool) (y42 : List Int) : Option Bool := if (!((gt x1 y27).1)) = true then (if (((gt x1 y27).2.2) != 0) = true then (rlp_one.j5 x1 y27 rec1 y42 true) else (if ((gt x1 y27).1) = true then (if (decide (0 < (((gt x1 y27).2.1).length : Int))) = true then (rlp_one.j5 x1 y27 rec1 y42 true) else (if (decide (((gt x1 y27).2.2) < 0)) = true then (rlp_one.j5 x1 y27 rec1 y42 true) else (rlp_one.j5 x1 y27 rec1 y42 (decide ((wr .i64 ((wr .i64 (((x1).length : Int) - 1)) - y27)) < ((gt x1 y27).2.2)))))) else (if (decide (((gt x1 y27).2.2) < 0)) = true then (rlp_one.j5 x1 y27 rec1 y42 true) else (rlp_one.j5 x1 y27 rec1 y42 (decide ((wr .i64 ((wr .i64 (((x1).length : Int) - 1)) - y27)) < ((gt x1 y27).2.2))))))) else (if ((gt x1 y27).1) = true then (if (decide (0 < (((gt x1 y27).2.1).length : Int))) = true then (rlp_one.j5 x1 y27 rec1 y42 true) else (if (decide (((gt x1 y27).2.2) < 0)) = true then (rlp_one.j5 x1 y27 rec1 y42 true) else (rlp_one.j5 x1 y27 rec1 y42 (decide ((wr .i64 ((wr .i64 (((x1).length : Int) - 1)) - y27)) < ((gt x1 y27).2.2)))))) else (if (decide (((gt x1 y27).2.2) < 0)) = true then (rlp_one.j5 x1 y27 rec1 y42 true) else (rlp_one.j5 x1 y27 rec1 y42 (decide ((wr .i64 ((wr .i64 (((x1).length : Int) - 1)) - y27)) < ((gt x1 y27).2.2))))))
def rlp_one.j7 (x1 : List (Bool × (List Int) × Int)) (y27 : Int) (rec1 : (List Int) → Int → Option Bool) (y48 : List Int) (rec2 : (List Int) → Option Bool) (y49 : Bool) : Option Bool := if y49 = true then (if (0 : Int) ≤ (wr .i64 (((y48).length : Int) - 1)) ∧ (wr .i64 (((y48).length : Int) - 1)) ≤ ((y48).length : Int) then (rec2 (y48.take (Int.toNat (wr .i64 (((y48).length : Int) - 1))))) else none) else (rlp_one.j4 x1 y27 rec1 y48)
def rlp_one.b2 (x1 : List (Bool × (List Int) × Int)) (y27 : Int) (rec1 : (List Int) → Int → Option Bool) (rec2 : (List Int) → Option Bool) (y48 : List Int) : Option Bool := if (decide (0 < ((y48).length : Int))) = true then (if (0 : Int) ≤ (wr .i64 (((y48).length : Int) - 1)) ∧ (wr .i64 (((y48).length : Int) - 1)) < ((y48).length : Int) then (rlp_one.j7 x1 y27 rec1 y48 rec2 ((rd y48 (wr .i64 (((y48).length : Int) - 1))) == y27)) else none) else (rlp_one.j7 x1 y27 rec1 y48 rec2 false)
def rlp_one.l2 (x1 : List (Bool × (List Int) × Int)) (y27 : Int) (rec1 : (List Int) → Int → Option Bool) : Nat → (List Int) → Option Bool
  | 0, _ => none
  | q + 1, y48 => rlp_one.b2 x1 y27 rec1 (rlp_one.l2 x1 y27 rec1 q) y48
def rlp_one.b1 (k : Nat) (x1 : List (Bool × (List Int) × Int)) (rec1 : (List Int) → Int → Option Bool) (y26 : List Int) (y27 : Int) : Option Bool := if (decide (y27 < ((x1).length : Int))) = true then (if (0 : Int) ≤ y27 ∧ y27 < ((x1).length : Int) then (rlp_one.l2 x1 y27 rec1 k y26) else none) else rlp_one.j2
def rlp_one.l1 (k : Nat) (x1 : List (Bool × (List Int) × Int)) : Nat → (List Int) → Int → Option Bool
  | 0, _, _ => none
  | q + 1, y26, y27 => rlp_one.b1 k x1 (rlp_one.l1 k x1 q) y26 y27
def rlp_one.j1 (k : Nat) (x1 : List (Bool × (List Int) × Int)) (y1 : Bool) : Option Bool := if y1 = true then (some false) else (rlp_one.l1 k x1 k ([] : List Int) 0)
def rlp_one.f (k : Nat) (x1 : List (Bool × (List Int) × Int)) : Option Bool := if (((x1).length : Int) == 0) = true then (rlp_one.j1 k x1 true) else (if (0 : Int) ≤ 0 ∧ 0 < ((x1).length : Int) then (rlp_one.j1 k x1 (((gt x1 0).2.2) != (wr .i64 (((x1).length : Int) - 1)))) else none)
theorem rlp_one.ok (k : Nat) : rlp_one.Ctr (rlp_one.f k) := by
  intro x1 ch_0_0 ch_0_1 r h0 mi w0 ok hm
  delta rlp_one.f at h0
  refine c_enterX (n := 101) [(.sl ch_0_0 (x1).length ch_0_1 (RdS (Ty.prod Ty.bool (Ty.prod (Ty.slice (Ty.int .u8)) (Ty.int .i64))) ch_0_0 x1))] (l := [(0, (.sl ch_0_0 (x1).length ch_0_1 (RdS (Ty.prod Ty.bool (Ty.prod (Ty.slice (Ty.int .u8)) (Ty.int .i64))) ch_0_0 x1)))]) Tryd.func40 rfl rfl rfl rfl ok hm ?_
  clear ok hm
  intro b0 hb a S
  refine c_region ?_
  refine s_assign S rfl rfl ?_; clear S a; intro a S
  refine c_end ?_
  refine wp_seq ?_
  refine wp_seq_k ?_
  intro K1 hK1
  have j1 : ∀ (m : Mem) (y1 : Bool) (a : Act) (w : World), St 101 m b0 [(19, (.v (.bool y1))), (0, (.sl ch_0_0 (x1).length ch_0_1 (RdS (Ty.prod Ty.bool (Ty.prod (Ty.slice (Ty.int .u8)) (Ty.int .i64))) ch_0_0 x1)))] [] a w → rlp_one.j1 k x1 y1 = some r → K1 a w := by
    intro m y1 a w S h0
    delta rlp_one.j1 at h0
    refine hK1 a w ?_
    rcases ite_of h0 with ⟨c1, h1⟩ | ⟨c1, h1⟩ <;> clear h0
    · refine c_condT S rfl c1 ?_
      refine c_region ?_
      refine s_assign S rfl rfl ?_; clear S a; intro a S
      refine c_end ?_
      refine wp_ret ?_
      refine x_thenR ?_
      obtain rfl := Option.some.inj h1
      exact b_ret1 (d := (.v (.bool false))) S rfl rfl fun ok => S.retX (Hx := []) hb _ _ (() : Unit) .nil ok
    · refine c_condF S rfl c1 ?_
      refine wp_skip ?_
      refine x_thenN ?_
      refine c_region ?_
      refine s_assign S rfl rfl ?_; clear S a; intro a S
      refine c_end ?_
      refine wp_seq_k ?_
      intro K2 hK2
      have j2 : ∀ (m : Mem) (a : Act) (w : World), St 101 m b0 [] [] a w → rlp_one.j2 = some r → K2 a w := by
        intro m a w S h0
        delta rlp_one.j2 at h0
        refine hK2 a w ?_
        refine c_region ?_
        refine s_assign S rfl rfl ?_; clear S a; intro a S
        refine c_end ?_
        refine wp_ret ?_
        obtain rfl := Option.some.inj h0
        exact b_ret1 (d := (.v (.bool true))) S rfl rfl fun ok => S.retX (Hx := []) hb _ _ (() : Unit) .nil ok
      refine c_region ?_
      refine s_move S rfl rfl ?_; clear S a; intro a S
      refine s_lenS S rfl Tryd.underlying58 rfl ?_; clear S a; intro a S
      refine s_move S rfl rfl ?_; clear S a; intro a S
      refine c_end ?_
      refine wp_block ?_
      replace S := S.nilrow (Ty.int .i64) 3
      refine c_loop (fun q1 a w => ∃ (m : Mem) (A1 : Option Addr) (nn1 : Nat) (cp1 : Nat) (y26 : List Int) (y27 : Int), St 101 m b0 [(3, (.v (.slice A1 nn1 cp1))), (22, (.v (.int .i64 y27))), (21, (.v (.int .i64 ((x1).length : Int)))), (20, (.sl ch_0_0 (x1).length ch_0_1 (RdS (Ty.prod Ty.bool (Ty.prod (Ty.slice (Ty.int .u8)) (Ty.int .i64))) ch_0_0 x1))), (0, (.sl ch_0_0 (x1).length ch_0_1 (RdS (Ty.prod Ty.bool (Ty.prod (Ty.slice (Ty.int .u8)) (Ty.int .i64))) ch_0_0 x1)))] [Res.row (Ty.int .i64) 3 A1 nn1 cp1 y26] a w ∧ rlp_one.l1 k x1 q1 y26 y27 = some r) ?_ ?_ (k := k) ⟨_, none, 0, 0, ([] : List Int), 0, (S.sub ⟨rfl, rfl, rfl, rfl, rfl, trivial⟩ (.cons .here .nil)), h1⟩
      · rintro a w ⟨m, A1, nn1, cp1, y26, y27, S, h0⟩
        exact (nomatch (show (none : Option Bool) = some r from h0))
      · clear S h1
        rintro q1 a w ⟨m, A1, nn1, cp1, y26, y27, S, h0⟩
        replace h0 : rlp_one.b1 k x1 (rlp_one.l1 k x1 q1) y26 y27 = some r := h0
        delta rlp_one.b1 at h0
        refine c_region ?_
        refine s_bin S rfl rfl rfl rfl ?_; clear S a; intro a S
        refine c_end ?_
        refine wp_seq ?_
        rcases ite_of h0 with ⟨c2, h1⟩ | ⟨c2, h1⟩ <;> clear h0
        · refine c_condT S rfl c2 ?_
          refine wp_skip ?_
          refine x_thenN ?_
          refine wp_seq_k ?_
          intro K3 hK3
          have j3 : ∀ (m : Mem) (A2 : Option Addr) (nn5 : Nat) (cp7 : Nat) (y36 : List Int) (a : Act) (w : World), St 101 m b0 [(3, (.v (.slice A2 nn5 cp7))), (22, (.v (.int .i64 y27))), (21, (.v (.int .i64 ((x1).length : Int)))), (20, (.sl ch_0_0 (x1).length ch_0_1 (RdS (Ty.prod Ty.bool (Ty.prod (Ty.slice (Ty.int .u8)) (Ty.int .i64))) ch_0_0 x1))), (0, (.sl ch_0_0 (x1).length ch_0_1 (RdS (Ty.prod Ty.bool (Ty.prod (Ty.slice (Ty.int .u8)) (Ty.int .i64))) ch_0_0 x1)))] [Res.row (Ty.int .i64) 3 A2 nn5 cp7 y36] a w → rlp_one.j3 y27 (rlp_one.l1 k x1 q1) y36 = some r → K3 a w := by
            intro m A2 nn5 cp7 y36 a w S h0
            delta rlp_one.j3 at h0
            refine hK3 a w ?_
            refine c_region' ?_
            refine s_bin S rfl rfl rfl rfl ?_; clear S a; intro a S
            refine s_move S rfl rfl ?_; clear S a; intro a S
            refine c_end' ?_
            refine x_thenN ?_
            exact ⟨_, A2, nn5, cp7, y36, (wr .i64 (y27 + 1)), (S.sub ⟨rfl, rfl, rfl, rfl, rfl, trivial⟩ (.cons .here .nil)), h0⟩
          refine wp_block ?_
          refine c_region ?_
          refine s_move S rfl rfl ?_; clear S a; intro a S
          obtain ⟨c3, h2⟩ := chk_of h1; clear h1
          refine s_iaddrS S rfl rfl rfl Tryd.underlying58 T55 c3.1 c3.2 rfl ?_; clear S a; intro p1 a S
          refine s_ldA S (fun (c : Unit × (Option Addr × Nat) × Unit) => [.one (.bool ((gt x1 y27).1)), .sl c.2.1.1 ((gt x1 y27).2.1).length c.2.1.2 (RdS (Ty.int .u8) c.2.1.1 ((gt x1 y27).2.1)), .one (.int .i64 ((gt x1 y27).2.2))]) rfl T55 (fun _ => rfl) rfl ?_; clear S a; intro ch1 a S
          refine s_alloc S Z55 rfl ⟨rfl, rfl, rfl, trivial⟩ rfl ?_; clear S a w; intro g1 a w S
          refine s_assign S rfl rfl ?_; clear S a; intro a S
          refine s_store S rfl rfl rfl (s' := [.one (.bool ((gt x1 y27).1)), .sl ch1.2.1.1 ((gt x1 y27).2.1).length ch1.2.1.2 (RdS (Ty.int .u8) ch1.2.1.1 ((gt x1 y27).2.1)), .one (.int .i64 ((gt x1 y27).2.2))]) .here T55 rfl rfl ?_; clear S w; intro w S
          refine c_end ?_
          refine wp_seq_k ?_
          intro K4 hK4
          have j4 : ∀ (m : Mem) (g11 : Nat) (nn8 : Nat) (y42 : List Int) (A3 : Option Addr) (cp11 : Nat) (a : Act) (w : World), St 101 m b0 [(4, (.v (.int .i64 y27))), (5, (.v (.pointer (some ⟨g11, 0, none⟩)))), (3, (.v (.slice A1 nn8 cp1))), (22, (.v (.int .i64 y27))), (21, (.v (.int .i64 ((x1).length : Int)))), (20, (.sl ch_0_0 (x1).length ch_0_1 (RdS (Ty.prod Ty.bool (Ty.prod (Ty.slice (Ty.int .u8)) (Ty.int .i64))) ch_0_0 x1))), (0, (.sl ch_0_0 (x1).length ch_0_1 (RdS (Ty.prod Ty.bool (Ty.prod (Ty.slice (Ty.int .u8)) (Ty.int .i64))) ch_0_0 x1)))] [Res.cells g11 55 [.one (.bool ((gt x1 y27).1)), .sl A3 ((gt x1 y27).2.1).length cp11 (RdS (Ty.int .u8) A3 ((gt x1 y27).2.1)), .one (.int .i64 ((gt x1 y27).2.2))], Res.row (Ty.int .i64) 3 A1 nn8 cp1 y42] a w → rlp_one.j4 x1 y27 (rlp_one.l1 k x1 q1) y42 = some r → K4 a w := by
            intro m g11 nn8 y42 A3 cp11 a w S h0
            delta rlp_one.j4 at h0
            refine hK4 a w ?_
            refine wp_seq ?_
            refine wp_seq_k ?_
            intro K5 hK5
            have j5 : ∀ (m : Mem) (y43 : Bool) (g12 : Nat) (a : Act) (w : World), St 101 m b0 [(77, (.v (.bool y43))), (4, (.v (.int .i64 y27))), (5, (.v (.pointer (some ⟨g12, 0, none⟩)))), (3, (.v (.slice A1 nn8 cp1))), (22, (.v (.int .i64 y27))), (21, (.v (.int .i64 ((x1).length : Int)))), (20, (.sl ch_0_0 (x1).length ch_0_1 (RdS (Ty.prod Ty.bool (Ty.prod (Ty.slice (Ty.int .u8)) (Ty.int .i64))) ch_0_0 x1))), (0, (.sl ch_0_0 (x1).length ch_0_1 (RdS (Ty.prod Ty.bool (Ty.prod (Ty.slice (Ty.int .u8)) (Ty.int .i64))) ch_0_0 x1)))] [Res.cells g12 55 [.one (.bool ((gt x1 y27).1)), .sl A3 ((gt x1 y27).2.1).length cp11 (RdS (Ty.int .u8) A3 ((gt x1 y27).2.1)), .one (.int .i64 ((gt x1 y27).2.2))], Res.row (Ty.int .i64) 3 A1 nn8 cp1 y42] a w → rlp_one.j5 x1 y27 (rlp_one.l1 k x1 q1) y42 y43 = some r → K5 a w := by
              intro m y43 g12 a w S h0
              delta rlp_one.j5 at h0
              refine hK5 a w ?_
              rcases ite_of h0 with ⟨c4, h1⟩ | ⟨c4, h1⟩ <;> clear h0
              · refine c_condT S rfl c4 ?_
                refine c_region ?_
                refine s_assign S rfl rfl ?_; clear S a; intro a S
                refine c_end ?_
                refine wp_ret ?_
                refine x_thenR ?_
                refine x_blockR ?_
                refine x_thenR ?_
                refine x_thenR ?_
                refine x_blockR ?_
                refine x_thenR ?_
                obtain rfl := Option.some.inj h1
                exact b_ret1 (d := (.v (.bool false))) S rfl rfl fun ok => S.retX (Hx := []) hb _ _ (() : Unit) .nil ok
              · refine c_condF S rfl c4 ?_
                refine wp_skip ?_
                refine x_thenN ?_
                refine c_region ?_
                refine s_move S rfl rfl ?_; clear S a; intro a S
                refine s_bin S rfl rfl rfl rfl ?_; clear S a; intro a S
                refine s_fieldAddr S rfl I55_2 T3 (by decide) rfl rfl ?_; clear S a; intro a S
                refine s_load1 S rfl .here T3 (v := (.int .i64 ((gt x1 y27).2.2))) rfl rfl ?_; clear S a; intro a S
                refine s_bin S rfl rfl rfl rfl ?_; clear S a; intro a S
                refine s_assign S rfl rfl ?_; clear S a; intro a S
                refine c_end ?_
                refine wp_seq ?_
                refine wp_seq_k ?_
                intro K6 hK6
                have j6 : ∀ (m : Mem) (y44 : Bool) (a : Act) (w : World), St 101 m b0 [(95, (.v (.bool y44))), (6, (.v (.int .i64 (wr .i64 ((wr .i64 (y27 + 1)) + ((gt x1 y27).2.2)))))), (3, (.v (.slice A1 nn8 cp1))), (22, (.v (.int .i64 y27))), (21, (.v (.int .i64 ((x1).length : Int)))), (20, (.sl ch_0_0 (x1).length ch_0_1 (RdS (Ty.prod Ty.bool (Ty.prod (Ty.slice (Ty.int .u8)) (Ty.int .i64))) ch_0_0 x1))), (0, (.sl ch_0_0 (x1).length ch_0_1 (RdS (Ty.prod Ty.bool (Ty.prod (Ty.slice (Ty.int .u8)) (Ty.int .i64))) ch_0_0 x1)))] [Res.row (Ty.int .i64) 3 A1 nn8 cp1 y42] a w → rlp_one.j6 x1 y27 (rlp_one.l1 k x1 q1) y42 y44 = some r → K6 a w := by
                  intro m y44 a w S h0
                  delta rlp_one.j6 at h0
                  refine hK6 a w ?_
                  rcases ite_of h0 with ⟨c5, h1⟩ | ⟨c5, h1⟩ <;> clear h0
                  · refine c_condT S rfl c5 ?_
                    refine c_region ?_
                    refine s_assign S rfl rfl ?_; clear S a; intro a S
                    refine c_end ?_
                    refine wp_ret ?_
                    refine x_thenR ?_
                    refine x_blockR ?_
                    refine x_thenR ?_
                    refine x_thenR ?_
                    refine x_blockR ?_
                    refine x_thenR ?_
                    obtain rfl := Option.some.inj h1
                    exact b_ret1 (d := (.v (.bool false))) S rfl rfl fun ok => S.retX (Hx := []) hb _ _ (() : Unit) .nil ok
                  · refine c_condF S rfl c5 ?_
                    refine wp_skip ?_
                    refine x_thenN ?_
                    refine c_region' ?_
                    refine s_move S rfl rfl ?_; clear S a; intro a S
                    refine s_move S rfl rfl ?_; clear S a; intro a S
                    refine s_bldSl S (ty' := (Ty.int .i64)) (ds := [(0, (.v (.int .i64 (wr .i64 ((wr .i64 (y27 + 1)) + ((gt x1 y27).2.2))))))]) (z := 0) (c0 := ()) (ys := [wr .i64 ((wr .i64 (y27 + 1)) + ((gt x1 y27).2.2))]) (cs := [()]) rfl Tryd.underlying75 J3 Z3 rfl ⟨rfl, trivial⟩ rfl rfl rfl rfl rfl rfl ?_; clear S a w; intro g14 a w S
                    obtain ⟨c6, h2⟩ := chk_of h1; clear h1
                    refine s_app S (k2 := 1) (ys := [wr .i64 ((wr .i64 (y27 + 1)) + ((gt x1 y27).2.2))]) rfl (fun _ _ => (.there .here)) rfl rfl (S.holds _ (Pull.mem .here).1).1 (Res.row.src (S.holds _ (Pull.mem .here).1)) Tryd.underlying75 J3 c6 rfl ?_; clear S a w; intro A4 cp12 a w S
                    refine s_assign S rfl rfl ?_; clear S a; intro a S
                    refine c_end' ?_
                    refine x_blockN ?_
                    refine x_thenN ?_
                    exact j3 _ A4 (nn8 + 1) cp12 (y42 ++ [wr .i64 ((wr .i64 (y27 + 1)) + ((gt x1 y27).2.2))]) a w (S.sub ⟨rfl, rfl, rfl, rfl, rfl, trivial⟩ (.cons (.there .here) .nil)) h2
                refine c_region' ?_
                refine s_move S rfl rfl ?_; clear S a; intro a S
                refine s_lenO S rfl (.there .here) Tryd.underlying75 rfl ?_; clear S a; intro a S
                refine s_bin S rfl rfl rfl rfl ?_; clear S a; intro a S
                refine s_move S rfl rfl ?_; clear S a; intro a S
                rcases ite_of h1 with ⟨c7, h2⟩ | ⟨c7, h2⟩ <;> clear h1
                · refine s_gT S (b := (decide (0 < ((y42).length : Int)))) rfl rfl c7 ?_
                  refine s_move S rfl rfl ?_; clear S a; intro a S
                  refine s_gT S (b := (decide (0 < ((y42).length : Int)))) rfl rfl c7 ?_
                  refine s_move S rfl rfl ?_; clear S a; intro a S
                  refine s_gT S (b := (decide (0 < ((y42).length : Int)))) rfl rfl c7 ?_
                  refine s_move S rfl rfl ?_; clear S a; intro a S
                  refine s_gT S (b := (decide (0 < ((y42).length : Int)))) rfl rfl c7 ?_
                  refine s_lenO S rfl (.there .here) Tryd.underlying75 rfl ?_; clear S a; intro a S
                  refine s_gT S (b := (decide (0 < ((y42).length : Int)))) rfl rfl c7 ?_
                  refine s_bin S rfl rfl rfl rfl ?_; clear S a; intro a S
                  refine s_gT S (b := (decide (0 < ((y42).length : Int)))) rfl rfl c7 ?_
                  obtain ⟨c8, h3⟩ := chk_of h2; clear h2
                  refine s_iaddrO S (ty' := (Ty.int .i64)) rfl (.there .here) rfl Tryd.underlying75 T3 c8.1 c8.2 rfl ?_; clear S a; intro g15 a hA1 S
                  refine s_gT S (b := (decide (0 < ((y42).length : Int)))) rfl rfl c7 ?_
                  refine s_ldR1 S (ty' := (Ty.int .i64)) (i := (wr .i64 (((y42).length : Int) - 1))) (off := 0) (v := (.int .i64 (rd y42 (wr .i64 (((y42).length : Int) - 1))))) rfl hA1 (.there .here) T3 c8.1 c8.2 rfl (fun _ => rfl) rfl ?_; clear S a; intro a S
                  refine s_gT S (b := (decide (0 < ((y42).length : Int)))) rfl rfl c7 ?_
                  refine s_bin S rfl rfl rfl rfl ?_; clear S a; intro a S
                  refine s_pick S (b := true) (hc_of rfl c7) rfl rfl ?_; clear S a; intro a S
                  refine c_end' ?_
                  refine x_thenN ?_
                  exact j6 _ (decide ((rd y42 (wr .i64 (((y42).length : Int) - 1))) < (wr .i64 ((wr .i64 (y27 + 1)) + ((gt x1 y27).2.2))))) a w (S.sub ⟨rfl, rfl, rfl, rfl, rfl, rfl, rfl, trivial⟩ (.cons (.there .here) .nil)) h3
                · refine s_gF S (b := (decide (0 < ((y42).length : Int)))) rfl rfl c7 rfl ?_; clear S a; intro a S
                  refine s_gF S (b := (decide (0 < ((y42).length : Int)))) rfl rfl c7 rfl ?_; clear S a; intro a S
                  refine s_gF S (b := (decide (0 < ((y42).length : Int)))) rfl rfl c7 rfl ?_; clear S a; intro a S
                  refine s_gF S (b := (decide (0 < ((y42).length : Int)))) rfl rfl c7 rfl ?_; clear S a; intro a S
                  refine s_gF S (b := (decide (0 < ((y42).length : Int)))) rfl rfl c7 rfl ?_; clear S a; intro a S
                  refine s_gF S (b := (decide (0 < ((y42).length : Int)))) rfl rfl c7 rfl ?_; clear S a; intro a S
                  refine s_gF S (b := (decide (0 < ((y42).length : Int)))) rfl rfl c7 rfl ?_; clear S a; intro a S
                  refine s_gF S (b := (decide (0 < ((y42).length : Int)))) rfl rfl c7 rfl ?_; clear S a; intro a S
                  refine s_pick S (b := false) (hc_of rfl c7) rfl rfl ?_; clear S a; intro a S
                  refine c_end' ?_
                  refine x_thenN ?_
                  exact j6 _ false a w (S.sub ⟨rfl, rfl, rfl, rfl, rfl, rfl, rfl, trivial⟩ (.cons (.there .here) .nil)) h2
            refine c_region' ?_
            refine s_fieldAddr S rfl I55_0 T4 (by decide) rfl rfl ?_; clear S a; intro a S
            refine s_load1 S rfl .here T4 (v := (.bool ((gt x1 y27).1))) rfl rfl ?_; clear S a; intro a S
            refine s_not S rfl rfl ?_; clear S a; intro a S
            refine s_move S rfl rfl ?_; clear S a; intro a S
            rcases ite_of h0 with ⟨c9, h1⟩ | ⟨c9, h1⟩ <;> clear h0
            · refine s_gT S (b := (!((gt x1 y27).1))) rfl rfl c9 ?_
              refine s_fieldAddr S rfl I55_2 T3 (by decide) rfl rfl ?_; clear S a; intro a S
              refine s_gT S (b := (!((gt x1 y27).1))) rfl rfl c9 ?_
              refine s_load1 S rfl .here T3 (v := (.int .i64 ((gt x1 y27).2.2))) rfl rfl ?_; clear S a; intro a S
              refine s_gT S (b := (!((gt x1 y27).1))) rfl rfl c9 ?_
              refine s_bin S rfl rfl rfl rfl ?_; clear S a; intro a S
              refine s_pick S (b := true) (hc_of rfl c9) rfl rfl ?_; clear S a; intro a S
              refine s_move S rfl rfl ?_; clear S a; intro a S
              rcases ite_of h1 with ⟨c10, h2⟩ | ⟨c10, h2⟩ <;> clear h1
              · refine s_gF S (b := (((gt x1 y27).2.2) != 0)) rfl rfl c10 rfl ?_; clear S a; intro a S
                refine s_gF S (b := (((gt x1 y27).2.2) != 0)) rfl rfl c10 rfl ?_; clear S a; intro a S
                refine s_gF S (b := (((gt x1 y27).2.2) != 0)) rfl rfl c10 rfl ?_; clear S a; intro a S
                refine s_gU S rfl rfl rfl ?_; clear S a; intro a S
                refine s_gU S rfl rfl rfl ?_; clear S a; intro a S
                refine s_gU S rfl rfl rfl ?_; clear S a; intro a S
                refine s_gU S rfl rfl rfl ?_; clear S a; intro a S
                refine s_gF S (b := (((gt x1 y27).2.2) != 0)) rfl rfl c10 rfl ?_; clear S a; intro a S
                refine s_pick S (b := true) (hc_of rfl c10) rfl rfl ?_; clear S a; intro a S
                refine s_move S rfl rfl ?_; clear S a; intro a S
                refine s_gF S (b := true) rfl rfl rfl rfl ?_; clear S a; intro a S
                refine s_gF S (b := true) rfl rfl rfl rfl ?_; clear S a; intro a S
                refine s_gF S (b := true) rfl rfl rfl rfl ?_; clear S a; intro a S
                refine s_pick S (b := true) (hc_of rfl rfl) rfl rfl ?_; clear S a; intro a S
                refine s_move S rfl rfl ?_; clear S a; intro a S
                refine s_gF S (b := true) rfl rfl rfl rfl ?_; clear S a; intro a S
                refine s_gF S (b := true) rfl rfl rfl rfl ?_; clear S a; intro a S
                refine s_gF S (b := true) rfl rfl rfl rfl ?_; clear S a; intro a S
                refine s_gF S (b := true) rfl rfl rfl rfl ?_; clear S a; intro a S
                refine s_gF S (b := true) rfl rfl rfl rfl ?_; clear S a; intro a S
                refine s_gF S (b := true) rfl rfl rfl rfl ?_; clear S a; intro a S
                refine s_gF S (b := true) rfl rfl rfl rfl ?_; clear S a; intro a S
                refine s_gF S (b := true) rfl rfl rfl rfl ?_; clear S a; intro a S
                refine s_pick S (b := true) (hc_of rfl rfl) rfl rfl ?_; clear S a; intro a S
                refine c_end' ?_
                refine x_thenN ?_
                exact j5 _ true g11 a w (S.sub ⟨rfl, rfl, rfl, rfl, rfl, rfl, rfl, rfl, trivial⟩ (.cons .here (.cons .here .nil))) h2
              · refine s_gT S (b := (((gt x1 y27).2.2) != 0)) rfl rfl c10 ?_
                refine s_fieldAddr S rfl I55_0 T4 (by decide) rfl rfl ?_; clear S a; intro a S
                refine s_gT S (b := (((gt x1 y27).2.2) != 0)) rfl rfl c10 ?_
                refine s_load1 S rfl .here T4 (v := (.bool ((gt x1 y27).1))) rfl rfl ?_; clear S a; intro a S
                refine s_gT S (b := (((gt x1 y27).2.2) != 0)) rfl rfl c10 ?_
                refine s_move S rfl rfl ?_; clear S a; intro a S
                rcases ite_of h2 with ⟨c11, h3⟩ | ⟨c11, h3⟩ <;> clear h2
                · refine s_gT S (b := ((gt x1 y27).1)) rfl rfl c11 ?_
                  refine s_fieldAddr S rfl I55_1 T27 (by decide) rfl rfl ?_; clear S a; intro a S
                  refine s_gT S (b := ((gt x1 y27).1)) rfl rfl c11 ?_
                  refine s_loadSl S rfl .here T27 (A := A3) (len := ((gt x1 y27).2.1).length) (cap := cp11) rfl rfl ?_; clear S a; intro a S
                  refine s_gT S (b := ((gt x1 y27).1)) rfl rfl c11 ?_
                  refine s_lenS S rfl Tryd.underlying27 rfl ?_; clear S a; intro a S
                  refine s_gT S (b := ((gt x1 y27).1)) rfl rfl c11 ?_
                  refine s_bin S rfl rfl rfl rfl ?_; clear S a; intro a S
                  refine s_gT S (b := (((gt x1 y27).2.2) != 0)) rfl rfl c10 ?_
                  refine s_pick S (b := true) (hc_of rfl c11) rfl rfl ?_; clear S a; intro a S
                  refine s_pick S (b := false) (hc_of rfl c10) rfl rfl ?_; clear S a; intro a S
                  refine s_move S rfl rfl ?_; clear S a; intro a S
                  rcases ite_of h3 with ⟨c12, h4⟩ | ⟨c12, h4⟩ <;> clear h3
                  · refine s_gF S (b := (decide (0 < (((gt x1 y27).2.1).length : Int)))) rfl rfl c12 rfl ?_; clear S a; intro a S
                    refine s_gF S (b := (decide (0 < (((gt x1 y27).2.1).length : Int)))) rfl rfl c12 rfl ?_; clear S a; intro a S
                    refine s_gF S (b := (decide (0 < (((gt x1 y27).2.1).length : Int)))) rfl rfl c12 rfl ?_; clear S a; intro a S
                    refine s_pick S (b := true) (hc_of rfl c12) rfl rfl ?_; clear S a; intro a S
                    refine s_move S rfl rfl ?_; clear S a; intro a S
                    refine s_gF S (b := true) rfl rfl rfl rfl ?_; clear S a; intro a S
                    refine s_gF S (b := true) rfl rfl rfl rfl ?_; clear S a; intro a S
                    refine s_gF S (b := true) rfl rfl rfl rfl ?_; clear S a; intro a S
                    refine s_gF S (b := true) rfl rfl rfl rfl ?_; clear S a; intro a S
                    refine s_gF S (b := true) rfl rfl rfl rfl ?_; clear S a; intro a S
                    refine s_gF S (b := true) rfl rfl rfl rfl ?_; clear S a; intro a S
                    refine s_gF S (b := true) rfl rfl rfl rfl ?_; clear S a; intro a S
                    refine s_gF S (b := true) rfl rfl rfl rfl ?_; clear S a; intro a S
                    refine s_pick S (b := true) (hc_of rfl rfl) rfl rfl ?_; clear S a; intro a S
                    refine c_end' ?_
                    refine x_thenN ?_
                    exact j5 _ true g11 a w (S.sub ⟨rfl, rfl, rfl, rfl, rfl, rfl, rfl, rfl, trivial⟩ (.cons .here (.cons .here .nil))) h4
                  · refine s_gT S (b := (decide (0 < (((gt x1 y27).2.1).length : Int)))) rfl rfl c12 ?_
                    refine s_fieldAddr S rfl I55_2 T3 (by decide) rfl rfl ?_; clear S a; intro a S
                    refine s_gT S (b := (decide (0 < (((gt x1 y27).2.1).length : Int)))) rfl rfl c12 ?_
                    refine s_load1 S rfl .here T3 (v := (.int .i64 ((gt x1 y27).2.2))) rfl rfl ?_; clear S a; intro a S
                    refine s_gT S (b := (decide (0 < (((gt x1 y27).2.1).length : Int)))) rfl rfl c12 ?_
                    refine s_bin S rfl rfl rfl rfl ?_; clear S a; intro a S
                    refine s_pick S (b := false) (hc_of rfl c12) rfl rfl ?_; clear S a; intro a S
                    refine s_move S rfl rfl ?_; clear S a; intro a S
                    rcases ite_of h4 with ⟨c13, h5⟩ | ⟨c13, h5⟩ <;> clear h4
                    · refine s_gF S (b := (decide (((gt x1 y27).2.2) < 0))) rfl rfl c13 rfl ?_; clear S a; intro a S
                      refine s_gF S (b := (decide (((gt x1 y27).2.2) < 0))) rfl rfl c13 rfl ?_; clear S a; intro a S
                      refine s_gF S (b := (decide (((gt x1 y27).2.2) < 0))) rfl rfl c13 rfl ?_; clear S a; intro a S
                      refine s_gF S (b := (decide (((gt x1 y27).2.2) < 0))) rfl rfl c13 rfl ?_; clear S a; intro a S
                      refine s_gF S (b := (decide (((gt x1 y27).2.2) < 0))) rfl rfl c13 rfl ?_; clear S a; intro a S
                      refine s_gF S (b := (decide (((gt x1 y27).2.2) < 0))) rfl rfl c13 rfl ?_; clear S a; intro a S
                      refine s_gF S (b := (decide (((gt x1 y27).2.2) < 0))) rfl rfl c13 rfl ?_; clear S a; intro a S
                      refine s_gF S (b := (decide (((gt x1 y27).2.2) < 0))) rfl rfl c13 rfl ?_; clear S a; intro a S
                      refine s_pick S (b := true) (hc_of rfl c13) rfl rfl ?_; clear S a; intro a S
                      refine c_end' ?_
                      refine x_thenN ?_
                      exact j5 _ true g11 a w (S.sub ⟨rfl, rfl, rfl, rfl, rfl, rfl, rfl, rfl, trivial⟩ (.cons .here (.cons .here .nil))) h5
                    · refine s_gT S (b := (decide (((gt x1 y27).2.2) < 0))) rfl rfl c13 ?_
                      refine s_fieldAddr S rfl I55_2 T3 (by decide) rfl rfl ?_; clear S a; intro a S
                      refine s_gT S (b := (decide (((gt x1 y27).2.2) < 0))) rfl rfl c13 ?_
                      refine s_load1 S rfl .here T3 (v := (.int .i64 ((gt x1 y27).2.2))) rfl rfl ?_; clear S a; intro a S
                      refine s_gT S (b := (decide (((gt x1 y27).2.2) < 0))) rfl rfl c13 ?_
                      refine s_move S rfl rfl ?_; clear S a; intro a S
                      refine s_gT S (b := (decide (((gt x1 y27).2.2) < 0))) rfl rfl c13 ?_
                      refine s_lenS S rfl Tryd.underlying58 rfl ?_; clear S a; intro a S
                      refine s_gT S (b := (decide (((gt x1 y27).2.2) < 0))) rfl rfl c13 ?_
                      refine s_bin S rfl rfl rfl rfl ?_; clear S a; intro a S
                      refine s_gT S (b := (decide (((gt x1 y27).2.2) < 0))) rfl rfl c13 ?_
                      refine s_move S rfl rfl ?_; clear S a; intro a S
                      refine s_gT S (b := (decide (((gt x1 y27).2.2) < 0))) rfl rfl c13 ?_
                      refine s_bin S rfl rfl rfl rfl ?_; clear S a; intro a S
                      refine s_gT S (b := (decide (((gt x1 y27).2.2) < 0))) rfl rfl c13 ?_
                      refine s_bin S rfl rfl rfl rfl ?_; clear S a; intro a S
                      refine s_pick S (b := false) (hc_of rfl c13) rfl rfl ?_; clear S a; intro a S
                      refine c_end' ?_
                      refine x_thenN ?_
                      exact j5 _ (decide ((wr .i64 ((wr .i64 (((x1).length : Int) - 1)) - y27)) < ((gt x1 y27).2.2))) g11 a w (S.sub ⟨rfl, rfl, rfl, rfl, rfl, rfl, rfl, rfl, trivial⟩ (.cons .here (.cons .here .nil))) h5
                · refine s_gF S (b := ((gt x1 y27).1)) rfl rfl c11 rfl ?_; clear S a; intro a S
                  refine s_gF S (b := ((gt x1 y27).1)) rfl rfl c11 rfl ?_; clear S a; intro a S
                  refine s_gF S (b := ((gt x1 y27).1)) rfl rfl c11 rfl ?_; clear S a; intro a S
                  refine s_gF S (b := ((gt x1 y27).1)) rfl rfl c11 rfl ?_; clear S a; intro a S
                  refine s_gT S (b := (((gt x1 y27).2.2) != 0)) rfl rfl c10 ?_
                  refine s_pick S (b := false) (hc_of rfl c11) rfl rfl ?_; clear S a; intro a S
                  refine s_pick S (b := false) (hc_of rfl c10) rfl rfl ?_; clear S a; intro a S
                  refine s_move S rfl rfl ?_; clear S a; intro a S
                  refine s_gT S (b := false) rfl rfl rfl ?_
                  refine s_fieldAddr S rfl I55_2 T3 (by decide) rfl rfl ?_; clear S a; intro a S
                  refine s_gT S (b := false) rfl rfl rfl ?_
                  refine s_load1 S rfl .here T3 (v := (.int .i64 ((gt x1 y27).2.2))) rfl rfl ?_; clear S a; intro a S
                  refine s_gT S (b := false) rfl rfl rfl ?_
                  refine s_bin S rfl rfl rfl rfl ?_; clear S a; intro a S
                  refine s_pick S (b := false) (hc_of rfl rfl) rfl rfl ?_; clear S a; intro a S
                  refine s_move S rfl rfl ?_; clear S a; intro a S
                  rcases ite_of h3 with ⟨c14, h4⟩ | ⟨c14, h4⟩ <;> clear h3
                  · refine s_gF S (b := (decide (((gt x1 y27).2.2) < 0))) rfl rfl c14 rfl ?_; clear S a; intro a S
                    refine s_gF S (b := (decide (((gt x1 y27).2.2) < 0))) rfl rfl c14 rfl ?_; clear S a; intro a S
                    refine s_gF S (b := (decide (((gt x1 y27).2.2) < 0))) rfl rfl c14 rfl ?_; clear S a; intro a S
                    refine s_gF S (b := (decide (((gt x1 y27).2.2) < 0))) rfl rfl c14 rfl ?_; clear S a; intro a S
                    refine s_gF S (b := (decide (((gt x1 y27).2.2) < 0))) rfl rfl c14 rfl ?_; clear S a; intro a S
                    refine s_gF S (b := (decide (((gt x1 y27).2.2) < 0))) rfl rfl c14 rfl ?_; clear S a; intro a S
                    refine s_gF S (b := (decide (((gt x1 y27).2.2) < 0))) rfl rfl c14 rfl ?_; clear S a; intro a S
                    refine s_gF S (b := (decide (((gt x1 y27).2.2) < 0))) rfl rfl c14 rfl ?_; clear S a; intro a S
                    refine s_pick S (b := true) (hc_of rfl c14) rfl rfl ?_; clear S a; intro a S
                    refine c_end' ?_
                    refine x_thenN ?_
                    exact j5 _ true g11 a w (S.sub ⟨rfl, rfl, rfl, rfl, rfl, rfl, rfl, rfl, trivial⟩ (.cons .here (.cons .here .nil))) h4
                  · refine s_gT S (b := (decide (((gt x1 y27).2.2) < 0))) rfl rfl c14 ?_
                    refine s_fieldAddr S rfl I55_2 T3 (by decide) rfl rfl ?_; clear S a; intro a S
                    refine s_gT S (b := (decide (((gt x1 y27).2.2) < 0))) rfl rfl c14 ?_
                    refine s_load1 S rfl .here T3 (v := (.int .i64 ((gt x1 y27).2.2))) rfl rfl ?_; clear S a; intro a S
                    refine s_gT S (b := (decide (((gt x1 y27).2.2) < 0))) rfl rfl c14 ?_
                    refine s_move S rfl rfl ?_; clear S a; intro a S
                    refine s_gT S (b := (decide (((gt x1 y27).2.2) < 0))) rfl rfl c14 ?_
                    refine s_lenS S rfl Tryd.underlying58 rfl ?_; clear S a; intro a S
                    refine s_gT S (b := (decide (((gt x1 y27).2.2) < 0))) rfl rfl c14 ?_
                    refine s_bin S rfl rfl rfl rfl ?_; clear S a; intro a S
                    refine s_gT S (b := (decide (((gt x1 y27).2.2) < 0))) rfl rfl c14 ?_
                    refine s_move S rfl rfl ?_; clear S a; intro a S
                    refine s_gT S (b := (decide (((gt x1 y27).2.2) < 0))) rfl rfl c14 ?_
                    refine s_bin S rfl rfl rfl rfl ?_; clear S a; intro a S
                    refine s_gT S (b := (decide (((gt x1 y27).2.2) < 0))) rfl rfl c14 ?_
                    refine s_bin S rfl rfl rfl rfl ?_; clear S a; intro a S
                    refine s_pick S (b := false) (hc_of rfl c14) rfl rfl ?_; clear S a; intro a S
                    refine c_end' ?_
                    refine x_thenN ?_
                    exact j5 _ (decide ((wr .i64 ((wr .i64 (((x1).length : Int) - 1)) - y27)) < ((gt x1 y27).2.2))) g11 a w (S.sub ⟨rfl, rfl, rfl, rfl, rfl, rfl, rfl, rfl, trivial⟩ (.cons .here (.cons .here .nil))) h4
            · refine s_gF S (b := (!((gt x1 y27).1))) rfl rfl c9 rfl ?_; clear S a; intro a S
              refine s_gF S (b := (!((gt x1 y27).1))) rfl rfl c9 rfl ?_; clear S a; intro a S
              refine s_gF S (b := (!((gt x1 y27).1))) rfl rfl c9 rfl ?_; clear S a; intro a S
              refine s_pick S (b := false) (hc_of rfl c9) rfl rfl ?_; clear S a; intro a S
              refine s_move S rfl rfl ?_; clear S a; intro a S
              refine s_gT S (b := false) rfl rfl rfl ?_
              refine s_fieldAddr S rfl I55_0 T4 (by decide) rfl rfl ?_; clear S a; intro a S
              refine s_gT S (b := false) rfl rfl rfl ?_
              refine s_load1 S rfl .here T4 (v := (.bool ((gt x1 y27).1))) rfl rfl ?_; clear S a; intro a S
              refine s_gT S (b := false) rfl rfl rfl ?_
              refine s_move S rfl rfl ?_; clear S a; intro a S
              rcases ite_of h1 with ⟨c15, h2⟩ | ⟨c15, h2⟩ <;> clear h1
              · refine s_gT S (b := ((gt x1 y27).1)) rfl rfl c15 ?_
                refine s_fieldAddr S rfl I55_1 T27 (by decide) rfl rfl ?_; clear S a; intro a S
                refine s_gT S (b := ((gt x1 y27).1)) rfl rfl c15 ?_
                refine s_loadSl S rfl .here T27 (A := A3) (len := ((gt x1 y27).2.1).length) (cap := cp11) rfl rfl ?_; clear S a; intro a S
                refine s_gT S (b := ((gt x1 y27).1)) rfl rfl c15 ?_
                refine s_lenS S rfl Tryd.underlying27 rfl ?_; clear S a; intro a S
                refine s_gT S (b := ((gt x1 y27).1)) rfl rfl c15 ?_
                refine s_bin S rfl rfl rfl rfl ?_; clear S a; intro a S
                refine s_gT S (b := false) rfl rfl rfl ?_
                refine s_pick S (b := true) (hc_of rfl c15) rfl rfl ?_; clear S a; intro a S
                refine s_pick S (b := false) (hc_of rfl rfl) rfl rfl ?_; clear S a; intro a S
                refine s_move S rfl rfl ?_; clear S a; intro a S
                rcases ite_of h2 with ⟨c16, h3⟩ | ⟨c16, h3⟩ <;> clear h2
                · refine s_gF S (b := (decide (0 < (((gt x1 y27).2.1).length : Int)))) rfl rfl c16 rfl ?_; clear S a; intro a S
                  refine s_gF S (b := (decide (0 < (((gt x1 y27).2.1).length : Int)))) rfl rfl c16 rfl ?_; clear S a; intro a S
                  refine s_gF S (b := (decide (0 < (((gt x1 y27).2.1).length : Int)))) rfl rfl c16 rfl ?_; clear S a; intro a S
                  refine s_pick S (b := true) (hc_of rfl c16) rfl rfl ?_; clear S a; intro a S
                  refine s_move S rfl rfl ?_; clear S a; intro a S
                  refine s_gF S (b := true) rfl rfl rfl rfl ?_; clear S a; intro a S
                  refine s_gF S (b := true) rfl rfl rfl rfl ?_; clear S a; intro a S
                  refine s_gF S (b := true) rfl rfl rfl rfl ?_; clear S a; intro a S
                  refine s_gF S (b := true) rfl rfl rfl rfl ?_; clear S a; intro a S
                  refine s_gF S (b := true) rfl rfl rfl rfl ?_; clear S a; intro a S
                  refine s_gF S (b := true) rfl rfl rfl rfl ?_; clear S a; intro a S
                  refine s_gF S (b := true) rfl rfl rfl rfl ?_; clear S a; intro a S
                  refine s_gF S (b := true) rfl rfl rfl rfl ?_; clear S a; intro a S
                  refine s_pick S (b := true) (hc_of rfl rfl) rfl rfl ?_; clear S a; intro a S
                  refine c_end' ?_
                  refine x_thenN ?_
                  exact j5 _ true g11 a w (S.sub ⟨rfl, rfl, rfl, rfl, rfl, rfl, rfl, rfl, trivial⟩ (.cons .here (.cons .here .nil))) h3
                · refine s_gT S (b := (decide (0 < (((gt x1 y27).2.1).length : Int)))) rfl rfl c16 ?_
                  refine s_fieldAddr S rfl I55_2 T3 (by decide) rfl rfl ?_; clear S a; intro a S
                  refine s_gT S (b := (decide (0 < (((gt x1 y27).2.1).length : Int)))) rfl rfl c16 ?_
                  refine s_load1 S rfl .here T3 (v := (.int .i64 ((gt x1 y27).2.2))) rfl rfl ?_; clear S a; intro a S
                  refine s_gT S (b := (decide (0 < (((gt x1 y27).2.1).length : Int)))) rfl rfl c16 ?_
                  refine s_bin S rfl rfl rfl rfl ?_; clear S a; intro a S
                  refine s_pick S (b := false) (hc_of rfl c16) rfl rfl ?_; clear S a; intro a S
                  refine s_move S rfl rfl ?_; clear S a; intro a S
                  rcases ite_of h3 with ⟨c17, h4⟩ | ⟨c17, h4⟩ <;> clear h3
                  · refine s_gF S (b := (decide (((gt x1 y27).2.2) < 0))) rfl rfl c17 rfl ?_; clear S a; intro a S
                    refine s_gF S (b := (decide (((gt x1 y27).2.2) < 0))) rfl rfl c17 rfl ?_; clear S a; intro a S
                    refine s_gF S (b := (decide (((gt x1 y27).2.2) < 0))) rfl rfl c17 rfl ?_; clear S a; intro a S
                    refine s_gF S (b := (decide (((gt x1 y27).2.2) < 0))) rfl rfl c17 rfl ?_; clear S a; intro a S
                    refine s_gF S (b := (decide (((gt x1 y27).2.2) < 0))) rfl rfl c17 rfl ?_; clear S a; intro a S
                    refine s_gF S (b := (decide (((gt x1 y27).2.2) < 0))) rfl rfl c17 rfl ?_; clear S a; intro a S
                    refine s_gF S (b := (decide (((gt x1 y27).2.2) < 0))) rfl rfl c17 rfl ?_; clear S a; intro a S
                    refine s_gF S (b := (decide (((gt x1 y27).2.2) < 0))) rfl rfl c17 rfl ?_; clear S a; intro a S
                    refine s_pick S (b := true) (hc_of rfl c17) rfl rfl ?_; clear S a; intro a S
                    refine c_end' ?_
                    refine x_thenN ?_
                    exact j5 _ true g11 a w (S.sub ⟨rfl, rfl, rfl, rfl, rfl, rfl, rfl, rfl, trivial⟩ (.cons .here (.cons .here .nil))) h4
                  · refine s_gT S (b := (decide (((gt x1 y27).2.2) < 0))) rfl rfl c17 ?_
                    refine s_fieldAddr S rfl I55_2 T3 (by decide) rfl rfl ?_; clear S a; intro a S
                    refine s_gT S (b := (decide (((gt x1 y27).2.2) < 0))) rfl rfl c17 ?_
                    refine s_load1 S rfl .here T3 (v := (.int .i64 ((gt x1 y27).2.2))) rfl rfl ?_; clear S a; intro a S
                    refine s_gT S (b := (decide (((gt x1 y27).2.2) < 0))) rfl rfl c17 ?_
                    refine s_move S rfl rfl ?_; clear S a; intro a S
                    refine s_gT S (b := (decide (((gt x1 y27).2.2) < 0))) rfl rfl c17 ?_
                    refine s_lenS S rfl Tryd.underlying58 rfl ?_; clear S a; intro a S
                    refine s_gT S (b := (decide (((gt x1 y27).2.2) < 0))) rfl rfl c17 ?_
                    refine s_bin S rfl rfl rfl rfl ?_; clear S a; intro a S
                    refine s_gT S (b := (decide (((gt x1 y27).2.2) < 0))) rfl rfl c17 ?_
                    refine s_move S rfl rfl ?_; clear S a; intro a S
                    refine s_gT S (b := (decide (((gt x1 y27).2.2) < 0))) rfl rfl c17 ?_
                    refine s_bin S rfl rfl rfl rfl ?_; clear S a; intro a S
                    refine s_gT S (b := (decide (((gt x1 y27).2.2) < 0))) rfl rfl c17 ?_
                    refine s_bin S rfl rfl rfl rfl ?_; clear S a; intro a S
                    refine s_pick S (b := false) (hc_of rfl c17) rfl rfl ?_; clear S a; intro a S
                    refine c_end' ?_
                    refine x_thenN ?_
                    exact j5 _ (decide ((wr .i64 ((wr .i64 (((x1).length : Int) - 1)) - y27)) < ((gt x1 y27).2.2))) g11 a w (S.sub ⟨rfl, rfl, rfl, rfl, rfl, rfl, rfl, rfl, trivial⟩ (.cons .here (.cons .here .nil))) h4
              · refine s_gF S (b := ((gt x1 y27).1)) rfl rfl c15 rfl ?_; clear S a; intro a S
                refine s_gF S (b := ((gt x1 y27).1)) rfl rfl c15 rfl ?_; clear S a; intro a S
                refine s_gF S (b := ((gt x1 y27).1)) rfl rfl c15 rfl ?_; clear S a; intro a S
                refine s_gF S (b := ((gt x1 y27).1)) rfl rfl c15 rfl ?_; clear S a; intro a S
                refine s_gT S (b := false) rfl rfl rfl ?_
                refine s_pick S (b := false) (hc_of rfl c15) rfl rfl ?_; clear S a; intro a S
                refine s_pick S (b := false) (hc_of rfl rfl) rfl rfl ?_; clear S a; intro a S
                refine s_move S rfl rfl ?_; clear S a; intro a S
                refine s_gT S (b := false) rfl rfl rfl ?_
                refine s_fieldAddr S rfl I55_2 T3 (by decide) rfl rfl ?_; clear S a; intro a S
                refine s_gT S (b := false) rfl rfl rfl ?_
                refine s_load1 S rfl .here T3 (v := (.int .i64 ((gt x1 y27).2.2))) rfl rfl ?_; clear S a; intro a S
                refine s_gT S (b := false) rfl rfl rfl ?_
                refine s_bin S rfl rfl rfl rfl ?_; clear S a; intro a S
                refine s_pick S (b := false) (hc_of rfl rfl) rfl rfl ?_; clear S a; intro a S
                refine s_move S rfl rfl ?_; clear S a; intro a S
                rcases ite_of h2 with ⟨c18, h3⟩ | ⟨c18, h3⟩ <;> clear h2
                · refine s_gF S (b := (decide (((gt x1 y27).2.2) < 0))) rfl rfl c18 rfl ?_; clear S a; intro a S
                  refine s_gF S (b := (decide (((gt x1 y27).2.2) < 0))) rfl rfl c18 rfl ?_; clear S a; intro a S
                  refine s_gF S (b := (decide (((gt x1 y27).2.2) < 0))) rfl rfl c18 rfl ?_; clear S a; intro a S
                  refine s_gF S (b := (decide (((gt x1 y27).2.2) < 0))) rfl rfl c18 rfl ?_; clear S a; intro a S
                  refine s_gF S (b := (decide (((gt x1 y27).2.2) < 0))) rfl rfl c18 rfl ?_; clear S a; intro a S
                  refine s_gF S (b := (decide (((gt x1 y27).2.2) < 0))) rfl rfl c18 rfl ?_; clear S a; intro a S
                  refine s_gF S (b := (decide (((gt x1 y27).2.2) < 0))) rfl rfl c18 rfl ?_; clear S a; intro a S
                  refine s_gF S (b := (decide (((gt x1 y27).2.2) < 0))) rfl rfl c18 rfl ?_; clear S a; intro a S
                  refine s_pick S (b := true) (hc_of rfl c18) rfl rfl ?_; clear S a; intro a S
                  refine c_end' ?_
                  refine x_thenN ?_
                  exact j5 _ true g11 a w (S.sub ⟨rfl, rfl, rfl, rfl, rfl, rfl, rfl, rfl, trivial⟩ (.cons .here (.cons .here .nil))) h3
                · refine s_gT S (b := (decide (((gt x1 y27).2.2) < 0))) rfl rfl c18 ?_
                  refine s_fieldAddr S rfl I55_2 T3 (by decide) rfl rfl ?_; clear S a; intro a S
                  refine s_gT S (b := (decide (((gt x1 y27).2.2) < 0))) rfl rfl c18 ?_
                  refine s_load1 S rfl .here T3 (v := (.int .i64 ((gt x1 y27).2.2))) rfl rfl ?_; clear S a; intro a S
                  refine s_gT S (b := (decide (((gt x1 y27).2.2) < 0))) rfl rfl c18 ?_
                  refine s_move S rfl rfl ?_; clear S a; intro a S
                  refine s_gT S (b := (decide (((gt x1 y27).2.2) < 0))) rfl rfl c18 ?_
                  refine s_lenS S rfl Tryd.underlying58 rfl ?_; clear S a; intro a S
                  refine s_gT S (b := (decide (((gt x1 y27).2.2) < 0))) rfl rfl c18 ?_
                  refine s_bin S rfl rfl rfl rfl ?_; clear S a; intro a S
                  refine s_gT S (b := (decide (((gt x1 y27).2.2) < 0))) rfl rfl c18 ?_
                  refine s_move S rfl rfl ?_; clear S a; intro a S
                  refine s_gT S (b := (decide (((gt x1 y27).2.2) < 0))) rfl rfl c18 ?_
                  refine s_bin S rfl rfl rfl rfl ?_; clear S a; intro a S
                  refine s_gT S (b := (decide (((gt x1 y27).2.2) < 0))) rfl rfl c18 ?_
                  refine s_bin S rfl rfl rfl rfl ?_; clear S a; intro a S
                  refine s_pick S (b := false) (hc_of rfl c18) rfl rfl ?_; clear S a; intro a S
                  refine c_end' ?_
                  refine x_thenN ?_
                  exact j5 _ (decide ((wr .i64 ((wr .i64 (((x1).length : Int) - 1)) - y27)) < ((gt x1 y27).2.2))) g11 a w (S.sub ⟨rfl, rfl, rfl, rfl, rfl, rfl, rfl, rfl, trivial⟩ (.cons .here (.cons .here .nil))) h3
          refine wp_block ?_
          refine c_loop (fun q2 a w => ∃ (m : Mem) (g22 : Nat) (nn10 : Nat) (y48 : List Int) (A5 : Option Addr) (cp15 : Nat), St 101 m b0 [(4, (.v (.int .i64 y27))), (5, (.v (.pointer (some ⟨g22, 0, none⟩)))), (3, (.v (.slice A1 nn10 cp1))), (22, (.v (.int .i64 y27))), (21, (.v (.int .i64 ((x1).length : Int)))), (20, (.sl ch_0_0 (x1).length ch_0_1 (RdS (Ty.prod Ty.bool (Ty.prod (Ty.slice (Ty.int .u8)) (Ty.int .i64))) ch_0_0 x1))), (0, (.sl ch_0_0 (x1).length ch_0_1 (RdS (Ty.prod Ty.bool (Ty.prod (Ty.slice (Ty.int .u8)) (Ty.int .i64))) ch_0_0 x1)))] [Res.cells g22 55 [.one (.bool ((gt x1 y27).1)), .sl A5 ((gt x1 y27).2.1).length cp15 (RdS (Ty.int .u8) A5 ((gt x1 y27).2.1)), .one (.int .i64 ((gt x1 y27).2.2))], Res.row (Ty.int .i64) 3 A1 nn10 cp1 y48] a w ∧ rlp_one.l2 x1 y27 (rlp_one.l1 k x1 q1) q2 y48 = some r) ?_ ?_ (k := k) ⟨_, g1, nn1, y26, ch1.2.1.1, ch1.2.1.2, (S.sub ⟨rfl, rfl, rfl, rfl, rfl, rfl, rfl, trivial⟩ (.cons .here (.cons .here .nil))), h2⟩
          · rintro a w ⟨m, g22, nn10, y48, A5, cp15, S, h0⟩
            exact (nomatch (show (none : Option Bool) = some r from h0))
          · clear S h2
            rintro q2 a w ⟨m, g22, nn10, y48, A5, cp15, S, h0⟩
            replace h0 : rlp_one.b2 x1 y27 (rlp_one.l1 k x1 q1) (rlp_one.l2 x1 y27 (rlp_one.l1 k x1 q1) q2) y48 = some r := h0
            delta rlp_one.b2 at h0
            refine wp_seq ?_
            refine wp_seq_k ?_
            intro K7 hK7
            have j7 : ∀ (m : Mem) (y49 : Bool) (g24 : Nat) (a : Act) (w : World), St 101 m b0 [(39, (.v (.bool y49))), (4, (.v (.int .i64 y27))), (5, (.v (.pointer (some ⟨g24, 0, none⟩)))), (3, (.v (.slice A1 nn10 cp1))), (22, (.v (.int .i64 y27))), (21, (.v (.int .i64 ((x1).length : Int)))), (20, (.sl ch_0_0 (x1).length ch_0_1 (RdS (Ty.prod Ty.bool (Ty.prod (Ty.slice (Ty.int .u8)) (Ty.int .i64))) ch_0_0 x1))), (0, (.sl ch_0_0 (x1).length ch_0_1 (RdS (Ty.prod Ty.bool (Ty.prod (Ty.slice (Ty.int .u8)) (Ty.int .i64))) ch_0_0 x1)))] [Res.cells g24 55 [.one (.bool ((gt x1 y27).1)), .sl A5 ((gt x1 y27).2.1).length cp15 (RdS (Ty.int .u8) A5 ((gt x1 y27).2.1)), .one (.int .i64 ((gt x1 y27).2.2))], Res.row (Ty.int .i64) 3 A1 nn10 cp1 y48] a w → rlp_one.j7 x1 y27 (rlp_one.l1 k x1 q1) y48 (rlp_one.l2 x1 y27 (rlp_one.l1 k x1 q1) q2) y49 = some r → K7 a w := by
              intro m y49 g24 a w S h0
              delta rlp_one.j7 at h0
              refine hK7 a w ?_
              rcases ite_of h0 with ⟨c19, h1⟩ | ⟨c19, h1⟩ <;> clear h0
              · refine c_condT S rfl c19 ?_
                refine wp_skip ?_
                refine x_thenN ?_
                refine wp_block ?_
                refine c_region' ?_
                refine s_move S rfl rfl ?_; clear S a; intro a S
                refine s_move S rfl rfl ?_; clear S a; intro a S
                refine s_lenO S rfl (.there .here) Tryd.underlying75 rfl ?_; clear S a; intro a S
                refine s_bin S rfl rfl rfl rfl ?_; clear S a; intro a S
                obtain ⟨c20, h2⟩ := chk_of h1; clear h1
                refine s_cutO S (j := (wr .i64 (((y48).length : Int) - 1))) rfl (.there .here) Tryd.underlying75 T3 (.inl rfl) rfl c20.1 c20.2 rfl ?_; clear S a; intro a S
                refine s_assign S rfl rfl ?_; clear S a; intro a S
                refine c_end' ?_
                refine x_blockN ?_
                refine x_thenN ?_
                exact ⟨_, g24, (Int.toNat (wr .i64 (((y48).length : Int) - 1))), (y48.take (Int.toNat (wr .i64 (((y48).length : Int) - 1)))), A5, cp15, (S.sub ⟨rfl, rfl, rfl, rfl, rfl, rfl, rfl, trivial⟩ (.cons .here (.cons .here .nil))), h2⟩
              · refine c_condF S rfl c19 ?_
                refine wp_exit ?_
                refine x_thenX ?_
                refine x_thenX ?_
                refine x_blockX ?_
                refine x_thenN ?_
                exact j4 _ g24 nn10 y48 A5 cp15 a w (S.sub ⟨rfl, rfl, rfl, rfl, rfl, rfl, rfl, trivial⟩ (.cons .here (.cons .here .nil))) h1
            refine c_region' ?_
            refine s_move S rfl rfl ?_; clear S a; intro a S
            refine s_lenO S rfl (.there .here) Tryd.underlying75 rfl ?_; clear S a; intro a S
            refine s_bin S rfl rfl rfl rfl ?_; clear S a; intro a S
            refine s_move S rfl rfl ?_; clear S a; intro a S
            rcases ite_of h0 with ⟨c21, h1⟩ | ⟨c21, h1⟩ <;> clear h0
            · refine s_gT S (b := (decide (0 < ((y48).length : Int)))) rfl rfl c21 ?_
              refine s_move S rfl rfl ?_; clear S a; intro a S
              refine s_gT S (b := (decide (0 < ((y48).length : Int)))) rfl rfl c21 ?_
              refine s_move S rfl rfl ?_; clear S a; intro a S
              refine s_gT S (b := (decide (0 < ((y48).length : Int)))) rfl rfl c21 ?_
              refine s_lenO S rfl (.there .here) Tryd.underlying75 rfl ?_; clear S a; intro a S
              refine s_gT S (b := (decide (0 < ((y48).length : Int)))) rfl rfl c21 ?_
              refine s_bin S rfl rfl rfl rfl ?_; clear S a; intro a S
              refine s_gT S (b := (decide (0 < ((y48).length : Int)))) rfl rfl c21 ?_
              obtain ⟨c22, h2⟩ := chk_of h1; clear h1
              refine s_iaddrO S (ty' := (Ty.int .i64)) rfl (.there .here) rfl Tryd.underlying75 T3 c22.1 c22.2 rfl ?_; clear S a; intro g25 a hA2 S
              refine s_gT S (b := (decide (0 < ((y48).length : Int)))) rfl rfl c21 ?_
              refine s_ldR1 S (ty' := (Ty.int .i64)) (i := (wr .i64 (((y48).length : Int) - 1))) (off := 0) (v := (.int .i64 (rd y48 (wr .i64 (((y48).length : Int) - 1))))) rfl hA2 (.there .here) T3 c22.1 c22.2 rfl (fun _ => rfl) rfl ?_; clear S a; intro a S
              refine s_gT S (b := (decide (0 < ((y48).length : Int)))) rfl rfl c21 ?_
              refine s_move S rfl rfl ?_; clear S a; intro a S
              refine s_gT S (b := (decide (0 < ((y48).length : Int)))) rfl rfl c21 ?_
              refine s_bin S rfl rfl rfl rfl ?_; clear S a; intro a S
              refine s_pick S (b := true) (hc_of rfl c21) rfl rfl ?_; clear S a; intro a S
              refine c_end' ?_
              refine x_thenN ?_
              exact j7 _ ((rd y48 (wr .i64 (((y48).length : Int) - 1))) == y27) g22 a w (S.sub ⟨rfl, rfl, rfl, rfl, rfl, rfl, rfl, rfl, trivial⟩ (.cons .here (.cons .here .nil))) h2
            · refine s_gF S (b := (decide (0 < ((y48).length : Int)))) rfl rfl c21 rfl ?_; clear S a; intro a S
              refine s_gF S (b := (decide (0 < ((y48).length : Int)))) rfl rfl c21 rfl ?_; clear S a; intro a S
              refine s_gF S (b := (decide (0 < ((y48).length : Int)))) rfl rfl c21 rfl ?_; clear S a; intro a S
              refine s_gF S (b := (decide (0 < ((y48).length : Int)))) rfl rfl c21 rfl ?_; clear S a; intro a S
              refine s_gF S (b := (decide (0 < ((y48).length : Int)))) rfl rfl c21 rfl ?_; clear S a; intro a S
              refine s_gF S (b := (decide (0 < ((y48).length : Int)))) rfl rfl c21 rfl ?_; clear S a; intro a S
              refine s_gF S (b := (decide (0 < ((y48).length : Int)))) rfl rfl c21 rfl ?_; clear S a; intro a S
              refine s_gF S (b := (decide (0 < ((y48).length : Int)))) rfl rfl c21 rfl ?_; clear S a; intro a S
              refine s_pick S (b := false) (hc_of rfl c21) rfl rfl ?_; clear S a; intro a S
              refine c_end' ?_
              refine x_thenN ?_
              exact j7 _ false g22 a w (S.sub ⟨rfl, rfl, rfl, rfl, rfl, rfl, rfl, rfl, trivial⟩ (.cons .here (.cons .here .nil))) h1
        · refine c_condF S rfl c2 ?_
          refine wp_exit ?_
          refine x_thenX ?_
          refine x_thenX ?_
          refine x_blockX ?_
          refine x_thenN ?_
          exact j2 _ a w (S.sub trivial .nil) h1
  refine c_region' ?_
  refine s_move S rfl rfl ?_; clear S a; intro a S
  refine s_lenS S rfl Tryd.underlying58 rfl ?_; clear S a; intro a S
  refine s_bin S rfl rfl rfl rfl ?_; clear S a; intro a S
  refine s_move S rfl rfl ?_; clear S a; intro a S
  rcases ite_of h0 with ⟨c23, h1⟩ | ⟨c23, h1⟩ <;> clear h0
  · refine s_gF S (b := (((x1).length : Int) == 0)) rfl rfl c23 rfl ?_; clear S a; intro a S
    refine s_gF S (b := (((x1).length : Int) == 0)) rfl rfl c23 rfl ?_; clear S a; intro a S
    refine s_gF S (b := (((x1).length : Int) == 0)) rfl rfl c23 rfl ?_; clear S a; intro a S
    refine s_gF S (b := (((x1).length : Int) == 0)) rfl rfl c23 rfl ?_; clear S a; intro a S
    refine s_gF S (b := (((x1).length : Int) == 0)) rfl rfl c23 rfl ?_; clear S a; intro a S
    refine s_gF S (b := (((x1).length : Int) == 0)) rfl rfl c23 rfl ?_; clear S a; intro a S
    refine s_gF S (b := (((x1).length : Int) == 0)) rfl rfl c23 rfl ?_; clear S a; intro a S
    refine s_gF S (b := (((x1).length : Int) == 0)) rfl rfl c23 rfl ?_; clear S a; intro a S
    refine s_pick S (b := true) (hc_of rfl c23) rfl rfl ?_; clear S a; intro a S
    refine c_end' ?_
    refine x_thenN ?_
    exact j1 _ true a w0 (S.sub ⟨rfl, rfl, trivial⟩ .nil) h1
  · refine s_gT S (b := (((x1).length : Int) == 0)) rfl rfl c23 ?_
    refine s_move S rfl rfl ?_; clear S a; intro a S
    refine s_gT S (b := (((x1).length : Int) == 0)) rfl rfl c23 ?_
    obtain ⟨c24, h2⟩ := chk_of h1; clear h1
    refine s_iaddrS S rfl rfl rfl Tryd.underlying58 T55 c24.1 c24.2 rfl ?_; clear S a; intro p2 a S
    refine s_gT S (b := (((x1).length : Int) == 0)) rfl rfl c23 ?_
    refine s_faddrP S (tF := (Ty.int .i64)) (y := (gt x1 0).2.2) rfl I55_2 T3 (by decide) (fun m h => (at_snd (at_snd (at_0 h)))) rfl ?_; clear S a; intro a S
    refine s_gT S (b := (((x1).length : Int) == 0)) rfl rfl c23 ?_
    refine s_ld1 S (v := (.int .i64 ((gt x1 0).2.2))) rfl T3 (fun _ => rfl) rfl ?_; clear S a; intro a S
    refine s_gT S (b := (((x1).length : Int) == 0)) rfl rfl c23 ?_
    refine s_move S rfl rfl ?_; clear S a; intro a S
    refine s_gT S (b := (((x1).length : Int) == 0)) rfl rfl c23 ?_
    refine s_lenS S rfl Tryd.underlying58 rfl ?_; clear S a; intro a S
    refine s_gT S (b := (((x1).length : Int) == 0)) rfl rfl c23 ?_
    refine s_bin S rfl rfl rfl rfl ?_; clear S a; intro a S
    refine s_gT S (b := (((x1).length : Int) == 0)) rfl rfl c23 ?_
    refine s_bin S rfl rfl rfl rfl ?_; clear S a; intro a S
    refine s_pick S (b := false) (hc_of rfl c23) rfl rfl ?_; clear S a; intro a S
    refine c_end' ?_
    refine x_thenN ?_
    exact j1 _ (((gt x1 0).2.2) != (wr .i64 (((x1).length : Int) - 1))) a w0 (S.sub ⟨rfl, rfl, trivial⟩ .nil) h2
/-! (*smithy/rlp.writer).fail -/
abbrev rlp_writer_fail.Ty : Type := ((List (Bool × (List Int) × Int)) × Int) → Int → Option ((List Int) × ((List (Bool × (List Int) × Int)) × Int))
def rlp_writer_fail.Ctr (s : rlp_writer_fail.Ty) : Prop := ∀ (x1 : (List (Bool × (List Int) × Int)) × Int) (x2 : Int) (ch_0_0 : Nat) (ch_0_1 : Option Addr) (ch_0_2 : Nat) (r : (List Int) × ((List (Bool × (List Int) × Int)) × Int)) (h0 : s x1 x2 = some r) (mi : Mem) (w0 : World), okL mi [(.v (.pointer (some ⟨ch_0_0, 0, none⟩))), (.v (.int .i64 x2))] → Pre mi [Res.cells ch_0_0 70 [.sl ch_0_1 (x1.1).length ch_0_2 (RdS (Ty.prod Ty.bool (Ty.prod (Ty.slice (Ty.int .u8)) (Ty.int .i64))) ch_0_1 x1.1), .one (.int .i64 x1.2)]] w0 → Calls Tryd.prog 46 (([(.v (.pointer (some ⟨ch_0_0, 0, none⟩))), (.v (.int .i64 x2))] : List D).map D.val).toArray w0 (RetX mi [Res.cells ch_0_0 70 [.sl ch_0_1 (x1.1).length ch_0_2 (RdS (Ty.prod Ty.bool (Ty.prod (Ty.slice (Ty.int .u8)) (Ty.int .i64))) ch_0_1 x1.1), .one (.int .i64 x1.2)]] (fun (ch : (Option Addr) × Nat × (Option Addr) × Nat) => ((.sl ch.1 (r.1).length ch.2.1 (RdS (Ty.int .u8) ch.1 r.1)) : D)) (fun (ch : (Option Addr) × Nat × (Option Addr) × Nat) => [Res.cells ch_0_0 70 [.sl ch.2.2.1 (r.2.1).length ch.2.2.2 (RdS (Ty.prod Ty.bool (Ty.prod (Ty.slice (Ty.int .u8)) (Ty.int .i64))) ch.2.2.1 r.2.1), .one (.int .i64 r.2.2)]]) w0)
def rlp_writer_fail.j1 (x1 : (List (Bool × (List Int) × Int)) × Int) (y1 : Int) : Option ((List Int) × ((List (Bool × (List Int) × Int)) × Int)) := some (([] : List Int), (x1.1, y1))
def rlp_writer_fail.f (x1 : (List (Bool × (List Int) × Int)) × Int) (x2 : Int) : Option ((List Int) × ((List (Bool × (List Int) × Int)) × Int)) := if (x1.2 == 0) = true then (rlp_writer_fail.j1 x1 x2) else (rlp_writer_fail.j1 x1 x1.2)
theorem rlp_writer_fail.ok : rlp_writer_fail.Ctr (rlp_writer_fail.f) := by
  intro x1 x2 ch_0_0 ch_0_1 ch_0_2 r h0 mi w0 ok hm
  delta rlp_writer_fail.f at h0
  refine c_enterX (n := 14) [(.v (.pointer (some ⟨ch_0_0, 0, none⟩))), (.v (.int .i64 x2))] (l := [(0, (.v (.pointer (some ⟨ch_0_0, 0, none⟩)))), (1, (.v (.int .i64 x2)))]) Tryd.func46 rfl rfl rfl rfl ok hm ?_
  clear ok hm
  intro b0 hb a S
  refine c_region ?_
  refine s_assign S rfl rfl ?_; clear S a; intro a S
  refine c_end ?_
  refine wp_seq_k ?_
  intro K1 hK1
  have j1 : ∀ (m : Mem) (y1 : Int) (a : Act) (w : World), St 14 m b0 [] [Res.cells ch_0_0 70 [.sl ch_0_1 (x1.1).length ch_0_2 (RdS (Ty.prod Ty.bool (Ty.prod (Ty.slice (Ty.int .u8)) (Ty.int .i64))) ch_0_1 x1.1), .one (.int .i64 y1)]] a w → rlp_writer_fail.j1 x1 y1 = some r → K1 a w := by
    intro m y1 a w S h0
    delta rlp_writer_fail.j1 at h0
    refine hK1 a w ?_
    refine c_region ?_
    refine s_assign S rfl rfl ?_; clear S a; intro a S
    refine c_end ?_
    refine wp_ret ?_
    replace S := S.slot (u := 4) (d' := (.sl none (([] : List Int)).length 0 (RdS (Ty.int .u8) none ([] : List Int)))) rfl rfl ok_nil
    obtain rfl := Option.some.inj h0
    exact b_ret1 (d := (.sl none (([] : List Int)).length 0 (RdS (Ty.int .u8) none ([] : List Int)))) S rfl rfl fun ok => S.retX (Hx := []) hb _ _ ((none, 0, ch_0_1, ch_0_2) : (Option Addr) × Nat × (Option Addr) × Nat) (.cons .here .nil) ok
  refine c_region ?_
  refine s_move S rfl rfl ?_; clear S a; intro a S
  refine s_nilchk S rfl rfl ?_; clear S a; intro a S
  refine s_fieldAddr S rfl I70_1 T59 (by decide) rfl rfl ?_; clear S a; intro a S
  refine s_load1 S rfl .here T59 (v := (.int .i64 x1.2)) rfl rfl ?_; clear S a; intro a S
  refine s_bin S rfl rfl rfl rfl ?_; clear S a; intro a S
  refine c_end ?_
  rcases ite_of h0 with ⟨c1, h1⟩ | ⟨c1, h1⟩ <;> clear h0
  · refine c_condT S rfl c1 ?_
    refine c_region' ?_
    refine s_move S rfl rfl ?_; clear S a; intro a S
    refine s_move S rfl rfl ?_; clear S a; intro a S
    refine s_nilchk S rfl rfl ?_; clear S a; intro a S
    refine s_fieldAddr S rfl I70_1 T59 (by decide) rfl rfl ?_; clear S a; intro a S
    refine s_store S rfl rfl rfl (s' := [.sl ch_0_1 (x1.1).length ch_0_2 (RdS (Ty.prod Ty.bool (Ty.prod (Ty.slice (Ty.int .u8)) (Ty.int .i64))) ch_0_1 x1.1), .one (.int .i64 x2)]) .here T59 rfl rfl ?_; clear S; intro w S
    refine c_end' ?_
    refine x_thenN ?_
    exact j1 _ x2 a w (S.sub trivial (.cons .here .nil)) h1
  · refine c_condF S rfl c1 ?_
    refine wp_skip ?_
    refine x_thenN ?_
    exact j1 _ x1.2 a w0 (S.sub trivial (.cons .here .nil)) h1
/-! smithy/rlp.head -/
abbrev rlp_head.Ty : Type := Int → Int → Option ((List Int))
def rlp_head.Ctr (s : rlp_head.Ty) : Prop := ∀ (x1 : Int) (x2 : Int) (r : (List Int)) (h0 : s x1 x2 = some r) (mi : Mem) (w0 : World), okL mi [(.v (.int .i64 x1)), (.v (.int .u8 x2))] → Pre mi [] w0 → Calls Tryd.prog 47 (([(.v (.int .i64 x1)), (.v (.int .u8 x2))] : List D).map D.val).toArray w0 (RetX mi [] (fun (ch : (Option Addr) × Nat × Nat) => ((.v (.slice ch.1 ch.2.1 ch.2.2)) : D)) (fun (ch : (Option Addr) × Nat × Nat) => [Res.row (Ty.int .u8) 5 ch.1 ch.2.1 ch.2.2 r]) w0)
def rlp_head.f (k : Nat) (x1 : Int) (x2 : Int) : Option ((List Int)) := if (decide (x1 ≤ 55)) = true then (some [wr .u8 ((wr .u8 (128 + x2)) + (wr .u8 x1))]) else ((word_Of.f (wr .u64 x1)).bind fun t1 => ((rlp_Number.f k t1).bind fun t2 => (if (([wr .u8 ((wr .u8 (183 + x2)) + (wr .u8 ((t2).length : Int)))]).length + (t2).length) * 1 ≤ 140737488355328 then (some ([wr .u8 ((wr .u8 (183 + x2)) + (wr .u8 ((t2).length : Int)))] ++ t2)) else none)))
theorem rlp_head.ok (k : Nat) : rlp_head.Ctr (rlp_head.f k) := by
  intro x1 x2 r h0 mi w0 ok hm
  delta rlp_head.f at h0
  refine c_enterX (n := 27) [(.v (.int .i64 x1)), (.v (.int .u8 x2))] (l := [(0, (.v (.int .i64 x1))), (1, (.v (.int .u8 x2)))]) Tryd.func47 rfl rfl rfl rfl ok hm ?_
  clear ok hm
  intro b0 hb a S
  refine c_region ?_
  refine s_assign S rfl rfl ?_; clear S a; intro a S
  refine c_end ?_
  refine wp_seq ?_
  refine c_region ?_
  refine s_move S rfl rfl ?_; clear S a; intro a S
  refine s_bin S rfl rfl rfl rfl ?_; clear S a; intro a S
  refine c_end ?_
  rcases ite_of h0 with ⟨c1, h1⟩ | ⟨c1, h1⟩ <;> clear h0
  · refine c_condT S rfl c1 ?_
    refine c_region ?_
    refine s_move S rfl rfl ?_; clear S a; intro a S
    refine s_bin S rfl rfl rfl rfl ?_; clear S a; intro a S
    refine s_move S rfl rfl ?_; clear S a; intro a S
    refine s_conv S rfl rfl Tryd.underlying5 rfl ?_; clear S a; intro a S
    refine s_bin S rfl rfl rfl rfl ?_; clear S a; intro a S
    refine s_bldSl S (ty' := (Ty.int .u8)) (ds := [(0, (.v (.int .u8 (wr .u8 ((wr .u8 (128 + x2)) + (wr .u8 x1))))))]) (z := 0) (c0 := ()) (ys := [wr .u8 ((wr .u8 (128 + x2)) + (wr .u8 x1))]) (cs := [()]) rfl Tryd.underlying27 J5 Z5 rfl ⟨rfl, trivial⟩ rfl rfl rfl rfl rfl rfl ?_; clear S a; intro g1 a w S
    refine s_assign S rfl rfl ?_; clear S a; intro a S
    refine c_end ?_
    refine wp_ret ?_
    refine x_thenR ?_
    obtain rfl := Option.some.inj h1
    exact b_ret1 (d := (.v (.slice (some ⟨g1, 0, none⟩) 1 1))) S rfl rfl fun ok => S.retX (Hx := []) hb _ _ (((some ⟨g1, 0, none⟩), 1, 1) : (Option Addr) × Nat × Nat) (.cons .here .nil) ok
  · refine c_condF S rfl c1 ?_
    refine wp_skip ?_
    refine x_thenN ?_
    refine c_region ?_
    refine s_move S rfl rfl ?_; clear S a; intro a S
    refine s_conv S rfl rfl Tryd.underlying24 rfl ?_; clear S a; intro a S
    obtain ⟨t1, et1, h2⟩ := bind_of h1; clear h1
    refine s_callX S (ds' := [(.v (.int .u64 (wr .u64 x1)))]) (ds := [(.v (.int .u64 (wr .u64 x1)))]) [] [] (fun (ch : Unit) => ((.agg [.ints .u64 t1 4]) : D)) (fun (ch : Unit) => []) (fun (ch : Unit) => []) (fun _ => rfl) N33 rfl rfl (fun ok => ok) .nil rfl (word_Of.ok (wr .u64 x1) t1 et1 _ _) ?_; clear S a; intro ch1 m le1 a w S
    obtain ⟨t2, et2, h3⟩ := bind_of h2; clear h2
    refine s_callX S (ds' := [(.agg [.ints .u64 t1 4])]) (ds := [(.agg [.ints .u64 t1 4])]) [] [] (fun (ch : (Option Addr) × Nat × Nat) => ((.v (.slice ch.1 ch.2.1 ch.2.2)) : D)) (fun (ch : (Option Addr) × Nat × Nat) => [Res.row (Ty.int .u8) 5 ch.1 ch.2.1 ch.2.2 t2]) (fun (ch : (Option Addr) × Nat × Nat) => [Res.row (Ty.int .u8) 5 ch.1 ch.2.1 ch.2.2 t2]) (fun _ => rfl) N32 rfl rfl (fun ok => ok) .nil rfl (rlp_Number.ok k t1 t2 et2 _ _) ?_; clear S a w; intro ch2 m le1 a w S
    refine s_assign S rfl rfl ?_; clear S a; intro a S
    refine c_end ?_
    refine c_region ?_
    refine s_move S rfl rfl ?_; clear S a; intro a S
    refine s_bin S rfl rfl rfl rfl ?_; clear S a; intro a S
    refine s_move S rfl rfl ?_; clear S a; intro a S
    refine s_lenO S rfl .here Tryd.underlying27 rfl ?_; clear S a; intro a S
    refine s_conv S rfl rfl Tryd.underlying5 rfl ?_; clear S a; intro a S
    refine s_bin S rfl rfl rfl rfl ?_; clear S a; intro a S
    refine s_bldSl S (ty' := (Ty.int .u8)) (ds := [(0, (.v (.int .u8 (wr .u8 ((wr .u8 (183 + x2)) + (wr .u8 ((t2).length : Int)))))))]) (z := 0) (c0 := ()) (ys := [wr .u8 ((wr .u8 (183 + x2)) + (wr .u8 ((t2).length : Int)))]) (cs := [()]) rfl Tryd.underlying27 J5 Z5 rfl ⟨rfl, trivial⟩ rfl rfl rfl rfl rfl rfl ?_; clear S a w; intro g2 a w S
    refine s_move S rfl rfl ?_; clear S a; intro a S
    obtain ⟨c2, h4⟩ := chk_of h3; clear h3
    refine s_app S (k2 := ch2.2.1) (ys := t2) rfl (fun _ _ => .here) rfl rfl (S.holds _ (Pull.mem (.there .here)).1).1 (Res.row.src (S.holds _ (Pull.mem (.there .here)).1)) Tryd.underlying27 J5 c2 rfl ?_; clear S a w; intro A1 cp1 a w S
    refine s_assign S rfl rfl ?_; clear S a; intro a S
    refine c_end ?_
    refine wp_ret ?_
    obtain rfl := Option.some.inj h4
    exact b_ret1 (d := (.v (.slice A1 (1 + ch2.2.1) cp1))) S rfl rfl fun ok => S.retX (Hx := []) hb _ _ ((A1, 1 + ch2.2.1, cp1) : (Option Addr) × Nat × Nat) (.cons .here .nil) ok
end GW
