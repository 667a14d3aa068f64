/-
  Printed by a program of these sessions (wip/gw/gx.py): for each Go function a Lean function with the same answers, and the walk that shows it.
-/
import Derived.Test.YtmidfllhoogifaaProg
import Derived.Test.YtmidfllhoogifaaGWRQui
set_option linter.unusedVariables false
set_option maxRecDepth 10000
namespace GW
open Go Go.RowKit Go.Proofs
abbrev Y66 : Ty ((List Int) × (List Int)) := (Ty.prod (Ty.arr .u64 4) (Ty.arr .u64 4))
theorem T30 : tyI Try.prog 30 = some (true, 27) := by kernel_rfl
abbrev L30 : Type := (List Int) × Int × (List Int) × (List Int) × (List ((List Int) × (List Int)))
abbrev Y30 : Ty L30 := (Ty.prod (Ty.arr .u8 20) (Ty.prod (Ty.int .u64) (Ty.prod (Ty.arr .u64 4) (Ty.prod (Ty.slice (Ty.int .u8)) (Ty.slice Y66)))))
theorem J30 : appI Try.prog 30 = some (27, 112) := by kernel_rfl
theorem Z30 : zeroI Try.prog 30 = some (D.val (.agg [.ints .u8 [0, 0, 0, 0, 0, 0, 0, 0, 0, 0, 0, 0, 0, 0, 0, 0, 0, 0, 0, 0] 20, .one (.int .u64 0), .ints .u64 [0, 0, 0, 0] 4, .one (.slice none 0 0), .one (.slice none 0 0)])) := by kernel_rfl
theorem I30_3 : fieldI Try.prog 30 3 = some (25, 27) := by kernel_rfl
theorem T27 : tyI Try.prog 27 = some (false, 1) := by kernel_rfl
theorem I30_4 : fieldI Try.prog 30 4 = some (26, 28) := by kernel_rfl
theorem T28 : tyI Try.prog 28 = some (false, 1) := by kernel_rfl
theorem N8 : Fn_ Try.prog 8 := ⟨_, Try.func8, rfl, by decide⟩
theorem P71 : ∀ w : World, ((match Try.prog.underlying 71 with | some (.struct fs) => fs | _ => (#[] : Array Field)).mapM fun (f : Field) => (do pure (f.offset, ← Go.sizeOf f.type) : Sem (Nat × Nat))).run Try.prog w = .ok #[(0, 1), (1, 1)] w := fun _ => by kernel_rfl
theorem Z71 : zeroI Try.prog 71 = some (D.val (.agg [.one (.int .i64 0), .one (.map none)])) := by kernel_rfl
abbrev Y69 : Ty (List ((List Int) × L30)) := (Ty.fmap true (Ty.arr .u8 20) true Y30)
theorem J71 : appI Try.prog 71 = some (2, 16) := by kernel_rfl
theorem P74 : ∀ w : World, ((match Try.prog.underlying 74 with | some (.struct fs) => fs | _ => (#[] : Array Field)).mapM fun (f : Field) => (do pure (f.offset, ← Go.sizeOf f.type) : Sem (Nat × Nat))).run Try.prog w = .ok #[(0, 1)] w := fun _ => by kernel_rfl
theorem Z74 : zeroI Try.prog 74 = some (D.val (.agg [.one (.slice none 0 0)])) := by kernel_rfl
abbrev L72 : Type := List (Int × (List ((List Int) × L30)))
theorem N14 : Fn_ Try.prog 14 := ⟨_, Try.func14, rfl, by decide⟩
theorem P30 : ∀ w : World, ((match Try.prog.underlying 30 with | some (.struct fs) => fs | _ => (#[] : Array Field)).mapM fun (f : Field) => (do pure (f.offset, ← Go.sizeOf f.type) : Sem (Nat × Nat))).run Try.prog w = .ok #[(0, 20), (20, 1), (21, 4), (25, 1), (26, 1)] w := fun _ => by kernel_rfl
theorem I74_0 : fieldI Try.prog 74 0 = some (0, 72) := by kernel_rfl
theorem T72 : tyI Try.prog 72 = some (false, 1) := by kernel_rfl
theorem N30 : Fn_ Try.prog 30 := ⟨_, Try.func30, rfl, by decide⟩
theorem T66 : tyI Try.prog 66 = some (true, 8) := by kernel_rfl
theorem Z66 : zeroI Try.prog 66 = some (D.val (.agg [.ints .u64 [0, 0, 0, 0] 4, .ints .u64 [0, 0, 0, 0] 4])) := by kernel_rfl
theorem I66_1 : fieldI Try.prog 66 1 = some (4, 26) := by kernel_rfl
theorem T26 : tyI Try.prog 26 = some (true, 4) := by kernel_rfl
theorem T24 : tyI Try.prog 24 = some (false, 1) := by kernel_rfl
theorem Q26 : Try.prog.eqGuardType Try.prog.depth 26 = false := by kernel_rfl
theorem I66_0 : fieldI Try.prog 66 0 = some (0, 26) := by kernel_rfl
theorem N28 : Fn_ Try.prog 28 := ⟨_, Try.func28, rfl, by decide⟩
theorem N10 : Fn_ Try.prog 10 := ⟨_, Try.func10, rfl, by decide⟩
theorem N32 : Fn_ Try.prog 32 := ⟨_, Try.func32, rfl, by decide⟩
theorem N43 : Fn_ Try.prog 43 := ⟨_, Try.func43, rfl, by decide⟩
theorem N31 : Fn_ Try.prog 31 := ⟨_, Try.func31, rfl, by decide⟩
theorem T71 : tyI Try.prog 71 = some (true, 2) := by kernel_rfl
theorem I71_1 : fieldI Try.prog 71 1 = some (1, 69) := by kernel_rfl
theorem T69 : tyI Try.prog 69 = some (false, 1) := by kernel_rfl
theorem I30_0 : fieldI Try.prog 30 0 = some (0, 23) := by kernel_rfl
theorem T23 : tyI Try.prog 23 = some (true, 20) := by kernel_rfl
theorem J5 : appI Try.prog 5 = some (1, 1) := by kernel_rfl
theorem Z5 : zeroI Try.prog 5 = some (D.val (.v (.int .u8 0))) := by kernel_rfl
theorem N44 : Fn_ Try.prog 44 := ⟨_, Try.func44, rfl, by decide⟩
theorem J66 : appI Try.prog 66 = some (8, 64) := by kernel_rfl
theorem N45 : Fn_ Try.prog 45 := ⟨_, Try.func45, rfl, by decide⟩
theorem N33 : Fn_ Try.prog 33 := ⟨_, Try.func33, rfl, by decide⟩
theorem T5 : tyI Try.prog 5 = some (false, 1) := by kernel_rfl
theorem KT23 : KeyT Try.prog 23 true (Ty.arr .u8 20) := keyT_arr Try.underlying23 Try.underlying5 T5 T23
theorem N16 : Fn_ Try.prog 16 := ⟨_, Try.func16, rfl, by decide⟩
theorem I71_0 : fieldI Try.prog 71 0 = some (0, 3) := by kernel_rfl
theorem T3 : tyI Try.prog 3 = some (false, 1) := by kernel_rfl
theorem N37 : Fn_ Try.prog 37 := ⟨_, Try.func37, rfl, by decide⟩
theorem N20 : Fn_ Try.prog 20 := ⟨_, Try.func20, rfl, by decide⟩
theorem I30_2 : fieldI Try.prog 30 2 = some (21, 26) := by kernel_rfl
theorem N9 : Fn_ Try.prog 9 := ⟨_, Try.func9, rfl, by decide⟩
theorem Z87 : zeroI Try.prog 87 = some (D.val (.agg [.ints .i64 [0, 0, 0, 0, 0, 0, 0, 0, 0, 0, 0, 0, 0, 0, 0, 0, 0, 0, 0, 0, 0, 0, 0, 0, 0, 0, 0, 0, 0, 0, 0, 0] 32])) := by kernel_rfl
theorem T87 : tyI Try.prog 87 = some (true, 32) := by kernel_rfl
theorem N42 : Fn_ Try.prog 42 := ⟨_, Try.func42, rfl, by decide⟩
theorem N41 : Fn_ Try.prog 41 := ⟨_, Try.func41, rfl, by decide⟩
theorem N29 : Fn_ Try.prog 29 := ⟨_, Try.func29, rfl, by decide⟩
theorem N11 : Fn_ Try.prog 11 := ⟨_, Try.func11, rfl, by decide⟩
theorem I30_1 : fieldI Try.prog 30 1 = some (20, 24) := by kernel_rfl
theorem N12 : Fn_ Try.prog 12 := ⟨_, Try.func12, rfl, by decide⟩
theorem N13 : Fn_ Try.prog 13 := ⟨_, Try.func13, rfl, by decide⟩
def Gd23 : (List Int) → Prop := fun xs => xs.length = 20 ∧ ∀ y ∈ xs, inK .u8 y
def Gd24 : Int → Prop := fun x => inK .u64 x
def Gd26 : (List Int) → Prop := fun xs => xs.length = 4 ∧ ∀ y ∈ xs, inK .u64 y
def Gd5 : Int → Prop := fun x => inK .u8 x
def Gd27 : (List Int) → Prop := fun xs => (∀ y ∈ xs, Gd5 y) ∧ xs.length ≤ maxLen
def Gd66 : ((List Int) × (List Int)) → Prop := fun y => Gd26 y.1 ∧ (Gd26 y.2)
def Gd28 : (List ((List Int) × (List Int))) → Prop := fun xs => (∀ y ∈ xs, Gd66 y) ∧ xs.length ≤ maxLen
def Gd30 : L30 → Prop := fun y => Gd23 y.1 ∧ (Gd24 y.2.1 ∧ (Gd26 y.2.2.1 ∧ (Gd27 y.2.2.2.1 ∧ (Gd28 y.2.2.2.2))))
/-! smithy/smithyref13.Great -/
abbrev smithyref13_Great.Ty : Type := (List L30) → Option Bool
def smithyref13_Great.Ctr (s : smithyref13_Great.Ty) : Prop := ∀ (x1 : List L30) (ch_0_0 : Option Addr) (ch_0_1 : Nat) (r : Bool) (h0 : s x1 = some r) (mi : Mem) (w0 : World), okL mi [(.sl ch_0_0 (x1).length ch_0_1 (RdS Y30 ch_0_0 x1))] → Pre mi [] w0 → Calls Try.prog 8 (([(.sl ch_0_0 (x1).length ch_0_1 (RdS Y30 ch_0_0 x1))] : List D).map D.val).toArray w0 (RetX mi [] (fun (ch : Unit) => ((.v (.bool r)) : D)) (fun (ch : Unit) => []) w0)
def smithyref13_Great.j1 : Option Bool := some false
def smithyref13_Great.j2 (y1 : Int) (rec1 : Int → Option Bool) (y2 : Bool) : Option Bool := if y2 = true then (some true) else (rec1 (wr .i64 (y1 + 1)))
def smithyref13_Great.b1 (x1 : List L30) (rec1 : Int → Option Bool) (y1 : Int) : Option Bool := if (decide (y1 < ((x1).length : Int))) = true then (if (0 : Int) ≤ y1 ∧ y1 < ((x1).length : Int) then (if (decide (3000 < (((gt x1 y1).2.2.2.1).length : Int))) = true then (smithyref13_Great.j2 y1 rec1 true) else (smithyref13_Great.j2 y1 rec1 (decide (100 < (((gt x1 y1).2.2.2.2).length : Int))))) else none) else smithyref13_Great.j1
def smithyref13_Great.l1 (x1 : List L30) : Nat → Int → Option Bool
  | 0, _ => none
  | q + 1, y1 => smithyref13_Great.b1 x1 (smithyref13_Great.l1 x1 q) y1
def smithyref13_Great.f (k : Nat) (x1 : List L30) : Option Bool := if (decide (50 < ((x1).length : Int))) = true then (some true) else (smithyref13_Great.l1 x1 k 0)
theorem smithyref13_Great.ok (k : Nat) : smithyref13_Great.Ctr (smithyref13_Great.f k) := by
 intro x1 ch_0_0 ch_0_1 r h0 mi w0 ok hm
 delta smithyref13_Great.f at h0
 refine c_enterX (n := 29) [(.sl ch_0_0 (x1).length ch_0_1 (RdS Y30 ch_0_0 x1))] (l := [(0, (.sl ch_0_0 (x1).length ch_0_1 (RdS Y30 ch_0_0 x1)))]) Try.func8 rfl rfl rfl rfl ok hm ?_
 clear ok hm
 intro b0 hb a S
 refine c_region ?_
 refine s_assign S rfl rfl ?_; clear S a; intro a S
 refine c_end ?_
 refine wp_seq ?_
 refine c_region ?_
 refine s_move S rfl rfl ?_; clear S a; intro a S
 refine s_lenS S rfl Try.underlying32 rfl ?_; clear S a; intro a S
 refine s_bin S rfl rfl rfl rfl ?_; clear S a; intro a S
 refine c_end ?_
 rcases ite_of h0 with ⟨c1, h1⟩ | ⟨c1, h1⟩ <;> clear h0
 ·refine c_condT S rfl c1 ?_
  refine c_region ?_
  refine s_assign S rfl rfl ?_; clear S a; intro a S
  refine c_end ?_
  refine wp_ret ?_
  refine x_thenR ?_
  obtain rfl := Option.some.inj h1
  exact b_ret1 (d := (.v (.bool true))) S rfl rfl fun ok => S.retX (Hx := []) hb _ _ (() : Unit) .nil ok
 ·refine c_condF S rfl c1 ?_
  refine wp_skip ?_
  refine x_thenN ?_
  refine wp_seq_k ?_
  intro K1 hK1
  have j1 : ∀ (m : Mem) (a : Act) (w : World), St 29 m b0 [] [] a w → smithyref13_Great.j1 = some r → K1 a w := by
   intro m a w S h0
   delta smithyref13_Great.j1 at h0
   refine hK1 a w ?_
   refine c_region ?_
   refine s_assign S rfl rfl ?_; clear S a; intro a S
   refine c_end ?_
   refine wp_ret ?_
   obtain rfl := Option.some.inj h0
   exact b_ret1 (d := (.v (.bool false))) S rfl rfl fun ok => S.retX (Hx := []) hb _ _ (() : Unit) .nil ok
  refine c_region ?_
  refine s_move S rfl rfl ?_; clear S a; intro a S
  refine s_lenS S rfl Try.underlying32 rfl ?_; clear S a; intro a S
  refine s_move S rfl rfl ?_; clear S a; intro a S
  refine c_end ?_
  refine wp_block ?_
  refine c_loop (fun q1 a w => ∃ (m : Mem) (y1 : Int), St 29 m b0 [(9, (.v (.int .i64 y1))), (8, (.v (.int .i64 ((x1).length : Int)))), (0, (.sl ch_0_0 (x1).length ch_0_1 (RdS Y30 ch_0_0 x1)))] [] a w ∧ smithyref13_Great.l1 x1 q1 y1 = some r) ?_ ?_ (k := k) ⟨_, 0, (S.sub (subR rfl) .nil), h1⟩
  ·rintro a w ⟨m, y1, S, h0⟩
   exact (nomatch (show (none : Option Bool) = some r from h0))
  ·clear S h1
   rintro q1 a w ⟨m, y1, S, h0⟩
   replace h0 : smithyref13_Great.b1 x1 (smithyref13_Great.l1 x1 q1) y1 = some r := h0
   delta smithyref13_Great.b1 at h0
   refine c_region ?_
   refine s_bin S rfl rfl rfl rfl ?_; clear S a; intro a S
   refine c_end ?_
   refine wp_seq ?_
   rcases ite_of h0 with ⟨c2, h1⟩ | ⟨c2, h1⟩ <;> clear h0
   ·refine c_condT S rfl c2 ?_
    refine wp_skip ?_
    refine x_thenN ?_
    refine wp_seq ?_
    refine wp_block ?_
    refine c_region ?_
    refine s_move S rfl rfl ?_; clear S a; intro a S
    refine s_assign S rfl rfl ?_; clear S a; intro a S
    refine c_end ?_
    refine wp_seq_k ?_
    intro K2 hK2
    have j2 : ∀ (m : Mem) (y2 : Bool) (a : Act) (w : World), St 29 m b0 [(27, (.v (.bool y2))), (9, (.v (.int .i64 y1))), (8, (.v (.int .i64 ((x1).length : Int)))), (0, (.sl ch_0_0 (x1).length ch_0_1 (RdS Y30 ch_0_0 x1)))] [] a w → smithyref13_Great.j2 y1 (smithyref13_Great.l1 x1 q1) y2 = some r → K2 a w := by
     intro m y2 a w S h0
     delta smithyref13_Great.j2 at h0
     refine hK2 a w ?_
     rcases ite_of h0 with ⟨c3, h1⟩ | ⟨c3, h1⟩ <;> clear h0
     ·refine c_condT S rfl c3 ?_
      refine c_region ?_
      refine s_assign S rfl rfl ?_; clear S a; intro a S
      refine c_end ?_
      refine wp_ret ?_
      refine x_blockR ?_
      refine x_thenR ?_
      refine x_thenR ?_
      refine x_blockR ?_
      refine x_thenR ?_
      obtain rfl := Option.some.inj h1
      exact b_ret1 (d := (.v (.bool true))) S rfl rfl fun ok => S.retX (Hx := []) hb _ _ (() : Unit) .nil ok
     ·refine c_condF S rfl c3 ?_
      refine wp_skip ?_
      refine x_blockN ?_
      refine x_thenN ?_
      refine c_region' ?_
      refine s_bin S rfl rfl rfl rfl ?_; clear S a; intro a S
      refine s_move S rfl rfl ?_; clear S a; intro a S
      refine c_end' ?_
      refine x_thenN ?_
      exact ⟨_, (wr .i64 (y1 + 1)), (S.sub (subR rfl) .nil), h1⟩
    refine c_region' ?_
    refine s_move S rfl rfl ?_; clear S a; intro a S
    refine s_move S rfl rfl ?_; clear S a; intro a S
    obtain ⟨c4, h2⟩ := chk_of h1; clear h1
    refine s_iaddrS S rfl rfl rfl Try.underlying32 T30 c4.1 c4.2 rfl ?_; clear S a; intro p1 a S
    refine s_faddrP S (tF := (Ty.slice (Ty.int .u8))) (y := (gt x1 y1).2.2.2.1) rfl I30_3 T27 (by decide) (fun m h => (at_fst (at_snd (at_snd (at_snd (at_0 h)))))) rfl ?_; clear S a; intro a S
    refine s_ldS S (fun c => c) rfl T27 (fun _ => rfl) rfl ?_; clear S a; intro A1 cp1 a S
    refine s_lenS S rfl Try.underlying27 rfl ?_; clear S a; intro a S
    refine s_bin S rfl rfl rfl rfl ?_; clear S a; intro a S
    refine s_move S rfl rfl ?_; clear S a; intro a S
    rcases ite_of h2 with ⟨c5, h3⟩ | ⟨c5, h3⟩ <;> clear h2
    ·refine s_gF S (b := (decide (3000 < (((gt x1 y1).2.2.2.1).length : Int)))) rfl rfl c5 rfl ?_; clear S a; intro a S
     refine s_gF S (b := (decide (3000 < (((gt x1 y1).2.2.2.1).length : Int)))) rfl rfl c5 rfl ?_; clear S a; intro a S
     refine s_gF S (b := (decide (3000 < (((gt x1 y1).2.2.2.1).length : Int)))) rfl rfl c5 rfl ?_; clear S a; intro a S
     refine s_gF S (b := (decide (3000 < (((gt x1 y1).2.2.2.1).length : Int)))) rfl rfl c5 rfl ?_; clear S a; intro a S
     refine s_gF S (b := (decide (3000 < (((gt x1 y1).2.2.2.1).length : Int)))) rfl rfl c5 rfl ?_; clear S a; intro a S
     refine s_gF S (b := (decide (3000 < (((gt x1 y1).2.2.2.1).length : Int)))) rfl rfl c5 rfl ?_; clear S a; intro a S
     refine s_gF S (b := (decide (3000 < (((gt x1 y1).2.2.2.1).length : Int)))) rfl rfl c5 rfl ?_; clear S a; intro a S
     refine s_pick S (b := true) (hc_of rfl c5) rfl rfl ?_; clear S a; intro a S
     refine c_end' ?_
     refine x_thenN ?_
     exact j2 _ true a w (S.sub (subR rfl) .nil) h3
    ·refine s_gT S (b := (decide (3000 < (((gt x1 y1).2.2.2.1).length : Int)))) rfl rfl c5 ?_
     refine s_move S rfl rfl ?_; clear S a; intro a S
     refine s_gT S (b := (decide (3000 < (((gt x1 y1).2.2.2.1).length : Int)))) rfl rfl c5 ?_
     refine s_move S rfl rfl ?_; clear S a; intro a S
     refine s_gT S (b := (decide (3000 < (((gt x1 y1).2.2.2.1).length : Int)))) rfl rfl c5 ?_
     refine s_iaddrS S rfl rfl rfl Try.underlying32 T30 c4.1 c4.2 rfl ?_; clear S a; intro p2 a S
     refine s_gT S (b := (decide (3000 < (((gt x1 y1).2.2.2.1).length : Int)))) rfl rfl c5 ?_
     refine s_faddrP S (tF := (Ty.slice Y66)) (y := (gt x1 y1).2.2.2.2) rfl I30_4 T28 (by decide) (fun m h => (at_snd (at_snd (at_snd (at_snd (at_0 h)))))) rfl ?_; clear S a; intro a S
     refine s_gT S (b := (decide (3000 < (((gt x1 y1).2.2.2.1).length : Int)))) rfl rfl c5 ?_
     refine s_ldS S (fun c => c) rfl T28 (fun _ => rfl) rfl ?_; clear S a; intro A2 cp2 a S
     refine s_gT S (b := (decide (3000 < (((gt x1 y1).2.2.2.1).length : Int)))) rfl rfl c5 ?_
     refine s_lenS S rfl Try.underlying28 rfl ?_; clear S a; intro a S
     refine s_gT S (b := (decide (3000 < (((gt x1 y1).2.2.2.1).length : Int)))) rfl rfl c5 ?_
     refine s_bin S rfl rfl rfl rfl ?_; clear S a; intro a S
     refine s_pick S (b := false) (hc_of rfl c5) rfl rfl ?_; clear S a; intro a S
     refine c_end' ?_
     refine x_thenN ?_
     exact j2 _ (decide (100 < (((gt x1 y1).2.2.2.2).length : Int))) a w (S.sub (subR rfl) .nil) h3
   ·refine c_condF S rfl c2 ?_
    refine wp_exit ?_
    refine x_thenX ?_
    refine x_thenX ?_
    refine x_blockX ?_
    refine x_thenN ?_
    exact j1 _ a w (S.sub trivial .nil) h1
/-! smithy/store.New -/
abbrev store_New.Ty : Type := Option L72
def store_New.Ctr (s : store_New.Ty) : Prop := ∀ (r : L72) (h0 : s = some r) (mi : Mem) (w0 : World), okL mi [] → Pre mi [] w0 → Calls Try.prog 14 (([] : List D).map D.val).toArray w0 (RetX mi [] (fun (ch : Nat × (Option Addr) × Nat × Nat) => ((.v (.pointer (some ⟨ch.1, 0, none⟩))) : D)) (fun (ch : Nat × (Option Addr) × Nat × Nat) => [Res.cells ch.1 74 [.one (.slice ch.2.1 ch.2.2.1 ch.2.2.2)], Res.row (Ty.prod (Ty.int .i64) Y69) 71 ch.2.1 ch.2.2.1 ch.2.2.2 r]) w0)
def store_New.f : Option L72 := some ([((-1), ([] : List ((List Int) × L30)))])
theorem store_New.ok : store_New.Ctr (store_New.f) := by
 intro r h0 mi w0 ok hm
 delta store_New.f at h0
 refine c_enterX (n := 5) [] (l := []) Try.func14 rfl rfl rfl rfl ok hm ?_
 clear ok hm
 intro b0 hb a S
 refine c_region ?_
 refine s_assign S rfl rfl ?_; clear S a; intro a S
 refine c_end ?_
 refine c_region ?_
 refine s_bldS S (ds := [(0, (.v (.int .i64 (-1))))]) (zs := [.one (.int .i64 0), .one (.map none)]) (s' := [.one (.int .i64 (-1)), .one (.map none)]) rfl Try.underlying71 P71 Z71 ⟨rfl, rfl, trivial⟩ rfl rfl ?_; clear S a; intro a S
 replace S := S.slot (u := 1) (d' := (.agg [.one (.int .i64 (-1)), .rf (.map none) (RdM true (Ty.arr .u8 20) true Y30 none ([] : List ((List Int) × L30)))])) rfl rfl (by have h := (S.get 1 (.agg [.one (.int .i64 (-1)), .one (.map none)]) rfl).2; exact ⟨h.1, okm_nil, trivial⟩)
 refine s_bldSl S (ty' := (Ty.prod (Ty.int .i64) Y69)) (ds := [(0, (.agg [.one (.int .i64 (-1)), .rf (.map none) (RdM true (Ty.arr .u8 20) true Y30 none ([] : List ((List Int) × L30)))]))]) (z := (0, ([] : List ((List Int) × L30)))) (c0 := ((), none)) (ys := [((-1), ([] : List ((List Int) × L30)))]) (cs := [((), none)]) rfl Try.underlying72 J71 Z71 rfl ⟨rfl, okm_nil, trivial⟩ rfl rfl rfl rfl rfl rfl ?_; clear S a; intro g1 a w S
 refine s_bldS S (ds := [(0, (.v (.slice (some ⟨g1, 0, none⟩) 1 1)))]) (zs := [.one (.slice none 0 0)]) (s' := [.one (.slice (some ⟨g1, 0, none⟩) 1 1)]) rfl Try.underlying74 P74 Z74 ⟨rfl, trivial⟩ rfl rfl ?_; clear S a; intro a S
 refine s_box S rfl rfl rfl ?_; clear S a w; intro g2 a w S
 refine s_assign S rfl rfl ?_; clear S a; intro a S
 refine c_end ?_
 refine wp_ret ?_
 obtain rfl := Option.some.inj h0
 exact b_ret1 (d := (.v (.pointer (some ⟨g2, 0, none⟩)))) S rfl rfl fun ok => S.retX (Hx := []) hb _ _ ((g2, (some ⟨g1, 0, none⟩), 1, 1) : Nat × (Option Addr) × Nat × Nat) (.cons .here (.cons .here .nil)) ok
/-! (*smithy/store.Store).has -/
abbrev store_Store_has.Ty : Type := L72 → Int → Option Bool
def store_Store_has.Ctr (s : store_Store_has.Ty) : Prop := ∀ (x1 : L72) (x2 : Int) (ch_0_0 : Nat) (ch_0_1 : Option Addr) (ch_0_2 : Nat) (ch_0_3 : Nat) (r : Bool) (h0 : s x1 x2 = some r) (mi : Mem) (w0 : World), okL mi [(.v (.pointer (some ⟨ch_0_0, 0, none⟩))), (.v (.int .i64 x2))] → Pre mi [Res.cells ch_0_0 74 [.one (.slice ch_0_1 ch_0_2 ch_0_3)], Res.row (Ty.prod (Ty.int .i64) Y69) 71 ch_0_1 ch_0_2 ch_0_3 x1] w0 → Calls Try.prog 30 (([(.v (.pointer (some ⟨ch_0_0, 0, none⟩))), (.v (.int .i64 x2))] : List D).map D.val).toArray w0 (RetX mi [Res.cells ch_0_0 74 [.one (.slice ch_0_1 ch_0_2 ch_0_3)], Res.row (Ty.prod (Ty.int .i64) Y69) 71 ch_0_1 ch_0_2 ch_0_3 x1] (fun (ch : Unit) => ((.v (.bool r)) : D)) (fun (ch : Unit) => [Res.cells ch_0_0 74 [.one (.slice ch_0_1 ch_0_2 ch_0_3)], Res.row (Ty.prod (Ty.int .i64) Y69) 71 ch_0_1 ch_0_2 ch_0_3 x1]) w0)
def store_Store_has.f (x1 : L72) (x2 : Int) : Option Bool := if (decide (0 ≤ x2)) = true then (some (decide (x2 < ((x1).length : Int)))) else (some false)
theorem store_Store_has.ok : store_Store_has.Ctr (store_Store_has.f) := by
 intro x1 x2 ch_0_0 ch_0_1 ch_0_2 ch_0_3 r h0 mi w0 ok hm
 delta store_Store_has.f at h0
 refine c_enterX (n := 20) [(.v (.pointer (some ⟨ch_0_0, 0, none⟩))), (.v (.int .i64 x2))] (l := [(0, (.v (.pointer (some ⟨ch_0_0, 0, none⟩)))), (1, (.v (.int .i64 x2)))]) Try.func30 rfl rfl rfl rfl ok hm ?_
 clear ok hm
 intro b0 hb a S
 refine c_region ?_
 refine s_assign S rfl rfl ?_; clear S a; intro a S
 refine c_end ?_
 refine c_region ?_
 refine s_move S rfl rfl ?_; clear S a; intro a S
 refine s_nep S (b := true) rfl rfl Try.underlying36 rfl rfl ?_; clear S a; intro a S
 refine s_move S rfl rfl ?_; clear S a; intro a S
 refine s_gT S (b := true) rfl rfl rfl ?_
 refine s_move S rfl rfl ?_; clear S a; intro a S
 refine s_gT S (b := true) rfl rfl rfl ?_
 refine s_bin S rfl rfl rfl rfl ?_; clear S a; intro a S
 refine s_pick S (b := true) (hc_of rfl rfl) rfl rfl ?_; clear S a; intro a S
 refine s_move S rfl rfl ?_; clear S a; intro a S
 rcases ite_of h0 with ⟨c1, h1⟩ | ⟨c1, h1⟩ <;> clear h0
 ·refine s_gT S (b := (decide (0 ≤ x2))) rfl rfl c1 ?_
  refine s_move S rfl rfl ?_; clear S a; intro a S
  refine s_gT S (b := (decide (0 ≤ x2))) rfl rfl c1 ?_
  refine s_move S rfl rfl ?_; clear S a; intro a S
  refine s_gT S (b := (decide (0 ≤ x2))) rfl rfl c1 ?_
  refine s_nilchk S rfl rfl ?_; clear S a; intro a S
  refine s_gT S (b := (decide (0 ≤ x2))) rfl rfl c1 ?_
  refine s_fieldAddr S rfl I74_0 T72 (by decide) rfl rfl ?_; clear S a; intro a S
  refine s_gT S (b := (decide (0 ≤ x2))) rfl rfl c1 ?_
  refine s_load1 S rfl .here T72 (v := (.slice ch_0_1 ch_0_2 ch_0_3)) rfl rfl ?_; clear S a; intro a S
  refine s_gT S (b := (decide (0 ≤ x2))) rfl rfl c1 ?_
  refine s_lenO S rfl (.there .here) Try.underlying72 rfl ?_; clear S a; intro a S
  refine s_gT S (b := (decide (0 ≤ x2))) rfl rfl c1 ?_
  refine s_bin S rfl rfl rfl rfl ?_; clear S a; intro a S
  refine s_pick S (b := true) (hc_of rfl c1) rfl rfl ?_; clear S a; intro a S
  refine s_assign S rfl rfl ?_; clear S a; intro a S
  refine c_end ?_
  refine wp_ret ?_
  obtain rfl := Option.some.inj h1
  exact b_ret1 (d := (.v (.bool (decide (x2 < ((x1).length : Int)))))) S rfl rfl fun ok => S.retX (Hx := []) hb _ _ (() : Unit) (.cons .here (.cons .here .nil)) ok
 ·refine s_gF S (b := (decide (0 ≤ x2))) rfl rfl c1 rfl ?_; clear S a; intro a S
  refine s_gF S (b := (decide (0 ≤ x2))) rfl rfl c1 rfl ?_; clear S a; intro a S
  refine s_gF S (b := (decide (0 ≤ x2))) rfl rfl c1 rfl ?_; clear S a; intro a S
  refine s_gF S (b := (decide (0 ≤ x2))) rfl rfl c1 rfl ?_; clear S a; intro a S
  refine s_gF S (b := (decide (0 ≤ x2))) rfl rfl c1 rfl ?_; clear S a; intro a S
  refine s_gF S (b := (decide (0 ≤ x2))) rfl rfl c1 rfl ?_; clear S a; intro a S
  refine s_gF S (b := (decide (0 ≤ x2))) rfl rfl c1 rfl ?_; clear S a; intro a S
  refine s_pick S (b := false) (hc_of rfl c1) rfl rfl ?_; clear S a; intro a S
  refine s_assign S rfl rfl ?_; clear S a; intro a S
  refine c_end ?_
  refine wp_ret ?_
  obtain rfl := Option.some.inj h1
  exact b_ret1 (d := (.v (.bool false))) S rfl rfl fun ok => S.retX (Hx := []) hb _ _ (() : Unit) (.cons .here (.cons .here .nil)) ok
/-! smithy/word.Compare -/
abbrev word_Compare.Ty : Type := (List Int) → (List Int) → Option Int
def word_Compare.Ctr (s : word_Compare.Ty) : Prop := ∀ (x1 : List Int) (x2 : List Int) (r : Int) (h0 : s x1 x2 = some r) (mi : Mem) (w0 : World), okL mi [(.agg [.ints .u64 x1 4]), (.agg [.ints .u64 x2 4])] → Pre mi [] w0 → Calls Try.prog 28 (([(.agg [.ints .u64 x1 4]), (.agg [.ints .u64 x2 4])] : List D).map D.val).toArray w0 (RetX mi [] (fun (ch : Unit) => ((.v (.int .i64 r)) : D)) (fun (ch : Unit) => []) w0)
def word_Compare.j1 (x1 : List Int) (x2 : List Int) (y1 : Int) : Option Int := if (0 : Int) ≤ y1 ∧ y1 < 4 then (if (decide ((rd x1 y1) < (rd x2 y1))) = true then (some (-1)) else (some 1)) else none
def word_Compare.b1 (x1 : List Int) (x2 : List Int) (rec1 : Int → Option Int) (y3 : Int) : Option Int := if (0 : Int) ≤ y3 ∧ y3 < 4 then (if ((rd x1 y3) == (rd x2 y3)) = true then (rec1 (wr .i64 (y3 - 1))) else (word_Compare.j1 x1 x2 y3)) else none
def word_Compare.l1 (x1 : List Int) (x2 : List Int) : Nat → Int → Option Int
  | 0, _ => none
  | q + 1, y3 => word_Compare.b1 x1 x2 (word_Compare.l1 x1 x2 q) y3
def word_Compare.f (k : Nat) (x1 : List Int) (x2 : List Int) : Option Int := if (decide (x1 = x2)) = true then (some 0) else (word_Compare.l1 x1 x2 k 3)
theorem word_Compare.ok (k : Nat) : word_Compare.Ctr (word_Compare.f k) := by
 intro x1 x2 r h0 mi w0 ok hm
 delta word_Compare.f at h0
 refine c_enterX (n := 25) [(.agg [.ints .u64 x1 4]), (.agg [.ints .u64 x2 4])] (l := [(0, (.agg [.ints .u64 x1 4])), (1, (.agg [.ints .u64 x2 4]))]) Try.func28 rfl rfl rfl rfl ok hm ?_
 clear ok hm
 intro b0 hb a S
 refine c_region ?_
 refine s_box S rfl rfl rfl ?_; clear S a; intro g1 a w S
 refine s_box S rfl rfl rfl ?_; clear S a w; intro g2 a w S
 refine s_assign S rfl rfl ?_; clear S a; intro a S
 refine c_end ?_
 refine wp_seq ?_
 refine c_region ?_
 refine s_loada S rfl (.there .here) T26 (s' := [.ints .u64 x1 4]) rfl rfl ?_; clear S a; intro a S
 refine s_loada S rfl .here T26 (s' := [.ints .u64 x2 4]) rfl rfl ?_; clear S a; intro a S
 refine s_eqa S rfl rfl Try.underlying26 Try.underlying24 T24 Q26 rfl ?_; clear S a; intro a S
 refine c_end ?_
 rcases ite_of h0 with ⟨c1, h1⟩ | ⟨c1, h1⟩ <;> clear h0
 ·refine c_condT S rfl c1 ?_
  refine c_region ?_
  refine s_assign S rfl rfl ?_; clear S a; intro a S
  refine c_end ?_
  refine wp_ret ?_
  refine x_thenR ?_
  obtain rfl := Option.some.inj h1
  exact b_ret1 (d := (.v (.int .i64 0))) S rfl rfl fun ok => S.retX (Hx := []) hb _ _ (() : Unit) .nil ok
 ·refine c_condF S rfl c1 ?_
  refine wp_skip ?_
  refine x_thenN ?_
  refine c_region ?_
  refine s_assign S rfl rfl ?_; clear S a; intro a S
  refine c_end ?_
  refine wp_seq_k ?_
  intro K1 hK1
  have j1 : ∀ (m : Mem) (y1 : Int) (g9 : Nat) (g10 : Nat) (a : Act) (w : World), St 25 m b0 [(5, (.v (.int .i64 y1))), (3, (.v (.pointer (some ⟨g9, 0, none⟩)))), (2, (.v (.pointer (some ⟨g10, 0, none⟩))))] [Res.cells g9 26 [.ints .u64 x2 4], Res.cells g10 26 [.ints .u64 x1 4]] a w → word_Compare.j1 x1 x2 y1 = some r → K1 a w := by
   intro m y1 g9 g10 a w S h0
   delta word_Compare.j1 at h0
   refine hK1 a w ?_
   refine wp_seq ?_
   refine wp_seq (c_heldS S (.take 0 (.take 1 (.take 2 (.take 3 (.take 4 (.take 5 (.take 6 .done))))))) 7 [Res.cells g9 26 [.ints .u64 x2 4], Res.cells g10 26 [.ints .u64 x1 4]] (.cons .here (.cons .here .nil)) ⟨Res.stay_cells, Res.stay_cells, trivial⟩ [(5, (.v (.int .i64 y1))), (3, (.v (.pointer (some ⟨g9, 0, none⟩)))), (2, (.v (.pointer (some ⟨g10, 0, none⟩))))] (subR rfl) (by kernel_rfl) (by kernel_rfl) ?_); clear S; intro w S CL hw le
   refine h_move S CL hw le (subR rfl) rfl rfl rfl trivial ?_; clear S CL a; intro a S CL
   obtain ⟨c2, h1⟩ := chk_of h0; clear h0
   refine h_iaddr S CL hw le (subR rfl) rfl rfl Try.underlying26 T24 c2.1 c2.2 (mul1 _ _) rfl rfl trivial ?_; clear S CL a; intro a S CL
   refine h_loadi S CL hw le (subR rfl) (i := y1) rfl (.there .here) T24 .here rfl c2.1 c2.2 rfl rfl trivial ?_; clear S CL a; intro a S CL
   refine h_move S CL hw le (subR rfl) rfl rfl rfl trivial ?_; clear S CL a; intro a S CL
   refine h_iaddr S CL hw le (subR rfl) rfl rfl Try.underlying26 T24 c2.1 c2.2 (mul1 _ _) rfl rfl trivial ?_; clear S CL a; intro a S CL
   refine h_loadi S CL hw le (subR rfl) (i := y1) rfl .here T24 .here rfl c2.1 c2.2 rfl rfl trivial ?_; clear S CL a; intro a S CL
   refine h_bin S CL hw le (subR rfl) rfl rfl rfl rfl rfl trivial ?_; clear S CL a; intro a S CL
   refine h_done ?_; clear CL hw le
   refine x_thenN ?_
   rcases ite_of h1 with ⟨c3, h2⟩ | ⟨c3, h2⟩ <;> clear h1
   ·refine c_condT S rfl c3 ?_
    refine c_region ?_
    refine s_assign S rfl rfl ?_; clear S a; intro a S
    refine c_end ?_
    refine wp_ret ?_
    refine x_thenR ?_
    obtain rfl := Option.some.inj h2
    exact b_ret1 (d := (.v (.int .i64 (-1)))) S rfl rfl fun ok => S.retX (Hx := []) hb _ _ (() : Unit) .nil ok
   ·refine c_condF S rfl c3 ?_
    refine wp_skip ?_
    refine x_thenN ?_
    refine c_region ?_
    refine s_assign S rfl rfl ?_; clear S a; intro a S
    refine c_end ?_
    refine wp_ret ?_
    obtain rfl := Option.some.inj h2
    exact b_ret1 (d := (.v (.int .i64 1))) S rfl rfl fun ok => S.retX (Hx := []) hb _ _ (() : Unit) .nil ok
  refine wp_block ?_
  refine c_loop (fun q1 a w => ∃ (m : Mem) (y3 : Int) (g15 : Nat) (g16 : Nat), St 25 m b0 [(5, (.v (.int .i64 y3))), (3, (.v (.pointer (some ⟨g15, 0, none⟩)))), (2, (.v (.pointer (some ⟨g16, 0, none⟩))))] [Res.cells g15 26 [.ints .u64 x2 4], Res.cells g16 26 [.ints .u64 x1 4]] a w ∧ word_Compare.l1 x1 x2 q1 y3 = some r) ?_ ?_ (k := k) ⟨_, 3, g2, g1, (S.sub (subR rfl) (.cons .here (.cons .here .nil))), h1⟩
  ·rintro a w ⟨m, y3, g15, g16, S, h0⟩
   exact (nomatch (show (none : Option Int) = some r from h0))
  ·clear S h1
   rintro q1 a w ⟨m, y3, g15, g16, S, h0⟩
   replace h0 : word_Compare.b1 x1 x2 (word_Compare.l1 x1 x2 q1) y3 = some r := h0
   delta word_Compare.b1 at h0
   refine wp_seq ?_
   refine wp_seq (c_heldS S (.take 0 (.take 1 (.take 2 (.take 3 (.take 4 (.take 5 (.take 6 .done))))))) 7 [Res.cells g15 26 [.ints .u64 x2 4], Res.cells g16 26 [.ints .u64 x1 4]] (.cons .here (.cons .here .nil)) ⟨Res.stay_cells, Res.stay_cells, trivial⟩ [(5, (.v (.int .i64 y3))), (3, (.v (.pointer (some ⟨g15, 0, none⟩)))), (2, (.v (.pointer (some ⟨g16, 0, none⟩))))] (subR rfl) (by kernel_rfl) (by kernel_rfl) ?_); clear S; intro w S CL hw le
   refine h_move S CL hw le (subR rfl) rfl rfl rfl trivial ?_; clear S CL a; intro a S CL
   obtain ⟨c4, h1⟩ := chk_of h0; clear h0
   refine h_iaddr S CL hw le (subR rfl) rfl rfl Try.underlying26 T24 c4.1 c4.2 (mul1 _ _) rfl rfl trivial ?_; clear S CL a; intro a S CL
   refine h_loadi S CL hw le (subR rfl) (i := y3) rfl (.there .here) T24 .here rfl c4.1 c4.2 rfl rfl trivial ?_; clear S CL a; intro a S CL
   refine h_move S CL hw le (subR rfl) rfl rfl rfl trivial ?_; clear S CL a; intro a S CL
   refine h_iaddr S CL hw le (subR rfl) rfl rfl Try.underlying26 T24 c4.1 c4.2 (mul1 _ _) rfl rfl trivial ?_; clear S CL a; intro a S CL
   refine h_loadi S CL hw le (subR rfl) (i := y3) rfl .here T24 .here rfl c4.1 c4.2 rfl rfl trivial ?_; clear S CL a; intro a S CL
   refine h_bin S CL hw le (subR rfl) rfl rfl rfl rfl rfl trivial ?_; clear S CL a; intro a S CL
   refine h_done ?_; clear CL hw le
   refine x_thenN ?_
   rcases ite_of h1 with ⟨c5, h2⟩ | ⟨c5, h2⟩ <;> clear h1
   ·refine c_condT S rfl c5 ?_
    refine wp_skip ?_
    refine x_thenN ?_
    refine wp_block ?_
    refine c_region' ?_
    refine s_move S rfl rfl ?_; clear S a; intro a S
    refine s_bin S rfl rfl rfl rfl ?_; clear S a; intro a S
    refine s_assign S rfl rfl ?_; clear S a; intro a S
    refine c_end' ?_
    refine x_blockN ?_
    refine x_thenN ?_
    exact ⟨_, (wr .i64 (y3 - 1)), g15, g16, (S.sub (subR rfl) (.cons .here (.cons .here .nil))), h2⟩
   ·refine c_condF S rfl c5 ?_
    refine wp_exit ?_
    refine x_thenX ?_
    refine x_thenX ?_
    refine x_blockX ?_
    refine x_thenN ?_
    exact j1 _ y3 g15 g16 a w (S.sub (subR rfl) (.cons .here (.cons .here .nil))) h2
/-! smithy/store.Right -/
abbrev store_Right.Ty : Type := ((List Int) × Int × (List Int) × (List Int) × (List ((List Int) × (List Int)))) → Option Bool
def store_Right.Ctr (s : store_Right.Ty) : Prop := ∀ (x1 : (List Int) × Int × (List Int) × (List Int) × (List ((List Int) × (List Int)))) (ch_0_0 : Option Addr) (ch_0_1 : Nat) (ch_0_2 : Option Addr) (ch_0_3 : Nat) (r : Bool) (h0 : s x1 = some r) (mi : Mem) (w0 : World), okL mi [(.agg [.ints .u8 x1.1 20, .one (.int .u64 x1.2.1), .ints .u64 x1.2.2.1 4, .sl ch_0_0 (x1.2.2.2.1).length ch_0_1 (RdS (Ty.int .u8) ch_0_0 x1.2.2.2.1), .sl ch_0_2 (x1.2.2.2.2).length ch_0_3 (RdS Y66 ch_0_2 x1.2.2.2.2)])] → Pre mi [] w0 → Calls Try.prog 10 (([(.agg [.ints .u8 x1.1 20, .one (.int .u64 x1.2.1), .ints .u64 x1.2.2.1 4, .sl ch_0_0 (x1.2.2.2.1).length ch_0_1 (RdS (Ty.int .u8) ch_0_0 x1.2.2.2.1), .sl ch_0_2 (x1.2.2.2.2).length ch_0_3 (RdS Y66 ch_0_2 x1.2.2.2.2)])] : List D).map D.val).toArray w0 (RetX mi [] (fun (ch : Unit) => ((.v (.bool r)) : D)) (fun (ch : Unit) => []) w0)
def store_Right.j1 : Option Bool := some true
def store_Right.j2 (y1 : Int) (rec1 : Int → Option Bool) (y2 : Bool) : Option Bool := if y2 = true then (some false) else (rec1 (wr .i64 (y1 + 1)))
def store_Right.b1 (k : Nat) (x1 : (List Int) × Int × (List Int) × (List Int) × (List ((List Int) × (List Int)))) (rec1 : Int → Option Bool) (y1 : Int) : Option Bool := if (decide (y1 < ((x1.2.2.2.2).length : Int))) = true then (if (0 : Int) ≤ y1 ∧ y1 < ((x1.2.2.2.2).length : Int) then (if (decide ((gt x1.2.2.2.2 y1).2 = [0, 0, 0, 0])) = true then (store_Right.j2 y1 rec1 true) else (if (decide (0 < y1)) = true then (if (0 : Int) ≤ (wr .i64 (y1 - 1)) ∧ (wr .i64 (y1 - 1)) < ((x1.2.2.2.2).length : Int) then ((word_Compare.f k ((gt x1.2.2.2.2 (wr .i64 (y1 - 1))).1) ((gt x1.2.2.2.2 y1).1)).bind fun t1 => (store_Right.j2 y1 rec1 (decide (0 ≤ t1)))) else none) else (store_Right.j2 y1 rec1 false))) else none) else store_Right.j1
def store_Right.l1 (k : Nat) (x1 : (List Int) × Int × (List Int) × (List Int) × (List ((List Int) × (List Int)))) : Nat → Int → Option Bool
  | 0, _ => none
  | q + 1, y1 => store_Right.b1 k x1 (store_Right.l1 k x1 q) y1
def store_Right.f (k : Nat) (x1 : (List Int) × Int × (List Int) × (List Int) × (List ((List Int) × (List Int)))) : Option Bool := store_Right.l1 k x1 k 0
theorem store_Right.ok (k : Nat) : store_Right.Ctr (store_Right.f k) := by
 intro x1 ch_0_0 ch_0_1 ch_0_2 ch_0_3 r h0 mi w0 ok hm
 delta store_Right.f at h0
 refine c_enterX (n := 35) [(.agg [.ints .u8 x1.1 20, .one (.int .u64 x1.2.1), .ints .u64 x1.2.2.1 4, .sl ch_0_0 (x1.2.2.2.1).length ch_0_1 (RdS (Ty.int .u8) ch_0_0 x1.2.2.2.1), .sl ch_0_2 (x1.2.2.2.2).length ch_0_3 (RdS Y66 ch_0_2 x1.2.2.2.2)])] (l := [(0, (.agg [.ints .u8 x1.1 20, .one (.int .u64 x1.2.1), .ints .u64 x1.2.2.1 4, .sl ch_0_0 (x1.2.2.2.1).length ch_0_1 (RdS (Ty.int .u8) ch_0_0 x1.2.2.2.1), .sl ch_0_2 (x1.2.2.2.2).length ch_0_3 (RdS Y66 ch_0_2 x1.2.2.2.2)]))]) Try.func10 rfl rfl rfl rfl ok hm ?_
 clear ok hm
 intro b0 hb a S
 refine c_region ?_
 refine s_box S rfl rfl rfl ?_; clear S a; intro g1 a w S
 refine s_assign S rfl rfl ?_; clear S a; intro a S
 refine c_end ?_
 refine wp_seq_k ?_
 intro K1 hK1
 have j1 : ∀ (m : Mem) (a : Act) (w : World), St 35 m b0 [] [] a w → store_Right.j1 = some r → K1 a w := by
  intro m a w S h0
  delta store_Right.j1 at h0
  refine hK1 a w ?_
  refine c_region ?_
  refine s_assign S rfl rfl ?_; clear S a; intro a S
  refine c_end ?_
  refine wp_ret ?_
  obtain rfl := Option.some.inj h0
  exact b_ret1 (d := (.v (.bool true))) S rfl rfl fun ok => S.retX (Hx := []) hb _ _ (() : Unit) .nil ok
 refine c_region ?_
 refine s_fieldAddr S rfl I30_4 T28 (by decide) rfl rfl ?_; clear S a; intro a S
 refine s_loadSl S rfl .here T28 (A := ch_0_2) (len := (x1.2.2.2.2).length) (cap := ch_0_3) rfl rfl ?_; clear S a; intro a S
 refine s_lenS S rfl Try.underlying28 rfl ?_; clear S a; intro a S
 refine s_move S rfl rfl ?_; clear S a; intro a S
 refine c_end ?_
 refine wp_block ?_
 refine c_loop (fun q1 a w => ∃ (m : Mem) (y1 : Int) (g15 : Nat), St 35 m b0 [(8, (.v (.int .i64 y1))), (7, (.v (.int .i64 ((x1.2.2.2.2).length : Int)))), (6, (.sl ch_0_2 (x1.2.2.2.2).length ch_0_3 (RdS Y66 ch_0_2 x1.2.2.2.2))), (1, (.v (.pointer (some ⟨g15, 0, none⟩))))] [Res.cells g15 30 [.ints .u8 x1.1 20, .one (.int .u64 x1.2.1), .ints .u64 x1.2.2.1 4, .sl ch_0_0 (x1.2.2.2.1).length ch_0_1 (RdS (Ty.int .u8) ch_0_0 x1.2.2.2.1), .sl ch_0_2 (x1.2.2.2.2).length ch_0_3 (RdS Y66 ch_0_2 x1.2.2.2.2)]] a w ∧ store_Right.l1 k x1 q1 y1 = some r) ?_ ?_ (k := k) ⟨_, 0, g1, (S.sub (subR rfl) (.cons .here .nil)), h0⟩
 ·rintro a w ⟨m, y1, g15, S, h0⟩
  exact (nomatch (show (none : Option Bool) = some r from h0))
 ·clear S h0
  rintro q1 a w ⟨m, y1, g15, S, h0⟩
  replace h0 : store_Right.b1 k x1 (store_Right.l1 k x1 q1) y1 = some r := h0
  delta store_Right.b1 at h0
  refine c_region ?_
  refine s_bin S rfl rfl rfl rfl ?_; clear S a; intro a S
  refine c_end ?_
  refine wp_seq ?_
  rcases ite_of h0 with ⟨c1, h1⟩ | ⟨c1, h1⟩ <;> clear h0
  ·refine c_condT S rfl c1 ?_
   refine wp_skip ?_
   refine x_thenN ?_
   refine wp_seq ?_
   refine wp_block ?_
   refine c_region ?_
   refine s_move S rfl rfl ?_; clear S a; intro a S
   obtain ⟨c2, h2⟩ := chk_of h1; clear h1
   refine s_iaddrS S rfl rfl rfl Try.underlying28 T66 c2.1 c2.2 rfl ?_; clear S a; intro p1 a S
   refine s_ldA S (fun (c : Unit × Unit) => [.ints .u64 ((gt x1.2.2.2.2 y1).1) 4, .ints .u64 ((gt x1.2.2.2.2 y1).2) 4]) rfl T66 (fun _ => rfl) rfl ?_; clear S a; intro ch1 a S
   refine s_alloc S Z66 rfl ⟨rfl, rfl, trivial⟩ rfl ?_; clear S a w; intro g16 a w S
   refine s_assign S rfl rfl ?_; clear S a; intro a S
   refine s_store S rfl rfl rfl (s' := [.ints .u64 ((gt x1.2.2.2.2 y1).1) 4, .ints .u64 ((gt x1.2.2.2.2 y1).2) 4]) .here T66 rfl rfl ?_; clear S w; intro w S
   refine c_end ?_
   refine wp_seq_k ?_
   intro K2 hK2
   have j2 : ∀ (m : Mem) (y2 : Bool) (g17 : Nat) (a : Act) (w : World), St 35 m b0 [(33, (.v (.bool y2))), (8, (.v (.int .i64 y1))), (7, (.v (.int .i64 ((x1.2.2.2.2).length : Int)))), (6, (.sl ch_0_2 (x1.2.2.2.2).length ch_0_3 (RdS Y66 ch_0_2 x1.2.2.2.2))), (1, (.v (.pointer (some ⟨g17, 0, none⟩))))] [Res.cells g17 30 [.ints .u8 x1.1 20, .one (.int .u64 x1.2.1), .ints .u64 x1.2.2.1 4, .sl ch_0_0 (x1.2.2.2.1).length ch_0_1 (RdS (Ty.int .u8) ch_0_0 x1.2.2.2.1), .sl ch_0_2 (x1.2.2.2.2).length ch_0_3 (RdS Y66 ch_0_2 x1.2.2.2.2)]] a w → store_Right.j2 y1 (store_Right.l1 k x1 q1) y2 = some r → K2 a w := by
    intro m y2 g17 a w S h0
    delta store_Right.j2 at h0
    refine hK2 a w ?_
    rcases ite_of h0 with ⟨c3, h1⟩ | ⟨c3, h1⟩ <;> clear h0
    ·refine c_condT S rfl c3 ?_
     refine c_region ?_
     refine s_assign S rfl rfl ?_; clear S a; intro a S
     refine c_end ?_
     refine wp_ret ?_
     refine x_blockR ?_
     refine x_thenR ?_
     refine x_thenR ?_
     refine x_blockR ?_
     refine x_thenR ?_
     obtain rfl := Option.some.inj h1
     exact b_ret1 (d := (.v (.bool false))) S rfl rfl fun ok => S.retX (Hx := []) hb _ _ (() : Unit) .nil ok
    ·refine c_condF S rfl c3 ?_
     refine wp_skip ?_
     refine x_blockN ?_
     refine x_thenN ?_
     refine c_region' ?_
     refine s_bin S rfl rfl rfl rfl ?_; clear S a; intro a S
     refine s_move S rfl rfl ?_; clear S a; intro a S
     refine c_end' ?_
     refine x_thenN ?_
     exact ⟨_, (wr .i64 (y1 + 1)), g17, (S.sub (subR rfl) (.cons .here .nil)), h1⟩
   refine c_heldS S (.take 0 (.take 1 (.take 2 (.take 3 (.take 4 (.take 5 (.take 6 (.take 7 (.take 8 (.take 9 (.take 10 (.take 11 (.take 12 (.take 13 (.take 14 (.take 15 (.take 16 (.alts (.run 17 true (.take 18 (.take 19 (.take 20 .done))) .nil))))))))))))))))))) 21 [Res.cells g16 66 [.ints .u64 ((gt x1.2.2.2.2 y1).1) 4, .ints .u64 ((gt x1.2.2.2.2 y1).2) 4], Res.cells g15 30 [.ints .u8 x1.1 20, .one (.int .u64 x1.2.1), .ints .u64 x1.2.2.1 4, .sl ch_0_0 (x1.2.2.2.1).length ch_0_1 (RdS (Ty.int .u8) ch_0_0 x1.2.2.2.1), .sl ch_0_2 (x1.2.2.2.2).length ch_0_3 (RdS Y66 ch_0_2 x1.2.2.2.2)]] (.cons .here (.cons .here .nil)) ⟨Res.stay_cells, Res.stay_cells, trivial⟩ [(3, (.v (.int .i64 y1))), (4, (.v (.pointer (some ⟨g16, 0, none⟩)))), (1, (.v (.pointer (some ⟨g15, 0, none⟩))))] (subR rfl) (by kernel_rfl) (by kernel_rfl) ?_; clear S; intro w S CL hw le
   refine h_fieldAddr S CL hw le (subR rfl) rfl I66_1 T26 (by decide) rfl rfl rfl trivial ?_; clear S CL a; intro a S CL
   refine h_loada S CL hw le (subR rfl) rfl .here T26 (s' := [.ints .u64 ((gt x1.2.2.2.2 y1).2) 4]) rfl rfl rfl trivial ?_; clear S CL a; intro a S CL
   refine h_build S CL hw le (subR rfl) (ds := []) (dv := (.agg [.ints .u64 [0, 0, 0, 0] 4])) rfl (fun _ => by kernel_rfl) ⟨rfl, trivial⟩ rfl rfl trivial ?_; clear S CL a; intro a S CL
   refine h_eqa S CL hw le (subR rfl) rfl rfl Try.underlying26 Try.underlying24 T24 Q26 rfl rfl trivial ?_; clear S CL a; intro a S CL
   refine h_move S CL hw le (subR rfl) rfl rfl rfl trivial ?_; clear S CL a; intro a S CL
   rcases ite_of h2 with ⟨c4, h3⟩ | ⟨c4, h3⟩ <;> clear h2
   ·refine h_skip S CL rfl rfl rfl (ne_bool c4) rfl ?_; clear S CL a; intro a S CL
    refine h_skip S CL rfl rfl rfl (ne_bool c4) rfl ?_; clear S CL a; intro a S CL
    refine h_skip S CL rfl rfl rfl (ne_bool c4) rfl ?_; clear S CL a; intro a S CL
    refine h_skip S CL rfl rfl rfl ne_undef rfl ?_; clear S CL a; intro a S CL
    refine h_skip S CL rfl rfl rfl ne_undef rfl ?_; clear S CL a; intro a S CL
    refine h_skip S CL rfl rfl rfl ne_undef rfl ?_; clear S CL a; intro a S CL
    refine h_skip S CL rfl rfl rfl ne_undef rfl ?_; clear S CL a; intro a S CL
    refine h_skip S CL rfl rfl rfl ne_undef rfl ?_; clear S CL a; intro a S CL
    refine h_skip S CL rfl rfl rfl ne_undef rfl ?_; clear S CL a; intro a S CL
    refine h_skip S CL rfl rfl rfl ne_undef rfl ?_; clear S CL a; intro a S CL
    refine h_skip S CL rfl rfl rfl ne_undef rfl ?_; clear S CL a; intro a S CL
    refine h_skip S CL rfl rfl rfl ne_undef rfl ?_; clear S CL a; intro a S CL
    refine h_skipRt S rfl rfl rfl ne_undef rfl ?_; clear S a; intro a S
    replace hw := CL.again hw S (.cons .here (.cons .here .nil)) le
    refine h_back ⟨fun _ => hw, ?_⟩
    replace CL := CL.add (t := 30) (d := .u) S rfl rfl
    refine h_skip S CL rfl rfl rfl ne_undef rfl ?_; clear S CL a; intro a S CL
    refine h_skip S CL rfl rfl rfl (ne_bool c4) rfl ?_; clear S CL a; intro a S CL
    refine h_pick S CL hw le (subR rfl) (b := true) (hc_of rfl c4) rfl rfl rfl trivial ?_; clear S CL a; intro a S CL
    refine h_done ?_; clear CL hw le
    refine x_thenN ?_
    exact j2 _ true g15 a w (S.sub (subR rfl) (.cons (.there .here) .nil)) h3
   ·refine h_move S CL hw le (subR rfl) rfl rfl rfl ⟨_, _, rfl, rfl, c4⟩ ?_; clear S CL a; intro a S CL
    refine h_bin S CL hw le (subR rfl) rfl rfl rfl rfl rfl ⟨_, _, rfl, rfl, c4⟩ ?_; clear S CL a; intro a S CL
    refine h_move S CL hw le (subR rfl) rfl rfl rfl ⟨_, _, rfl, rfl, c4⟩ ?_; clear S CL a; intro a S CL
    rcases ite_of h3 with ⟨c5, h4⟩ | ⟨c5, h4⟩ <;> clear h3
    ·refine h_fieldAddr S CL hw le (subR rfl) rfl I30_4 T28 (by decide) rfl rfl rfl ⟨_, _, rfl, rfl, c5⟩ ?_; clear S CL a; intro a S CL
     refine h_loadSl S CL hw le (subR rfl) rfl (.there .here) T28 (A := ch_0_2) (len := (x1.2.2.2.2).length) (cap := ch_0_3) rfl rfl rfl ⟨_, _, rfl, rfl, c5⟩ ?_; clear S CL a; intro a S CL
     refine h_move S CL hw le (subR rfl) rfl rfl rfl ⟨_, _, rfl, rfl, c5⟩ ?_; clear S CL a; intro a S CL
     refine h_bin S CL hw le (subR rfl) rfl rfl rfl rfl rfl ⟨_, _, rfl, rfl, c5⟩ ?_; clear S CL a; intro a S CL
     obtain ⟨c6, h5⟩ := chk_of h4; clear h4
     refine h_iaddrS S CL hw le (subR rfl) rfl rfl rfl Try.underlying28 T66 c6.1 c6.2 rfl rfl ⟨_, _, rfl, rfl, c5⟩ ?_; clear S CL a; intro p3 a S CL
     refine h_faddrP S CL hw le (subR rfl) (tF := (Ty.arr .u64 4)) (y := (gt x1.2.2.2.2 (wr .i64 (y1 - 1))).1) rfl I66_0 T26 (by decide) (fun m h => (at_fst (at_0 h))) rfl rfl ⟨_, _, rfl, rfl, c5⟩ ?_; clear S CL a; intro a S CL
     refine h_ldA S CL hw le (subR rfl) (fun (c : Unit) => [.ints .u64 ((gt x1.2.2.2.2 (wr .i64 (y1 - 1))).1) 4]) rfl T26 (fun _ => rfl) rfl rfl ⟨_, _, rfl, rfl, c5⟩ ?_; clear S CL a; intro ch2 a S CL
     refine h_fieldAddr S CL hw le (subR rfl) rfl I66_0 T26 (by decide) rfl rfl rfl ⟨_, _, rfl, rfl, c5⟩ ?_; clear S CL a; intro a S CL
     refine h_loada S CL hw le (subR rfl) rfl .here T26 (s' := [.ints .u64 ((gt x1.2.2.2.2 y1).1) 4]) rfl rfl rfl ⟨_, _, rfl, rfl, c5⟩ ?_; clear S CL a; intro a S CL
     refine h_run' S rfl ⟨_, _, rfl, rfl, c5⟩ ?_
     obtain ⟨t1, et1, h6⟩ := bind_of h5; clear h5
     refine s_callP S (fun (ch : Unit) => ((.v (.int .i64 t1)) : D)) N28 rfl rfl (word_Compare.ok k ((gt x1.2.2.2.2 (wr .i64 (y1 - 1))).1) ((gt x1.2.2.2.2 y1).1) t1 et1 _ _) ?_; clear S a; intro ch3 m le1 a w S
     replace le := le.trans le1
     replace hw := CL.again hw S (.cons .here (.cons .here .nil)) le
     refine h_back ⟨fun _ => hw, ?_⟩
     replace CL := CL.add (t := 30) (d := (.v (.int .i64 t1))) S rfl rfl
     refine h_bin S CL hw le (subR rfl) rfl rfl rfl rfl rfl ⟨_, _, rfl, rfl, c5⟩ ?_; clear S CL a; intro a S CL
     refine h_pick S CL hw le (subR rfl) (b := true) (hc_of rfl c5) rfl rfl rfl ⟨_, _, rfl, rfl, c4⟩ ?_; clear S CL a; intro a S CL
     refine h_pick S CL hw le (subR rfl) (b := false) (hc_of rfl c4) rfl rfl rfl trivial ?_; clear S CL a; intro a S CL
     refine h_done ?_; clear CL hw le
     refine x_thenN ?_
     exact j2 _ (decide (0 ≤ t1)) g15 a w (S.sub (subR rfl) (.cons (.there .here) .nil)) h6
    ·refine h_skip S CL rfl rfl rfl (ne_bool c5) rfl ?_; clear S CL a; intro a S CL
     refine h_skip S CL rfl rfl rfl (ne_bool c5) rfl ?_; clear S CL a; intro a S CL
     refine h_skip S CL rfl rfl rfl (ne_bool c5) rfl ?_; clear S CL a; intro a S CL
     refine h_skip S CL rfl rfl rfl (ne_bool c5) rfl ?_; clear S CL a; intro a S CL
     refine h_skip S CL rfl rfl rfl (ne_bool c5) rfl ?_; clear S CL a; intro a S CL
     refine h_skip S CL rfl rfl rfl (ne_bool c5) rfl ?_; clear S CL a; intro a S CL
     refine h_skip S CL rfl rfl rfl (ne_bool c5) rfl ?_; clear S CL a; intro a S CL
     refine h_skip S CL rfl rfl rfl (ne_bool c5) rfl ?_; clear S CL a; intro a S CL
     refine h_skip S CL rfl rfl rfl (ne_bool c5) rfl ?_; clear S CL a; intro a S CL
     refine h_skipRt S rfl rfl rfl (ne_bool c5) rfl ?_; clear S a; intro a S
     replace hw := CL.again hw S (.cons .here (.cons .here .nil)) le
     refine h_back ⟨fun _ => hw, ?_⟩
     replace CL := CL.add (t := 30) (d := .u) S rfl rfl
     refine h_skip S CL rfl rfl rfl (ne_bool c5) rfl ?_; clear S CL a; intro a S CL
     refine h_pick S CL hw le (subR rfl) (b := false) (hc_of rfl c5) rfl rfl rfl ⟨_, _, rfl, rfl, c4⟩ ?_; clear S CL a; intro a S CL
     refine h_pick S CL hw le (subR rfl) (b := false) (hc_of rfl c4) rfl rfl rfl trivial ?_; clear S CL a; intro a S CL
     refine h_done ?_; clear CL hw le
     refine x_thenN ?_
     exact j2 _ false g15 a w (S.sub (subR rfl) (.cons (.there .here) .nil)) h4
  ·refine c_condF S rfl c1 ?_
   refine wp_exit ?_
   refine x_thenX ?_
   refine x_thenX ?_
   refine x_blockX ?_
   refine x_thenN ?_
   exact j1 _ a w (S.sub trivial .nil) h1
/-! (*smithy/store.Store).Commit$1 -/
abbrev store_Store_Commit_1.Ty : Type := ((List Int) × Int × (List Int) × (List Int) × (List ((List Int) × (List Int)))) → Option Bool
def store_Store_Commit_1.Ctr (s : store_Store_Commit_1.Ty) : Prop := ∀ (x1 : (List Int) × Int × (List Int) × (List Int) × (List ((List Int) × (List Int)))) (ch_0_0 : Option Addr) (ch_0_1 : Nat) (ch_0_2 : Option Addr) (ch_0_3 : Nat) (r : Bool) (h0 : s x1 = some r) (mi : Mem) (w0 : World), okL mi [(.agg [.ints .u8 x1.1 20, .one (.int .u64 x1.2.1), .ints .u64 x1.2.2.1 4, .sl ch_0_0 (x1.2.2.2.1).length ch_0_1 (RdS (Ty.int .u8) ch_0_0 x1.2.2.2.1), .sl ch_0_2 (x1.2.2.2.2).length ch_0_3 (RdS Y66 ch_0_2 x1.2.2.2.2)])] → Pre mi [] w0 → Calls Try.prog 32 (([(.agg [.ints .u8 x1.1 20, .one (.int .u64 x1.2.1), .ints .u64 x1.2.2.1 4, .sl ch_0_0 (x1.2.2.2.1).length ch_0_1 (RdS (Ty.int .u8) ch_0_0 x1.2.2.2.1), .sl ch_0_2 (x1.2.2.2.2).length ch_0_3 (RdS Y66 ch_0_2 x1.2.2.2.2)])] : List D).map D.val).toArray w0 (RetX mi [] (fun (ch : Unit) => ((.v (.bool r)) : D)) (fun (ch : Unit) => []) w0)
def store_Store_Commit_1.f (k : Nat) (x1 : (List Int) × Int × (List Int) × (List Int) × (List ((List Int) × (List Int)))) : Option Bool := (store_Right.f k (x1.1, x1.2.1, x1.2.2.1, x1.2.2.2.1, x1.2.2.2.2)).bind fun t1 => (some (!t1))
theorem store_Store_Commit_1.ok (k : Nat) : store_Store_Commit_1.Ctr (store_Store_Commit_1.f k) := by
 intro x1 ch_0_0 ch_0_1 ch_0_2 ch_0_3 r h0 mi w0 ok hm
 delta store_Store_Commit_1.f at h0
 refine c_enterX (n := 6) [(.agg [.ints .u8 x1.1 20, .one (.int .u64 x1.2.1), .ints .u64 x1.2.2.1 4, .sl ch_0_0 (x1.2.2.2.1).length ch_0_1 (RdS (Ty.int .u8) ch_0_0 x1.2.2.2.1), .sl ch_0_2 (x1.2.2.2.2).length ch_0_3 (RdS Y66 ch_0_2 x1.2.2.2.2)])] (l := [(0, (.agg [.ints .u8 x1.1 20, .one (.int .u64 x1.2.1), .ints .u64 x1.2.2.1 4, .sl ch_0_0 (x1.2.2.2.1).length ch_0_1 (RdS (Ty.int .u8) ch_0_0 x1.2.2.2.1), .sl ch_0_2 (x1.2.2.2.2).length ch_0_3 (RdS Y66 ch_0_2 x1.2.2.2.2)]))]) Try.func32 rfl rfl rfl rfl ok hm ?_
 clear ok hm
 intro b0 hb a S
 refine c_region ?_
 refine s_box S rfl rfl rfl ?_; clear S a; intro g1 a w S
 refine s_assign S rfl rfl ?_; clear S a; intro a S
 refine c_end ?_
 refine c_region ?_
 refine s_loada S rfl .here T30 (s' := [.ints .u8 x1.1 20, .one (.int .u64 x1.2.1), .ints .u64 x1.2.2.1 4, .sl ch_0_0 (x1.2.2.2.1).length ch_0_1 (RdS (Ty.int .u8) ch_0_0 x1.2.2.2.1), .sl ch_0_2 (x1.2.2.2.2).length ch_0_3 (RdS Y66 ch_0_2 x1.2.2.2.2)]) rfl rfl ?_; clear S a; intro a S
 obtain ⟨t1, et1, h1⟩ := bind_of h0; clear h0
 refine s_callP S (fun (ch : Unit) => ((.v (.bool t1)) : D)) N10 rfl rfl (store_Right.ok k (x1.1, x1.2.1, x1.2.2.1, x1.2.2.2.1, x1.2.2.2.2) ch_0_0 ch_0_1 ch_0_2 ch_0_3 t1 et1 _ _) ?_; clear S a w; intro ch1 m le1 a w S
 refine s_not S rfl rfl ?_; clear S a; intro a S
 refine s_assign S rfl rfl ?_; clear S a; intro a S
 refine c_end ?_
 refine wp_ret ?_
 obtain rfl := Option.some.inj h1
 exact b_ret1 (d := (.v (.bool (!t1)))) S rfl rfl fun ok => S.retX (Hx := []) hb _ _ (() : Unit) .nil ok
/-! slices.IndexFunc[[]smithy/api.Account,smithy/api.Account] -/
abbrev api_Account_n43_1f32.Ty : Type := (List L30) → Option Int
def api_Account_n43_1f32.Ctr (s : api_Account_n43_1f32.Ty) : Prop := ∀ (x1 : List L30) (ch_0_0 : Option Addr) (ch_0_1 : Nat) (r : Int) (h0 : s x1 = some r) (mi : Mem) (w0 : World), okL mi [(.sl ch_0_0 (x1).length ch_0_1 (RdS Y30 ch_0_0 x1)), (.v (.func (.func 32) #[] #[]))] → Pre mi [] w0 → Calls Try.prog 43 (([(.sl ch_0_0 (x1).length ch_0_1 (RdS Y30 ch_0_0 x1)), (.v (.func (.func 32) #[] #[]))] : List D).map D.val).toArray w0 (RetX mi [] (fun (ch : Unit) => ((.v (.int .i64 r)) : D)) (fun (ch : Unit) => []) w0)
def api_Account_n43_1f32.j1 : Option Int := some (-1)
def api_Account_n43_1f32.b1 (k : Nat) (x1 : List L30) (rec1 : Int → Option Int) (y1 : Int) : Option Int := if (decide (y1 < ((x1).length : Int))) = true then (if (0 : Int) ≤ y1 ∧ y1 < ((x1).length : Int) then ((store_Store_Commit_1.f k ((gt x1 y1).1, (gt x1 y1).2.1, (gt x1 y1).2.2.1, (gt x1 y1).2.2.2.1, (gt x1 y1).2.2.2.2)).bind fun t1 => (if t1 = true then (some y1) else (rec1 (wr .i64 (y1 + 1))))) else none) else api_Account_n43_1f32.j1
def api_Account_n43_1f32.l1 (k : Nat) (x1 : List L30) : Nat → Int → Option Int
  | 0, _ => none
  | q + 1, y1 => api_Account_n43_1f32.b1 k x1 (api_Account_n43_1f32.l1 k x1 q) y1
def api_Account_n43_1f32.f (k : Nat) (x1 : List L30) : Option Int := api_Account_n43_1f32.l1 k x1 k 0
theorem api_Account_n43_1f32.ok (k : Nat) : api_Account_n43_1f32.Ctr (api_Account_n43_1f32.f k) := by
 intro x1 ch_0_0 ch_0_1 r h0 mi w0 ok hm
 delta api_Account_n43_1f32.f at h0
 refine c_enterX (n := 19) [(.sl ch_0_0 (x1).length ch_0_1 (RdS Y30 ch_0_0 x1)), (.v (.func (.func 32) #[] #[]))] (l := [(0, (.sl ch_0_0 (x1).length ch_0_1 (RdS Y30 ch_0_0 x1))), (1, (.v (.func (.func 32) #[] #[])))]) Try.func43 rfl rfl rfl rfl ok hm ?_
 clear ok hm
 intro b0 hb a S
 refine c_region ?_
 refine s_assign S rfl rfl ?_; clear S a; intro a S
 refine c_end ?_
 refine wp_seq_k ?_
 intro K1 hK1
 have j1 : ∀ (m : Mem) (a : Act) (w : World), St 19 m b0 [] [] a w → api_Account_n43_1f32.j1 = some r → K1 a w := by
  intro m a w S h0
  delta api_Account_n43_1f32.j1 at h0
  refine hK1 a w ?_
  refine c_region ?_
  refine s_assign S rfl rfl ?_; clear S a; intro a S
  refine c_end ?_
  refine wp_ret ?_
  obtain rfl := Option.some.inj h0
  exact b_ret1 (d := (.v (.int .i64 (-1)))) S rfl rfl fun ok => S.retX (Hx := []) hb _ _ (() : Unit) .nil ok
 refine c_region ?_
 refine s_move S rfl rfl ?_; clear S a; intro a S
 refine s_lenS S rfl Try.underlying32 rfl ?_; clear S a; intro a S
 refine s_move S rfl rfl ?_; clear S a; intro a S
 refine c_end ?_
 refine wp_block ?_
 refine c_loop (fun q1 a w => ∃ (m : Mem) (y1 : Int), St 19 m b0 [(8, (.v (.int .i64 y1))), (7, (.v (.int .i64 ((x1).length : Int)))), (0, (.sl ch_0_0 (x1).length ch_0_1 (RdS Y30 ch_0_0 x1))), (1, (.v (.func (.func 32) #[] #[])))] [] a w ∧ api_Account_n43_1f32.l1 k x1 q1 y1 = some r) ?_ ?_ (k := k) ⟨_, 0, (S.sub (subR rfl) .nil), h0⟩
 ·rintro a w ⟨m, y1, S, h0⟩
  exact (nomatch (show (none : Option Int) = some r from h0))
 ·clear S h0
  rintro q1 a w ⟨m, y1, S, h0⟩
  replace h0 : api_Account_n43_1f32.b1 k x1 (api_Account_n43_1f32.l1 k x1 q1) y1 = some r := h0
  delta api_Account_n43_1f32.b1 at h0
  refine c_region ?_
  refine s_bin S rfl rfl rfl rfl ?_; clear S a; intro a S
  refine c_end ?_
  refine wp_seq ?_
  rcases ite_of h0 with ⟨c1, h1⟩ | ⟨c1, h1⟩ <;> clear h0
  ·refine c_condT S rfl c1 ?_
   refine wp_skip ?_
   refine x_thenN ?_
   refine wp_seq ?_
   refine wp_block ?_
   refine c_region ?_
   refine s_move S rfl rfl ?_; clear S a; intro a S
   refine s_assign S rfl rfl ?_; clear S a; intro a S
   refine c_end ?_
   refine c_region ?_
   refine s_move S rfl rfl ?_; clear S a; intro a S
   refine s_move S rfl rfl ?_; clear S a; intro a S
   refine s_move S rfl rfl ?_; clear S a; intro a S
   obtain ⟨c2, h2⟩ := chk_of h1; clear h1
   refine s_iaddrS S rfl rfl rfl Try.underlying32 T30 c2.1 c2.2 rfl ?_; clear S a; intro p1 a S
   refine s_ldA S (fun (c : Unit × Unit × Unit × (Option Addr × Nat) × (Option Addr × Nat)) => [.ints .u8 ((gt x1 y1).1) 20, .one (.int .u64 ((gt x1 y1).2.1)), .ints .u64 ((gt x1 y1).2.2.1) 4, .sl c.2.2.2.1.1 ((gt x1 y1).2.2.2.1).length c.2.2.2.1.2 (RdS (Ty.int .u8) c.2.2.2.1.1 ((gt x1 y1).2.2.2.1)), .sl c.2.2.2.2.1 ((gt x1 y1).2.2.2.2).length c.2.2.2.2.2 (RdS Y66 c.2.2.2.2.1 ((gt x1 y1).2.2.2.2))]) rfl T30 (fun _ => rfl) rfl ?_; clear S a; intro ch1 a S
   obtain ⟨t1, et1, h3⟩ := bind_of h2; clear h2
   refine s_callP S (fun (ch : Unit) => ((.v (.bool t1)) : D)) N32 rfl rfl (store_Store_Commit_1.ok k ((gt x1 y1).1, (gt x1 y1).2.1, (gt x1 y1).2.2.1, (gt x1 y1).2.2.2.1, (gt x1 y1).2.2.2.2) ch1.2.2.2.1.1 ch1.2.2.2.1.2 ch1.2.2.2.2.1 ch1.2.2.2.2.2 t1 et1 _ _) ?_; clear S a w; intro ch2 m le1 a w S
   refine c_end ?_
   rcases ite_of h3 with ⟨c3, h4⟩ | ⟨c3, h4⟩ <;> clear h3
   ·refine c_condT S rfl c3 ?_
    refine c_region ?_
    refine s_move S rfl rfl ?_; clear S a; intro a S
    refine s_assign S rfl rfl ?_; clear S a; intro a S
    refine c_end ?_
    refine wp_ret ?_
    refine x_blockR ?_
    refine x_thenR ?_
    refine x_thenR ?_
    refine x_blockR ?_
    refine x_thenR ?_
    obtain rfl := Option.some.inj h4
    exact b_ret1 (d := (.v (.int .i64 y1))) S rfl rfl fun ok => S.retX (Hx := []) hb _ _ (() : Unit) .nil ok
   ·refine c_condF S rfl c3 ?_
    refine wp_skip ?_
    refine x_blockN ?_
    refine x_thenN ?_
    refine c_region' ?_
    refine s_bin S rfl rfl rfl rfl ?_; clear S a; intro a S
    refine s_move S rfl rfl ?_; clear S a; intro a S
    refine c_end' ?_
    refine x_thenN ?_
    exact ⟨_, (wr .i64 (y1 + 1)), (S.sub (subR rfl) .nil), h4⟩
  ·refine c_condF S rfl c1 ?_
   refine wp_exit ?_
   refine x_thenX ?_
   refine x_thenX ?_
   refine x_blockX ?_
   refine x_thenN ?_
   exact j1 _ a w (S.sub trivial .nil) h1
/-! slices.ContainsFunc[[]smithy/api.Account,smithy/api.Account] -/
abbrev api_Account_n31_1f32.Ty : Type := (List L30) → Option Bool
def api_Account_n31_1f32.Ctr (s : api_Account_n31_1f32.Ty) : Prop := ∀ (x1 : List L30) (ch_0_0 : Option Addr) (ch_0_1 : Nat) (r : Bool) (h0 : s x1 = some r) (mi : Mem) (w0 : World), okL mi [(.sl ch_0_0 (x1).length ch_0_1 (RdS Y30 ch_0_0 x1)), (.v (.func (.func 32) #[] #[]))] → Pre mi [] w0 → Calls Try.prog 31 (([(.sl ch_0_0 (x1).length ch_0_1 (RdS Y30 ch_0_0 x1)), (.v (.func (.func 32) #[] #[]))] : List D).map D.val).toArray w0 (RetX mi [] (fun (ch : Unit) => ((.v (.bool r)) : D)) (fun (ch : Unit) => []) w0)
def api_Account_n31_1f32.f (k : Nat) (x1 : List L30) : Option Bool := (api_Account_n43_1f32.f k x1).bind fun t1 => (some (decide (0 ≤ t1)))
theorem api_Account_n31_1f32.ok (k : Nat) : api_Account_n31_1f32.Ctr (api_Account_n31_1f32.f k) := by
 intro x1 ch_0_0 ch_0_1 r h0 mi w0 ok hm
 delta api_Account_n31_1f32.f at h0
 refine c_enterX (n := 9) [(.sl ch_0_0 (x1).length ch_0_1 (RdS Y30 ch_0_0 x1)), (.v (.func (.func 32) #[] #[]))] (l := [(0, (.sl ch_0_0 (x1).length ch_0_1 (RdS Y30 ch_0_0 x1))), (1, (.v (.func (.func 32) #[] #[])))]) Try.func31 rfl rfl rfl rfl ok hm ?_
 clear ok hm
 intro b0 hb a S
 refine c_region ?_
 refine s_assign S rfl rfl ?_; clear S a; intro a S
 refine c_end ?_
 refine c_region ?_
 refine s_move S rfl rfl ?_; clear S a; intro a S
 refine s_move S rfl rfl ?_; clear S a; intro a S
 obtain ⟨t1, et1, h1⟩ := bind_of h0; clear h0
 refine s_callP S (fun (ch : Unit) => ((.v (.int .i64 t1)) : D)) N43 rfl rfl (api_Account_n43_1f32.ok k x1 ch_0_0 ch_0_1 t1 et1 _ _) ?_; clear S a; intro ch1 m le1 a w S
 refine s_bin S rfl rfl rfl rfl ?_; clear S a; intro a S
 refine s_assign S rfl rfl ?_; clear S a; intro a S
 refine c_end ?_
 refine wp_ret ?_
 obtain rfl := Option.some.inj h1
 exact b_ret1 (d := (.v (.bool (decide (0 ≤ t1))))) S rfl rfl fun ok => S.retX (Hx := []) hb _ _ (() : Unit) .nil ok
/-! slices.Clone[[]byte,byte] -/
abbrev slices_Clone_byte_byte.Ty : Type := (List Int) → Option ((List Int))
def slices_Clone_byte_byte.Ctr (s : slices_Clone_byte_byte.Ty) : Prop := ∀ (x1 : List Int) (ch_0_0 : Option Addr) (ch_0_1 : Nat) (r : (List Int)) (h0 : s x1 = some r) (mi : Mem) (w0 : World), okL mi [(.sl ch_0_0 (x1).length ch_0_1 (RdS (Ty.int .u8) ch_0_0 x1))] → Pre mi [] w0 → Calls Try.prog 44 (([(.sl ch_0_0 (x1).length ch_0_1 (RdS (Ty.int .u8) ch_0_0 x1))] : List D).map D.val).toArray w0 (RetX mi [] (fun (ch : (Option Addr) × Nat × Nat) => ((.v (.slice ch.1 ch.2.1 ch.2.2)) : D)) (fun (ch : (Option Addr) × Nat × Nat) => [Res.row (Ty.int .u8) 5 ch.1 ch.2.1 ch.2.2 r]) w0)
def slices_Clone_byte_byte.f (x1 : List Int) : Option ((List Int)) := if ((([] : List Int)).length + (x1).length) * 1 ≤ 140737488355328 then (some (([] : List Int) ++ x1)) else none
theorem slices_Clone_byte_byte.ok : slices_Clone_byte_byte.Ctr (slices_Clone_byte_byte.f) := by
 intro x1 ch_0_0 ch_0_1 r h0 mi w0 ok hm
 delta slices_Clone_byte_byte.f at h0
 refine c_enterX (n := 8) [(.sl ch_0_0 (x1).length ch_0_1 (RdS (Ty.int .u8) ch_0_0 x1))] (l := [(0, (.sl ch_0_0 (x1).length ch_0_1 (RdS (Ty.int .u8) ch_0_0 x1)))]) Try.func44 rfl rfl rfl rfl ok hm ?_
 clear ok hm
 intro b0 hb a S
 refine c_region ?_
 refine s_assign S rfl rfl ?_; clear S a; intro a S
 refine c_end ?_
 refine wp_seq ?_
 refine c_region ?_
 refine s_move S rfl rfl ?_; clear S a; intro a S
 refine s_eqnil S (b := (ch_0_0).isNone) (d := (.sl ch_0_0 (x1).length ch_0_1 (RdS (Ty.int .u8) ch_0_0 x1))) rfl rfl Try.underlying27 rfl rfl rfl ?_; clear S a; intro a S
 refine c_end ?_
 cases hc : (ch_0_0).isNone
 ·refine c_condF S rfl hc ?_
  refine wp_skip ?_
  refine x_thenN ?_
  refine c_region ?_
  refine s_bldSl S (ty' := (Ty.int .u8)) (ds := []) (z := 0) (c0 := ()) (ys := ([] : List Int)) (cs := []) rfl Try.underlying27 J5 Z5 rfl ⟨rfl, trivial⟩ rfl rfl rfl rfl rfl rfl ?_; clear S a; intro g1 a w S
  refine s_move S rfl rfl ?_; clear S a; intro a S
  obtain ⟨c1, h1⟩ := chk_of h0; clear h0
  refine s_app S (k2 := ((x1).length)) (ys := x1) rfl (fun _ _ => .here) rfl rfl rfl (RdS.src (S.get 6 (.sl ch_0_0 (x1).length ch_0_1 (RdS (Ty.int .u8) ch_0_0 x1)) rfl).2.2.2.1 (by decide) S.frz) Try.underlying27 J5 c1 rfl ?_; clear S a w; intro A1 cp1 a w S
  refine s_assign S rfl rfl ?_; clear S a; intro a S
  refine c_end ?_
  refine wp_ret ?_
  obtain rfl := Option.some.inj h1
  exact b_ret1 (d := (.v (.slice A1 (0 + ((x1).length)) cp1))) S rfl rfl fun ok => S.retX (Hx := []) hb _ _ ((A1, 0 + ((x1).length), cp1) : (Option Addr) × Nat × Nat) (.cons .here .nil) ok
 ·have hxs : x1 = [] := rd_nil hc (S.get 3 (.sl ch_0_0 (x1).length ch_0_1 (RdS (Ty.int .u8) ch_0_0 x1)) rfl).2.2.2.1
  have h1 : (some ([] : List Int)) = some r := by simpa [hxs] using h0
  clear h0
  refine c_condT S rfl hc ?_
  refine c_region ?_
  refine s_assign S rfl rfl ?_; clear S a; intro a S
  refine c_end ?_
  refine wp_ret ?_
  refine x_thenR ?_
  replace S := S.nilrow (Ty.int .u8) 5
  replace S := S.slot (u := 2) (d' := (.v (.slice none 0 0))) rfl rfl (S.get 2 (.v (.slice none 0 0)) rfl).2
  obtain rfl := Option.some.inj h1
  exact b_ret1 (d := (.v (.slice none 0 0))) S rfl rfl fun ok => S.retX (Hx := []) hb _ _ ((none, 0, 0) : (Option Addr) × Nat × Nat) (.cons .here .nil) ok
/-! slices.Clone[[]smithy/api.Slot,smithy/api.Slot] -/
abbrev api_Slot.Ty : Type := (List ((List Int) × (List Int))) → Option ((List ((List Int) × (List Int))))
def api_Slot.Ctr (s : api_Slot.Ty) : Prop := ∀ (x1 : List ((List Int) × (List Int))) (ch_0_0 : Option Addr) (ch_0_1 : Nat) (r : (List ((List Int) × (List Int)))) (h0 : s x1 = some r) (mi : Mem) (w0 : World), okL mi [(.sl ch_0_0 (x1).length ch_0_1 (RdS Y66 ch_0_0 x1))] → Pre mi [] w0 → Calls Try.prog 45 (([(.sl ch_0_0 (x1).length ch_0_1 (RdS Y66 ch_0_0 x1))] : List D).map D.val).toArray w0 (RetX mi [] (fun (ch : (Option Addr) × Nat × Nat) => ((.v (.slice ch.1 ch.2.1 ch.2.2)) : D)) (fun (ch : (Option Addr) × Nat × Nat) => [Res.row Y66 66 ch.1 ch.2.1 ch.2.2 r]) w0)
def api_Slot.f (x1 : List ((List Int) × (List Int))) : Option ((List ((List Int) × (List Int)))) := if ((([] : List ((List Int) × (List Int)))).length + (x1).length) * 64 ≤ 140737488355328 then (some (([] : List ((List Int) × (List Int))) ++ x1)) else none
theorem api_Slot.ok : api_Slot.Ctr (api_Slot.f) := by
 intro x1 ch_0_0 ch_0_1 r h0 mi w0 ok hm
 delta api_Slot.f at h0
 refine c_enterX (n := 8) [(.sl ch_0_0 (x1).length ch_0_1 (RdS Y66 ch_0_0 x1))] (l := [(0, (.sl ch_0_0 (x1).length ch_0_1 (RdS Y66 ch_0_0 x1)))]) Try.func45 rfl rfl rfl rfl ok hm ?_
 clear ok hm
 intro b0 hb a S
 refine c_region ?_
 refine s_assign S rfl rfl ?_; clear S a; intro a S
 refine c_end ?_
 refine wp_seq ?_
 refine c_region ?_
 refine s_move S rfl rfl ?_; clear S a; intro a S
 refine s_eqnil S (b := (ch_0_0).isNone) (d := (.sl ch_0_0 (x1).length ch_0_1 (RdS Y66 ch_0_0 x1))) rfl rfl Try.underlying28 rfl rfl rfl ?_; clear S a; intro a S
 refine c_end ?_
 cases hc : (ch_0_0).isNone
 ·refine c_condF S rfl hc ?_
  refine wp_skip ?_
  refine x_thenN ?_
  refine c_region ?_
  refine s_bldSl S (ty' := Y66) (ds := []) (z := ([0, 0, 0, 0], [0, 0, 0, 0])) (c0 := ((), ())) (ys := ([] : List ((List Int) × (List Int)))) (cs := []) rfl Try.underlying28 J66 Z66 rfl ⟨rfl, rfl, trivial⟩ rfl rfl rfl rfl rfl rfl ?_; clear S a; intro g1 a w S
  refine s_move S rfl rfl ?_; clear S a; intro a S
  obtain ⟨c1, h1⟩ := chk_of h0; clear h0
  refine s_app S (k2 := ((x1).length)) (ys := x1) rfl (fun _ _ => .here) rfl rfl rfl (RdS.src (S.get 6 (.sl ch_0_0 (x1).length ch_0_1 (RdS Y66 ch_0_0 x1)) rfl).2.2.2.1 (by decide) S.frz) Try.underlying28 J66 c1 rfl ?_; clear S a w; intro A1 cp1 a w S
  refine s_assign S rfl rfl ?_; clear S a; intro a S
  refine c_end ?_
  refine wp_ret ?_
  obtain rfl := Option.some.inj h1
  exact b_ret1 (d := (.v (.slice A1 (0 + ((x1).length)) cp1))) S rfl rfl fun ok => S.retX (Hx := []) hb _ _ ((A1, 0 + ((x1).length), cp1) : (Option Addr) × Nat × Nat) (.cons .here .nil) ok
 ·have hxs : x1 = [] := rd_nil hc (S.get 3 (.sl ch_0_0 (x1).length ch_0_1 (RdS Y66 ch_0_0 x1)) rfl).2.2.2.1
  have h1 : (some ([] : List ((List Int) × (List Int)))) = some r := by simpa [hxs] using h0
  clear h0
  refine c_condT S rfl hc ?_
  refine c_region ?_
  refine s_assign S rfl rfl ?_; clear S a; intro a S
  refine c_end ?_
  refine wp_ret ?_
  refine x_thenR ?_
  replace S := S.nilrow Y66 66
  replace S := S.slot (u := 2) (d' := (.v (.slice none 0 0))) rfl rfl (S.get 2 (.v (.slice none 0 0)) rfl).2
  obtain rfl := Option.some.inj h1
  exact b_ret1 (d := (.v (.slice none 0 0))) S rfl rfl fun ok => S.retX (Hx := []) hb _ _ ((none, 0, 0) : (Option Addr) × Nat × Nat) (.cons .here .nil) ok
/-! smithy/store.own -/
abbrev store_own.Ty : Type := ((List Int) × Int × (List Int) × (List Int) × (List ((List Int) × (List Int)))) → Option (((List Int) × Int × (List Int) × (List Int) × (List ((List Int) × (List Int)))))
def store_own.Ctr (s : store_own.Ty) : Prop := ∀ (x1 : (List Int) × Int × (List Int) × (List Int) × (List ((List Int) × (List Int)))) (ch_0_0 : Option Addr) (ch_0_1 : Nat) (ch_0_2 : Option Addr) (ch_0_3 : Nat) (r : ((List Int) × Int × (List Int) × (List Int) × (List ((List Int) × (List Int))))) (h0 : s x1 = some r) (mi : Mem) (w0 : World), okL mi [(.agg [.ints .u8 x1.1 20, .one (.int .u64 x1.2.1), .ints .u64 x1.2.2.1 4, .sl ch_0_0 (x1.2.2.2.1).length ch_0_1 (RdS (Ty.int .u8) ch_0_0 x1.2.2.2.1), .sl ch_0_2 (x1.2.2.2.2).length ch_0_3 (RdS Y66 ch_0_2 x1.2.2.2.2)])] → Pre mi [] w0 → Calls Try.prog 33 (([(.agg [.ints .u8 x1.1 20, .one (.int .u64 x1.2.1), .ints .u64 x1.2.2.1 4, .sl ch_0_0 (x1.2.2.2.1).length ch_0_1 (RdS (Ty.int .u8) ch_0_0 x1.2.2.2.1), .sl ch_0_2 (x1.2.2.2.2).length ch_0_3 (RdS Y66 ch_0_2 x1.2.2.2.2)])] : List D).map D.val).toArray w0 (RetX mi [] (fun (ch : (Option Addr) × Nat × Nat × (Option Addr) × Nat × Nat) => ((.agg [.ints .u8 r.1 20, .one (.int .u64 r.2.1), .ints .u64 r.2.2.1 4, .one (.slice ch.1 ch.2.1 ch.2.2.1), .one (.slice ch.2.2.2.1 ch.2.2.2.2.1 ch.2.2.2.2.2)]) : D)) (fun (ch : (Option Addr) × Nat × Nat × (Option Addr) × Nat × Nat) => [Res.row (Ty.int .u8) 5 ch.1 ch.2.1 ch.2.2.1 r.2.2.2.1, Res.row Y66 66 ch.2.2.2.1 ch.2.2.2.2.1 ch.2.2.2.2.2 r.2.2.2.2]) w0)
def store_own.f (x1 : (List Int) × Int × (List Int) × (List Int) × (List ((List Int) × (List Int)))) : Option (((List Int) × Int × (List Int) × (List Int) × (List ((List Int) × (List Int))))) := (slices_Clone_byte_byte.f x1.2.2.2.1).bind fun t1 => ((api_Slot.f x1.2.2.2.2).bind fun t2 => (some (x1.1, x1.2.1, x1.2.2.1, t1, t2)))
theorem store_own.ok : store_own.Ctr (store_own.f) := by
 intro x1 ch_0_0 ch_0_1 ch_0_2 ch_0_3 r h0 mi w0 ok hm
 delta store_own.f at h0
 refine c_enterX (n := 12) [(.agg [.ints .u8 x1.1 20, .one (.int .u64 x1.2.1), .ints .u64 x1.2.2.1 4, .sl ch_0_0 (x1.2.2.2.1).length ch_0_1 (RdS (Ty.int .u8) ch_0_0 x1.2.2.2.1), .sl ch_0_2 (x1.2.2.2.2).length ch_0_3 (RdS Y66 ch_0_2 x1.2.2.2.2)])] (l := [(0, (.agg [.ints .u8 x1.1 20, .one (.int .u64 x1.2.1), .ints .u64 x1.2.2.1 4, .sl ch_0_0 (x1.2.2.2.1).length ch_0_1 (RdS (Ty.int .u8) ch_0_0 x1.2.2.2.1), .sl ch_0_2 (x1.2.2.2.2).length ch_0_3 (RdS Y66 ch_0_2 x1.2.2.2.2)]))]) Try.func33 rfl rfl rfl rfl ok hm ?_
 clear ok hm
 intro b0 hb a S
 refine c_region ?_
 refine s_box S rfl rfl rfl ?_; clear S a; intro g1 a w S
 refine s_alloc S Z30 rfl ⟨rfl, rfl, rfl, rfl, rfl, trivial⟩ rfl ?_; clear S a w; intro g2 a w S
 refine c_end ?_
 refine c_region ?_
 refine s_fieldAddr S rfl I30_3 T27 (by decide) rfl rfl ?_; clear S a; intro a S
 refine s_loadSl S rfl (.there .here) T27 (A := ch_0_0) (len := (x1.2.2.2.1).length) (cap := ch_0_1) rfl rfl ?_; clear S a; intro a S
 obtain ⟨t1, et1, h1⟩ := bind_of h0; clear h0
 refine s_callR S (fun (ch : (Option Addr) × Nat × Nat) => ((.v (.slice ch.1 ch.2.1 ch.2.2)) : D)) (fun (ch : (Option Addr) × Nat × Nat) => Res.row (Ty.int .u8) 5 ch.1 ch.2.1 ch.2.2 t1) N44 rfl rfl (slices_Clone_byte_byte.ok x1.2.2.2.1 ch_0_0 ch_0_1 t1 et1 _ _) ?_; clear S a w; intro ch1 m le1 a w S
 refine s_fieldAddr S rfl I30_3 T27 (by decide) rfl rfl ?_; clear S a; intro a S
 refine s_store S rfl rfl rfl (s' := [.ints .u8 x1.1 20, .one (.int .u64 x1.2.1), .ints .u64 x1.2.2.1 4, .one (.slice ch1.1 ch1.2.1 ch1.2.2), .sl ch_0_2 (x1.2.2.2.2).length ch_0_3 (RdS Y66 ch_0_2 x1.2.2.2.2)]) (.there (.there .here)) T27 rfl rfl ?_; clear S w; intro w S
 refine c_end ?_
 refine c_region ?_
 refine s_fieldAddr S rfl I30_4 T28 (by decide) rfl rfl ?_; clear S a; intro a S
 refine s_loadSl S rfl (.there (.there .here)) T28 (A := ch_0_2) (len := (x1.2.2.2.2).length) (cap := ch_0_3) rfl rfl ?_; clear S a; intro a S
 obtain ⟨t2, et2, h2⟩ := bind_of h1; clear h1
 refine s_callR S (fun (ch : (Option Addr) × Nat × Nat) => ((.v (.slice ch.1 ch.2.1 ch.2.2)) : D)) (fun (ch : (Option Addr) × Nat × Nat) => Res.row Y66 66 ch.1 ch.2.1 ch.2.2 t2) N45 rfl rfl (api_Slot.ok x1.2.2.2.2 ch_0_2 ch_0_3 t2 et2 _ _) ?_; clear S a w; intro ch2 m le1 a w S
 refine s_fieldAddr S rfl I30_4 T28 (by decide) rfl rfl ?_; clear S a; intro a S
 refine s_store S rfl rfl rfl (s' := [.ints .u8 x1.1 20, .one (.int .u64 x1.2.1), .ints .u64 x1.2.2.1 4, .one (.slice ch1.1 ch1.2.1 ch1.2.2), .one (.slice ch2.1 ch2.2.1 ch2.2.2)]) (.there (.there (.there .here))) T28 rfl rfl ?_; clear S w; intro w S
 refine c_end ?_
 refine c_region ?_
 refine s_loada S rfl (.there (.there (.there .here))) T30 (s' := [.ints .u8 x1.1 20, .one (.int .u64 x1.2.1), .ints .u64 x1.2.2.1 4, .one (.slice ch1.1 ch1.2.1 ch1.2.2), .one (.slice ch2.1 ch2.2.1 ch2.2.2)]) rfl rfl ?_; clear S a; intro a S
 refine s_store S rfl rfl rfl (s' := [.ints .u8 x1.1 20, .one (.int .u64 x1.2.1), .ints .u64 x1.2.2.1 4, .one (.slice ch1.1 ch1.2.1 ch1.2.2), .one (.slice ch2.1 ch2.2.1 ch2.2.2)]) (.there (.there .here)) T30 rfl rfl ?_; clear S w; intro w S
 refine c_end ?_
 refine wp_ret ?_
 obtain rfl := Option.some.inj h2
 exact b_ret1 (d := (.agg [.ints .u8 x1.1 20, .one (.int .u64 x1.2.1), .ints .u64 x1.2.2.1 4, .one (.slice ch1.1 ch1.2.1 ch1.2.2), .one (.slice ch2.1 ch2.2.1 ch2.2.2)])) S rfl (resD_cell rfl (.there (.there .here)) T30 rfl rfl) fun ok => S.retX (Hx := []) hb _ _ ((ch1.1, ch1.2.1, ch1.2.2, ch2.1, ch2.2.1, ch2.2.2) : (Option Addr) × Nat × Nat × (Option Addr) × Nat × Nat) (.cons (.there .here) (.cons .here .nil)) ok
/-! (*smithy/store.Store).Commit -/
abbrev store_Store_Commit.Ty : Type := L72 → Int → (List L30) → Option (Int × Int × L72)
def store_Store_Commit.Ctr (s : store_Store_Commit.Ty) : Prop := ∀ (x1 : L72) (x2 : Int) (x3 : List L30) (ch_0_0 : Nat) (ch_0_1 : Option Addr) (ch_0_2 : Nat) (ch_0_3 : Nat) (ch_2_0 : Option Addr) (ch_2_1 : Nat) (r : Int × Int × L72) (h0 : s x1 x2 x3 = some r) (mi : Mem) (w0 : World), okL mi [(.v (.pointer (some ⟨ch_0_0, 0, none⟩))), (.v (.int .i64 x2)), (.sl ch_2_0 (x3).length ch_2_1 (RdS Y30 ch_2_0 x3))] → Pre mi [Res.cells ch_0_0 74 [.one (.slice ch_0_1 ch_0_2 ch_0_3)], Res.row (Ty.prod (Ty.int .i64) Y69) 71 ch_0_1 ch_0_2 ch_0_3 x1] w0 → Calls Try.prog 16 (([(.v (.pointer (some ⟨ch_0_0, 0, none⟩))), (.v (.int .i64 x2)), (.sl ch_2_0 (x3).length ch_2_1 (RdS Y30 ch_2_0 x3))] : List D).map D.val).toArray w0 (RetX mi [Res.cells ch_0_0 74 [.one (.slice ch_0_1 ch_0_2 ch_0_3)], Res.row (Ty.prod (Ty.int .i64) Y69) 71 ch_0_1 ch_0_2 ch_0_3 x1] (fun (ch : (Option Addr) × Nat × Nat) => ((.tup [(false, [.one (.int .i64 r.1)]), (false, [.one (.int .i64 r.2.1)])]) : D)) (fun (ch : (Option Addr) × Nat × Nat) => [Res.cells ch_0_0 74 [.one (.slice ch.1 ch.2.1 ch.2.2)], Res.row (Ty.prod (Ty.int .i64) Y69) 71 ch.1 ch.2.1 ch.2.2 r.2.2]) w0)
def store_Store_Commit.j1 (x1 : L72) (x2 : Int) (y1 : List ((List Int) × L30)) : Option (Int × Int × L72) := if ((x1).length + ([(x2, y1)]).length) * 16 ≤ 140737488355328 then (some (wr .i64 (((x1 ++ [(x2, y1)]).length : Int) - 1), 0, (x1 ++ [(x2, y1)]))) else none
def store_Store_Commit.b1 (x1 : L72) (x2 : Int) (x3 : List L30) (rec1 : Int → (List ((List Int) × L30)) → Option (Int × Int × L72)) (y4 : Int) (y5 : List ((List Int) × L30)) : Option (Int × Int × L72) := if (decide (y4 < ((x3).length : Int))) = true then (if (0 : Int) ≤ y4 ∧ y4 < ((x3).length : Int) then ((store_own.f ((gt x3 y4).1, (gt x3 y4).2.1, (gt x3 y4).2.2.1, (gt x3 y4).2.2.2.1, (gt x3 y4).2.2.2.2)).bind fun t5 => (rec1 (wr .i64 (y4 + 1)) (aput y5 ((gt x3 y4).1) (t5.1, t5.2.1, t5.2.2.1, t5.2.2.2.1, t5.2.2.2.2)))) else none) else (store_Store_Commit.j1 x1 x2 y5)
def store_Store_Commit.l1 (x1 : L72) (x2 : Int) (x3 : List L30) : Nat → Int → (List ((List Int) × L30)) → Option (Int × Int × L72)
  | 0, _, _ => none
  | q + 1, y4, y5 => store_Store_Commit.b1 x1 x2 x3 (store_Store_Commit.l1 x1 x2 x3 q) y4 y5
def store_Store_Commit.f (k : Nat) (x1 : L72) (x2 : Int) (x3 : List L30) : Option (Int × Int × L72) := (store_Store_has.f (x1) x2).bind fun t1 => (if (!t1) = true then (some (0, 12, (x1))) else ((api_Account_n31_1f32.f k x3).bind fun t2 => (if t2 = true then (some (0, 1, (x1))) else (if (((x1).length : Int) == 1048576) = true then (some (0, 11, (x1))) else (store_Store_Commit.l1 x1 x2 x3 k 0 ([] : List ((List Int) × L30)))))))
theorem store_Store_Commit.ok (k : Nat) : store_Store_Commit.Ctr (store_Store_Commit.f k) := by
 intro x1 x2 x3 ch_0_0 ch_0_1 ch_0_2 ch_0_3 ch_2_0 ch_2_1 r h0 mi w0 ok hm
 delta store_Store_Commit.f at h0
 refine c_enterX (n := 61) [(.v (.pointer (some ⟨ch_0_0, 0, none⟩))), (.v (.int .i64 x2)), (.sl ch_2_0 (x3).length ch_2_1 (RdS Y30 ch_2_0 x3))] (l := [(0, (.v (.pointer (some ⟨ch_0_0, 0, none⟩)))), (1, (.v (.int .i64 x2))), (2, (.sl ch_2_0 (x3).length ch_2_1 (RdS Y30 ch_2_0 x3)))]) Try.func16 rfl rfl rfl rfl ok hm ?_
 clear ok hm
 intro b0 hb a S
 refine c_region ?_
 refine s_assign S rfl rfl ?_; clear S a; intro a S
 refine s_assign S rfl rfl ?_; clear S a; intro a S
 refine c_end ?_
 refine wp_seq ?_
 refine wp_block ?_
 refine c_region ?_
 refine s_move S rfl rfl ?_; clear S a; intro a S
 refine s_eqp S (b := false) rfl rfl Try.underlying36 rfl rfl ?_; clear S a; intro a S
 refine s_assign S rfl rfl ?_; clear S a; intro a S
 refine c_end ?_
 refine c_condF S rfl rfl ?_
 refine c_region ?_
 refine s_move S rfl rfl ?_; clear S a; intro a S
 refine s_move S rfl rfl ?_; clear S a; intro a S
 obtain ⟨t1, et1, h1⟩ := bind_of h0; clear h0
 refine s_callX S (ds' := [(.v (.pointer (some ⟨ch_0_0, 0, none⟩))), (.v (.int .i64 x2))]) (ds := [(.v (.pointer (some ⟨ch_0_0, 0, none⟩))), (.v (.int .i64 x2))]) [Res.cells ch_0_0 74 [.one (.slice ch_0_1 ch_0_2 ch_0_3)], Res.row (Ty.prod (Ty.int .i64) Y69) 71 ch_0_1 ch_0_2 ch_0_3 x1] [] (fun (ch : Unit) => ((.v (.bool t1)) : D)) (fun (ch : Unit) => [Res.cells ch_0_0 74 [.one (.slice ch_0_1 ch_0_2 ch_0_3)], Res.row (Ty.prod (Ty.int .i64) Y69) 71 ch_0_1 ch_0_2 ch_0_3 x1]) (fun (ch : Unit) => [Res.cells ch_0_0 74 [.one (.slice ch_0_1 ch_0_2 ch_0_3)], Res.row (Ty.prod (Ty.int .i64) Y69) 71 ch_0_1 ch_0_2 ch_0_3 x1]) (fun _ => rfl) N30 rfl rfl (fun ok => ok) (.cons .here (.cons .here .nil)) rfl (store_Store_has.ok (x1) x2 ch_0_0 ch_0_1 ch_0_2 ch_0_3 t1 et1 _ _) ?_; clear S a; intro ch1 m le1 a w S
 refine s_not S rfl rfl ?_; clear S a; intro a S
 refine s_assign S rfl rfl ?_; clear S a; intro a S
 refine c_end ?_
 rcases ite_of h1 with ⟨c1, h2⟩ | ⟨c1, h2⟩ <;> clear h1
 ·refine c_condT S rfl c1 ?_
  refine c_region ?_
  refine s_assign S rfl rfl ?_; clear S a; intro a S
  refine s_assign S rfl rfl ?_; clear S a; intro a S
  refine c_end ?_
  refine wp_ret ?_
  refine x_blockR ?_
  refine x_thenR ?_
  obtain rfl := Option.some.inj h2
  exact b_ret2 (d1 := (.v (.int .i64 0))) (d2 := (.v (.int .i64 12))) S rfl rfl rfl fun ok1 ok2 => S.retX (Hx := []) hb _ _ ((ch_0_1, ch_0_2, ch_0_3) : (Option Addr) × Nat × Nat) (.cons .here (.cons .here .nil)) ⟨⟨ok1, trivial⟩, ⟨ok2, trivial⟩, trivial⟩
 ·refine c_condF S rfl c1 ?_
  refine c_region ?_
  refine s_move S rfl rfl ?_; clear S a; intro a S
  obtain ⟨t2, et2, h3⟩ := bind_of h2; clear h2
  refine s_callP S (fun (ch : Unit) => ((.v (.bool t2)) : D)) N31 rfl rfl (api_Account_n31_1f32.ok k x3 ch_2_0 ch_2_1 t2 et2 _ _) ?_; clear S a w; intro ch2 m le1 a w S
  refine s_assign S rfl rfl ?_; clear S a; intro a S
  refine c_end ?_
  rcases ite_of h3 with ⟨c2, h4⟩ | ⟨c2, h4⟩ <;> clear h3
  ·refine c_condT S rfl c2 ?_
   refine c_region ?_
   refine s_assign S rfl rfl ?_; clear S a; intro a S
   refine s_assign S rfl rfl ?_; clear S a; intro a S
   refine c_end ?_
   refine wp_ret ?_
   refine x_blockR ?_
   refine x_thenR ?_
   obtain rfl := Option.some.inj h4
   exact b_ret2 (d1 := (.v (.int .i64 0))) (d2 := (.v (.int .i64 1))) S rfl rfl rfl fun ok1 ok2 => S.retX (Hx := []) hb _ _ ((ch_0_1, ch_0_2, ch_0_3) : (Option Addr) × Nat × Nat) (.cons .here (.cons .here .nil)) ⟨⟨ok1, trivial⟩, ⟨ok2, trivial⟩, trivial⟩
  ·refine c_condF S rfl c2 ?_
   refine c_region ?_
   refine s_move S rfl rfl ?_; clear S a; intro a S
   refine s_nilchk S rfl rfl ?_; clear S a; intro a S
   refine s_fieldAddr S rfl I74_0 T72 (by decide) rfl rfl ?_; clear S a; intro a S
   refine s_load1 S rfl .here T72 (v := (.slice ch_0_1 ch_0_2 ch_0_3)) rfl rfl ?_; clear S a; intro a S
   refine s_lenO S rfl (.there .here) Try.underlying72 rfl ?_; clear S a; intro a S
   refine s_bin S rfl rfl rfl rfl ?_; clear S a; intro a S
   refine s_assign S rfl rfl ?_; clear S a; intro a S
   refine c_end ?_
   rcases ite_of h4 with ⟨c3, h5⟩ | ⟨c3, h5⟩ <;> clear h4
   ·refine c_condT S rfl c3 ?_
    refine c_region ?_
    refine s_assign S rfl rfl ?_; clear S a; intro a S
    refine s_assign S rfl rfl ?_; clear S a; intro a S
    refine c_end ?_
    refine wp_ret ?_
    refine x_blockR ?_
    refine x_thenR ?_
    obtain rfl := Option.some.inj h5
    exact b_ret2 (d1 := (.v (.int .i64 0))) (d2 := (.v (.int .i64 11))) S rfl rfl rfl fun ok1 ok2 => S.retX (Hx := []) hb _ _ ((ch_0_1, ch_0_2, ch_0_3) : (Option Addr) × Nat × Nat) (.cons .here (.cons .here .nil)) ⟨⟨ok1, trivial⟩, ⟨ok2, trivial⟩, trivial⟩
   ·refine c_condF S rfl c3 ?_
    refine wp_skip ?_
    refine x_blockN ?_
    refine x_thenN ?_
    refine c_region ?_
    refine s_move S rfl rfl ?_; clear S a; intro a S
    refine s_makeMap S true (Ty.arr .u8 20) true Y30 rfl ?_; clear S a w; intro g1 a w S
    refine s_bldS S (ds := [(0, (.v (.int .i64 x2))), (1, (.v (.map (some g1))))]) (zs := [.one (.int .i64 0), .one (.map none)]) (s' := [.one (.int .i64 x2), .one (.map (some g1))]) rfl Try.underlying71 P71 Z71 ⟨rfl, rfl, trivial⟩ rfl rfl ?_; clear S a; intro a S
    refine s_alloc S Z71 rfl ⟨rfl, rfl, trivial⟩ rfl ?_; clear S a w; intro g2 a w S
    refine s_store S rfl rfl rfl (s' := [.one (.int .i64 x2), .one (.map (some g1))]) .here T71 rfl rfl ?_; clear S w; intro w S
    refine c_end ?_
    refine wp_seq_k ?_
    intro K1 hK1
    have j1 : ∀ (m : Mem) (g11 : Nat) (g12 : Nat) (y1 : List ((List Int) × L30)) (a : Act) (w : World), St 61 m b0 [(8, (.v (.pointer (some ⟨g11, 0, none⟩)))), (0, (.v (.pointer (some ⟨ch_0_0, 0, none⟩))))] [Res.cells g11 71 [.one (.int .i64 x2), .one (.map (some g12))], Res.map true (Ty.arr .u8 20) true Y30 g12 y1, Res.cells ch_0_0 74 [.one (.slice ch_0_1 ch_0_2 ch_0_3)], Res.row (Ty.prod (Ty.int .i64) Y69) 71 ch_0_1 ch_0_2 ch_0_3 x1] a w → store_Store_Commit.j1 x1 x2 y1 = some r → K1 a w := by
     intro m g11 g12 y1 a w S h0
     delta store_Store_Commit.j1 at h0
     refine hK1 a w ?_
     refine wp_seq (c_heldS S (.take 0 (.take 1 (.take 2 (.take 3 (.take 4 (.alts (.run 5 true (.alts (.run 6 true (.alts (.run 7 true (.take 8 (.take 9 (.alts (.run 10 false .done .nil)))) .nil)) .nil)) .nil))))))) 10 [Res.cells ch_0_0 74 [.one (.slice ch_0_1 ch_0_2 ch_0_3)]] (.cons (.there (.there .here)) .nil) ⟨Res.stay_cells, trivial⟩ [(0, (.v (.pointer (some ⟨ch_0_0, 0, none⟩))))] ⟨rfl, trivial⟩ (by kernel_rfl) (by kernel_rfl) ?_); clear S; intro w S CL hw le
     refine h_move S CL hw le ⟨rfl, trivial⟩ rfl rfl rfl trivial ?_; clear S CL a; intro a S CL
     refine h_move S CL hw le (subR rfl) rfl rfl rfl trivial ?_; clear S CL a; intro a S CL
     refine h_nilchk S CL hw le (subR rfl) rfl rfl rfl rfl trivial ?_; clear S CL a; intro a S CL
     refine h_fieldAddr S CL hw le (subR rfl) rfl I74_0 T72 (by decide) rfl rfl rfl trivial ?_; clear S CL a; intro a S CL
     refine h_load1 S CL hw le (subR rfl) rfl .here T72 (v := (.slice ch_0_1 ch_0_2 ch_0_3)) rfl rfl rfl trivial ?_; clear S CL a; intro a S CL
     refine h_run' S rfl trivial ?_
     refine s_loada S rfl .here T71 (s' := [.one (.int .i64 x2), .one (.map (some g12))]) rfl rfl ?_; clear S a; intro a S
     replace hw := CL.again hw S (.cons (.there (.there .here)) .nil) le
     refine h_back ⟨fun _ => hw, ?_⟩
     refine h_run' S rfl trivial ?_
     replace S := S.mapfro (.there .here)
     obtain ⟨m, le1, S, hro⟩ := S
     replace le := le.trans le1
     replace S := S.slot (u := 50) (d' := (.agg [.one (.int .i64 x2), .rf (.map (some g12)) (RdM true (Ty.arr .u8 20) true Y30 (some g12) y1)])) rfl rfl (by have h := (S.get 50 (.agg [.one (.int .i64 x2), .one (.map (some g12))]) rfl).2; exact ⟨h.1, (okm_of hro), trivial⟩)
     replace S := S.cellro (s' := [.one (.int .i64 x2), .rf (.map (some g12)) (RdM true (Ty.arr .u8 20) true Y30 (some g12) y1)]) .here rfl (fun h => ⟨h.1, (okm_of hro), trivial⟩)
     refine s_bldSl S (ty' := (Ty.prod (Ty.int .i64) Y69)) (ds := [(0, (.agg [.one (.int .i64 x2), .rf (.map (some g12)) (RdM true (Ty.arr .u8 20) true Y30 (some g12) y1)]))]) (z := (0, ([] : List ((List Int) × L30)))) (c0 := ((), none)) (ys := [(x2, y1)]) (cs := [((), (some g12))]) rfl Try.underlying72 J71 Z71 rfl ⟨rfl, okm_nil, trivial⟩ rfl rfl rfl rfl rfl rfl ?_; clear S a; intro g13 a w S
     replace hw := CL.again hw S (.cons (.there (.there .here)) .nil) le
     refine h_back ⟨fun _ => hw, ?_⟩
     refine h_run' S rfl trivial ?_
     obtain ⟨c4, h1⟩ := chk_of h0; clear h0
     refine s_app S (k2 := 1) (ys := [(x2, y1)]) rfl (fun _ _ => (.there (.there (.there .here)))) rfl rfl (S.holds _ (Pull.mem .here).1).1 (Res.row.src (S.holds _ (Pull.mem .here).1)) Try.underlying72 J71 c4 rfl ?_; clear S a; intro A1 cp1 a w S
     replace hw := CL.again hw S (.cons (.there (.there .here)) .nil) le
     refine h_back ⟨fun _ => hw, ?_⟩
     refine h_nilchk S CL hw le (subR rfl) rfl rfl rfl rfl trivial ?_; clear S CL a; intro a S CL
     refine h_fieldAddr S CL hw le (subR rfl) rfl I74_0 T72 (by decide) rfl rfl rfl trivial ?_; clear S CL a; intro a S CL
     refine h_run' S rfl trivial ?_
     refine s_store S rfl rfl rfl (s' := [.one (.slice A1 (ch_0_2 + 1) cp1)]) (.there (.there .here)) T72 rfl rfl ?_; clear S; intro w S
     refine h_back ⟨fun h => (nomatch h), ?_⟩
     refine h_done ?_; clear CL hw le
     refine x_thenN ?_
     refine c_region ?_
     refine s_move S rfl rfl ?_; clear S a; intro a S
     refine s_nilchk S rfl rfl ?_; clear S a; intro a S
     refine s_fieldAddr S rfl I74_0 T72 (by decide) rfl rfl ?_; clear S a; intro a S
     refine s_load1 S rfl (.there (.there .here)) T72 (v := (.slice A1 (ch_0_2 + 1) cp1)) rfl rfl ?_; clear S a; intro a S
     refine s_lenO S rfl (.there (.there (.there .here))) Try.underlying72 rfl ?_; clear S a; intro a S
     refine s_bin S rfl rfl rfl rfl ?_; clear S a; intro a S
     refine s_assign S rfl rfl ?_; clear S a; intro a S
     refine s_assign S rfl rfl ?_; clear S a; intro a S
     refine c_end ?_
     refine wp_ret ?_
     obtain rfl := Option.some.inj h1
     exact b_ret2 (d1 := (.v (.int .i64 (wr .i64 (((x1 ++ [(x2, y1)]).length : Int) - 1))))) (d2 := (.v (.int .i64 0))) S rfl rfl rfl fun ok1 ok2 => S.retX (Hx := []) hb _ _ ((A1, ch_0_2 + 1, cp1) : (Option Addr) × Nat × Nat) (.cons (.there (.there .here)) (.cons (.there (.there .here)) .nil)) ⟨⟨ok1, trivial⟩, ⟨ok2, trivial⟩, trivial⟩
    refine c_region ?_
    refine s_move S rfl rfl ?_; clear S a; intro a S
    refine s_lenS S rfl Try.underlying32 rfl ?_; clear S a; intro a S
    refine s_move S rfl rfl ?_; clear S a; intro a S
    refine c_end ?_
    refine wp_block ?_
    refine c_loop (fun q1 a w => ∃ (m : Mem) (y4 : Int) (g20 : Nat) (g21 : Nat) (y5 : List ((List Int) × L30)), St 61 m b0 [(34, (.v (.int .i64 y4))), (33, (.v (.int .i64 ((x3).length : Int)))), (32, (.sl ch_2_0 (x3).length ch_2_1 (RdS Y30 ch_2_0 x3))), (8, (.v (.pointer (some ⟨g20, 0, none⟩)))), (0, (.v (.pointer (some ⟨ch_0_0, 0, none⟩))))] [Res.cells g20 71 [.one (.int .i64 x2), .one (.map (some g21))], Res.map true (Ty.arr .u8 20) true Y30 g21 y5, Res.cells ch_0_0 74 [.one (.slice ch_0_1 ch_0_2 ch_0_3)], Res.row (Ty.prod (Ty.int .i64) Y69) 71 ch_0_1 ch_0_2 ch_0_3 x1] a w ∧ store_Store_Commit.l1 x1 x2 x3 q1 y4 y5 = some r) ?_ ?_ (k := k) ⟨_, 0, g2, g1, ([] : List ((List Int) × L30)), (S.sub (subR rfl) (.cons .here (.cons .here (.cons .here (.cons .here .nil))))), h5⟩
    ·rintro a w ⟨m, y4, g20, g21, y5, S, h0⟩
     exact (nomatch (show (none : Option (Int × Int × L72)) = some r from h0))
    ·clear S h5
     rintro q1 a w ⟨m, y4, g20, g21, y5, S, h0⟩
     replace h0 : store_Store_Commit.b1 x1 x2 x3 (store_Store_Commit.l1 x1 x2 x3 q1) y4 y5 = some r := h0
     delta store_Store_Commit.b1 at h0
     refine c_region ?_
     refine s_bin S rfl rfl rfl rfl ?_; clear S a; intro a S
     refine c_end ?_
     refine wp_seq ?_
     rcases ite_of h0 with ⟨c5, h1⟩ | ⟨c5, h1⟩ <;> clear h0
     ·refine c_condT S rfl c5 ?_
      refine wp_skip ?_
      refine x_thenN ?_
      refine wp_seq ?_
      refine wp_block ?_
      refine c_region ?_
      obtain ⟨c6, h2⟩ := chk_of h1; clear h1
      refine s_iaddrS S rfl rfl rfl Try.underlying32 T30 c6.1 c6.2 rfl ?_; clear S a; intro p1 a S
      refine s_ldA S (fun (c : Unit × Unit × Unit × (Option Addr × Nat) × (Option Addr × Nat)) => [.ints .u8 ((gt x3 y4).1) 20, .one (.int .u64 ((gt x3 y4).2.1)), .ints .u64 ((gt x3 y4).2.2.1) 4, .sl c.2.2.2.1.1 ((gt x3 y4).2.2.2.1).length c.2.2.2.1.2 (RdS (Ty.int .u8) c.2.2.2.1.1 ((gt x3 y4).2.2.2.1)), .sl c.2.2.2.2.1 ((gt x3 y4).2.2.2.2).length c.2.2.2.2.2 (RdS Y66 c.2.2.2.2.1 ((gt x3 y4).2.2.2.2))]) rfl T30 (fun _ => rfl) rfl ?_; clear S a; intro ch7 a S
      refine s_alloc S Z30 rfl ⟨rfl, rfl, rfl, rfl, rfl, trivial⟩ rfl ?_; clear S a w; intro g22 a w S
      refine s_store S rfl rfl rfl (s' := [.ints .u8 ((gt x3 y4).1) 20, .one (.int .u64 ((gt x3 y4).2.1)), .ints .u64 ((gt x3 y4).2.2.1) 4, .sl ch7.2.2.2.1.1 ((gt x3 y4).2.2.2.1).length ch7.2.2.2.1.2 (RdS (Ty.int .u8) ch7.2.2.2.1.1 ((gt x3 y4).2.2.2.1)), .sl ch7.2.2.2.2.1 ((gt x3 y4).2.2.2.2).length ch7.2.2.2.2.2 (RdS Y66 ch7.2.2.2.2.1 ((gt x3 y4).2.2.2.2))]) .here T30 rfl rfl ?_; clear S w; intro w S
      refine c_end ?_
      refine c_heldS S (.take 0 (.take 1 (.take 2 (.take 3 (.take 4 (.alts (.run 5 true (.alts (.run 6 true .done .nil)) .nil))))))) 7 [Res.cells g22 30 [.ints .u8 ((gt x3 y4).1) 20, .one (.int .u64 ((gt x3 y4).2.1)), .ints .u64 ((gt x3 y4).2.2.1) 4, .sl ch7.2.2.2.1.1 ((gt x3 y4).2.2.2.1).length ch7.2.2.2.1.2 (RdS (Ty.int .u8) ch7.2.2.2.1.1 ((gt x3 y4).2.2.2.1)), .sl ch7.2.2.2.2.1 ((gt x3 y4).2.2.2.2).length ch7.2.2.2.2.2 (RdS Y66 ch7.2.2.2.2.1 ((gt x3 y4).2.2.2.2))], Res.cells g20 71 [.one (.int .i64 x2), .one (.map (some g21))], Res.cells ch_0_0 74 [.one (.slice ch_0_1 ch_0_2 ch_0_3)]] (.cons .here (.cons .here (.cons (.there .here) .nil))) ⟨Res.stay_cells, Res.stay_cells, Res.stay_cells, trivial⟩ [(10, (.v (.pointer (some ⟨g22, 0, none⟩)))), (8, (.v (.pointer (some ⟨g20, 0, none⟩))))] (subR rfl) (by kernel_rfl) (by kernel_rfl) ?_; clear S; intro w S CL hw le
      refine h_fieldAddr S CL hw le (subR rfl) rfl I71_1 T69 (by decide) rfl rfl rfl trivial ?_; clear S CL a; intro a S CL
      refine h_load1 S CL hw le (subR rfl) rfl (.there .here) T69 (v := (.map (some g21))) rfl rfl rfl trivial ?_; clear S CL a; intro a S CL
      refine h_fieldAddr S CL hw le (subR rfl) rfl I30_0 T23 (by decide) rfl rfl rfl trivial ?_; clear S CL a; intro a S CL
      refine h_loada S CL hw le (subR rfl) rfl .here T23 (s' := [.ints .u8 ((gt x3 y4).1) 20]) rfl rfl rfl trivial ?_; clear S CL a; intro a S CL
      refine h_loada S CL hw le (subR rfl) rfl .here T30 (s' := [.ints .u8 ((gt x3 y4).1) 20, .one (.int .u64 ((gt x3 y4).2.1)), .ints .u64 ((gt x3 y4).2.2.1) 4, .sl ch7.2.2.2.1.1 ((gt x3 y4).2.2.2.1).length ch7.2.2.2.1.2 (RdS (Ty.int .u8) ch7.2.2.2.1.1 ((gt x3 y4).2.2.2.1)), .sl ch7.2.2.2.2.1 ((gt x3 y4).2.2.2.2).length ch7.2.2.2.2.2 (RdS Y66 ch7.2.2.2.2.1 ((gt x3 y4).2.2.2.2))]) rfl rfl rfl trivial ?_; clear S CL a; intro a S CL
      refine h_run' S rfl trivial ?_
      obtain ⟨t5, et5, h3⟩ := bind_of h2; clear h2
      refine s_callX S (ds' := [(.agg [.ints .u8 ((gt x3 y4).1) 20, .one (.int .u64 ((gt x3 y4).2.1)), .ints .u64 ((gt x3 y4).2.2.1) 4, .sl ch7.2.2.2.1.1 ((gt x3 y4).2.2.2.1).length ch7.2.2.2.1.2 (RdS (Ty.int .u8) ch7.2.2.2.1.1 ((gt x3 y4).2.2.2.1)), .sl ch7.2.2.2.2.1 ((gt x3 y4).2.2.2.2).length ch7.2.2.2.2.2 (RdS Y66 ch7.2.2.2.2.1 ((gt x3 y4).2.2.2.2))])]) (ds := [(.agg [.ints .u8 ((gt x3 y4).1) 20, .one (.int .u64 ((gt x3 y4).2.1)), .ints .u64 ((gt x3 y4).2.2.1) 4, .sl ch7.2.2.2.1.1 ((gt x3 y4).2.2.2.1).length ch7.2.2.2.1.2 (RdS (Ty.int .u8) ch7.2.2.2.1.1 ((gt x3 y4).2.2.2.1)), .sl ch7.2.2.2.2.1 ((gt x3 y4).2.2.2.2).length ch7.2.2.2.2.2 (RdS Y66 ch7.2.2.2.2.1 ((gt x3 y4).2.2.2.2))])]) [] [Res.cells g22 30 [.ints .u8 ((gt x3 y4).1) 20, .one (.int .u64 ((gt x3 y4).2.1)), .ints .u64 ((gt x3 y4).2.2.1) 4, .sl ch7.2.2.2.1.1 ((gt x3 y4).2.2.2.1).length ch7.2.2.2.1.2 (RdS (Ty.int .u8) ch7.2.2.2.1.1 ((gt x3 y4).2.2.2.1)), .sl ch7.2.2.2.2.1 ((gt x3 y4).2.2.2.2).length ch7.2.2.2.2.2 (RdS Y66 ch7.2.2.2.2.1 ((gt x3 y4).2.2.2.2))], Res.cells g20 71 [.one (.int .i64 x2), .one (.map (some g21))], Res.map true (Ty.arr .u8 20) true Y30 g21 y5, Res.cells ch_0_0 74 [.one (.slice ch_0_1 ch_0_2 ch_0_3)], Res.row (Ty.prod (Ty.int .i64) Y69) 71 ch_0_1 ch_0_2 ch_0_3 x1] (fun (ch : (Option Addr) × Nat × Nat × (Option Addr) × Nat × Nat) => ((.agg [.ints .u8 t5.1 20, .one (.int .u64 t5.2.1), .ints .u64 t5.2.2.1 4, .one (.slice ch.1 ch.2.1 ch.2.2.1), .one (.slice ch.2.2.2.1 ch.2.2.2.2.1 ch.2.2.2.2.2)]) : D)) (fun (ch : (Option Addr) × Nat × Nat × (Option Addr) × Nat × Nat) => [Res.row (Ty.int .u8) 5 ch.1 ch.2.1 ch.2.2.1 t5.2.2.2.1, Res.row Y66 66 ch.2.2.2.1 ch.2.2.2.2.1 ch.2.2.2.2.2 t5.2.2.2.2]) (fun (ch : (Option Addr) × Nat × Nat × (Option Addr) × Nat × Nat) => [Res.row (Ty.int .u8) 5 ch.1 ch.2.1 ch.2.2.1 t5.2.2.2.1, Res.row Y66 66 ch.2.2.2.1 ch.2.2.2.2.1 ch.2.2.2.2.2 t5.2.2.2.2, Res.cells g22 30 [.ints .u8 ((gt x3 y4).1) 20, .one (.int .u64 ((gt x3 y4).2.1)), .ints .u64 ((gt x3 y4).2.2.1) 4, .sl ch7.2.2.2.1.1 ((gt x3 y4).2.2.2.1).length ch7.2.2.2.1.2 (RdS (Ty.int .u8) ch7.2.2.2.1.1 ((gt x3 y4).2.2.2.1)), .sl ch7.2.2.2.2.1 ((gt x3 y4).2.2.2.2).length ch7.2.2.2.2.2 (RdS Y66 ch7.2.2.2.2.1 ((gt x3 y4).2.2.2.2))], Res.cells g20 71 [.one (.int .i64 x2), .one (.map (some g21))], Res.map true (Ty.arr .u8 20) true Y30 g21 y5, Res.cells ch_0_0 74 [.one (.slice ch_0_1 ch_0_2 ch_0_3)], Res.row (Ty.prod (Ty.int .i64) Y69) 71 ch_0_1 ch_0_2 ch_0_3 x1]) (fun _ => rfl) N33 rfl rfl (fun ok => ok) (.cons .here (.cons .here (.cons .here (.cons .here (.cons .here .nil))))) rfl (store_own.ok ((gt x3 y4).1, (gt x3 y4).2.1, (gt x3 y4).2.2.1, (gt x3 y4).2.2.2.1, (gt x3 y4).2.2.2.2) ch7.2.2.2.1.1 ch7.2.2.2.1.2 ch7.2.2.2.2.1 ch7.2.2.2.2.2 t5 et5 _ _) ?_; clear S a; intro ch8 m le1 a w S
      replace le := le.trans le1
      replace hw := CL.again hw S (.cons (.there (.there .here)) (.cons (.there (.there .here)) (.cons (.there (.there (.there .here))) .nil))) le
      refine h_back ⟨fun _ => hw, ?_⟩
      refine h_run' S rfl trivial ?_
      replace S := S.rowfro .here
      obtain ⟨m, le1, S, hro⟩ := S
      replace le := le.trans le1
      replace S := S.slot (u := 43) (d' := (.agg [.ints .u8 t5.1 20, .one (.int .u64 t5.2.1), .ints .u64 t5.2.2.1 4, .sl ch8.1 (t5.2.2.2.1).length ch8.2.2.1 (RdS (Ty.int .u8) ch8.1 t5.2.2.2.1), .one (.slice ch8.2.2.2.1 ch8.2.2.2.2.1 ch8.2.2.2.2.2)])) rfl (by simp [D.val, cellsOf, Seg.cells, hro.2.1]) (by have h := (S.get 43 (.agg [.ints .u8 t5.1 20, .one (.int .u64 t5.2.1), .ints .u64 t5.2.2.1 4, .one (.slice ch8.1 ch8.2.1 ch8.2.2.1), .one (.slice ch8.2.2.2.1 ch8.2.2.2.2.1 ch8.2.2.2.2.2)]) rfl).2; exact ⟨h.1, h.2.1, h.2.2.1, ⟨by have := hro.2.2.1; omega, hro.2.2.2, hro.1, RdS.mono _ _ _⟩, h.2.2.2.2.1, trivial⟩)
      replace S := S.rowfro .here
      obtain ⟨m, le1, S, hro⟩ := S
      replace le := le.trans le1
      replace S := S.slot (u := 43) (d' := (.agg [.ints .u8 t5.1 20, .one (.int .u64 t5.2.1), .ints .u64 t5.2.2.1 4, .sl ch8.1 (t5.2.2.2.1).length ch8.2.2.1 (RdS (Ty.int .u8) ch8.1 t5.2.2.2.1), .sl ch8.2.2.2.1 (t5.2.2.2.2).length ch8.2.2.2.2.2 (RdS Y66 ch8.2.2.2.1 t5.2.2.2.2)])) rfl (by simp [D.val, cellsOf, Seg.cells, hro.2.1]) (by have h := (S.get 43 (.agg [.ints .u8 t5.1 20, .one (.int .u64 t5.2.1), .ints .u64 t5.2.2.1 4, .sl ch8.1 (t5.2.2.2.1).length ch8.2.2.1 (RdS (Ty.int .u8) ch8.1 t5.2.2.2.1), .one (.slice ch8.2.2.2.1 ch8.2.2.2.2.1 ch8.2.2.2.2.2)]) rfl).2; exact ⟨h.1, h.2.1, h.2.2.1, h.2.2.2.1, ⟨by have := hro.2.2.1; omega, hro.2.2.2, hro.1, RdS.mono _ _ _⟩, trivial⟩)
      refine s_mapput S (k := ((gt x3 y4).1)) (y := (t5.1, t5.2.1, t5.2.2.1, t5.2.2.2.1, t5.2.2.2.2)) rfl (.there (.there .here)) rfl (fun h => ⟨(), rfl, h⟩) rfl (fun h => ⟨((), (), (), (ch8.1, ch8.2.2.1), (ch8.2.2.2.1, ch8.2.2.2.2.2)), rfl, h⟩) Try.underlying69 KT23 ?_; clear S; intro w S
      replace hw := CL.again hw S (.cons .here (.cons .here (.cons (.there .here) .nil))) le
      refine h_back ⟨fun _ => hw, ?_⟩
      refine h_done ?_; clear CL hw le
      refine x_blockN ?_
      refine x_thenN ?_
      refine c_region' ?_
      refine s_bin S rfl rfl rfl rfl ?_; clear S a; intro a S
      refine s_move S rfl rfl ?_; clear S a; intro a S
      refine c_end' ?_
      refine x_thenN ?_
      exact ⟨_, (wr .i64 (y4 + 1)), g20, g21, (aput y5 ((gt x3 y4).1) (t5.1, t5.2.1, t5.2.2.1, t5.2.2.2.1, t5.2.2.2.2)), (S.sub (subR rfl) (.cons (.there .here) (.cons (.there .here) (.cons (.there .here) (.cons (.there .here) .nil))))), h3⟩
     ·refine c_condF S rfl c5 ?_
      refine wp_exit ?_
      refine x_thenX ?_
      refine x_thenX ?_
      refine x_blockX ?_
      refine x_thenN ?_
      exact j1 _ g20 g21 y5 a w (S.sub (subR rfl) (.cons .here (.cons .here (.cons .here (.cons .here .nil))))) h1
/-! (*smithy/store.Store).find -/
abbrev store_Store_find.Ty : Type := L72 → Int → (List Int) → Option (((List Int) × Int × (List Int) × (List Int) × (List ((List Int) × (List Int)))) × Bool)
def store_Store_find.Ctr (s : store_Store_find.Ty) : Prop := ∀ (x1 : L72) (x2 : Int) (x3 : List Int) (ch_0_0 : Nat) (ch_0_1 : Option Addr) (ch_0_2 : Nat) (ch_0_3 : Nat) (r : ((List Int) × Int × (List Int) × (List Int) × (List ((List Int) × (List Int)))) × Bool) (h0 : s x1 x2 x3 = some r) (mi : Mem) (w0 : World), okL mi [(.v (.pointer (some ⟨ch_0_0, 0, none⟩))), (.v (.int .i64 x2)), (.agg [.ints .u8 x3 20])] → Pre mi [Res.cells ch_0_0 74 [.one (.slice ch_0_1 ch_0_2 ch_0_3)], Res.row (Ty.prod (Ty.int .i64) Y69) 71 ch_0_1 ch_0_2 ch_0_3 x1] w0 → Calls Try.prog 37 (([(.v (.pointer (some ⟨ch_0_0, 0, none⟩))), (.v (.int .i64 x2)), (.agg [.ints .u8 x3 20])] : List D).map D.val).toArray w0 (RetX mi [Res.cells ch_0_0 74 [.one (.slice ch_0_1 ch_0_2 ch_0_3)], Res.row (Ty.prod (Ty.int .i64) Y69) 71 ch_0_1 ch_0_2 ch_0_3 x1] (fun (ch : (Option Addr) × Nat × (Option Addr) × Nat) => ((.tup [(true, [.ints .u8 r.1.1 20, .one (.int .u64 r.1.2.1), .ints .u64 r.1.2.2.1 4, .sl ch.1 (r.1.2.2.2.1).length ch.2.1 (RdS (Ty.int .u8) ch.1 r.1.2.2.2.1), .sl ch.2.2.1 (r.1.2.2.2.2).length ch.2.2.2 (RdS Y66 ch.2.2.1 r.1.2.2.2.2)]), (false, [.one (.bool r.2)])]) : D)) (fun (ch : (Option Addr) × Nat × (Option Addr) × Nat) => [Res.cells ch_0_0 74 [.one (.slice ch_0_1 ch_0_2 ch_0_3)], Res.row (Ty.prod (Ty.int .i64) Y69) 71 ch_0_1 ch_0_2 ch_0_3 x1]) w0)
def store_Store_find.j1 : Option (((List Int) × Int × (List Int) × (List Int) × (List ((List Int) × (List Int)))) × Bool) := some (([0, 0, 0, 0, 0, 0, 0, 0, 0, 0, 0, 0, 0, 0, 0, 0, 0, 0, 0, 0], 0, [0, 0, 0, 0], ([] : List Int), ([] : List ((List Int) × (List Int)))), false)
def store_Store_find.j2 (x1 : L72) (x3 : List Int) (y1 : Int) (rec1 : Int → Option (((List Int) × Int × (List Int) × (List Int) × (List ((List Int) × (List Int)))) × Bool)) : Option (((List Int) × Int × (List Int) × (List Int) × (List ((List Int) × (List Int)))) × Bool) := if ((lk (aget ((gt x1 y1).2) x3) ([0, 0, 0, 0, 0, 0, 0, 0, 0, 0, 0, 0, 0, 0, 0, 0, 0, 0, 0, 0], 0, [0, 0, 0, 0], ([] : List Int), ([] : List ((List Int) × (List Int))))).2) = true then (some ((((lk (aget ((gt x1 y1).2) x3) ([0, 0, 0, 0, 0, 0, 0, 0, 0, 0, 0, 0, 0, 0, 0, 0, 0, 0, 0, 0], 0, [0, 0, 0, 0], ([] : List Int), ([] : List ((List Int) × (List Int))))).1).1, ((lk (aget ((gt x1 y1).2) x3) ([0, 0, 0, 0, 0, 0, 0, 0, 0, 0, 0, 0, 0, 0, 0, 0, 0, 0, 0, 0], 0, [0, 0, 0, 0], ([] : List Int), ([] : List ((List Int) × (List Int))))).1).2.1, ((lk (aget ((gt x1 y1).2) x3) ([0, 0, 0, 0, 0, 0, 0, 0, 0, 0, 0, 0, 0, 0, 0, 0, 0, 0, 0, 0], 0, [0, 0, 0, 0], ([] : List Int), ([] : List ((List Int) × (List Int))))).1).2.2.1, ((lk (aget ((gt x1 y1).2) x3) ([0, 0, 0, 0, 0, 0, 0, 0, 0, 0, 0, 0, 0, 0, 0, 0, 0, 0, 0, 0], 0, [0, 0, 0, 0], ([] : List Int), ([] : List ((List Int) × (List Int))))).1).2.2.2.1, ((lk (aget ((gt x1 y1).2) x3) ([0, 0, 0, 0, 0, 0, 0, 0, 0, 0, 0, 0, 0, 0, 0, 0, 0, 0, 0, 0], 0, [0, 0, 0, 0], ([] : List Int), ([] : List ((List Int) × (List Int))))).1).2.2.2.2), true)) else (if (0 : Int) ≤ y1 ∧ y1 < ((x1).length : Int) then (rec1 ((gt x1 y1).1)) else none)
def store_Store_find.b1 (x1 : L72) (x3 : List Int) (rec1 : Int → Option (((List Int) × Int × (List Int) × (List Int) × (List ((List Int) × (List Int)))) × Bool)) (y1 : Int) : Option (((List Int) × Int × (List Int) × (List Int) × (List ((List Int) × (List Int)))) × Bool) := if (decide (0 ≤ y1)) = true then (if (0 : Int) ≤ y1 ∧ y1 < ((x1).length : Int) then (store_Store_find.j2 x1 x3 y1 rec1) else none) else store_Store_find.j1
def store_Store_find.l1 (x1 : L72) (x3 : List Int) : Nat → Int → Option (((List Int) × Int × (List Int) × (List Int) × (List ((List Int) × (List Int)))) × Bool)
  | 0, _ => none
  | q + 1, y1 => store_Store_find.b1 x1 x3 (store_Store_find.l1 x1 x3 q) y1
def store_Store_find.f (k : Nat) (x1 : L72) (x2 : Int) (x3 : List Int) : Option (((List Int) × Int × (List Int) × (List Int) × (List ((List Int) × (List Int)))) × Bool) := (store_Store_has.f (x1) x2).bind fun t1 => (if (!t1) = true then (some (([0, 0, 0, 0, 0, 0, 0, 0, 0, 0, 0, 0, 0, 0, 0, 0, 0, 0, 0, 0], 0, [0, 0, 0, 0], ([] : List Int), ([] : List ((List Int) × (List Int)))), false)) else (store_Store_find.l1 x1 x3 k x2))
theorem store_Store_find.ok (k : Nat) : store_Store_find.Ctr (store_Store_find.f k) := by
 intro x1 x2 x3 ch_0_0 ch_0_1 ch_0_2 ch_0_3 r h0 mi w0 ok hm
 delta store_Store_find.f at h0
 refine c_enterX (n := 41) [(.v (.pointer (some ⟨ch_0_0, 0, none⟩))), (.v (.int .i64 x2)), (.agg [.ints .u8 x3 20])] (l := [(0, (.v (.pointer (some ⟨ch_0_0, 0, none⟩)))), (1, (.v (.int .i64 x2))), (2, (.agg [.ints .u8 x3 20]))]) Try.func37 rfl rfl rfl rfl ok hm ?_
 clear ok hm
 intro b0 hb a S
 refine c_region ?_
 refine s_box S rfl rfl rfl ?_; clear S a; intro g1 a w S
 refine s_alloc S Z30 rfl ⟨rfl, rfl, rfl, rfl, rfl, trivial⟩ rfl ?_; clear S a w; intro g2 a w S
 refine s_assign S rfl rfl ?_; clear S a; intro a S
 refine c_end ?_
 refine wp_seq ?_
 refine c_region ?_
 refine s_move S rfl rfl ?_; clear S a; intro a S
 refine s_move S rfl rfl ?_; clear S a; intro a S
 obtain ⟨t1, et1, h1⟩ := bind_of h0; clear h0
 refine s_callX S (ds' := [(.v (.pointer (some ⟨ch_0_0, 0, none⟩))), (.v (.int .i64 x2))]) (ds := [(.v (.pointer (some ⟨ch_0_0, 0, none⟩))), (.v (.int .i64 x2))]) [Res.cells ch_0_0 74 [.one (.slice ch_0_1 ch_0_2 ch_0_3)], Res.row (Ty.prod (Ty.int .i64) Y69) 71 ch_0_1 ch_0_2 ch_0_3 x1] [Res.cells g2 30 [.ints .u8 [0, 0, 0, 0, 0, 0, 0, 0, 0, 0, 0, 0, 0, 0, 0, 0, 0, 0, 0, 0] 20, .one (.int .u64 0), .ints .u64 [0, 0, 0, 0] 4, .one (.slice none 0 0), .one (.slice none 0 0)], Res.cells g1 23 [.ints .u8 x3 20]] (fun (ch : Unit) => ((.v (.bool t1)) : D)) (fun (ch : Unit) => [Res.cells ch_0_0 74 [.one (.slice ch_0_1 ch_0_2 ch_0_3)], Res.row (Ty.prod (Ty.int .i64) Y69) 71 ch_0_1 ch_0_2 ch_0_3 x1]) (fun (ch : Unit) => [Res.cells ch_0_0 74 [.one (.slice ch_0_1 ch_0_2 ch_0_3)], Res.row (Ty.prod (Ty.int .i64) Y69) 71 ch_0_1 ch_0_2 ch_0_3 x1, Res.cells g2 30 [.ints .u8 [0, 0, 0, 0, 0, 0, 0, 0, 0, 0, 0, 0, 0, 0, 0, 0, 0, 0, 0, 0] 20, .one (.int .u64 0), .ints .u64 [0, 0, 0, 0] 4, .one (.slice none 0 0), .one (.slice none 0 0)], Res.cells g1 23 [.ints .u8 x3 20]]) (fun _ => rfl) N30 rfl rfl (fun ok => ok) (.cons (.there (.there .here)) (.cons (.there (.there .here)) (.cons .here (.cons .here .nil)))) rfl (store_Store_has.ok (x1) x2 ch_0_0 ch_0_1 ch_0_2 ch_0_3 t1 et1 _ _) ?_; clear S a w; intro ch1 m le1 a w S
 refine s_not S rfl rfl ?_; clear S a; intro a S
 refine c_end ?_
 rcases ite_of h1 with ⟨c1, h2⟩ | ⟨c1, h2⟩ <;> clear h1
 ·refine c_condT S rfl c1 ?_
  refine c_region ?_
  refine s_bldS S (ds := []) (zs := [.ints .u8 [0, 0, 0, 0, 0, 0, 0, 0, 0, 0, 0, 0, 0, 0, 0, 0, 0, 0, 0, 0] 20, .one (.int .u64 0), .ints .u64 [0, 0, 0, 0] 4, .one (.slice none 0 0), .one (.slice none 0 0)]) (s' := [.ints .u8 [0, 0, 0, 0, 0, 0, 0, 0, 0, 0, 0, 0, 0, 0, 0, 0, 0, 0, 0, 0] 20, .one (.int .u64 0), .ints .u64 [0, 0, 0, 0] 4, .one (.slice none 0 0), .one (.slice none 0 0)]) rfl Try.underlying30 P30 Z30 ⟨rfl, rfl, rfl, rfl, rfl, trivial⟩ rfl rfl ?_; clear S a; intro a S
  refine s_store S rfl rfl rfl (s' := [.ints .u8 [0, 0, 0, 0, 0, 0, 0, 0, 0, 0, 0, 0, 0, 0, 0, 0, 0, 0, 0, 0] 20, .one (.int .u64 0), .ints .u64 [0, 0, 0, 0] 4, .one (.slice none 0 0), .one (.slice none 0 0)]) (.there (.there .here)) T30 rfl rfl ?_; clear S w; intro w S
  refine s_assign S rfl rfl ?_; clear S a; intro a S
  refine c_end ?_
  refine wp_ret ?_
  refine x_thenR ?_
  replace S := S.cellro (s' := [.ints .u8 [0, 0, 0, 0, 0, 0, 0, 0, 0, 0, 0, 0, 0, 0, 0, 0, 0, 0, 0, 0] 20, .one (.int .u64 0), .ints .u64 [0, 0, 0, 0] 4, .sl none (([] : List Int)).length 0 (RdS (Ty.int .u8) none ([] : List Int)), .one (.slice none 0 0)]) (.there (.there .here)) rfl (fun h => ⟨h.1, h.2.1, h.2.2.1, ok_nil, h.2.2.2.2.1, trivial⟩)
  replace S := S.cellro (s' := [.ints .u8 [0, 0, 0, 0, 0, 0, 0, 0, 0, 0, 0, 0, 0, 0, 0, 0, 0, 0, 0, 0] 20, .one (.int .u64 0), .ints .u64 [0, 0, 0, 0] 4, .sl none (([] : List Int)).length 0 (RdS (Ty.int .u8) none ([] : List Int)), .sl none (([] : List ((List Int) × (List Int)))).length 0 (RdS Y66 none ([] : List ((List Int) × (List Int))))]) (.there (.there .here)) rfl (fun h => ⟨h.1, h.2.1, h.2.2.1, h.2.2.2.1, ok_nil, trivial⟩)
  obtain rfl := Option.some.inj h2
  exact b_ret2 (d1 := (.agg [.ints .u8 [0, 0, 0, 0, 0, 0, 0, 0, 0, 0, 0, 0, 0, 0, 0, 0, 0, 0, 0, 0] 20, .one (.int .u64 0), .ints .u64 [0, 0, 0, 0] 4, .sl none (([] : List Int)).length 0 (RdS (Ty.int .u8) none ([] : List Int)), .sl none (([] : List ((List Int) × (List Int)))).length 0 (RdS Y66 none ([] : List ((List Int) × (List Int))))])) (d2 := (.v (.bool false))) S rfl (resD_cell rfl (.there (.there .here)) T30 rfl rfl) rfl fun ok1 ok2 => S.retX (Hx := []) hb _ _ ((none, 0, none, 0) : (Option Addr) × Nat × (Option Addr) × Nat) (.cons .here (.cons .here .nil)) ⟨ok1, ⟨ok2, trivial⟩, trivial⟩
 ·refine c_condF S rfl c1 ?_
  refine wp_skip ?_
  refine x_thenN ?_
  refine wp_seq_k ?_
  intro K1 hK1
  have j1 : ∀ (m : Mem) (g21 : Nat) (a : Act) (w : World), St 41 m b0 [(6, (.v (.pointer (some ⟨g21, 0, none⟩))))] [Res.cells ch_0_0 74 [.one (.slice ch_0_1 ch_0_2 ch_0_3)], Res.row (Ty.prod (Ty.int .i64) Y69) 71 ch_0_1 ch_0_2 ch_0_3 x1, Res.cells g21 30 [.ints .u8 [0, 0, 0, 0, 0, 0, 0, 0, 0, 0, 0, 0, 0, 0, 0, 0, 0, 0, 0, 0] 20, .one (.int .u64 0), .ints .u64 [0, 0, 0, 0] 4, .one (.slice none 0 0), .one (.slice none 0 0)]] a w → store_Store_find.j1 = some r → K1 a w := by
   intro m g21 a w S h0
   delta store_Store_find.j1 at h0
   refine hK1 a w ?_
   refine c_region ?_
   refine s_bldS S (ds := []) (zs := [.ints .u8 [0, 0, 0, 0, 0, 0, 0, 0, 0, 0, 0, 0, 0, 0, 0, 0, 0, 0, 0, 0] 20, .one (.int .u64 0), .ints .u64 [0, 0, 0, 0] 4, .one (.slice none 0 0), .one (.slice none 0 0)]) (s' := [.ints .u8 [0, 0, 0, 0, 0, 0, 0, 0, 0, 0, 0, 0, 0, 0, 0, 0, 0, 0, 0, 0] 20, .one (.int .u64 0), .ints .u64 [0, 0, 0, 0] 4, .one (.slice none 0 0), .one (.slice none 0 0)]) rfl Try.underlying30 P30 Z30 ⟨rfl, rfl, rfl, rfl, rfl, trivial⟩ rfl rfl ?_; clear S a; intro a S
   refine s_store S rfl rfl rfl (s' := [.ints .u8 [0, 0, 0, 0, 0, 0, 0, 0, 0, 0, 0, 0, 0, 0, 0, 0, 0, 0, 0, 0] 20, .one (.int .u64 0), .ints .u64 [0, 0, 0, 0] 4, .one (.slice none 0 0), .one (.slice none 0 0)]) (.there (.there .here)) T30 rfl rfl ?_; clear S w; intro w S
   refine s_assign S rfl rfl ?_; clear S a; intro a S
   refine c_end ?_
   refine wp_ret ?_
   replace S := S.cellro (s' := [.ints .u8 [0, 0, 0, 0, 0, 0, 0, 0, 0, 0, 0, 0, 0, 0, 0, 0, 0, 0, 0, 0] 20, .one (.int .u64 0), .ints .u64 [0, 0, 0, 0] 4, .sl none (([] : List Int)).length 0 (RdS (Ty.int .u8) none ([] : List Int)), .one (.slice none 0 0)]) (.there (.there .here)) rfl (fun h => ⟨h.1, h.2.1, h.2.2.1, ok_nil, h.2.2.2.2.1, trivial⟩)
   replace S := S.cellro (s' := [.ints .u8 [0, 0, 0, 0, 0, 0, 0, 0, 0, 0, 0, 0, 0, 0, 0, 0, 0, 0, 0, 0] 20, .one (.int .u64 0), .ints .u64 [0, 0, 0, 0] 4, .sl none (([] : List Int)).length 0 (RdS (Ty.int .u8) none ([] : List Int)), .sl none (([] : List ((List Int) × (List Int)))).length 0 (RdS Y66 none ([] : List ((List Int) × (List Int))))]) (.there (.there .here)) rfl (fun h => ⟨h.1, h.2.1, h.2.2.1, h.2.2.2.1, ok_nil, trivial⟩)
   obtain rfl := Option.some.inj h0
   exact b_ret2 (d1 := (.agg [.ints .u8 [0, 0, 0, 0, 0, 0, 0, 0, 0, 0, 0, 0, 0, 0, 0, 0, 0, 0, 0, 0] 20, .one (.int .u64 0), .ints .u64 [0, 0, 0, 0] 4, .sl none (([] : List Int)).length 0 (RdS (Ty.int .u8) none ([] : List Int)), .sl none (([] : List ((List Int) × (List Int)))).length 0 (RdS Y66 none ([] : List ((List Int) × (List Int))))])) (d2 := (.v (.bool false))) S rfl (resD_cell rfl (.there (.there .here)) T30 rfl rfl) rfl fun ok1 ok2 => S.retX (Hx := []) hb _ _ ((none, 0, none, 0) : (Option Addr) × Nat × (Option Addr) × Nat) (.cons .here (.cons .here .nil)) ⟨ok1, ⟨ok2, trivial⟩, trivial⟩
  refine wp_block ?_
  refine c_loop (fun q1 a w => ∃ (m : Mem) (g38 : Nat) (g39 : Nat) (y1 : Int), St 41 m b0 [(6, (.v (.pointer (some ⟨g38, 0, none⟩)))), (5, (.v (.pointer (some ⟨g39, 0, none⟩)))), (0, (.v (.pointer (some ⟨ch_0_0, 0, none⟩)))), (1, (.v (.int .i64 y1)))] [Res.cells ch_0_0 74 [.one (.slice ch_0_1 ch_0_2 ch_0_3)], Res.row (Ty.prod (Ty.int .i64) Y69) 71 ch_0_1 ch_0_2 ch_0_3 x1, Res.cells g38 30 [.ints .u8 [0, 0, 0, 0, 0, 0, 0, 0, 0, 0, 0, 0, 0, 0, 0, 0, 0, 0, 0, 0] 20, .one (.int .u64 0), .ints .u64 [0, 0, 0, 0] 4, .one (.slice none 0 0), .one (.slice none 0 0)], Res.cells g39 23 [.ints .u8 x3 20]] a w ∧ store_Store_find.l1 x1 x3 q1 y1 = some r) ?_ ?_ (k := k) ⟨_, g2, g1, x2, (S.sub (subR rfl) (.cons .here (.cons .here (.cons .here (.cons .here .nil))))), h2⟩
  ·rintro a w ⟨m, g38, g39, y1, S, h0⟩
   exact (nomatch (show (none : Option (((List Int) × Int × (List Int) × (List Int) × (List ((List Int) × (List Int)))) × Bool)) = some r from h0))
  ·clear S h2
   rintro q1 a w ⟨m, g38, g39, y1, S, h0⟩
   replace h0 : store_Store_find.b1 x1 x3 (store_Store_find.l1 x1 x3 q1) y1 = some r := h0
   delta store_Store_find.b1 at h0
   refine wp_seq ?_
   refine c_region ?_
   refine s_move S rfl rfl ?_; clear S a; intro a S
   refine s_bin S rfl rfl rfl rfl ?_; clear S a; intro a S
   refine c_end ?_
   rcases ite_of h0 with ⟨c2, h1⟩ | ⟨c2, h1⟩ <;> clear h0
   ·refine c_condT S rfl c2 ?_
    refine wp_skip ?_
    refine x_thenN ?_
    refine wp_seq ?_
    refine wp_block ?_
    refine wp_seq_k ?_
    intro K2 hK2
    have j2 : ∀ (m : Mem) (g42 : Nat) (g43 : Nat) (g44 : Nat) (A1 : Option Addr) (cp1 : Nat) (A2 : Option Addr) (cp2 : Nat) (a : Act) (w : World), St 41 m b0 [(9, (.v (.bool ((lk (aget ((gt x1 y1).2) x3) ([0, 0, 0, 0, 0, 0, 0, 0, 0, 0, 0, 0, 0, 0, 0, 0, 0, 0, 0, 0], 0, [0, 0, 0, 0], ([] : List Int), ([] : List ((List Int) × (List Int))))).2)))), (8, (.v (.pointer (some ⟨g42, 0, none⟩)))), (6, (.v (.pointer (some ⟨g43, 0, none⟩)))), (5, (.v (.pointer (some ⟨g44, 0, none⟩)))), (0, (.v (.pointer (some ⟨ch_0_0, 0, none⟩)))), (1, (.v (.int .i64 y1)))] [Res.cells g42 30 [.ints .u8 (((lk (aget ((gt x1 y1).2) x3) ([0, 0, 0, 0, 0, 0, 0, 0, 0, 0, 0, 0, 0, 0, 0, 0, 0, 0, 0, 0], 0, [0, 0, 0, 0], ([] : List Int), ([] : List ((List Int) × (List Int))))).1).1) 20, .one (.int .u64 (((lk (aget ((gt x1 y1).2) x3) ([0, 0, 0, 0, 0, 0, 0, 0, 0, 0, 0, 0, 0, 0, 0, 0, 0, 0, 0, 0], 0, [0, 0, 0, 0], ([] : List Int), ([] : List ((List Int) × (List Int))))).1).2.1)), .ints .u64 (((lk (aget ((gt x1 y1).2) x3) ([0, 0, 0, 0, 0, 0, 0, 0, 0, 0, 0, 0, 0, 0, 0, 0, 0, 0, 0, 0], 0, [0, 0, 0, 0], ([] : List Int), ([] : List ((List Int) × (List Int))))).1).2.2.1) 4, .sl A1 (((lk (aget ((gt x1 y1).2) x3) ([0, 0, 0, 0, 0, 0, 0, 0, 0, 0, 0, 0, 0, 0, 0, 0, 0, 0, 0, 0], 0, [0, 0, 0, 0], ([] : List Int), ([] : List ((List Int) × (List Int))))).1).2.2.2.1).length cp1 (RdS (Ty.int .u8) A1 (((lk (aget ((gt x1 y1).2) x3) ([0, 0, 0, 0, 0, 0, 0, 0, 0, 0, 0, 0, 0, 0, 0, 0, 0, 0, 0, 0], 0, [0, 0, 0, 0], ([] : List Int), ([] : List ((List Int) × (List Int))))).1).2.2.2.1)), .sl A2 (((lk (aget ((gt x1 y1).2) x3) ([0, 0, 0, 0, 0, 0, 0, 0, 0, 0, 0, 0, 0, 0, 0, 0, 0, 0, 0, 0], 0, [0, 0, 0, 0], ([] : List Int), ([] : List ((List Int) × (List Int))))).1).2.2.2.2).length cp2 (RdS Y66 A2 (((lk (aget ((gt x1 y1).2) x3) ([0, 0, 0, 0, 0, 0, 0, 0, 0, 0, 0, 0, 0, 0, 0, 0, 0, 0, 0, 0], 0, [0, 0, 0, 0], ([] : List Int), ([] : List ((List Int) × (List Int))))).1).2.2.2.2))], Res.cells ch_0_0 74 [.one (.slice ch_0_1 ch_0_2 ch_0_3)], Res.row (Ty.prod (Ty.int .i64) Y69) 71 ch_0_1 ch_0_2 ch_0_3 x1, Res.cells g43 30 [.ints .u8 [0, 0, 0, 0, 0, 0, 0, 0, 0, 0, 0, 0, 0, 0, 0, 0, 0, 0, 0, 0] 20, .one (.int .u64 0), .ints .u64 [0, 0, 0, 0] 4, .one (.slice none 0 0), .one (.slice none 0 0)], Res.cells g44 23 [.ints .u8 x3 20]] a w → store_Store_find.j2 x1 x3 y1 (store_Store_find.l1 x1 x3 q1) = some r → K2 a w := by
     intro m g42 g43 g44 A1 cp1 A2 cp2 a w S h0
     delta store_Store_find.j2 at h0
     refine hK2 a w ?_
     refine c_region ?_
     refine s_move S rfl rfl ?_; clear S a; intro a S
     refine c_end ?_
     rcases ite_of h0 with ⟨c3, h1⟩ | ⟨c3, h1⟩ <;> clear h0
     ·refine c_condT S rfl c3 ?_
      refine c_region ?_
      refine s_loada S rfl .here T30 (s' := [.ints .u8 (((lk (aget ((gt x1 y1).2) x3) ([0, 0, 0, 0, 0, 0, 0, 0, 0, 0, 0, 0, 0, 0, 0, 0, 0, 0, 0, 0], 0, [0, 0, 0, 0], ([] : List Int), ([] : List ((List Int) × (List Int))))).1).1) 20, .one (.int .u64 (((lk (aget ((gt x1 y1).2) x3) ([0, 0, 0, 0, 0, 0, 0, 0, 0, 0, 0, 0, 0, 0, 0, 0, 0, 0, 0, 0], 0, [0, 0, 0, 0], ([] : List Int), ([] : List ((List Int) × (List Int))))).1).2.1)), .ints .u64 (((lk (aget ((gt x1 y1).2) x3) ([0, 0, 0, 0, 0, 0, 0, 0, 0, 0, 0, 0, 0, 0, 0, 0, 0, 0, 0, 0], 0, [0, 0, 0, 0], ([] : List Int), ([] : List ((List Int) × (List Int))))).1).2.2.1) 4, .sl A1 (((lk (aget ((gt x1 y1).2) x3) ([0, 0, 0, 0, 0, 0, 0, 0, 0, 0, 0, 0, 0, 0, 0, 0, 0, 0, 0, 0], 0, [0, 0, 0, 0], ([] : List Int), ([] : List ((List Int) × (List Int))))).1).2.2.2.1).length cp1 (RdS (Ty.int .u8) A1 (((lk (aget ((gt x1 y1).2) x3) ([0, 0, 0, 0, 0, 0, 0, 0, 0, 0, 0, 0, 0, 0, 0, 0, 0, 0, 0, 0], 0, [0, 0, 0, 0], ([] : List Int), ([] : List ((List Int) × (List Int))))).1).2.2.2.1)), .sl A2 (((lk (aget ((gt x1 y1).2) x3) ([0, 0, 0, 0, 0, 0, 0, 0, 0, 0, 0, 0, 0, 0, 0, 0, 0, 0, 0, 0], 0, [0, 0, 0, 0], ([] : List Int), ([] : List ((List Int) × (List Int))))).1).2.2.2.2).length cp2 (RdS Y66 A2 (((lk (aget ((gt x1 y1).2) x3) ([0, 0, 0, 0, 0, 0, 0, 0, 0, 0, 0, 0, 0, 0, 0, 0, 0, 0, 0, 0], 0, [0, 0, 0, 0], ([] : List Int), ([] : List ((List Int) × (List Int))))).1).2.2.2.2))]) rfl rfl ?_; clear S a; intro a S
      refine s_store S rfl rfl rfl (s' := [.ints .u8 (((lk (aget ((gt x1 y1).2) x3) ([0, 0, 0, 0, 0, 0, 0, 0, 0, 0, 0, 0, 0, 0, 0, 0, 0, 0, 0, 0], 0, [0, 0, 0, 0], ([] : List Int), ([] : List ((List Int) × (List Int))))).1).1) 20, .one (.int .u64 (((lk (aget ((gt x1 y1).2) x3) ([0, 0, 0, 0, 0, 0, 0, 0, 0, 0, 0, 0, 0, 0, 0, 0, 0, 0, 0, 0], 0, [0, 0, 0, 0], ([] : List Int), ([] : List ((List Int) × (List Int))))).1).2.1)), .ints .u64 (((lk (aget ((gt x1 y1).2) x3) ([0, 0, 0, 0, 0, 0, 0, 0, 0, 0, 0, 0, 0, 0, 0, 0, 0, 0, 0, 0], 0, [0, 0, 0, 0], ([] : List Int), ([] : List ((List Int) × (List Int))))).1).2.2.1) 4, .sl A1 (((lk (aget ((gt x1 y1).2) x3) ([0, 0, 0, 0, 0, 0, 0, 0, 0, 0, 0, 0, 0, 0, 0, 0, 0, 0, 0, 0], 0, [0, 0, 0, 0], ([] : List Int), ([] : List ((List Int) × (List Int))))).1).2.2.2.1).length cp1 (RdS (Ty.int .u8) A1 (((lk (aget ((gt x1 y1).2) x3) ([0, 0, 0, 0, 0, 0, 0, 0, 0, 0, 0, 0, 0, 0, 0, 0, 0, 0, 0, 0], 0, [0, 0, 0, 0], ([] : List Int), ([] : List ((List Int) × (List Int))))).1).2.2.2.1)), .sl A2 (((lk (aget ((gt x1 y1).2) x3) ([0, 0, 0, 0, 0, 0, 0, 0, 0, 0, 0, 0, 0, 0, 0, 0, 0, 0, 0, 0], 0, [0, 0, 0, 0], ([] : List Int), ([] : List ((List Int) × (List Int))))).1).2.2.2.2).length cp2 (RdS Y66 A2 (((lk (aget ((gt x1 y1).2) x3) ([0, 0, 0, 0, 0, 0, 0, 0, 0, 0, 0, 0, 0, 0, 0, 0, 0, 0, 0, 0], 0, [0, 0, 0, 0], ([] : List Int), ([] : List ((List Int) × (List Int))))).1).2.2.2.2))]) (.there (.there (.there .here))) T30 rfl rfl ?_; clear S w; intro w S
      refine s_assign S rfl rfl ?_; clear S a; intro a S
      refine c_end ?_
      refine wp_ret ?_
      refine x_blockR ?_
      refine x_thenR ?_
      refine x_thenR ?_
      refine x_blockR ?_
      refine x_thenR ?_
      obtain rfl := Option.some.inj h1
      exact b_ret2 (d1 := (.agg [.ints .u8 (((lk (aget ((gt x1 y1).2) x3) ([0, 0, 0, 0, 0, 0, 0, 0, 0, 0, 0, 0, 0, 0, 0, 0, 0, 0, 0, 0], 0, [0, 0, 0, 0], ([] : List Int), ([] : List ((List Int) × (List Int))))).1).1) 20, .one (.int .u64 (((lk (aget ((gt x1 y1).2) x3) ([0, 0, 0, 0, 0, 0, 0, 0, 0, 0, 0, 0, 0, 0, 0, 0, 0, 0, 0, 0], 0, [0, 0, 0, 0], ([] : List Int), ([] : List ((List Int) × (List Int))))).1).2.1)), .ints .u64 (((lk (aget ((gt x1 y1).2) x3) ([0, 0, 0, 0, 0, 0, 0, 0, 0, 0, 0, 0, 0, 0, 0, 0, 0, 0, 0, 0], 0, [0, 0, 0, 0], ([] : List Int), ([] : List ((List Int) × (List Int))))).1).2.2.1) 4, .sl A1 (((lk (aget ((gt x1 y1).2) x3) ([0, 0, 0, 0, 0, 0, 0, 0, 0, 0, 0, 0, 0, 0, 0, 0, 0, 0, 0, 0], 0, [0, 0, 0, 0], ([] : List Int), ([] : List ((List Int) × (List Int))))).1).2.2.2.1).length cp1 (RdS (Ty.int .u8) A1 (((lk (aget ((gt x1 y1).2) x3) ([0, 0, 0, 0, 0, 0, 0, 0, 0, 0, 0, 0, 0, 0, 0, 0, 0, 0, 0, 0], 0, [0, 0, 0, 0], ([] : List Int), ([] : List ((List Int) × (List Int))))).1).2.2.2.1)), .sl A2 (((lk (aget ((gt x1 y1).2) x3) ([0, 0, 0, 0, 0, 0, 0, 0, 0, 0, 0, 0, 0, 0, 0, 0, 0, 0, 0, 0], 0, [0, 0, 0, 0], ([] : List Int), ([] : List ((List Int) × (List Int))))).1).2.2.2.2).length cp2 (RdS Y66 A2 (((lk (aget ((gt x1 y1).2) x3) ([0, 0, 0, 0, 0, 0, 0, 0, 0, 0, 0, 0, 0, 0, 0, 0, 0, 0, 0, 0], 0, [0, 0, 0, 0], ([] : List Int), ([] : List ((List Int) × (List Int))))).1).2.2.2.2))])) (d2 := (.v (.bool true))) S rfl (resD_cell rfl (.there (.there (.there .here))) T30 rfl rfl) rfl fun ok1 ok2 => S.retX (Hx := []) hb _ _ ((A1, cp1, A2, cp2) : (Option Addr) × Nat × (Option Addr) × Nat) (.cons (.there .here) (.cons (.there .here) .nil)) ⟨ok1, ⟨ok2, trivial⟩, trivial⟩
     ·refine c_condF S rfl c3 ?_
      refine wp_skip ?_
      refine x_blockN ?_
      refine x_thenN ?_
      refine c_region' ?_
      refine s_move S rfl rfl ?_; clear S a; intro a S
      refine s_nilchk S rfl rfl ?_; clear S a; intro a S
      refine s_fieldAddr S rfl I74_0 T72 (by decide) rfl rfl ?_; clear S a; intro a S
      refine s_load1 S rfl (.there .here) T72 (v := (.slice ch_0_1 ch_0_2 ch_0_3)) rfl rfl ?_; clear S a; intro a S
      refine s_move S rfl rfl ?_; clear S a; intro a S
      obtain ⟨c4, h2⟩ := chk_of h1; clear h1
      refine s_iaddrO S (ty' := (Ty.prod (Ty.int .i64) Y69)) rfl (.there (.there .here)) rfl Try.underlying72 T71 c4.1 c4.2 rfl ?_; clear S a; intro g45 a hA1 S
      refine s_fieldAddr S rfl I71_0 T3 (by decide) rfl rfl ?_; clear S a; intro a S
      refine s_ldR1 S (ty' := (Ty.prod (Ty.int .i64) Y69)) (i := y1) (off := 0) (v := (.int .i64 ((gt x1 y1).1))) rfl hA1 (.there (.there .here)) T3 c4.1 c4.2 rfl (fun _ => rfl) rfl ?_; clear S a; intro a S
      refine s_assign S rfl rfl ?_; clear S a; intro a S
      refine c_end' ?_
      refine x_thenN ?_
      exact ⟨_, g43, g44, ((gt x1 y1).1), (S.sub (subR rfl) (.cons (.there .here) (.cons (.there .here) (.cons (.there .here) (.cons (.there .here) .nil))))), h2⟩
    refine c_heldS S (.take 0 (.take 1 (.take 2 (.take 3 (.take 4 (.take 8 (.alts (.run 5 true (.take 6 (.alts (.run 7 true (.alts (.run 9 true (.alts (.run 10 true (.alts (.run 11 true (.alts (.run 12 true (.alts (.run 13 true (.alts (.run 14 true (.take 15 .done) .nil)) .nil)) (.run 13 true (.alts (.run 12 true (.alts (.run 14 true (.take 15 .done) .nil)) (.run 14 true (.alts (.run 12 true (.take 15 .done) .nil)) .nil))) .nil))) (.run 12 true (.alts (.run 11 true (.alts (.run 13 true (.alts (.run 14 true (.take 15 .done) .nil)) .nil)) (.run 13 true (.alts (.run 11 true (.alts (.run 14 true (.take 15 .done) .nil)) .nil)) .nil))) (.run 13 true (.alts (.run 11 true (.alts (.run 12 true (.alts (.run 14 true (.take 15 .done) .nil)) (.run 14 true (.alts (.run 12 true (.take 15 .done) .nil)) .nil))) (.run 12 true (.alts (.run 11 true (.alts (.run 14 true (.take 15 .done) .nil)) .nil)) .nil))) .nil)))) (.run 13 true (.alts (.run 10 true (.alts (.run 11 true (.alts (.run 12 true (.alts (.run 14 true (.take 15 .done) .nil)) (.run 14 true (.alts (.run 12 true (.take 15 .done) .nil)) .nil))) (.run 12 true (.alts (.run 11 true (.alts (.run 14 true (.take 15 .done) .nil)) .nil)) .nil))) .nil)) .nil))) (.run 13 true (.alts (.run 9 true (.alts (.run 10 true (.alts (.run 11 true (.alts (.run 12 true (.alts (.run 14 true (.take 15 .done) .nil)) (.run 14 true (.alts (.run 12 true (.take 15 .done) .nil)) .nil))) (.run 12 true (.alts (.run 11 true (.alts (.run 14 true (.take 15 .done) .nil)) .nil)) .nil))) .nil)) .nil)) .nil))) (.run 13 true (.alts (.run 7 true (.alts (.run 9 true (.alts (.run 10 true (.alts (.run 11 true (.alts (.run 12 true (.alts (.run 14 true (.take 15 .done) .nil)) (.run 14 true (.alts (.run 12 true (.take 15 .done) .nil)) .nil))) (.run 12 true (.alts (.run 11 true (.alts (.run 14 true (.take 15 .done) .nil)) .nil)) .nil))) .nil)) .nil)) .nil)) .nil)))) (.run 13 true (.alts (.run 5 true (.take 6 (.alts (.run 7 true (.alts (.run 9 true (.alts (.run 10 true (.alts (.run 11 true (.alts (.run 12 true (.alts (.run 14 true (.take 15 .done) .nil)) (.run 14 true (.alts (.run 12 true (.take 15 .done) .nil)) .nil))) (.run 12 true (.alts (.run 11 true (.alts (.run 14 true (.take 15 .done) .nil)) .nil)) .nil))) .nil)) .nil)) .nil))) .nil)) .nil))))))))) 16 [Res.cells ch_0_0 74 [.one (.slice ch_0_1 ch_0_2 ch_0_3)], Res.cells g38 30 [.ints .u8 [0, 0, 0, 0, 0, 0, 0, 0, 0, 0, 0, 0, 0, 0, 0, 0, 0, 0, 0, 0] 20, .one (.int .u64 0), .ints .u64 [0, 0, 0, 0] 4, .one (.slice none 0 0), .one (.slice none 0 0)], Res.cells g39 23 [.ints .u8 x3 20]] (.cons .here (.cons (.there .here) (.cons (.there .here) .nil))) ⟨Res.stay_cells, Res.stay_cells, Res.stay_cells, trivial⟩ [(5, (.v (.pointer (some ⟨g39, 0, none⟩)))), (0, (.v (.pointer (some ⟨ch_0_0, 0, none⟩)))), (1, (.v (.int .i64 y1)))] (subR rfl) (by kernel_rfl) (by kernel_rfl) ?_; clear S; intro w S CL hw le
    refine h_move S CL hw le (subR rfl) rfl rfl rfl trivial ?_; clear S CL a; intro a S CL
    refine h_nilchk S CL hw le (subR rfl) rfl rfl rfl rfl trivial ?_; clear S CL a; intro a S CL
    refine h_fieldAddr S CL hw le (subR rfl) rfl I74_0 T72 (by decide) rfl rfl rfl trivial ?_; clear S CL a; intro a S CL
    refine h_load1 S CL hw le (subR rfl) rfl .here T72 (v := (.slice ch_0_1 ch_0_2 ch_0_3)) rfl rfl rfl trivial ?_; clear S CL a; intro a S CL
    refine h_move S CL hw le (subR rfl) rfl rfl rfl trivial ?_; clear S CL a; intro a S CL
    refine h_loada S CL hw le (subR rfl) rfl (.there (.there .here)) T23 (s' := [.ints .u8 x3 20]) rfl rfl rfl trivial ?_; clear S CL a; intro a S CL
    obtain ⟨c5, h2⟩ := chk_of h1; clear h1
    refine h_alts ?_
    refine h_runO S rfl trivial ?_ ?_
    ·refine s_iaddrO S (ty' := (Ty.prod (Ty.int .i64) Y69)) rfl (.there .here) rfl Try.underlying72 T71 c5.1 c5.2 rfl ?_; clear S a; intro g46 a hA2 S
     replace hw := CL.again hw S (.cons .here (.cons (.there .here) (.cons (.there .here) .nil))) le
     refine h_back ⟨fun _ => hw, ?_⟩
     replace CL := CL.add (t := 31) (d := (.v (.pointer (some ⟨g46, Int.toNat y1 * ((Ty.prod (Ty.int .i64) Y69)).size, none⟩)))) S rfl rfl
     refine h_fieldAddr S CL hw le (subR rfl) rfl I71_1 T69 (by decide) rfl rfl rfl trivial ?_; clear S CL a; intro a S CL
     refine h_alts ?_
     refine h_runO S rfl trivial ?_ ?_
     ·refine s_ldRM S (ty' := (Ty.prod (Ty.int .i64) Y69)) (i := y1) (off := 1) (fun (c : Unit × (Option Nat)) => c.2) rfl hA2 (.there .here) T69 c5.1 c5.2 rfl (fun _ => rfl) rfl ?_; clear S a; intro mg1 a S
      replace hw := CL.again hw S (.cons .here (.cons (.there .here) (.cons (.there .here) .nil))) le
      refine h_back ⟨fun _ => hw, ?_⟩
      refine h_alts ?_
      refine h_runO S rfl trivial ?_ ?_
      ·refine s_lookR S (z := ([0, 0, 0, 0, 0, 0, 0, 0, 0, 0, 0, 0, 0, 0, 0, 0, 0, 0, 0, 0], 0, [0, 0, 0, 0], ([] : List Int), ([] : List ((List Int) × (List Int))))) (k := x3) rfl ((), (), (), (none, 0), (none, 0)) rfl (fun h => ⟨(), rfl, h⟩) Try.underlying69 KT23 Z30 ⟨rfl, rfl, rfl, ⟨Nat.le_refl _, Nat.zero_le _, RdS.nil _ _ _, RdS.mono _ _ _⟩, ⟨Nat.le_refl _, Nat.zero_le _, RdS.nil _ _ _, RdS.mono _ _ _⟩, trivial⟩ rfl ?_; clear S a; intro ch3 a S
       replace hw := CL.again hw S (.cons .here (.cons (.there .here) (.cons (.there .here) .nil))) le
       refine h_back ⟨fun _ => hw, ?_⟩
       refine h_alts ?_
       refine h_runO S rfl trivial ?_ ?_
       ·refine s_move S rfl rfl ?_; clear S a; intro a S
        replace hw := CL.again hw S (.cons .here (.cons (.there .here) (.cons (.there .here) .nil))) le
        refine h_back ⟨fun _ => hw, ?_⟩
        refine h_alts ?_
        refine h_runO S rfl trivial ?_ ?_
        ·refine s_extract S rfl rfl rfl rfl ?_; clear S a; intro a S
         replace hw := CL.again hw S (.cons .here (.cons (.there .here) (.cons (.there .here) .nil))) le
         refine h_back ⟨fun _ => hw, ?_⟩
         refine h_alts ?_
         refine h_runO S rfl trivial ?_ ?_
         ·refine s_extract S rfl rfl rfl rfl ?_; clear S a; intro a S
          replace hw := CL.again hw S (.cons .here (.cons (.there .here) (.cons (.there .here) .nil))) le
          refine h_back ⟨fun _ => hw, ?_⟩
          replace CL := CL.add (t := 37) (d := (.v (.bool ((lk (aget ((gt x1 y1).2) x3) ([0, 0, 0, 0, 0, 0, 0, 0, 0, 0, 0, 0, 0, 0, 0, 0, 0, 0, 0, 0], 0, [0, 0, 0, 0], ([] : List Int), ([] : List ((List Int) × (List Int))))).2)))) S rfl rfl
          refine h_run' S rfl trivial ?_
          refine s_alloc S Z30 rfl ⟨rfl, rfl, rfl, rfl, rfl, trivial⟩ rfl ?_; clear S a; intro g47 a w S
          replace hw := CL.again hw S (.cons (.there .here) (.cons (.there (.there .here)) (.cons (.there (.there .here)) .nil))) le
          refine h_back ⟨fun _ => hw, ?_⟩
          refine h_run' S rfl trivial ?_
          refine s_store S rfl rfl rfl (s' := [.ints .u8 (((lk (aget ((gt x1 y1).2) x3) ([0, 0, 0, 0, 0, 0, 0, 0, 0, 0, 0, 0, 0, 0, 0, 0, 0, 0, 0, 0], 0, [0, 0, 0, 0], ([] : List Int), ([] : List ((List Int) × (List Int))))).1).1) 20, .one (.int .u64 (((lk (aget ((gt x1 y1).2) x3) ([0, 0, 0, 0, 0, 0, 0, 0, 0, 0, 0, 0, 0, 0, 0, 0, 0, 0, 0, 0], 0, [0, 0, 0, 0], ([] : List Int), ([] : List ((List Int) × (List Int))))).1).2.1)), .ints .u64 (((lk (aget ((gt x1 y1).2) x3) ([0, 0, 0, 0, 0, 0, 0, 0, 0, 0, 0, 0, 0, 0, 0, 0, 0, 0, 0, 0], 0, [0, 0, 0, 0], ([] : List Int), ([] : List ((List Int) × (List Int))))).1).2.2.1) 4, .sl ch3.2.2.2.1.1 (((lk (aget ((gt x1 y1).2) x3) ([0, 0, 0, 0, 0, 0, 0, 0, 0, 0, 0, 0, 0, 0, 0, 0, 0, 0, 0, 0], 0, [0, 0, 0, 0], ([] : List Int), ([] : List ((List Int) × (List Int))))).1).2.2.2.1).length ch3.2.2.2.1.2 (RdS (Ty.int .u8) ch3.2.2.2.1.1 (((lk (aget ((gt x1 y1).2) x3) ([0, 0, 0, 0, 0, 0, 0, 0, 0, 0, 0, 0, 0, 0, 0, 0, 0, 0, 0, 0], 0, [0, 0, 0, 0], ([] : List Int), ([] : List ((List Int) × (List Int))))).1).2.2.2.1)), .sl ch3.2.2.2.2.1 (((lk (aget ((gt x1 y1).2) x3) ([0, 0, 0, 0, 0, 0, 0, 0, 0, 0, 0, 0, 0, 0, 0, 0, 0, 0, 0, 0], 0, [0, 0, 0, 0], ([] : List Int), ([] : List ((List Int) × (List Int))))).1).2.2.2.2).length ch3.2.2.2.2.2 (RdS Y66 ch3.2.2.2.2.1 (((lk (aget ((gt x1 y1).2) x3) ([0, 0, 0, 0, 0, 0, 0, 0, 0, 0, 0, 0, 0, 0, 0, 0, 0, 0, 0, 0], 0, [0, 0, 0, 0], ([] : List Int), ([] : List ((List Int) × (List Int))))).1).2.2.2.2))]) .here T30 rfl rfl ?_; clear S; intro w S
          replace hw := CL.again hw S (.cons (.there .here) (.cons (.there (.there .here)) (.cons (.there (.there .here)) .nil))) le
          refine h_back ⟨fun _ => hw, ?_⟩
          refine h_assign S CL hw le (subR rfl) rfl rfl rfl trivial ?_; clear S CL a; intro a S CL
          refine h_done ?_; clear CL hw le
          refine x_thenN ?_
          exact j2 _ g47 g38 g39 ch3.2.2.2.1.1 ch3.2.2.2.1.2 ch3.2.2.2.2.1 ch3.2.2.2.2.2 a w (S.sub (subR rfl) (.cons .here (.cons .here (.cons .here (.cons .here (.cons .here .nil)))))) h2
         refine h_runO S rfl trivial ?_ ?_
         ·refine s_alloc S Z30 rfl ⟨rfl, rfl, rfl, rfl, rfl, trivial⟩ rfl ?_; clear S a; intro g47 a w S
          replace hw := CL.again hw S (.cons (.there .here) (.cons (.there (.there .here)) (.cons (.there (.there .here)) .nil))) le
          refine h_back ⟨fun _ => hw, ?_⟩
          refine h_alts ?_
          refine h_runO S rfl trivial ?_ ?_
          ·refine s_extract S rfl rfl rfl rfl ?_; clear S a; intro a S
           replace hw := CL.again hw S (.cons (.there .here) (.cons (.there (.there .here)) (.cons (.there (.there .here)) .nil))) le
           refine h_back ⟨fun _ => hw, ?_⟩
           replace CL := CL.add (t := 37) (d := (.v (.bool ((lk (aget ((gt x1 y1).2) x3) ([0, 0, 0, 0, 0, 0, 0, 0, 0, 0, 0, 0, 0, 0, 0, 0, 0, 0, 0, 0], 0, [0, 0, 0, 0], ([] : List Int), ([] : List ((List Int) × (List Int))))).2)))) S rfl rfl
           refine h_run' S rfl trivial ?_
           refine s_store S rfl rfl rfl (s' := [.ints .u8 (((lk (aget ((gt x1 y1).2) x3) ([0, 0, 0, 0, 0, 0, 0, 0, 0, 0, 0, 0, 0, 0, 0, 0, 0, 0, 0, 0], 0, [0, 0, 0, 0], ([] : List Int), ([] : List ((List Int) × (List Int))))).1).1) 20, .one (.int .u64 (((lk (aget ((gt x1 y1).2) x3) ([0, 0, 0, 0, 0, 0, 0, 0, 0, 0, 0, 0, 0, 0, 0, 0, 0, 0, 0, 0], 0, [0, 0, 0, 0], ([] : List Int), ([] : List ((List Int) × (List Int))))).1).2.1)), .ints .u64 (((lk (aget ((gt x1 y1).2) x3) ([0, 0, 0, 0, 0, 0, 0, 0, 0, 0, 0, 0, 0, 0, 0, 0, 0, 0, 0, 0], 0, [0, 0, 0, 0], ([] : List Int), ([] : List ((List Int) × (List Int))))).1).2.2.1) 4, .sl ch3.2.2.2.1.1 (((lk (aget ((gt x1 y1).2) x3) ([0, 0, 0, 0, 0, 0, 0, 0, 0, 0, 0, 0, 0, 0, 0, 0, 0, 0, 0, 0], 0, [0, 0, 0, 0], ([] : List Int), ([] : List ((List Int) × (List Int))))).1).2.2.2.1).length ch3.2.2.2.1.2 (RdS (Ty.int .u8) ch3.2.2.2.1.1 (((lk (aget ((gt x1 y1).2) x3) ([0, 0, 0, 0, 0, 0, 0, 0, 0, 0, 0, 0, 0, 0, 0, 0, 0, 0, 0, 0], 0, [0, 0, 0, 0], ([] : List Int), ([] : List ((List Int) × (List Int))))).1).2.2.2.1)), .sl ch3.2.2.2.2.1 (((lk (aget ((gt x1 y1).2) x3) ([0, 0, 0, 0, 0, 0, 0, 0, 0, 0, 0, 0, 0, 0, 0, 0, 0, 0, 0, 0], 0, [0, 0, 0, 0], ([] : List Int), ([] : List ((List Int) × (List Int))))).1).2.2.2.2).length ch3.2.2.2.2.2 (RdS Y66 ch3.2.2.2.2.1 (((lk (aget ((gt x1 y1).2) x3) ([0, 0, 0, 0, 0, 0, 0, 0, 0, 0, 0, 0, 0, 0, 0, 0, 0, 0, 0, 0], 0, [0, 0, 0, 0], ([] : List Int), ([] : List ((List Int) × (List Int))))).1).2.2.2.2))]) .here T30 rfl rfl ?_; clear S; intro w S
           replace hw := CL.again hw S (.cons (.there .here) (.cons (.there (.there .here)) (.cons (.there (.there .here)) .nil))) le
           refine h_back ⟨fun _ => hw, ?_⟩
           refine h_assign S CL hw le (subR rfl) rfl rfl rfl trivial ?_; clear S CL a; intro a S CL
           refine h_done ?_; clear CL hw le
           refine x_thenN ?_
           exact j2 _ g47 g38 g39 ch3.2.2.2.1.1 ch3.2.2.2.1.2 ch3.2.2.2.2.1 ch3.2.2.2.2.2 a w (S.sub (subR rfl) (.cons .here (.cons .here (.cons .here (.cons .here (.cons .here .nil)))))) h2
          refine h_runO S rfl trivial ?_ ?_
          ·refine s_store S rfl rfl rfl (s' := [.ints .u8 (((lk (aget ((gt x1 y1).2) x3) ([0, 0, 0, 0, 0, 0, 0, 0, 0, 0, 0, 0, 0, 0, 0, 0, 0, 0, 0, 0], 0, [0, 0, 0, 0], ([] : List Int), ([] : List ((List Int) × (List Int))))).1).1) 20, .one (.int .u64 (((lk (aget ((gt x1 y1).2) x3) ([0, 0, 0, 0, 0, 0, 0, 0, 0, 0, 0, 0, 0, 0, 0, 0, 0, 0, 0, 0], 0, [0, 0, 0, 0], ([] : List Int), ([] : List ((List Int) × (List Int))))).1).2.1)), .ints .u64 (((lk (aget ((gt x1 y1).2) x3) ([0, 0, 0, 0, 0, 0, 0, 0, 0, 0, 0, 0, 0, 0, 0, 0, 0, 0, 0, 0], 0, [0, 0, 0, 0], ([] : List Int), ([] : List ((List Int) × (List Int))))).1).2.2.1) 4, .sl ch3.2.2.2.1.1 (((lk (aget ((gt x1 y1).2) x3) ([0, 0, 0, 0, 0, 0, 0, 0, 0, 0, 0, 0, 0, 0, 0, 0, 0, 0, 0, 0], 0, [0, 0, 0, 0], ([] : List Int), ([] : List ((List Int) × (List Int))))).1).2.2.2.1).length ch3.2.2.2.1.2 (RdS (Ty.int .u8) ch3.2.2.2.1.1 (((lk (aget ((gt x1 y1).2) x3) ([0, 0, 0, 0, 0, 0, 0, 0, 0, 0, 0, 0, 0, 0, 0, 0, 0, 0, 0, 0], 0, [0, 0, 0, 0], ([] : List Int), ([] : List ((List Int) × (List Int))))).1).2.2.2.1)), .sl ch3.2.2.2.2.1 (((lk (aget ((gt x1 y1).2) x3) ([0, 0, 0, 0, 0, 0, 0, 0, 0, 0, 0, 0, 0, 0, 0, 0, 0, 0, 0, 0], 0, [0, 0, 0, 0], ([] : List Int), ([] : List ((List Int) × (List Int))))).1).2.2.2.2).length ch3.2.2.2.2.2 (RdS Y66 ch3.2.2.2.2.1 (((lk (aget ((gt x1 y1).2) x3) ([0, 0, 0, 0, 0, 0, 0, 0, 0, 0, 0, 0, 0, 0, 0, 0, 0, 0, 0, 0], 0, [0, 0, 0, 0], ([] : List Int), ([] : List ((List Int) × (List Int))))).1).2.2.2.2))]) .here T30 rfl rfl ?_; clear S; intro w S
           replace hw := CL.again hw S (.cons (.there .here) (.cons (.there (.there .here)) (.cons (.there (.there .here)) .nil))) le
           refine h_back ⟨fun _ => hw, ?_⟩
           refine h_run' S rfl trivial ?_
           refine s_extract S rfl rfl rfl rfl ?_; clear S a; intro a S
           replace hw := CL.again hw S (.cons (.there .here) (.cons (.there (.there .here)) (.cons (.there (.there .here)) .nil))) le
           refine h_back ⟨fun _ => hw, ?_⟩
           replace CL := CL.add (t := 37) (d := (.v (.bool ((lk (aget ((gt x1 y1).2) x3) ([0, 0, 0, 0, 0, 0, 0, 0, 0, 0, 0, 0, 0, 0, 0, 0, 0, 0, 0, 0], 0, [0, 0, 0, 0], ([] : List Int), ([] : List ((List Int) × (List Int))))).2)))) S rfl rfl
           refine h_assign S CL hw le (subR rfl) rfl rfl rfl trivial ?_; clear S CL a; intro a S CL
           refine h_done ?_; clear CL hw le
           refine x_thenN ?_
           exact j2 _ g47 g38 g39 ch3.2.2.2.1.1 ch3.2.2.2.1.2 ch3.2.2.2.2.1 ch3.2.2.2.2.2 a w (S.sub (subR rfl) (.cons .here (.cons .here (.cons .here (.cons .here (.cons .here .nil)))))) h2
          exact h_nil
         exact h_nil
        refine h_runO S rfl trivial ?_ ?_
        ·refine s_extract S rfl rfl rfl rfl ?_; clear S a; intro a S
         replace hw := CL.again hw S (.cons .here (.cons (.there .here) (.cons (.there .here) .nil))) le
         refine h_back ⟨fun _ => hw, ?_⟩
         replace CL := CL.add (t := 37) (d := (.v (.bool ((lk (aget ((gt x1 y1).2) x3) ([0, 0, 0, 0, 0, 0, 0, 0, 0, 0, 0, 0, 0, 0, 0, 0, 0, 0, 0, 0], 0, [0, 0, 0, 0], ([] : List Int), ([] : List ((List Int) × (List Int))))).2)))) S rfl rfl
         refine h_alts ?_
         refine h_runO S rfl trivial ?_ ?_
         ·refine s_extract S rfl rfl rfl rfl ?_; clear S a; intro a S
          replace hw := CL.again hw S (.cons .here (.cons (.there .here) (.cons (.there .here) .nil))) le
          refine h_back ⟨fun _ => hw, ?_⟩
          refine h_run' S rfl trivial ?_
          refine s_alloc S Z30 rfl ⟨rfl, rfl, rfl, rfl, rfl, trivial⟩ rfl ?_; clear S a; intro g47 a w S
          replace hw := CL.again hw S (.cons (.there .here) (.cons (.there (.there .here)) (.cons (.there (.there .here)) .nil))) le
          refine h_back ⟨fun _ => hw, ?_⟩
          refine h_run' S rfl trivial ?_
          refine s_store S rfl rfl rfl (s' := [.ints .u8 (((lk (aget ((gt x1 y1).2) x3) ([0, 0, 0, 0, 0, 0, 0, 0, 0, 0, 0, 0, 0, 0, 0, 0, 0, 0, 0, 0], 0, [0, 0, 0, 0], ([] : List Int), ([] : List ((List Int) × (List Int))))).1).1) 20, .one (.int .u64 (((lk (aget ((gt x1 y1).2) x3) ([0, 0, 0, 0, 0, 0, 0, 0, 0, 0, 0, 0, 0, 0, 0, 0, 0, 0, 0, 0], 0, [0, 0, 0, 0], ([] : List Int), ([] : List ((List Int) × (List Int))))).1).2.1)), .ints .u64 (((lk (aget ((gt x1 y1).2) x3) ([0, 0, 0, 0, 0, 0, 0, 0, 0, 0, 0, 0, 0, 0, 0, 0, 0, 0, 0, 0], 0, [0, 0, 0, 0], ([] : List Int), ([] : List ((List Int) × (List Int))))).1).2.2.1) 4, .sl ch3.2.2.2.1.1 (((lk (aget ((gt x1 y1).2) x3) ([0, 0, 0, 0, 0, 0, 0, 0, 0, 0, 0, 0, 0, 0, 0, 0, 0, 0, 0, 0], 0, [0, 0, 0, 0], ([] : List Int), ([] : List ((List Int) × (List Int))))).1).2.2.2.1).length ch3.2.2.2.1.2 (RdS (Ty.int .u8) ch3.2.2.2.1.1 (((lk (aget ((gt x1 y1).2) x3) ([0, 0, 0, 0, 0, 0, 0, 0, 0, 0, 0, 0, 0, 0, 0, 0, 0, 0, 0, 0], 0, [0, 0, 0, 0], ([] : List Int), ([] : List ((List Int) × (List Int))))).1).2.2.2.1)), .sl ch3.2.2.2.2.1 (((lk (aget ((gt x1 y1).2) x3) ([0, 0, 0, 0, 0, 0, 0, 0, 0, 0, 0, 0, 0, 0, 0, 0, 0, 0, 0, 0], 0, [0, 0, 0, 0], ([] : List Int), ([] : List ((List Int) × (List Int))))).1).2.2.2.2).length ch3.2.2.2.2.2 (RdS Y66 ch3.2.2.2.2.1 (((lk (aget ((gt x1 y1).2) x3) ([0, 0, 0, 0, 0, 0, 0, 0, 0, 0, 0, 0, 0, 0, 0, 0, 0, 0, 0, 0], 0, [0, 0, 0, 0], ([] : List Int), ([] : List ((List Int) × (List Int))))).1).2.2.2.2))]) .here T30 rfl rfl ?_; clear S; intro w S
          replace hw := CL.again hw S (.cons (.there .here) (.cons (.there (.there .here)) (.cons (.there (.there .here)) .nil))) le
          refine h_back ⟨fun _ => hw, ?_⟩
          refine h_assign S CL hw le (subR rfl) rfl rfl rfl trivial ?_; clear S CL a; intro a S CL
          refine h_done ?_; clear CL hw le
          refine x_thenN ?_
          exact j2 _ g47 g38 g39 ch3.2.2.2.1.1 ch3.2.2.2.1.2 ch3.2.2.2.2.1 ch3.2.2.2.2.2 a w (S.sub (subR rfl) (.cons .here (.cons .here (.cons .here (.cons .here (.cons .here .nil)))))) h2
         refine h_runO S rfl trivial ?_ ?_
         ·refine s_alloc S Z30 rfl ⟨rfl, rfl, rfl, rfl, rfl, trivial⟩ rfl ?_; clear S a; intro g47 a w S
          replace hw := CL.again hw S (.cons (.there .here) (.cons (.there (.there .here)) (.cons (.there (.there .here)) .nil))) le
          refine h_back ⟨fun _ => hw, ?_⟩
          refine h_run' S rfl trivial ?_
          refine s_extract S rfl rfl rfl rfl ?_; clear S a; intro a S
          replace hw := CL.again hw S (.cons (.there .here) (.cons (.there (.there .here)) (.cons (.there (.there .here)) .nil))) le
          refine h_back ⟨fun _ => hw, ?_⟩
          refine h_run' S rfl trivial ?_
          refine s_store S rfl rfl rfl (s' := [.ints .u8 (((lk (aget ((gt x1 y1).2) x3) ([0, 0, 0, 0, 0, 0, 0, 0, 0, 0, 0, 0, 0, 0, 0, 0, 0, 0, 0, 0], 0, [0, 0, 0, 0], ([] : List Int), ([] : List ((List Int) × (List Int))))).1).1) 20, .one (.int .u64 (((lk (aget ((gt x1 y1).2) x3) ([0, 0, 0, 0, 0, 0, 0, 0, 0, 0, 0, 0, 0, 0, 0, 0, 0, 0, 0, 0], 0, [0, 0, 0, 0], ([] : List Int), ([] : List ((List Int) × (List Int))))).1).2.1)), .ints .u64 (((lk (aget ((gt x1 y1).2) x3) ([0, 0, 0, 0, 0, 0, 0, 0, 0, 0, 0, 0, 0, 0, 0, 0, 0, 0, 0, 0], 0, [0, 0, 0, 0], ([] : List Int), ([] : List ((List Int) × (List Int))))).1).2.2.1) 4, .sl ch3.2.2.2.1.1 (((lk (aget ((gt x1 y1).2) x3) ([0, 0, 0, 0, 0, 0, 0, 0, 0, 0, 0, 0, 0, 0, 0, 0, 0, 0, 0, 0], 0, [0, 0, 0, 0], ([] : List Int), ([] : List ((List Int) × (List Int))))).1).2.2.2.1).length ch3.2.2.2.1.2 (RdS (Ty.int .u8) ch3.2.2.2.1.1 (((lk (aget ((gt x1 y1).2) x3) ([0, 0, 0, 0, 0, 0, 0, 0, 0, 0, 0, 0, 0, 0, 0, 0, 0, 0, 0, 0], 0, [0, 0, 0, 0], ([] : List Int), ([] : List ((List Int) × (List Int))))).1).2.2.2.1)), .sl ch3.2.2.2.2.1 (((lk (aget ((gt x1 y1).2) x3) ([0, 0, 0, 0, 0, 0, 0, 0, 0, 0, 0, 0, 0, 0, 0, 0, 0, 0, 0, 0], 0, [0, 0, 0, 0], ([] : List Int), ([] : List ((List Int) × (List Int))))).1).2.2.2.2).length ch3.2.2.2.2.2 (RdS Y66 ch3.2.2.2.2.1 (((lk (aget ((gt x1 y1).2) x3) ([0, 0, 0, 0, 0, 0, 0, 0, 0, 0, 0, 0, 0, 0, 0, 0, 0, 0, 0, 0], 0, [0, 0, 0, 0], ([] : List Int), ([] : List ((List Int) × (List Int))))).1).2.2.2.2))]) .here T30 rfl rfl ?_; clear S; intro w S
          replace hw := CL.again hw S (.cons (.there .here) (.cons (.there (.there .here)) (.cons (.there (.there .here)) .nil))) le
          refine h_back ⟨fun _ => hw, ?_⟩
          refine h_assign S CL hw le (subR rfl) rfl rfl rfl trivial ?_; clear S CL a; intro a S CL
          refine h_done ?_; clear CL hw le
          refine x_thenN ?_
          exact j2 _ g47 g38 g39 ch3.2.2.2.1.1 ch3.2.2.2.1.2 ch3.2.2.2.2.1 ch3.2.2.2.2.2 a w (S.sub (subR rfl) (.cons .here (.cons .here (.cons .here (.cons .here (.cons .here .nil)))))) h2
         exact h_nil
        refine h_runO S rfl trivial ?_ ?_
        ·refine s_alloc S Z30 rfl ⟨rfl, rfl, rfl, rfl, rfl, trivial⟩ rfl ?_; clear S a; intro g47 a w S
         replace hw := CL.again hw S (.cons (.there .here) (.cons (.there (.there .here)) (.cons (.there (.there .here)) .nil))) le
         refine h_back ⟨fun _ => hw, ?_⟩
         refine h_alts ?_
         refine h_runO S rfl trivial ?_ ?_
         ·refine s_extract S rfl rfl rfl rfl ?_; clear S a; intro a S
          replace hw := CL.again hw S (.cons (.there .here) (.cons (.there (.there .here)) (.cons (.there (.there .here)) .nil))) le
          refine h_back ⟨fun _ => hw, ?_⟩
          refine h_alts ?_
          refine h_runO S rfl trivial ?_ ?_
          ·refine s_extract S rfl rfl rfl rfl ?_; clear S a; intro a S
           replace hw := CL.again hw S (.cons (.there .here) (.cons (.there (.there .here)) (.cons (.there (.there .here)) .nil))) le
           refine h_back ⟨fun _ => hw, ?_⟩
           replace CL := CL.add (t := 37) (d := (.v (.bool ((lk (aget ((gt x1 y1).2) x3) ([0, 0, 0, 0, 0, 0, 0, 0, 0, 0, 0, 0, 0, 0, 0, 0, 0, 0, 0, 0], 0, [0, 0, 0, 0], ([] : List Int), ([] : List ((List Int) × (List Int))))).2)))) S rfl rfl
           refine h_run' S rfl trivial ?_
           refine s_store S rfl rfl rfl (s' := [.ints .u8 (((lk (aget ((gt x1 y1).2) x3) ([0, 0, 0, 0, 0, 0, 0, 0, 0, 0, 0, 0, 0, 0, 0, 0, 0, 0, 0, 0], 0, [0, 0, 0, 0], ([] : List Int), ([] : List ((List Int) × (List Int))))).1).1) 20, .one (.int .u64 (((lk (aget ((gt x1 y1).2) x3) ([0, 0, 0, 0, 0, 0, 0, 0, 0, 0, 0, 0, 0, 0, 0, 0, 0, 0, 0, 0], 0, [0, 0, 0, 0], ([] : List Int), ([] : List ((List Int) × (List Int))))).1).2.1)), .ints .u64 (((lk (aget ((gt x1 y1).2) x3) ([0, 0, 0, 0, 0, 0, 0, 0, 0, 0, 0, 0, 0, 0, 0, 0, 0, 0, 0, 0], 0, [0, 0, 0, 0], ([] : List Int), ([] : List ((List Int) × (List Int))))).1).2.2.1) 4, .sl ch3.2.2.2.1.1 (((lk (aget ((gt x1 y1).2) x3) ([0, 0, 0, 0, 0, 0, 0, 0, 0, 0, 0, 0, 0, 0, 0, 0, 0, 0, 0, 0], 0, [0, 0, 0, 0], ([] : List Int), ([] : List ((List Int) × (List Int))))).1).2.2.2.1).length ch3.2.2.2.1.2 (RdS (Ty.int .u8) ch3.2.2.2.1.1 (((lk (aget ((gt x1 y1).2) x3) ([0, 0, 0, 0, 0, 0, 0, 0, 0, 0, 0, 0, 0, 0, 0, 0, 0, 0, 0, 0], 0, [0, 0, 0, 0], ([] : List Int), ([] : List ((List Int) × (List Int))))).1).2.2.2.1)), .sl ch3.2.2.2.2.1 (((lk (aget ((gt x1 y1).2) x3) ([0, 0, 0, 0, 0, 0, 0, 0, 0, 0, 0, 0, 0, 0, 0, 0, 0, 0, 0, 0], 0, [0, 0, 0, 0], ([] : List Int), ([] : List ((List Int) × (List Int))))).1).2.2.2.2).length ch3.2.2.2.2.2 (RdS Y66 ch3.2.2.2.2.1 (((lk (aget ((gt x1 y1).2) x3) ([0, 0, 0, 0, 0, 0, 0, 0, 0, 0, 0, 0, 0, 0, 0, 0, 0, 0, 0, 0], 0, [0, 0, 0, 0], ([] : List Int), ([] : List ((List Int) × (List Int))))).1).2.2.2.2))]) .here T30 rfl rfl ?_; clear S; intro w S
           replace hw := CL.again hw S (.cons (.there .here) (.cons (.there (.there .here)) (.cons (.there (.there .here)) .nil))) le
           refine h_back ⟨fun _ => hw, ?_⟩
           refine h_assign S CL hw le (subR rfl) rfl rfl rfl trivial ?_; clear S CL a; intro a S CL
           refine h_done ?_; clear CL hw le
           refine x_thenN ?_
           exact j2 _ g47 g38 g39 ch3.2.2.2.1.1 ch3.2.2.2.1.2 ch3.2.2.2.2.1 ch3.2.2.2.2.2 a w (S.sub (subR rfl) (.cons .here (.cons .here (.cons .here (.cons .here (.cons .here .nil)))))) h2
          refine h_runO S rfl trivial ?_ ?_
          ·refine s_store S rfl rfl rfl (s' := [.ints .u8 (((lk (aget ((gt x1 y1).2) x3) ([0, 0, 0, 0, 0, 0, 0, 0, 0, 0, 0, 0, 0, 0, 0, 0, 0, 0, 0, 0], 0, [0, 0, 0, 0], ([] : List Int), ([] : List ((List Int) × (List Int))))).1).1) 20, .one (.int .u64 (((lk (aget ((gt x1 y1).2) x3) ([0, 0, 0, 0, 0, 0, 0, 0, 0, 0, 0, 0, 0, 0, 0, 0, 0, 0, 0, 0], 0, [0, 0, 0, 0], ([] : List Int), ([] : List ((List Int) × (List Int))))).1).2.1)), .ints .u64 (((lk (aget ((gt x1 y1).2) x3) ([0, 0, 0, 0, 0, 0, 0, 0, 0, 0, 0, 0, 0, 0, 0, 0, 0, 0, 0, 0], 0, [0, 0, 0, 0], ([] : List Int), ([] : List ((List Int) × (List Int))))).1).2.2.1) 4, .sl ch3.2.2.2.1.1 (((lk (aget ((gt x1 y1).2) x3) ([0, 0, 0, 0, 0, 0, 0, 0, 0, 0, 0, 0, 0, 0, 0, 0, 0, 0, 0, 0], 0, [0, 0, 0, 0], ([] : List Int), ([] : List ((List Int) × (List Int))))).1).2.2.2.1).length ch3.2.2.2.1.2 (RdS (Ty.int .u8) ch3.2.2.2.1.1 (((lk (aget ((gt x1 y1).2) x3) ([0, 0, 0, 0, 0, 0, 0, 0, 0, 0, 0, 0, 0, 0, 0, 0, 0, 0, 0, 0], 0, [0, 0, 0, 0], ([] : List Int), ([] : List ((List Int) × (List Int))))).1).2.2.2.1)), .sl ch3.2.2.2.2.1 (((lk (aget ((gt x1 y1).2) x3) ([0, 0, 0, 0, 0, 0, 0, 0, 0, 0, 0, 0, 0, 0, 0, 0, 0, 0, 0, 0], 0, [0, 0, 0, 0], ([] : List Int), ([] : List ((List Int) × (List Int))))).1).2.2.2.2).length ch3.2.2.2.2.2 (RdS Y66 ch3.2.2.2.2.1 (((lk (aget ((gt x1 y1).2) x3) ([0, 0, 0, 0, 0, 0, 0, 0, 0, 0, 0, 0, 0, 0, 0, 0, 0, 0, 0, 0], 0, [0, 0, 0, 0], ([] : List Int), ([] : List ((List Int) × (List Int))))).1).2.2.2.2))]) .here T30 rfl rfl ?_; clear S; intro w S
           replace hw := CL.again hw S (.cons (.there .here) (.cons (.there (.there .here)) (.cons (.there (.there .here)) .nil))) le
           refine h_back ⟨fun _ => hw, ?_⟩
           refine h_run' S rfl trivial ?_
           refine s_extract S rfl rfl rfl rfl ?_; clear S a; intro a S
           replace hw := CL.again hw S (.cons (.there .here) (.cons (.there (.there .here)) (.cons (.there (.there .here)) .nil))) le
           refine h_back ⟨fun _ => hw, ?_⟩
           replace CL := CL.add (t := 37) (d := (.v (.bool ((lk (aget ((gt x1 y1).2) x3) ([0, 0, 0, 0, 0, 0, 0, 0, 0, 0, 0, 0, 0, 0, 0, 0, 0, 0, 0, 0], 0, [0, 0, 0, 0], ([] : List Int), ([] : List ((List Int) × (List Int))))).2)))) S rfl rfl
           refine h_assign S CL hw le (subR rfl) rfl rfl rfl trivial ?_; clear S CL a; intro a S CL
           refine h_done ?_; clear CL hw le
           refine x_thenN ?_
           exact j2 _ g47 g38 g39 ch3.2.2.2.1.1 ch3.2.2.2.1.2 ch3.2.2.2.2.1 ch3.2.2.2.2.2 a w (S.sub (subR rfl) (.cons .here (.cons .here (.cons .here (.cons .here (.cons .here .nil)))))) h2
          exact h_nil
         refine h_runO S rfl trivial ?_ ?_
         ·refine s_extract S rfl rfl rfl rfl ?_; clear S a; intro a S
          replace hw := CL.again hw S (.cons (.there .here) (.cons (.there (.there .here)) (.cons (.there (.there .here)) .nil))) le
          refine h_back ⟨fun _ => hw, ?_⟩
          replace CL := CL.add (t := 37) (d := (.v (.bool ((lk (aget ((gt x1 y1).2) x3) ([0, 0, 0, 0, 0, 0, 0, 0, 0, 0, 0, 0, 0, 0, 0, 0, 0, 0, 0, 0], 0, [0, 0, 0, 0], ([] : List Int), ([] : List ((List Int) × (List Int))))).2)))) S rfl rfl
          refine h_run' S rfl trivial ?_
          refine s_extract S rfl rfl rfl rfl ?_; clear S a; intro a S
          replace hw := CL.again hw S (.cons (.there .here) (.cons (.there (.there .here)) (.cons (.there (.there .here)) .nil))) le
          refine h_back ⟨fun _ => hw, ?_⟩
          refine h_run' S rfl trivial ?_
          refine s_store S rfl rfl rfl (s' := [.ints .u8 (((lk (aget ((gt x1 y1).2) x3) ([0, 0, 0, 0, 0, 0, 0, 0, 0, 0, 0, 0, 0, 0, 0, 0, 0, 0, 0, 0], 0, [0, 0, 0, 0], ([] : List Int), ([] : List ((List Int) × (List Int))))).1).1) 20, .one (.int .u64 (((lk (aget ((gt x1 y1).2) x3) ([0, 0, 0, 0, 0, 0, 0, 0, 0, 0, 0, 0, 0, 0, 0, 0, 0, 0, 0, 0], 0, [0, 0, 0, 0], ([] : List Int), ([] : List ((List Int) × (List Int))))).1).2.1)), .ints .u64 (((lk (aget ((gt x1 y1).2) x3) ([0, 0, 0, 0, 0, 0, 0, 0, 0, 0, 0, 0, 0, 0, 0, 0, 0, 0, 0, 0], 0, [0, 0, 0, 0], ([] : List Int), ([] : List ((List Int) × (List Int))))).1).2.2.1) 4, .sl ch3.2.2.2.1.1 (((lk (aget ((gt x1 y1).2) x3) ([0, 0, 0, 0, 0, 0, 0, 0, 0, 0, 0, 0, 0, 0, 0, 0, 0, 0, 0, 0], 0, [0, 0, 0, 0], ([] : List Int), ([] : List ((List Int) × (List Int))))).1).2.2.2.1).length ch3.2.2.2.1.2 (RdS (Ty.int .u8) ch3.2.2.2.1.1 (((lk (aget ((gt x1 y1).2) x3) ([0, 0, 0, 0, 0, 0, 0, 0, 0, 0, 0, 0, 0, 0, 0, 0, 0, 0, 0, 0], 0, [0, 0, 0, 0], ([] : List Int), ([] : List ((List Int) × (List Int))))).1).2.2.2.1)), .sl ch3.2.2.2.2.1 (((lk (aget ((gt x1 y1).2) x3) ([0, 0, 0, 0, 0, 0, 0, 0, 0, 0, 0, 0, 0, 0, 0, 0, 0, 0, 0, 0], 0, [0, 0, 0, 0], ([] : List Int), ([] : List ((List Int) × (List Int))))).1).2.2.2.2).length ch3.2.2.2.2.2 (RdS Y66 ch3.2.2.2.2.1 (((lk (aget ((gt x1 y1).2) x3) ([0, 0, 0, 0, 0, 0, 0, 0, 0, 0, 0, 0, 0, 0, 0, 0, 0, 0, 0, 0], 0, [0, 0, 0, 0], ([] : List Int), ([] : List ((List Int) × (List Int))))).1).2.2.2.2))]) .here T30 rfl rfl ?_; clear S; intro w S
          replace hw := CL.again hw S (.cons (.there .here) (.cons (.there (.there .here)) (.cons (.there (.there .here)) .nil))) le
          refine h_back ⟨fun _ => hw, ?_⟩
          refine h_assign S CL hw le (subR rfl) rfl rfl rfl trivial ?_; clear S CL a; intro a S CL
          refine h_done ?_; clear CL hw le
          refine x_thenN ?_
          exact j2 _ g47 g38 g39 ch3.2.2.2.1.1 ch3.2.2.2.1.2 ch3.2.2.2.2.1 ch3.2.2.2.2.2 a w (S.sub (subR rfl) (.cons .here (.cons .here (.cons .here (.cons .here (.cons .here .nil)))))) h2
         exact h_nil
        exact h_nil
       refine h_runO S rfl trivial ?_ ?_
       ·refine s_alloc S Z30 rfl ⟨rfl, rfl, rfl, rfl, rfl, trivial⟩ rfl ?_; clear S a; intro g47 a w S
        replace hw := CL.again hw S (.cons (.there .here) (.cons (.there (.there .here)) (.cons (.there (.there .here)) .nil))) le
        refine h_back ⟨fun _ => hw, ?_⟩
        refine h_run' S rfl trivial ?_
        refine s_move S rfl rfl ?_; clear S a; intro a S
        replace hw := CL.again hw S (.cons (.there .here) (.cons (.there (.there .here)) (.cons (.there (.there .here)) .nil))) le
        refine h_back ⟨fun _ => hw, ?_⟩
        refine h_alts ?_
        refine h_runO S rfl trivial ?_ ?_
        ·refine s_extract S rfl rfl rfl rfl ?_; clear S a; intro a S
         replace hw := CL.again hw S (.cons (.there .here) (.cons (.there (.there .here)) (.cons (.there (.there .here)) .nil))) le
         refine h_back ⟨fun _ => hw, ?_⟩
         refine h_alts ?_
         refine h_runO S rfl trivial ?_ ?_
         ·refine s_extract S rfl rfl rfl rfl ?_; clear S a; intro a S
          replace hw := CL.again hw S (.cons (.there .here) (.cons (.there (.there .here)) (.cons (.there (.there .here)) .nil))) le
          refine h_back ⟨fun _ => hw, ?_⟩
          replace CL := CL.add (t := 37) (d := (.v (.bool ((lk (aget ((gt x1 y1).2) x3) ([0, 0, 0, 0, 0, 0, 0, 0, 0, 0, 0, 0, 0, 0, 0, 0, 0, 0, 0, 0], 0, [0, 0, 0, 0], ([] : List Int), ([] : List ((List Int) × (List Int))))).2)))) S rfl rfl
          refine h_run' S rfl trivial ?_
          refine s_store S rfl rfl rfl (s' := [.ints .u8 (((lk (aget ((gt x1 y1).2) x3) ([0, 0, 0, 0, 0, 0, 0, 0, 0, 0, 0, 0, 0, 0, 0, 0, 0, 0, 0, 0], 0, [0, 0, 0, 0], ([] : List Int), ([] : List ((List Int) × (List Int))))).1).1) 20, .one (.int .u64 (((lk (aget ((gt x1 y1).2) x3) ([0, 0, 0, 0, 0, 0, 0, 0, 0, 0, 0, 0, 0, 0, 0, 0, 0, 0, 0, 0], 0, [0, 0, 0, 0], ([] : List Int), ([] : List ((List Int) × (List Int))))).1).2.1)), .ints .u64 (((lk (aget ((gt x1 y1).2) x3) ([0, 0, 0, 0, 0, 0, 0, 0, 0, 0, 0, 0, 0, 0, 0, 0, 0, 0, 0, 0], 0, [0, 0, 0, 0], ([] : List Int), ([] : List ((List Int) × (List Int))))).1).2.2.1) 4, .sl ch3.2.2.2.1.1 (((lk (aget ((gt x1 y1).2) x3) ([0, 0, 0, 0, 0, 0, 0, 0, 0, 0, 0, 0, 0, 0, 0, 0, 0, 0, 0, 0], 0, [0, 0, 0, 0], ([] : List Int), ([] : List ((List Int) × (List Int))))).1).2.2.2.1).length ch3.2.2.2.1.2 (RdS (Ty.int .u8) ch3.2.2.2.1.1 (((lk (aget ((gt x1 y1).2) x3) ([0, 0, 0, 0, 0, 0, 0, 0, 0, 0, 0, 0, 0, 0, 0, 0, 0, 0, 0, 0], 0, [0, 0, 0, 0], ([] : List Int), ([] : List ((List Int) × (List Int))))).1).2.2.2.1)), .sl ch3.2.2.2.2.1 (((lk (aget ((gt x1 y1).2) x3) ([0, 0, 0, 0, 0, 0, 0, 0, 0, 0, 0, 0, 0, 0, 0, 0, 0, 0, 0, 0], 0, [0, 0, 0, 0], ([] : List Int), ([] : List ((List Int) × (List Int))))).1).2.2.2.2).length ch3.2.2.2.2.2 (RdS Y66 ch3.2.2.2.2.1 (((lk (aget ((gt x1 y1).2) x3) ([0, 0, 0, 0, 0, 0, 0, 0, 0, 0, 0, 0, 0, 0, 0, 0, 0, 0, 0, 0], 0, [0, 0, 0, 0], ([] : List Int), ([] : List ((List Int) × (List Int))))).1).2.2.2.2))]) .here T30 rfl rfl ?_; clear S; intro w S
          replace hw := CL.again hw S (.cons (.there .here) (.cons (.there (.there .here)) (.cons (.there (.there .here)) .nil))) le
          refine h_back ⟨fun _ => hw, ?_⟩
          refine h_assign S CL hw le (subR rfl) rfl rfl rfl trivial ?_; clear S CL a; intro a S CL
          refine h_done ?_; clear CL hw le
          refine x_thenN ?_
          exact j2 _ g47 g38 g39 ch3.2.2.2.1.1 ch3.2.2.2.1.2 ch3.2.2.2.2.1 ch3.2.2.2.2.2 a w (S.sub (subR rfl) (.cons .here (.cons .here (.cons .here (.cons .here (.cons .here .nil)))))) h2
         refine h_runO S rfl trivial ?_ ?_
         ·refine s_store S rfl rfl rfl (s' := [.ints .u8 (((lk (aget ((gt x1 y1).2) x3) ([0, 0, 0, 0, 0, 0, 0, 0, 0, 0, 0, 0, 0, 0, 0, 0, 0, 0, 0, 0], 0, [0, 0, 0, 0], ([] : List Int), ([] : List ((List Int) × (List Int))))).1).1) 20, .one (.int .u64 (((lk (aget ((gt x1 y1).2) x3) ([0, 0, 0, 0, 0, 0, 0, 0, 0, 0, 0, 0, 0, 0, 0, 0, 0, 0, 0, 0], 0, [0, 0, 0, 0], ([] : List Int), ([] : List ((List Int) × (List Int))))).1).2.1)), .ints .u64 (((lk (aget ((gt x1 y1).2) x3) ([0, 0, 0, 0, 0, 0, 0, 0, 0, 0, 0, 0, 0, 0, 0, 0, 0, 0, 0, 0], 0, [0, 0, 0, 0], ([] : List Int), ([] : List ((List Int) × (List Int))))).1).2.2.1) 4, .sl ch3.2.2.2.1.1 (((lk (aget ((gt x1 y1).2) x3) ([0, 0, 0, 0, 0, 0, 0, 0, 0, 0, 0, 0, 0, 0, 0, 0, 0, 0, 0, 0], 0, [0, 0, 0, 0], ([] : List Int), ([] : List ((List Int) × (List Int))))).1).2.2.2.1).length ch3.2.2.2.1.2 (RdS (Ty.int .u8) ch3.2.2.2.1.1 (((lk (aget ((gt x1 y1).2) x3) ([0, 0, 0, 0, 0, 0, 0, 0, 0, 0, 0, 0, 0, 0, 0, 0, 0, 0, 0, 0], 0, [0, 0, 0, 0], ([] : List Int), ([] : List ((List Int) × (List Int))))).1).2.2.2.1)), .sl ch3.2.2.2.2.1 (((lk (aget ((gt x1 y1).2) x3) ([0, 0, 0, 0, 0, 0, 0, 0, 0, 0, 0, 0, 0, 0, 0, 0, 0, 0, 0, 0], 0, [0, 0, 0, 0], ([] : List Int), ([] : List ((List Int) × (List Int))))).1).2.2.2.2).length ch3.2.2.2.2.2 (RdS Y66 ch3.2.2.2.2.1 (((lk (aget ((gt x1 y1).2) x3) ([0, 0, 0, 0, 0, 0, 0, 0, 0, 0, 0, 0, 0, 0, 0, 0, 0, 0, 0, 0], 0, [0, 0, 0, 0], ([] : List Int), ([] : List ((List Int) × (List Int))))).1).2.2.2.2))]) .here T30 rfl rfl ?_; clear S; intro w S
          replace hw := CL.again hw S (.cons (.there .here) (.cons (.there (.there .here)) (.cons (.there (.there .here)) .nil))) le
          refine h_back ⟨fun _ => hw, ?_⟩
          refine h_run' S rfl trivial ?_
          refine s_extract S rfl rfl rfl rfl ?_; clear S a; intro a S
          replace hw := CL.again hw S (.cons (.there .here) (.cons (.there (.there .here)) (.cons (.there (.there .here)) .nil))) le
          refine h_back ⟨fun _ => hw, ?_⟩
          replace CL := CL.add (t := 37) (d := (.v (.bool ((lk (aget ((gt x1 y1).2) x3) ([0, 0, 0, 0, 0, 0, 0, 0, 0, 0, 0, 0, 0, 0, 0, 0, 0, 0, 0, 0], 0, [0, 0, 0, 0], ([] : List Int), ([] : List ((List Int) × (List Int))))).2)))) S rfl rfl
          refine h_assign S CL hw le (subR rfl) rfl rfl rfl trivial ?_; clear S CL a; intro a S CL
          refine h_done ?_; clear CL hw le
          refine x_thenN ?_
          exact j2 _ g47 g38 g39 ch3.2.2.2.1.1 ch3.2.2.2.1.2 ch3.2.2.2.2.1 ch3.2.2.2.2.2 a w (S.sub (subR rfl) (.cons .here (.cons .here (.cons .here (.cons .here (.cons .here .nil)))))) h2
         exact h_nil
        refine h_runO S rfl trivial ?_ ?_
        ·refine s_extract S rfl rfl rfl rfl ?_; clear S a; intro a S
         replace hw := CL.again hw S (.cons (.there .here) (.cons (.there (.there .here)) (.cons (.there (.there .here)) .nil))) le
         refine h_back ⟨fun _ => hw, ?_⟩
         replace CL := CL.add (t := 37) (d := (.v (.bool ((lk (aget ((gt x1 y1).2) x3) ([0, 0, 0, 0, 0, 0, 0, 0, 0, 0, 0, 0, 0, 0, 0, 0, 0, 0, 0, 0], 0, [0, 0, 0, 0], ([] : List Int), ([] : List ((List Int) × (List Int))))).2)))) S rfl rfl
         refine h_run' S rfl trivial ?_
         refine s_extract S rfl rfl rfl rfl ?_; clear S a; intro a S
         replace hw := CL.again hw S (.cons (.there .here) (.cons (.there (.there .here)) (.cons (.there (.there .here)) .nil))) le
         refine h_back ⟨fun _ => hw, ?_⟩
         refine h_run' S rfl trivial ?_
         refine s_store S rfl rfl rfl (s' := [.ints .u8 (((lk (aget ((gt x1 y1).2) x3) ([0, 0, 0, 0, 0, 0, 0, 0, 0, 0, 0, 0, 0, 0, 0, 0, 0, 0, 0, 0], 0, [0, 0, 0, 0], ([] : List Int), ([] : List ((List Int) × (List Int))))).1).1) 20, .one (.int .u64 (((lk (aget ((gt x1 y1).2) x3) ([0, 0, 0, 0, 0, 0, 0, 0, 0, 0, 0, 0, 0, 0, 0, 0, 0, 0, 0, 0], 0, [0, 0, 0, 0], ([] : List Int), ([] : List ((List Int) × (List Int))))).1).2.1)), .ints .u64 (((lk (aget ((gt x1 y1).2) x3) ([0, 0, 0, 0, 0, 0, 0, 0, 0, 0, 0, 0, 0, 0, 0, 0, 0, 0, 0, 0], 0, [0, 0, 0, 0], ([] : List Int), ([] : List ((List Int) × (List Int))))).1).2.2.1) 4, .sl ch3.2.2.2.1.1 (((lk (aget ((gt x1 y1).2) x3) ([0, 0, 0, 0, 0, 0, 0, 0, 0, 0, 0, 0, 0, 0, 0, 0, 0, 0, 0, 0], 0, [0, 0, 0, 0], ([] : List Int), ([] : List ((List Int) × (List Int))))).1).2.2.2.1).length ch3.2.2.2.1.2 (RdS (Ty.int .u8) ch3.2.2.2.1.1 (((lk (aget ((gt x1 y1).2) x3) ([0, 0, 0, 0, 0, 0, 0, 0, 0, 0, 0, 0, 0, 0, 0, 0, 0, 0, 0, 0], 0, [0, 0, 0, 0], ([] : List Int), ([] : List ((List Int) × (List Int))))).1).2.2.2.1)), .sl ch3.2.2.2.2.1 (((lk (aget ((gt x1 y1).2) x3) ([0, 0, 0, 0, 0, 0, 0, 0, 0, 0, 0, 0, 0, 0, 0, 0, 0, 0, 0, 0], 0, [0, 0, 0, 0], ([] : List Int), ([] : List ((List Int) × (List Int))))).1).2.2.2.2).length ch3.2.2.2.2.2 (RdS Y66 ch3.2.2.2.2.1 (((lk (aget ((gt x1 y1).2) x3) ([0, 0, 0, 0, 0, 0, 0, 0, 0, 0, 0, 0, 0, 0, 0, 0, 0, 0, 0, 0], 0, [0, 0, 0, 0], ([] : List Int), ([] : List ((List Int) × (List Int))))).1).2.2.2.2))]) .here T30 rfl rfl ?_; clear S; intro w S
         replace hw := CL.again hw S (.cons (.there .here) (.cons (.there (.there .here)) (.cons (.there (.there .here)) .nil))) le
         refine h_back ⟨fun _ => hw, ?_⟩
         refine h_assign S CL hw le (subR rfl) rfl rfl rfl trivial ?_; clear S CL a; intro a S CL
         refine h_done ?_; clear CL hw le
         refine x_thenN ?_
         exact j2 _ g47 g38 g39 ch3.2.2.2.1.1 ch3.2.2.2.1.2 ch3.2.2.2.2.1 ch3.2.2.2.2.2 a w (S.sub (subR rfl) (.cons .here (.cons .here (.cons .here (.cons .here (.cons .here .nil)))))) h2
        exact h_nil
       exact h_nil
      refine h_runO S rfl trivial ?_ ?_
      ·refine s_alloc S Z30 rfl ⟨rfl, rfl, rfl, rfl, rfl, trivial⟩ rfl ?_; clear S a; intro g47 a w S
       replace hw := CL.again hw S (.cons (.there .here) (.cons (.there (.there .here)) (.cons (.there (.there .here)) .nil))) le
       refine h_back ⟨fun _ => hw, ?_⟩
       refine h_run' S rfl trivial ?_
       refine s_lookR S (z := ([0, 0, 0, 0, 0, 0, 0, 0, 0, 0, 0, 0, 0, 0, 0, 0, 0, 0, 0, 0], 0, [0, 0, 0, 0], ([] : List Int), ([] : List ((List Int) × (List Int))))) (k := x3) rfl ((), (), (), (none, 0), (none, 0)) rfl (fun h => ⟨(), rfl, h⟩) Try.underlying69 KT23 Z30 ⟨rfl, rfl, rfl, ⟨Nat.le_refl _, Nat.zero_le _, RdS.nil _ _ _, RdS.mono _ _ _⟩, ⟨Nat.le_refl _, Nat.zero_le _, RdS.nil _ _ _, RdS.mono _ _ _⟩, trivial⟩ rfl ?_; clear S a; intro ch3 a S
       replace hw := CL.again hw S (.cons (.there .here) (.cons (.there (.there .here)) (.cons (.there (.there .here)) .nil))) le
       refine h_back ⟨fun _ => hw, ?_⟩
       refine h_run' S rfl trivial ?_
       refine s_move S rfl rfl ?_; clear S a; intro a S
       replace hw := CL.again hw S (.cons (.there .here) (.cons (.there (.there .here)) (.cons (.there (.there .here)) .nil))) le
       refine h_back ⟨fun _ => hw, ?_⟩
       refine h_alts ?_
       refine h_runO S rfl trivial ?_ ?_
       ·refine s_extract S rfl rfl rfl rfl ?_; clear S a; intro a S
        replace hw := CL.again hw S (.cons (.there .here) (.cons (.there (.there .here)) (.cons (.there (.there .here)) .nil))) le
        refine h_back ⟨fun _ => hw, ?_⟩
        refine h_alts ?_
        refine h_runO S rfl trivial ?_ ?_
        ·refine s_extract S rfl rfl rfl rfl ?_; clear S a; intro a S
         replace hw := CL.again hw S (.cons (.there .here) (.cons (.there (.there .here)) (.cons (.there (.there .here)) .nil))) le
         refine h_back ⟨fun _ => hw, ?_⟩
         replace CL := CL.add (t := 37) (d := (.v (.bool ((lk (aget ((gt x1 y1).2) x3) ([0, 0, 0, 0, 0, 0, 0, 0, 0, 0, 0, 0, 0, 0, 0, 0, 0, 0, 0, 0], 0, [0, 0, 0, 0], ([] : List Int), ([] : List ((List Int) × (List Int))))).2)))) S rfl rfl
         refine h_run' S rfl trivial ?_
         refine s_store S rfl rfl rfl (s' := [.ints .u8 (((lk (aget ((gt x1 y1).2) x3) ([0, 0, 0, 0, 0, 0, 0, 0, 0, 0, 0, 0, 0, 0, 0, 0, 0, 0, 0, 0], 0, [0, 0, 0, 0], ([] : List Int), ([] : List ((List Int) × (List Int))))).1).1) 20, .one (.int .u64 (((lk (aget ((gt x1 y1).2) x3) ([0, 0, 0, 0, 0, 0, 0, 0, 0, 0, 0, 0, 0, 0, 0, 0, 0, 0, 0, 0], 0, [0, 0, 0, 0], ([] : List Int), ([] : List ((List Int) × (List Int))))).1).2.1)), .ints .u64 (((lk (aget ((gt x1 y1).2) x3) ([0, 0, 0, 0, 0, 0, 0, 0, 0, 0, 0, 0, 0, 0, 0, 0, 0, 0, 0, 0], 0, [0, 0, 0, 0], ([] : List Int), ([] : List ((List Int) × (List Int))))).1).2.2.1) 4, .sl ch3.2.2.2.1.1 (((lk (aget ((gt x1 y1).2) x3) ([0, 0, 0, 0, 0, 0, 0, 0, 0, 0, 0, 0, 0, 0, 0, 0, 0, 0, 0, 0], 0, [0, 0, 0, 0], ([] : List Int), ([] : List ((List Int) × (List Int))))).1).2.2.2.1).length ch3.2.2.2.1.2 (RdS (Ty.int .u8) ch3.2.2.2.1.1 (((lk (aget ((gt x1 y1).2) x3) ([0, 0, 0, 0, 0, 0, 0, 0, 0, 0, 0, 0, 0, 0, 0, 0, 0, 0, 0, 0], 0, [0, 0, 0, 0], ([] : List Int), ([] : List ((List Int) × (List Int))))).1).2.2.2.1)), .sl ch3.2.2.2.2.1 (((lk (aget ((gt x1 y1).2) x3) ([0, 0, 0, 0, 0, 0, 0, 0, 0, 0, 0, 0, 0, 0, 0, 0, 0, 0, 0, 0], 0, [0, 0, 0, 0], ([] : List Int), ([] : List ((List Int) × (List Int))))).1).2.2.2.2).length ch3.2.2.2.2.2 (RdS Y66 ch3.2.2.2.2.1 (((lk (aget ((gt x1 y1).2) x3) ([0, 0, 0, 0, 0, 0, 0, 0, 0, 0, 0, 0, 0, 0, 0, 0, 0, 0, 0, 0], 0, [0, 0, 0, 0], ([] : List Int), ([] : List ((List Int) × (List Int))))).1).2.2.2.2))]) .here T30 rfl rfl ?_; clear S; intro w S
         replace hw := CL.again hw S (.cons (.there .here) (.cons (.there (.there .here)) (.cons (.there (.there .here)) .nil))) le
         refine h_back ⟨fun _ => hw, ?_⟩
         refine h_assign S CL hw le (subR rfl) rfl rfl rfl trivial ?_; clear S CL a; intro a S CL
         refine h_done ?_; clear CL hw le
         refine x_thenN ?_
         exact j2 _ g47 g38 g39 ch3.2.2.2.1.1 ch3.2.2.2.1.2 ch3.2.2.2.2.1 ch3.2.2.2.2.2 a w (S.sub (subR rfl) (.cons .here (.cons .here (.cons .here (.cons .here (.cons .here .nil)))))) h2
        refine h_runO S rfl trivial ?_ ?_
        ·refine s_store S rfl rfl rfl (s' := [.ints .u8 (((lk (aget ((gt x1 y1).2) x3) ([0, 0, 0, 0, 0, 0, 0, 0, 0, 0, 0, 0, 0, 0, 0, 0, 0, 0, 0, 0], 0, [0, 0, 0, 0], ([] : List Int), ([] : List ((List Int) × (List Int))))).1).1) 20, .one (.int .u64 (((lk (aget ((gt x1 y1).2) x3) ([0, 0, 0, 0, 0, 0, 0, 0, 0, 0, 0, 0, 0, 0, 0, 0, 0, 0, 0, 0], 0, [0, 0, 0, 0], ([] : List Int), ([] : List ((List Int) × (List Int))))).1).2.1)), .ints .u64 (((lk (aget ((gt x1 y1).2) x3) ([0, 0, 0, 0, 0, 0, 0, 0, 0, 0, 0, 0, 0, 0, 0, 0, 0, 0, 0, 0], 0, [0, 0, 0, 0], ([] : List Int), ([] : List ((List Int) × (List Int))))).1).2.2.1) 4, .sl ch3.2.2.2.1.1 (((lk (aget ((gt x1 y1).2) x3) ([0, 0, 0, 0, 0, 0, 0, 0, 0, 0, 0, 0, 0, 0, 0, 0, 0, 0, 0, 0], 0, [0, 0, 0, 0], ([] : List Int), ([] : List ((List Int) × (List Int))))).1).2.2.2.1).length ch3.2.2.2.1.2 (RdS (Ty.int .u8) ch3.2.2.2.1.1 (((lk (aget ((gt x1 y1).2) x3) ([0, 0, 0, 0, 0, 0, 0, 0, 0, 0, 0, 0, 0, 0, 0, 0, 0, 0, 0, 0], 0, [0, 0, 0, 0], ([] : List Int), ([] : List ((List Int) × (List Int))))).1).2.2.2.1)), .sl ch3.2.2.2.2.1 (((lk (aget ((gt x1 y1).2) x3) ([0, 0, 0, 0, 0, 0, 0, 0, 0, 0, 0, 0, 0, 0, 0, 0, 0, 0, 0, 0], 0, [0, 0, 0, 0], ([] : List Int), ([] : List ((List Int) × (List Int))))).1).2.2.2.2).length ch3.2.2.2.2.2 (RdS Y66 ch3.2.2.2.2.1 (((lk (aget ((gt x1 y1).2) x3) ([0, 0, 0, 0, 0, 0, 0, 0, 0, 0, 0, 0, 0, 0, 0, 0, 0, 0, 0, 0], 0, [0, 0, 0, 0], ([] : List Int), ([] : List ((List Int) × (List Int))))).1).2.2.2.2))]) .here T30 rfl rfl ?_; clear S; intro w S
         replace hw := CL.again hw S (.cons (.there .here) (.cons (.there (.there .here)) (.cons (.there (.there .here)) .nil))) le
         refine h_back ⟨fun _ => hw, ?_⟩
         refine h_run' S rfl trivial ?_
         refine s_extract S rfl rfl rfl rfl ?_; clear S a; intro a S
         replace hw := CL.again hw S (.cons (.there .here) (.cons (.there (.there .here)) (.cons (.there (.there .here)) .nil))) le
         refine h_back ⟨fun _ => hw, ?_⟩
         replace CL := CL.add (t := 37) (d := (.v (.bool ((lk (aget ((gt x1 y1).2) x3) ([0, 0, 0, 0, 0, 0, 0, 0, 0, 0, 0, 0, 0, 0, 0, 0, 0, 0, 0, 0], 0, [0, 0, 0, 0], ([] : List Int), ([] : List ((List Int) × (List Int))))).2)))) S rfl rfl
         refine h_assign S CL hw le (subR rfl) rfl rfl rfl trivial ?_; clear S CL a; intro a S CL
         refine h_done ?_; clear CL hw le
         refine x_thenN ?_
         exact j2 _ g47 g38 g39 ch3.2.2.2.1.1 ch3.2.2.2.1.2 ch3.2.2.2.2.1 ch3.2.2.2.2.2 a w (S.sub (subR rfl) (.cons .here (.cons .here (.cons .here (.cons .here (.cons .here .nil)))))) h2
        exact h_nil
       refine h_runO S rfl trivial ?_ ?_
       ·refine s_extract S rfl rfl rfl rfl ?_; clear S a; intro a S
        replace hw := CL.again hw S (.cons (.there .here) (.cons (.there (.there .here)) (.cons (.there (.there .here)) .nil))) le
        refine h_back ⟨fun _ => hw, ?_⟩
        replace CL := CL.add (t := 37) (d := (.v (.bool ((lk (aget ((gt x1 y1).2) x3) ([0, 0, 0, 0, 0, 0, 0, 0, 0, 0, 0, 0, 0, 0, 0, 0, 0, 0, 0, 0], 0, [0, 0, 0, 0], ([] : List Int), ([] : List ((List Int) × (List Int))))).2)))) S rfl rfl
        refine h_run' S rfl trivial ?_
        refine s_extract S rfl rfl rfl rfl ?_; clear S a; intro a S
        replace hw := CL.again hw S (.cons (.there .here) (.cons (.there (.there .here)) (.cons (.there (.there .here)) .nil))) le
        refine h_back ⟨fun _ => hw, ?_⟩
        refine h_run' S rfl trivial ?_
        refine s_store S rfl rfl rfl (s' := [.ints .u8 (((lk (aget ((gt x1 y1).2) x3) ([0, 0, 0, 0, 0, 0, 0, 0, 0, 0, 0, 0, 0, 0, 0, 0, 0, 0, 0, 0], 0, [0, 0, 0, 0], ([] : List Int), ([] : List ((List Int) × (List Int))))).1).1) 20, .one (.int .u64 (((lk (aget ((gt x1 y1).2) x3) ([0, 0, 0, 0, 0, 0, 0, 0, 0, 0, 0, 0, 0, 0, 0, 0, 0, 0, 0, 0], 0, [0, 0, 0, 0], ([] : List Int), ([] : List ((List Int) × (List Int))))).1).2.1)), .ints .u64 (((lk (aget ((gt x1 y1).2) x3) ([0, 0, 0, 0, 0, 0, 0, 0, 0, 0, 0, 0, 0, 0, 0, 0, 0, 0, 0, 0], 0, [0, 0, 0, 0], ([] : List Int), ([] : List ((List Int) × (List Int))))).1).2.2.1) 4, .sl ch3.2.2.2.1.1 (((lk (aget ((gt x1 y1).2) x3) ([0, 0, 0, 0, 0, 0, 0, 0, 0, 0, 0, 0, 0, 0, 0, 0, 0, 0, 0, 0], 0, [0, 0, 0, 0], ([] : List Int), ([] : List ((List Int) × (List Int))))).1).2.2.2.1).length ch3.2.2.2.1.2 (RdS (Ty.int .u8) ch3.2.2.2.1.1 (((lk (aget ((gt x1 y1).2) x3) ([0, 0, 0, 0, 0, 0, 0, 0, 0, 0, 0, 0, 0, 0, 0, 0, 0, 0, 0, 0], 0, [0, 0, 0, 0], ([] : List Int), ([] : List ((List Int) × (List Int))))).1).2.2.2.1)), .sl ch3.2.2.2.2.1 (((lk (aget ((gt x1 y1).2) x3) ([0, 0, 0, 0, 0, 0, 0, 0, 0, 0, 0, 0, 0, 0, 0, 0, 0, 0, 0, 0], 0, [0, 0, 0, 0], ([] : List Int), ([] : List ((List Int) × (List Int))))).1).2.2.2.2).length ch3.2.2.2.2.2 (RdS Y66 ch3.2.2.2.2.1 (((lk (aget ((gt x1 y1).2) x3) ([0, 0, 0, 0, 0, 0, 0, 0, 0, 0, 0, 0, 0, 0, 0, 0, 0, 0, 0, 0], 0, [0, 0, 0, 0], ([] : List Int), ([] : List ((List Int) × (List Int))))).1).2.2.2.2))]) .here T30 rfl rfl ?_; clear S; intro w S
        replace hw := CL.again hw S (.cons (.there .here) (.cons (.there (.there .here)) (.cons (.there (.there .here)) .nil))) le
        refine h_back ⟨fun _ => hw, ?_⟩
        refine h_assign S CL hw le (subR rfl) rfl rfl rfl trivial ?_; clear S CL a; intro a S CL
        refine h_done ?_; clear CL hw le
        refine x_thenN ?_
        exact j2 _ g47 g38 g39 ch3.2.2.2.1.1 ch3.2.2.2.1.2 ch3.2.2.2.2.1 ch3.2.2.2.2.2 a w (S.sub (subR rfl) (.cons .here (.cons .here (.cons .here (.cons .here (.cons .here .nil)))))) h2
       exact h_nil
      exact h_nil
     refine h_runO S rfl trivial ?_ ?_
     ·refine s_alloc S Z30 rfl ⟨rfl, rfl, rfl, rfl, rfl, trivial⟩ rfl ?_; clear S a; intro g47 a w S
      replace hw := CL.again hw S (.cons (.there .here) (.cons (.there (.there .here)) (.cons (.there (.there .here)) .nil))) le
      refine h_back ⟨fun _ => hw, ?_⟩
      refine h_run' S rfl trivial ?_
      refine s_ldRM S (ty' := (Ty.prod (Ty.int .i64) Y69)) (i := y1) (off := 1) (fun (c : Unit × (Option Nat)) => c.2) rfl hA2 (.there (.there .here)) T69 c5.1 c5.2 rfl (fun _ => rfl) rfl ?_; clear S a; intro mg1 a S
      replace hw := CL.again hw S (.cons (.there .here) (.cons (.there (.there .here)) (.cons (.there (.there .here)) .nil))) le
      refine h_back ⟨fun _ => hw, ?_⟩
      refine h_run' S rfl trivial ?_
      refine s_lookR S (z := ([0, 0, 0, 0, 0, 0, 0, 0, 0, 0, 0, 0, 0, 0, 0, 0, 0, 0, 0, 0], 0, [0, 0, 0, 0], ([] : List Int), ([] : List ((List Int) × (List Int))))) (k := x3) rfl ((), (), (), (none, 0), (none, 0)) rfl (fun h => ⟨(), rfl, h⟩) Try.underlying69 KT23 Z30 ⟨rfl, rfl, rfl, ⟨Nat.le_refl _, Nat.zero_le _, RdS.nil _ _ _, RdS.mono _ _ _⟩, ⟨Nat.le_refl _, Nat.zero_le _, RdS.nil _ _ _, RdS.mono _ _ _⟩, trivial⟩ rfl ?_; clear S a; intro ch3 a S
      replace hw := CL.again hw S (.cons (.there .here) (.cons (.there (.there .here)) (.cons (.there (.there .here)) .nil))) le
      refine h_back ⟨fun _ => hw, ?_⟩
      refine h_run' S rfl trivial ?_
      refine s_move S rfl rfl ?_; clear S a; intro a S
      replace hw := CL.again hw S (.cons (.there .here) (.cons (.there (.there .here)) (.cons (.there (.there .here)) .nil))) le
      refine h_back ⟨fun _ => hw, ?_⟩
      refine h_alts ?_
      refine h_runO S rfl trivial ?_ ?_
      ·refine s_extract S rfl rfl rfl rfl ?_; clear S a; intro a S
       replace hw := CL.again hw S (.cons (.there .here) (.cons (.there (.there .here)) (.cons (.there (.there .here)) .nil))) le
       refine h_back ⟨fun _ => hw, ?_⟩
       refine h_alts ?_
       refine h_runO S rfl trivial ?_ ?_
       ·refine s_extract S rfl rfl rfl rfl ?_; clear S a; intro a S
        replace hw := CL.again hw S (.cons (.there .here) (.cons (.there (.there .here)) (.cons (.there (.there .here)) .nil))) le
        refine h_back ⟨fun _ => hw, ?_⟩
        replace CL := CL.add (t := 37) (d := (.v (.bool ((lk (aget ((gt x1 y1).2) x3) ([0, 0, 0, 0, 0, 0, 0, 0, 0, 0, 0, 0, 0, 0, 0, 0, 0, 0, 0, 0], 0, [0, 0, 0, 0], ([] : List Int), ([] : List ((List Int) × (List Int))))).2)))) S rfl rfl
        refine h_run' S rfl trivial ?_
        refine s_store S rfl rfl rfl (s' := [.ints .u8 (((lk (aget ((gt x1 y1).2) x3) ([0, 0, 0, 0, 0, 0, 0, 0, 0, 0, 0, 0, 0, 0, 0, 0, 0, 0, 0, 0], 0, [0, 0, 0, 0], ([] : List Int), ([] : List ((List Int) × (List Int))))).1).1) 20, .one (.int .u64 (((lk (aget ((gt x1 y1).2) x3) ([0, 0, 0, 0, 0, 0, 0, 0, 0, 0, 0, 0, 0, 0, 0, 0, 0, 0, 0, 0], 0, [0, 0, 0, 0], ([] : List Int), ([] : List ((List Int) × (List Int))))).1).2.1)), .ints .u64 (((lk (aget ((gt x1 y1).2) x3) ([0, 0, 0, 0, 0, 0, 0, 0, 0, 0, 0, 0, 0, 0, 0, 0, 0, 0, 0, 0], 0, [0, 0, 0, 0], ([] : List Int), ([] : List ((List Int) × (List Int))))).1).2.2.1) 4, .sl ch3.2.2.2.1.1 (((lk (aget ((gt x1 y1).2) x3) ([0, 0, 0, 0, 0, 0, 0, 0, 0, 0, 0, 0, 0, 0, 0, 0, 0, 0, 0, 0], 0, [0, 0, 0, 0], ([] : List Int), ([] : List ((List Int) × (List Int))))).1).2.2.2.1).length ch3.2.2.2.1.2 (RdS (Ty.int .u8) ch3.2.2.2.1.1 (((lk (aget ((gt x1 y1).2) x3) ([0, 0, 0, 0, 0, 0, 0, 0, 0, 0, 0, 0, 0, 0, 0, 0, 0, 0, 0, 0], 0, [0, 0, 0, 0], ([] : List Int), ([] : List ((List Int) × (List Int))))).1).2.2.2.1)), .sl ch3.2.2.2.2.1 (((lk (aget ((gt x1 y1).2) x3) ([0, 0, 0, 0, 0, 0, 0, 0, 0, 0, 0, 0, 0, 0, 0, 0, 0, 0, 0, 0], 0, [0, 0, 0, 0], ([] : List Int), ([] : List ((List Int) × (List Int))))).1).2.2.2.2).length ch3.2.2.2.2.2 (RdS Y66 ch3.2.2.2.2.1 (((lk (aget ((gt x1 y1).2) x3) ([0, 0, 0, 0, 0, 0, 0, 0, 0, 0, 0, 0, 0, 0, 0, 0, 0, 0, 0, 0], 0, [0, 0, 0, 0], ([] : List Int), ([] : List ((List Int) × (List Int))))).1).2.2.2.2))]) .here T30 rfl rfl ?_; clear S; intro w S
        replace hw := CL.again hw S (.cons (.there .here) (.cons (.there (.there .here)) (.cons (.there (.there .here)) .nil))) le
        refine h_back ⟨fun _ => hw, ?_⟩
        refine h_assign S CL hw le (subR rfl) rfl rfl rfl trivial ?_; clear S CL a; intro a S CL
        refine h_done ?_; clear CL hw le
        refine x_thenN ?_
        exact j2 _ g47 g38 g39 ch3.2.2.2.1.1 ch3.2.2.2.1.2 ch3.2.2.2.2.1 ch3.2.2.2.2.2 a w (S.sub (subR rfl) (.cons .here (.cons .here (.cons .here (.cons .here (.cons .here .nil)))))) h2
       refine h_runO S rfl trivial ?_ ?_
       ·refine s_store S rfl rfl rfl (s' := [.ints .u8 (((lk (aget ((gt x1 y1).2) x3) ([0, 0, 0, 0, 0, 0, 0, 0, 0, 0, 0, 0, 0, 0, 0, 0, 0, 0, 0, 0], 0, [0, 0, 0, 0], ([] : List Int), ([] : List ((List Int) × (List Int))))).1).1) 20, .one (.int .u64 (((lk (aget ((gt x1 y1).2) x3) ([0, 0, 0, 0, 0, 0, 0, 0, 0, 0, 0, 0, 0, 0, 0, 0, 0, 0, 0, 0], 0, [0, 0, 0, 0], ([] : List Int), ([] : List ((List Int) × (List Int))))).1).2.1)), .ints .u64 (((lk (aget ((gt x1 y1).2) x3) ([0, 0, 0, 0, 0, 0, 0, 0, 0, 0, 0, 0, 0, 0, 0, 0, 0, 0, 0, 0], 0, [0, 0, 0, 0], ([] : List Int), ([] : List ((List Int) × (List Int))))).1).2.2.1) 4, .sl ch3.2.2.2.1.1 (((lk (aget ((gt x1 y1).2) x3) ([0, 0, 0, 0, 0, 0, 0, 0, 0, 0, 0, 0, 0, 0, 0, 0, 0, 0, 0, 0], 0, [0, 0, 0, 0], ([] : List Int), ([] : List ((List Int) × (List Int))))).1).2.2.2.1).length ch3.2.2.2.1.2 (RdS (Ty.int .u8) ch3.2.2.2.1.1 (((lk (aget ((gt x1 y1).2) x3) ([0, 0, 0, 0, 0, 0, 0, 0, 0, 0, 0, 0, 0, 0, 0, 0, 0, 0, 0, 0], 0, [0, 0, 0, 0], ([] : List Int), ([] : List ((List Int) × (List Int))))).1).2.2.2.1)), .sl ch3.2.2.2.2.1 (((lk (aget ((gt x1 y1).2) x3) ([0, 0, 0, 0, 0, 0, 0, 0, 0, 0, 0, 0, 0, 0, 0, 0, 0, 0, 0, 0], 0, [0, 0, 0, 0], ([] : List Int), ([] : List ((List Int) × (List Int))))).1).2.2.2.2).length ch3.2.2.2.2.2 (RdS Y66 ch3.2.2.2.2.1 (((lk (aget ((gt x1 y1).2) x3) ([0, 0, 0, 0, 0, 0, 0, 0, 0, 0, 0, 0, 0, 0, 0, 0, 0, 0, 0, 0], 0, [0, 0, 0, 0], ([] : List Int), ([] : List ((List Int) × (List Int))))).1).2.2.2.2))]) .here T30 rfl rfl ?_; clear S; intro w S
        replace hw := CL.again hw S (.cons (.there .here) (.cons (.there (.there .here)) (.cons (.there (.there .here)) .nil))) le
        refine h_back ⟨fun _ => hw, ?_⟩
        refine h_run' S rfl trivial ?_
        refine s_extract S rfl rfl rfl rfl ?_; clear S a; intro a S
        replace hw := CL.again hw S (.cons (.there .here) (.cons (.there (.there .here)) (.cons (.there (.there .here)) .nil))) le
        refine h_back ⟨fun _ => hw, ?_⟩
        replace CL := CL.add (t := 37) (d := (.v (.bool ((lk (aget ((gt x1 y1).2) x3) ([0, 0, 0, 0, 0, 0, 0, 0, 0, 0, 0, 0, 0, 0, 0, 0, 0, 0, 0, 0], 0, [0, 0, 0, 0], ([] : List Int), ([] : List ((List Int) × (List Int))))).2)))) S rfl rfl
        refine h_assign S CL hw le (subR rfl) rfl rfl rfl trivial ?_; clear S CL a; intro a S CL
        refine h_done ?_; clear CL hw le
        refine x_thenN ?_
        exact j2 _ g47 g38 g39 ch3.2.2.2.1.1 ch3.2.2.2.1.2 ch3.2.2.2.2.1 ch3.2.2.2.2.2 a w (S.sub (subR rfl) (.cons .here (.cons .here (.cons .here (.cons .here (.cons .here .nil)))))) h2
       exact h_nil
      refine h_runO S rfl trivial ?_ ?_
      ·refine s_extract S rfl rfl rfl rfl ?_; clear S a; intro a S
       replace hw := CL.again hw S (.cons (.there .here) (.cons (.there (.there .here)) (.cons (.there (.there .here)) .nil))) le
       refine h_back ⟨fun _ => hw, ?_⟩
       replace CL := CL.add (t := 37) (d := (.v (.bool ((lk (aget ((gt x1 y1).2) x3) ([0, 0, 0, 0, 0, 0, 0, 0, 0, 0, 0, 0, 0, 0, 0, 0, 0, 0, 0, 0], 0, [0, 0, 0, 0], ([] : List Int), ([] : List ((List Int) × (List Int))))).2)))) S rfl rfl
       refine h_run' S rfl trivial ?_
       refine s_extract S rfl rfl rfl rfl ?_; clear S a; intro a S
       replace hw := CL.again hw S (.cons (.there .here) (.cons (.there (.there .here)) (.cons (.there (.there .here)) .nil))) le
       refine h_back ⟨fun _ => hw, ?_⟩
       refine h_run' S rfl trivial ?_
       refine s_store S rfl rfl rfl (s' := [.ints .u8 (((lk (aget ((gt x1 y1).2) x3) ([0, 0, 0, 0, 0, 0, 0, 0, 0, 0, 0, 0, 0, 0, 0, 0, 0, 0, 0, 0], 0, [0, 0, 0, 0], ([] : List Int), ([] : List ((List Int) × (List Int))))).1).1) 20, .one (.int .u64 (((lk (aget ((gt x1 y1).2) x3) ([0, 0, 0, 0, 0, 0, 0, 0, 0, 0, 0, 0, 0, 0, 0, 0, 0, 0, 0, 0], 0, [0, 0, 0, 0], ([] : List Int), ([] : List ((List Int) × (List Int))))).1).2.1)), .ints .u64 (((lk (aget ((gt x1 y1).2) x3) ([0, 0, 0, 0, 0, 0, 0, 0, 0, 0, 0, 0, 0, 0, 0, 0, 0, 0, 0, 0], 0, [0, 0, 0, 0], ([] : List Int), ([] : List ((List Int) × (List Int))))).1).2.2.1) 4, .sl ch3.2.2.2.1.1 (((lk (aget ((gt x1 y1).2) x3) ([0, 0, 0, 0, 0, 0, 0, 0, 0, 0, 0, 0, 0, 0, 0, 0, 0, 0, 0, 0], 0, [0, 0, 0, 0], ([] : List Int), ([] : List ((List Int) × (List Int))))).1).2.2.2.1).length ch3.2.2.2.1.2 (RdS (Ty.int .u8) ch3.2.2.2.1.1 (((lk (aget ((gt x1 y1).2) x3) ([0, 0, 0, 0, 0, 0, 0, 0, 0, 0, 0, 0, 0, 0, 0, 0, 0, 0, 0, 0], 0, [0, 0, 0, 0], ([] : List Int), ([] : List ((List Int) × (List Int))))).1).2.2.2.1)), .sl ch3.2.2.2.2.1 (((lk (aget ((gt x1 y1).2) x3) ([0, 0, 0, 0, 0, 0, 0, 0, 0, 0, 0, 0, 0, 0, 0, 0, 0, 0, 0, 0], 0, [0, 0, 0, 0], ([] : List Int), ([] : List ((List Int) × (List Int))))).1).2.2.2.2).length ch3.2.2.2.2.2 (RdS Y66 ch3.2.2.2.2.1 (((lk (aget ((gt x1 y1).2) x3) ([0, 0, 0, 0, 0, 0, 0, 0, 0, 0, 0, 0, 0, 0, 0, 0, 0, 0, 0, 0], 0, [0, 0, 0, 0], ([] : List Int), ([] : List ((List Int) × (List Int))))).1).2.2.2.2))]) .here T30 rfl rfl ?_; clear S; intro w S
       replace hw := CL.again hw S (.cons (.there .here) (.cons (.there (.there .here)) (.cons (.there (.there .here)) .nil))) le
       refine h_back ⟨fun _ => hw, ?_⟩
       refine h_assign S CL hw le (subR rfl) rfl rfl rfl trivial ?_; clear S CL a; intro a S CL
       refine h_done ?_; clear CL hw le
       refine x_thenN ?_
       exact j2 _ g47 g38 g39 ch3.2.2.2.1.1 ch3.2.2.2.1.2 ch3.2.2.2.2.1 ch3.2.2.2.2.2 a w (S.sub (subR rfl) (.cons .here (.cons .here (.cons .here (.cons .here (.cons .here .nil)))))) h2
      exact h_nil
     exact h_nil
    refine h_runO S rfl trivial ?_ ?_
    ·refine s_alloc S Z30 rfl ⟨rfl, rfl, rfl, rfl, rfl, trivial⟩ rfl ?_; clear S a; intro g46 a w S
     replace hw := CL.again hw S (.cons (.there .here) (.cons (.there (.there .here)) (.cons (.there (.there .here)) .nil))) le
     refine h_back ⟨fun _ => hw, ?_⟩
     refine h_run' S rfl trivial ?_
     refine s_iaddrO S (ty' := (Ty.prod (Ty.int .i64) Y69)) rfl (.there (.there .here)) rfl Try.underlying72 T71 c5.1 c5.2 rfl ?_; clear S a; intro g47 a hA2 S
     replace hw := CL.again hw S (.cons (.there .here) (.cons (.there (.there .here)) (.cons (.there (.there .here)) .nil))) le
     refine h_back ⟨fun _ => hw, ?_⟩
     replace CL := CL.add (t := 31) (d := (.v (.pointer (some ⟨g47, Int.toNat y1 * ((Ty.prod (Ty.int .i64) Y69)).size, none⟩)))) S rfl rfl
     refine h_fieldAddr S CL hw le (subR rfl) rfl I71_1 T69 (by decide) rfl rfl rfl trivial ?_; clear S CL a; intro a S CL
     refine h_run' S rfl trivial ?_
     refine s_ldRM S (ty' := (Ty.prod (Ty.int .i64) Y69)) (i := y1) (off := 1) (fun (c : Unit × (Option Nat)) => c.2) rfl hA2 (.there (.there .here)) T69 c5.1 c5.2 rfl (fun _ => rfl) rfl ?_; clear S a; intro mg1 a S
     replace hw := CL.again hw S (.cons (.there .here) (.cons (.there (.there .here)) (.cons (.there (.there .here)) .nil))) le
     refine h_back ⟨fun _ => hw, ?_⟩
     refine h_run' S rfl trivial ?_
     refine s_lookR S (z := ([0, 0, 0, 0, 0, 0, 0, 0, 0, 0, 0, 0, 0, 0, 0, 0, 0, 0, 0, 0], 0, [0, 0, 0, 0], ([] : List Int), ([] : List ((List Int) × (List Int))))) (k := x3) rfl ((), (), (), (none, 0), (none, 0)) rfl (fun h => ⟨(), rfl, h⟩) Try.underlying69 KT23 Z30 ⟨rfl, rfl, rfl, ⟨Nat.le_refl _, Nat.zero_le _, RdS.nil _ _ _, RdS.mono _ _ _⟩, ⟨Nat.le_refl _, Nat.zero_le _, RdS.nil _ _ _, RdS.mono _ _ _⟩, trivial⟩ rfl ?_; clear S a; intro ch3 a S
     replace hw := CL.again hw S (.cons (.there .here) (.cons (.there (.there .here)) (.cons (.there (.there .here)) .nil))) le
     refine h_back ⟨fun _ => hw, ?_⟩
     refine h_run' S rfl trivial ?_
     refine s_move S rfl rfl ?_; clear S a; intro a S
     replace hw := CL.again hw S (.cons (.there .here) (.cons (.there (.there .here)) (.cons (.there (.there .here)) .nil))) le
     refine h_back ⟨fun _ => hw, ?_⟩
     refine h_alts ?_
     refine h_runO S rfl trivial ?_ ?_
     ·refine s_extract S rfl rfl rfl rfl ?_; clear S a; intro a S
      replace hw := CL.again hw S (.cons (.there .here) (.cons (.there (.there .here)) (.cons (.there (.there .here)) .nil))) le
      refine h_back ⟨fun _ => hw, ?_⟩
      refine h_alts ?_
      refine h_runO S rfl trivial ?_ ?_
      ·refine s_extract S rfl rfl rfl rfl ?_; clear S a; intro a S
       replace hw := CL.again hw S (.cons (.there .here) (.cons (.there (.there .here)) (.cons (.there (.there .here)) .nil))) le
       refine h_back ⟨fun _ => hw, ?_⟩
       replace CL := CL.add (t := 37) (d := (.v (.bool ((lk (aget ((gt x1 y1).2) x3) ([0, 0, 0, 0, 0, 0, 0, 0, 0, 0, 0, 0, 0, 0, 0, 0, 0, 0, 0, 0], 0, [0, 0, 0, 0], ([] : List Int), ([] : List ((List Int) × (List Int))))).2)))) S rfl rfl
       refine h_run' S rfl trivial ?_
       refine s_store S rfl rfl rfl (s' := [.ints .u8 (((lk (aget ((gt x1 y1).2) x3) ([0, 0, 0, 0, 0, 0, 0, 0, 0, 0, 0, 0, 0, 0, 0, 0, 0, 0, 0, 0], 0, [0, 0, 0, 0], ([] : List Int), ([] : List ((List Int) × (List Int))))).1).1) 20, .one (.int .u64 (((lk (aget ((gt x1 y1).2) x3) ([0, 0, 0, 0, 0, 0, 0, 0, 0, 0, 0, 0, 0, 0, 0, 0, 0, 0, 0, 0], 0, [0, 0, 0, 0], ([] : List Int), ([] : List ((List Int) × (List Int))))).1).2.1)), .ints .u64 (((lk (aget ((gt x1 y1).2) x3) ([0, 0, 0, 0, 0, 0, 0, 0, 0, 0, 0, 0, 0, 0, 0, 0, 0, 0, 0, 0], 0, [0, 0, 0, 0], ([] : List Int), ([] : List ((List Int) × (List Int))))).1).2.2.1) 4, .sl ch3.2.2.2.1.1 (((lk (aget ((gt x1 y1).2) x3) ([0, 0, 0, 0, 0, 0, 0, 0, 0, 0, 0, 0, 0, 0, 0, 0, 0, 0, 0, 0], 0, [0, 0, 0, 0], ([] : List Int), ([] : List ((List Int) × (List Int))))).1).2.2.2.1).length ch3.2.2.2.1.2 (RdS (Ty.int .u8) ch3.2.2.2.1.1 (((lk (aget ((gt x1 y1).2) x3) ([0, 0, 0, 0, 0, 0, 0, 0, 0, 0, 0, 0, 0, 0, 0, 0, 0, 0, 0, 0], 0, [0, 0, 0, 0], ([] : List Int), ([] : List ((List Int) × (List Int))))).1).2.2.2.1)), .sl ch3.2.2.2.2.1 (((lk (aget ((gt x1 y1).2) x3) ([0, 0, 0, 0, 0, 0, 0, 0, 0, 0, 0, 0, 0, 0, 0, 0, 0, 0, 0, 0], 0, [0, 0, 0, 0], ([] : List Int), ([] : List ((List Int) × (List Int))))).1).2.2.2.2).length ch3.2.2.2.2.2 (RdS Y66 ch3.2.2.2.2.1 (((lk (aget ((gt x1 y1).2) x3) ([0, 0, 0, 0, 0, 0, 0, 0, 0, 0, 0, 0, 0, 0, 0, 0, 0, 0, 0, 0], 0, [0, 0, 0, 0], ([] : List Int), ([] : List ((List Int) × (List Int))))).1).2.2.2.2))]) .here T30 rfl rfl ?_; clear S; intro w S
       replace hw := CL.again hw S (.cons (.there .here) (.cons (.there (.there .here)) (.cons (.there (.there .here)) .nil))) le
       refine h_back ⟨fun _ => hw, ?_⟩
       refine h_assign S CL hw le (subR rfl) rfl rfl rfl trivial ?_; clear S CL a; intro a S CL
       refine h_done ?_; clear CL hw le
       refine x_thenN ?_
       exact j2 _ g46 g38 g39 ch3.2.2.2.1.1 ch3.2.2.2.1.2 ch3.2.2.2.2.1 ch3.2.2.2.2.2 a w (S.sub (subR rfl) (.cons .here (.cons .here (.cons .here (.cons .here (.cons .here .nil)))))) h2
      refine h_runO S rfl trivial ?_ ?_
      ·refine s_store S rfl rfl rfl (s' := [.ints .u8 (((lk (aget ((gt x1 y1).2) x3) ([0, 0, 0, 0, 0, 0, 0, 0, 0, 0, 0, 0, 0, 0, 0, 0, 0, 0, 0, 0], 0, [0, 0, 0, 0], ([] : List Int), ([] : List ((List Int) × (List Int))))).1).1) 20, .one (.int .u64 (((lk (aget ((gt x1 y1).2) x3) ([0, 0, 0, 0, 0, 0, 0, 0, 0, 0, 0, 0, 0, 0, 0, 0, 0, 0, 0, 0], 0, [0, 0, 0, 0], ([] : List Int), ([] : List ((List Int) × (List Int))))).1).2.1)), .ints .u64 (((lk (aget ((gt x1 y1).2) x3) ([0, 0, 0, 0, 0, 0, 0, 0, 0, 0, 0, 0, 0, 0, 0, 0, 0, 0, 0, 0], 0, [0, 0, 0, 0], ([] : List Int), ([] : List ((List Int) × (List Int))))).1).2.2.1) 4, .sl ch3.2.2.2.1.1 (((lk (aget ((gt x1 y1).2) x3) ([0, 0, 0, 0, 0, 0, 0, 0, 0, 0, 0, 0, 0, 0, 0, 0, 0, 0, 0, 0], 0, [0, 0, 0, 0], ([] : List Int), ([] : List ((List Int) × (List Int))))).1).2.2.2.1).length ch3.2.2.2.1.2 (RdS (Ty.int .u8) ch3.2.2.2.1.1 (((lk (aget ((gt x1 y1).2) x3) ([0, 0, 0, 0, 0, 0, 0, 0, 0, 0, 0, 0, 0, 0, 0, 0, 0, 0, 0, 0], 0, [0, 0, 0, 0], ([] : List Int), ([] : List ((List Int) × (List Int))))).1).2.2.2.1)), .sl ch3.2.2.2.2.1 (((lk (aget ((gt x1 y1).2) x3) ([0, 0, 0, 0, 0, 0, 0, 0, 0, 0, 0, 0, 0, 0, 0, 0, 0, 0, 0, 0], 0, [0, 0, 0, 0], ([] : List Int), ([] : List ((List Int) × (List Int))))).1).2.2.2.2).length ch3.2.2.2.2.2 (RdS Y66 ch3.2.2.2.2.1 (((lk (aget ((gt x1 y1).2) x3) ([0, 0, 0, 0, 0, 0, 0, 0, 0, 0, 0, 0, 0, 0, 0, 0, 0, 0, 0, 0], 0, [0, 0, 0, 0], ([] : List Int), ([] : List ((List Int) × (List Int))))).1).2.2.2.2))]) .here T30 rfl rfl ?_; clear S; intro w S
       replace hw := CL.again hw S (.cons (.there .here) (.cons (.there (.there .here)) (.cons (.there (.there .here)) .nil))) le
       refine h_back ⟨fun _ => hw, ?_⟩
       refine h_run' S rfl trivial ?_
       refine s_extract S rfl rfl rfl rfl ?_; clear S a; intro a S
       replace hw := CL.again hw S (.cons (.there .here) (.cons (.there (.there .here)) (.cons (.there (.there .here)) .nil))) le
       refine h_back ⟨fun _ => hw, ?_⟩
       replace CL := CL.add (t := 37) (d := (.v (.bool ((lk (aget ((gt x1 y1).2) x3) ([0, 0, 0, 0, 0, 0, 0, 0, 0, 0, 0, 0, 0, 0, 0, 0, 0, 0, 0, 0], 0, [0, 0, 0, 0], ([] : List Int), ([] : List ((List Int) × (List Int))))).2)))) S rfl rfl
       refine h_assign S CL hw le (subR rfl) rfl rfl rfl trivial ?_; clear S CL a; intro a S CL
       refine h_done ?_; clear CL hw le
       refine x_thenN ?_
       exact j2 _ g46 g38 g39 ch3.2.2.2.1.1 ch3.2.2.2.1.2 ch3.2.2.2.2.1 ch3.2.2.2.2.2 a w (S.sub (subR rfl) (.cons .here (.cons .here (.cons .here (.cons .here (.cons .here .nil)))))) h2
      exact h_nil
     refine h_runO S rfl trivial ?_ ?_
     ·refine s_extract S rfl rfl rfl rfl ?_; clear S a; intro a S
      replace hw := CL.again hw S (.cons (.there .here) (.cons (.there (.there .here)) (.cons (.there (.there .here)) .nil))) le
      refine h_back ⟨fun _ => hw, ?_⟩
      replace CL := CL.add (t := 37) (d := (.v (.bool ((lk (aget ((gt x1 y1).2) x3) ([0, 0, 0, 0, 0, 0, 0, 0, 0, 0, 0, 0, 0, 0, 0, 0, 0, 0, 0, 0], 0, [0, 0, 0, 0], ([] : List Int), ([] : List ((List Int) × (List Int))))).2)))) S rfl rfl
      refine h_run' S rfl trivial ?_
      refine s_extract S rfl rfl rfl rfl ?_; clear S a; intro a S
      replace hw := CL.again hw S (.cons (.there .here) (.cons (.there (.there .here)) (.cons (.there (.there .here)) .nil))) le
      refine h_back ⟨fun _ => hw, ?_⟩
      refine h_run' S rfl trivial ?_
      refine s_store S rfl rfl rfl (s' := [.ints .u8 (((lk (aget ((gt x1 y1).2) x3) ([0, 0, 0, 0, 0, 0, 0, 0, 0, 0, 0, 0, 0, 0, 0, 0, 0, 0, 0, 0], 0, [0, 0, 0, 0], ([] : List Int), ([] : List ((List Int) × (List Int))))).1).1) 20, .one (.int .u64 (((lk (aget ((gt x1 y1).2) x3) ([0, 0, 0, 0, 0, 0, 0, 0, 0, 0, 0, 0, 0, 0, 0, 0, 0, 0, 0, 0], 0, [0, 0, 0, 0], ([] : List Int), ([] : List ((List Int) × (List Int))))).1).2.1)), .ints .u64 (((lk (aget ((gt x1 y1).2) x3) ([0, 0, 0, 0, 0, 0, 0, 0, 0, 0, 0, 0, 0, 0, 0, 0, 0, 0, 0, 0], 0, [0, 0, 0, 0], ([] : List Int), ([] : List ((List Int) × (List Int))))).1).2.2.1) 4, .sl ch3.2.2.2.1.1 (((lk (aget ((gt x1 y1).2) x3) ([0, 0, 0, 0, 0, 0, 0, 0, 0, 0, 0, 0, 0, 0, 0, 0, 0, 0, 0, 0], 0, [0, 0, 0, 0], ([] : List Int), ([] : List ((List Int) × (List Int))))).1).2.2.2.1).length ch3.2.2.2.1.2 (RdS (Ty.int .u8) ch3.2.2.2.1.1 (((lk (aget ((gt x1 y1).2) x3) ([0, 0, 0, 0, 0, 0, 0, 0, 0, 0, 0, 0, 0, 0, 0, 0, 0, 0, 0, 0], 0, [0, 0, 0, 0], ([] : List Int), ([] : List ((List Int) × (List Int))))).1).2.2.2.1)), .sl ch3.2.2.2.2.1 (((lk (aget ((gt x1 y1).2) x3) ([0, 0, 0, 0, 0, 0, 0, 0, 0, 0, 0, 0, 0, 0, 0, 0, 0, 0, 0, 0], 0, [0, 0, 0, 0], ([] : List Int), ([] : List ((List Int) × (List Int))))).1).2.2.2.2).length ch3.2.2.2.2.2 (RdS Y66 ch3.2.2.2.2.1 (((lk (aget ((gt x1 y1).2) x3) ([0, 0, 0, 0, 0, 0, 0, 0, 0, 0, 0, 0, 0, 0, 0, 0, 0, 0, 0, 0], 0, [0, 0, 0, 0], ([] : List Int), ([] : List ((List Int) × (List Int))))).1).2.2.2.2))]) .here T30 rfl rfl ?_; clear S; intro w S
      replace hw := CL.again hw S (.cons (.there .here) (.cons (.there (.there .here)) (.cons (.there (.there .here)) .nil))) le
      refine h_back ⟨fun _ => hw, ?_⟩
      refine h_assign S CL hw le (subR rfl) rfl rfl rfl trivial ?_; clear S CL a; intro a S CL
      refine h_done ?_; clear CL hw le
      refine x_thenN ?_
      exact j2 _ g46 g38 g39 ch3.2.2.2.1.1 ch3.2.2.2.1.2 ch3.2.2.2.2.1 ch3.2.2.2.2.2 a w (S.sub (subR rfl) (.cons .here (.cons .here (.cons .here (.cons .here (.cons .here .nil)))))) h2
     exact h_nil
    exact h_nil
   ·refine c_condF S rfl c2 ?_
    refine wp_exit ?_
    refine x_thenX ?_
    refine x_thenX ?_
    refine x_blockX ?_
    refine x_thenN ?_
    exact j1 _ g38 a w (S.sub ⟨rfl, trivial⟩ (.cons .here (.cons .here (.cons .here .nil)))) h1
/-! (*smithy/store.Store).Find -/
abbrev store_Store_Find.Ty : Type := L72 → Int → (List Int) → Option (((List Int) × Int × (List Int) × (List Int) × (List ((List Int) × (List Int)))) × Bool)
def store_Store_Find.Ctr (s : store_Store_Find.Ty) : Prop := ∀ (x1 : L72) (x2 : Int) (x3 : List Int) (ch_0_0 : Nat) (ch_0_1 : Option Addr) (ch_0_2 : Nat) (ch_0_3 : Nat) (r : ((List Int) × Int × (List Int) × (List Int) × (List ((List Int) × (List Int)))) × Bool) (h0 : s x1 x2 x3 = some r) (mi : Mem) (w0 : World), okL mi [(.v (.pointer (some ⟨ch_0_0, 0, none⟩))), (.v (.int .i64 x2)), (.agg [.ints .u8 x3 20])] → Pre mi [Res.cells ch_0_0 74 [.one (.slice ch_0_1 ch_0_2 ch_0_3)], Res.row (Ty.prod (Ty.int .i64) Y69) 71 ch_0_1 ch_0_2 ch_0_3 x1] w0 → Calls Try.prog 20 (([(.v (.pointer (some ⟨ch_0_0, 0, none⟩))), (.v (.int .i64 x2)), (.agg [.ints .u8 x3 20])] : List D).map D.val).toArray w0 (RetX mi [Res.cells ch_0_0 74 [.one (.slice ch_0_1 ch_0_2 ch_0_3)], Res.row (Ty.prod (Ty.int .i64) Y69) 71 ch_0_1 ch_0_2 ch_0_3 x1] (fun (ch : (Option Addr) × Nat × Nat × (Option Addr) × Nat × Nat) => ((.tup [(true, [.ints .u8 r.1.1 20, .one (.int .u64 r.1.2.1), .ints .u64 r.1.2.2.1 4, .one (.slice ch.1 ch.2.1 ch.2.2.1), .one (.slice ch.2.2.2.1 ch.2.2.2.2.1 ch.2.2.2.2.2)]), (false, [.one (.bool r.2)])]) : D)) (fun (ch : (Option Addr) × Nat × Nat × (Option Addr) × Nat × Nat) => [Res.row (Ty.int .u8) 5 ch.1 ch.2.1 ch.2.2.1 r.1.2.2.2.1, Res.row Y66 66 ch.2.2.2.1 ch.2.2.2.2.1 ch.2.2.2.2.2 r.1.2.2.2.2, Res.cells ch_0_0 74 [.one (.slice ch_0_1 ch_0_2 ch_0_3)], Res.row (Ty.prod (Ty.int .i64) Y69) 71 ch_0_1 ch_0_2 ch_0_3 x1]) w0)
def store_Store_Find.f (k : Nat) (x1 : L72) (x2 : Int) (x3 : List Int) : Option (((List Int) × Int × (List Int) × (List Int) × (List ((List Int) × (List Int)))) × Bool) := (store_Store_find.f k (x1) x2 x3).bind fun t1 => ((store_own.f (t1.1.1, t1.1.2.1, t1.1.2.2.1, t1.1.2.2.2.1, t1.1.2.2.2.2)).bind fun t2 => (some ((t2.1, t2.2.1, t2.2.2.1, t2.2.2.2.1, t2.2.2.2.2), t1.2)))
theorem store_Store_Find.ok (k : Nat) : store_Store_Find.Ctr (store_Store_Find.f k) := by
 intro x1 x2 x3 ch_0_0 ch_0_1 ch_0_2 ch_0_3 r h0 mi w0 ok hm
 delta store_Store_Find.f at h0
 refine c_enterX (n := 20) [(.v (.pointer (some ⟨ch_0_0, 0, none⟩))), (.v (.int .i64 x2)), (.agg [.ints .u8 x3 20])] (l := [(0, (.v (.pointer (some ⟨ch_0_0, 0, none⟩)))), (1, (.v (.int .i64 x2))), (2, (.agg [.ints .u8 x3 20]))]) Try.func20 rfl rfl rfl rfl ok hm ?_
 clear ok hm
 intro b0 hb a S
 refine c_region ?_
 refine s_box S rfl rfl rfl ?_; clear S a; intro g1 a w S
 refine s_alloc S Z30 rfl ⟨rfl, rfl, rfl, rfl, rfl, trivial⟩ rfl ?_; clear S a w; intro g2 a w S
 refine s_assign S rfl rfl ?_; clear S a; intro a S
 refine c_end ?_
 refine c_region ?_
 refine s_move S rfl rfl ?_; clear S a; intro a S
 refine s_move S rfl rfl ?_; clear S a; intro a S
 refine s_loada S rfl (.there .here) T23 (s' := [.ints .u8 x3 20]) rfl rfl ?_; clear S a; intro a S
 obtain ⟨t1, et1, h1⟩ := bind_of h0; clear h0
 refine s_callX S (ds' := [(.v (.pointer (some ⟨ch_0_0, 0, none⟩))), (.v (.int .i64 x2)), (.agg [.ints .u8 x3 20])]) (ds := [(.v (.pointer (some ⟨ch_0_0, 0, none⟩))), (.v (.int .i64 x2)), (.agg [.ints .u8 x3 20])]) [Res.cells ch_0_0 74 [.one (.slice ch_0_1 ch_0_2 ch_0_3)], Res.row (Ty.prod (Ty.int .i64) Y69) 71 ch_0_1 ch_0_2 ch_0_3 x1] [Res.cells g2 30 [.ints .u8 [0, 0, 0, 0, 0, 0, 0, 0, 0, 0, 0, 0, 0, 0, 0, 0, 0, 0, 0, 0] 20, .one (.int .u64 0), .ints .u64 [0, 0, 0, 0] 4, .one (.slice none 0 0), .one (.slice none 0 0)], Res.cells g1 23 [.ints .u8 x3 20]] (fun (ch : (Option Addr) × Nat × (Option Addr) × Nat) => ((.tup [(true, [.ints .u8 t1.1.1 20, .one (.int .u64 t1.1.2.1), .ints .u64 t1.1.2.2.1 4, .sl ch.1 (t1.1.2.2.2.1).length ch.2.1 (RdS (Ty.int .u8) ch.1 t1.1.2.2.2.1), .sl ch.2.2.1 (t1.1.2.2.2.2).length ch.2.2.2 (RdS Y66 ch.2.2.1 t1.1.2.2.2.2)]), (false, [.one (.bool t1.2)])]) : D)) (fun (ch : (Option Addr) × Nat × (Option Addr) × Nat) => [Res.cells ch_0_0 74 [.one (.slice ch_0_1 ch_0_2 ch_0_3)], Res.row (Ty.prod (Ty.int .i64) Y69) 71 ch_0_1 ch_0_2 ch_0_3 x1]) (fun (ch : (Option Addr) × Nat × (Option Addr) × Nat) => [Res.cells ch_0_0 74 [.one (.slice ch_0_1 ch_0_2 ch_0_3)], Res.row (Ty.prod (Ty.int .i64) Y69) 71 ch_0_1 ch_0_2 ch_0_3 x1, Res.cells g2 30 [.ints .u8 [0, 0, 0, 0, 0, 0, 0, 0, 0, 0, 0, 0, 0, 0, 0, 0, 0, 0, 0, 0] 20, .one (.int .u64 0), .ints .u64 [0, 0, 0, 0] 4, .one (.slice none 0 0), .one (.slice none 0 0)], Res.cells g1 23 [.ints .u8 x3 20]]) (fun _ => rfl) N37 rfl rfl (fun ok => ok) (.cons (.there (.there .here)) (.cons (.there (.there .here)) (.cons .here (.cons .here .nil)))) rfl (store_Store_find.ok k (x1) x2 x3 ch_0_0 ch_0_1 ch_0_2 ch_0_3 t1 et1 _ _) ?_; clear S a w; intro ch1 m le1 a w S
 refine s_move S rfl rfl ?_; clear S a; intro a S
 refine s_extract S rfl rfl rfl rfl ?_; clear S a; intro a S
 refine s_extract S rfl rfl rfl rfl ?_; clear S a; intro a S
 refine s_alloc S Z30 rfl ⟨rfl, rfl, rfl, rfl, rfl, trivial⟩ rfl ?_; clear S a w; intro g3 a w S
 refine s_store S rfl rfl rfl (s' := [.ints .u8 t1.1.1 20, .one (.int .u64 t1.1.2.1), .ints .u64 t1.1.2.2.1 4, .sl ch1.1 (t1.1.2.2.2.1).length ch1.2.1 (RdS (Ty.int .u8) ch1.1 t1.1.2.2.2.1), .sl ch1.2.2.1 (t1.1.2.2.2.2).length ch1.2.2.2 (RdS Y66 ch1.2.2.1 t1.1.2.2.2.2)]) .here T30 rfl rfl ?_; clear S w; intro w S
 refine s_assign S rfl rfl ?_; clear S a; intro a S
 refine c_end ?_
 refine c_region ?_
 refine s_loada S rfl .here T30 (s' := [.ints .u8 t1.1.1 20, .one (.int .u64 t1.1.2.1), .ints .u64 t1.1.2.2.1 4, .sl ch1.1 (t1.1.2.2.2.1).length ch1.2.1 (RdS (Ty.int .u8) ch1.1 t1.1.2.2.2.1), .sl ch1.2.2.1 (t1.1.2.2.2.2).length ch1.2.2.2 (RdS Y66 ch1.2.2.1 t1.1.2.2.2.2)]) rfl rfl ?_; clear S a; intro a S
 obtain ⟨t2, et2, h2⟩ := bind_of h1; clear h1
 refine s_callX S (ds' := [(.agg [.ints .u8 t1.1.1 20, .one (.int .u64 t1.1.2.1), .ints .u64 t1.1.2.2.1 4, .sl ch1.1 (t1.1.2.2.2.1).length ch1.2.1 (RdS (Ty.int .u8) ch1.1 t1.1.2.2.2.1), .sl ch1.2.2.1 (t1.1.2.2.2.2).length ch1.2.2.2 (RdS Y66 ch1.2.2.1 t1.1.2.2.2.2)])]) (ds := [(.agg [.ints .u8 t1.1.1 20, .one (.int .u64 t1.1.2.1), .ints .u64 t1.1.2.2.1 4, .sl ch1.1 (t1.1.2.2.2.1).length ch1.2.1 (RdS (Ty.int .u8) ch1.1 t1.1.2.2.2.1), .sl ch1.2.2.1 (t1.1.2.2.2.2).length ch1.2.2.2 (RdS Y66 ch1.2.2.1 t1.1.2.2.2.2)])]) [] [Res.cells g3 30 [.ints .u8 t1.1.1 20, .one (.int .u64 t1.1.2.1), .ints .u64 t1.1.2.2.1 4, .sl ch1.1 (t1.1.2.2.2.1).length ch1.2.1 (RdS (Ty.int .u8) ch1.1 t1.1.2.2.2.1), .sl ch1.2.2.1 (t1.1.2.2.2.2).length ch1.2.2.2 (RdS Y66 ch1.2.2.1 t1.1.2.2.2.2)], Res.cells ch_0_0 74 [.one (.slice ch_0_1 ch_0_2 ch_0_3)], Res.row (Ty.prod (Ty.int .i64) Y69) 71 ch_0_1 ch_0_2 ch_0_3 x1, Res.cells g2 30 [.ints .u8 [0, 0, 0, 0, 0, 0, 0, 0, 0, 0, 0, 0, 0, 0, 0, 0, 0, 0, 0, 0] 20, .one (.int .u64 0), .ints .u64 [0, 0, 0, 0] 4, .one (.slice none 0 0), .one (.slice none 0 0)], Res.cells g1 23 [.ints .u8 x3 20]] (fun (ch : (Option Addr) × Nat × Nat × (Option Addr) × Nat × Nat) => ((.agg [.ints .u8 t2.1 20, .one (.int .u64 t2.2.1), .ints .u64 t2.2.2.1 4, .one (.slice ch.1 ch.2.1 ch.2.2.1), .one (.slice ch.2.2.2.1 ch.2.2.2.2.1 ch.2.2.2.2.2)]) : D)) (fun (ch : (Option Addr) × Nat × Nat × (Option Addr) × Nat × Nat) => [Res.row (Ty.int .u8) 5 ch.1 ch.2.1 ch.2.2.1 t2.2.2.2.1, Res.row Y66 66 ch.2.2.2.1 ch.2.2.2.2.1 ch.2.2.2.2.2 t2.2.2.2.2]) (fun (ch : (Option Addr) × Nat × Nat × (Option Addr) × Nat × Nat) => [Res.row (Ty.int .u8) 5 ch.1 ch.2.1 ch.2.2.1 t2.2.2.2.1, Res.row Y66 66 ch.2.2.2.1 ch.2.2.2.2.1 ch.2.2.2.2.2 t2.2.2.2.2, Res.cells g3 30 [.ints .u8 t1.1.1 20, .one (.int .u64 t1.1.2.1), .ints .u64 t1.1.2.2.1 4, .sl ch1.1 (t1.1.2.2.2.1).length ch1.2.1 (RdS (Ty.int .u8) ch1.1 t1.1.2.2.2.1), .sl ch1.2.2.1 (t1.1.2.2.2.2).length ch1.2.2.2 (RdS Y66 ch1.2.2.1 t1.1.2.2.2.2)], Res.cells ch_0_0 74 [.one (.slice ch_0_1 ch_0_2 ch_0_3)], Res.row (Ty.prod (Ty.int .i64) Y69) 71 ch_0_1 ch_0_2 ch_0_3 x1, Res.cells g2 30 [.ints .u8 [0, 0, 0, 0, 0, 0, 0, 0, 0, 0, 0, 0, 0, 0, 0, 0, 0, 0, 0, 0] 20, .one (.int .u64 0), .ints .u64 [0, 0, 0, 0] 4, .one (.slice none 0 0), .one (.slice none 0 0)], Res.cells g1 23 [.ints .u8 x3 20]]) (fun _ => rfl) N33 rfl rfl (fun ok => ok) (.cons .here (.cons .here (.cons .here (.cons .here (.cons .here .nil))))) rfl (store_own.ok (t1.1.1, t1.1.2.1, t1.1.2.2.1, t1.1.2.2.2.1, t1.1.2.2.2.2) ch1.1 ch1.2.1 ch1.2.2.1 ch1.2.2.2 t2 et2 _ _) ?_; clear S a w; intro ch2 m le1 a w S
 refine s_move S rfl rfl ?_; clear S a; intro a S
 refine s_store S rfl rfl rfl (s' := [.ints .u8 t2.1 20, .one (.int .u64 t2.2.1), .ints .u64 t2.2.2.1 4, .one (.slice ch2.1 ch2.2.1 ch2.2.2.1), .one (.slice ch2.2.2.2.1 ch2.2.2.2.2.1 ch2.2.2.2.2.2)]) (.there (.there (.there (.there (.there .here))))) T30 rfl rfl ?_; clear S w; intro w S
 refine s_assign S rfl rfl ?_; clear S a; intro a S
 refine c_end ?_
 refine wp_ret ?_
 obtain rfl := Option.some.inj h2
 exact b_ret2 (d1 := (.agg [.ints .u8 t2.1 20, .one (.int .u64 t2.2.1), .ints .u64 t2.2.2.1 4, .one (.slice ch2.1 ch2.2.1 ch2.2.2.1), .one (.slice ch2.2.2.2.1 ch2.2.2.2.2.1 ch2.2.2.2.2.2)])) (d2 := (.v (.bool t1.2))) S rfl (resD_cell rfl (.there (.there (.there (.there (.there .here))))) T30 rfl rfl) rfl fun ok1 ok2 => S.retX (Hx := []) hb _ _ ((ch2.1, ch2.2.1, ch2.2.2.1, ch2.2.2.2.1, ch2.2.2.2.2.1, ch2.2.2.2.2.2) : (Option Addr) × Nat × Nat × (Option Addr) × Nat × Nat) (.cons .here (.cons .here (.cons (.there .here) (.cons (.there .here) .nil)))) ⟨ok1, ⟨ok2, trivial⟩, trivial⟩
end GW
