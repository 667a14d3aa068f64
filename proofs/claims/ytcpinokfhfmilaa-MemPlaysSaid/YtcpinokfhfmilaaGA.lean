/-
  Printed by a program of these sessions (wip/gw/gx.py): for each Go function a Lean function with the same answers, and the walk that shows it.
-/
import Derived.Test.YtcpinokfhfmilaaProg
import Derived.Test.YtcpinokfhfmilaaGWRQui
set_option linter.unusedVariables false
set_option maxRecDepth 10000
namespace GW
open Go Go.RowKit Go.Proofs
theorem N10 : Fn_ Try.prog 10 := ⟨_, Try.func10, rfl, by decide⟩
theorem N11 : Fn_ Try.prog 11 := ⟨_, Try.func11, rfl, by decide⟩
theorem P72 : ∀ w : World, ((match Try.prog.underlying 72 with | some (.struct fs) => fs | _ => (#[] : Array Field)).mapM fun (f : Field) => (do pure (f.offset, ← Go.sizeOf f.type) : Sem (Nat × Nat))).run Try.prog w = .ok #[(0, 1)] w := fun _ => by kernel_rfl
theorem Z72 : zeroI Try.prog 72 = some (D.val (.agg [.one (.slice none 0 0)])) := by kernel_rfl
theorem N15 : Fn_ Try.prog 15 := ⟨_, Try.func15, rfl, by decide⟩
theorem T27 : tyI Try.prog 27 = some (true, 4) := by kernel_rfl
theorem I72_0 : fieldI Try.prog 72 0 = some (0, 38) := by kernel_rfl
theorem T38 : tyI Try.prog 38 = some (false, 1) := by kernel_rfl
theorem T22 : tyI Try.prog 22 = some (false, 1) := by kernel_rfl
theorem Q27 : Try.prog.eqGuardType Try.prog.depth 27 = false := by kernel_rfl
theorem N50 : Fn_ Try.prog 50 := ⟨_, Try.func50, rfl, by decide⟩
theorem N41 : Fn_ Try.prog 41 := ⟨_, Try.func41, rfl, by decide⟩
theorem N40 : Fn_ Try.prog 40 := ⟨_, Try.func40, rfl, by decide⟩
theorem N13 : Fn_ Try.prog 13 := ⟨_, Try.func13, rfl, by decide⟩
theorem N18 : Fn_ Try.prog 18 := ⟨_, Try.func18, rfl, by decide⟩
theorem J5 : appI Try.prog 5 = some (1, 1) := by kernel_rfl
theorem Z5 : zeroI Try.prog 5 = some (D.val (.v (.int .u8 0))) := by kernel_rfl
theorem N16 : Fn_ Try.prog 16 := ⟨_, Try.func16, rfl, by decide⟩
theorem N19 : Fn_ Try.prog 19 := ⟨_, Try.func19, rfl, by decide⟩
theorem N12 : Fn_ Try.prog 12 := ⟨_, Try.func12, rfl, by decide⟩
theorem N14 : Fn_ Try.prog 14 := ⟨_, Try.func14, rfl, by decide⟩
theorem N42 : Fn_ Try.prog 42 := ⟨_, Try.func42, rfl, by decide⟩
theorem N17 : Fn_ Try.prog 17 := ⟨_, Try.func17, rfl, by decide⟩
theorem T40 : tyI Try.prog 40 = some (true, 13) := by kernel_rfl
theorem Z40 : zeroI Try.prog 40 = some (D.val (.agg [.one (.int .i64 0), .one (.int .i64 0), .one (.int .i64 0), .one (.int .i64 0), .ints .u64 [0, 0, 0, 0] 4, .ints .u64 [0, 0, 0, 0] 4, .one (.slice none 0 0)])) := by kernel_rfl
theorem I40_6 : fieldI Try.prog 40 6 = some (12, 38) := by kernel_rfl
theorem I40_0 : fieldI Try.prog 40 0 = some (0, 3) := by kernel_rfl
theorem T3 : tyI Try.prog 3 = some (false, 1) := by kernel_rfl
theorem I40_4 : fieldI Try.prog 40 4 = some (4, 27) := by kernel_rfl
theorem N43 : Fn_ Try.prog 43 := ⟨_, Try.func43, rfl, by decide⟩
theorem I40_5 : fieldI Try.prog 40 5 = some (8, 27) := by kernel_rfl
theorem I40_3 : fieldI Try.prog 40 3 = some (3, 3) := by kernel_rfl
theorem N20 : Fn_ Try.prog 20 := ⟨_, Try.func20, rfl, by decide⟩
theorem P75 : ∀ w : World, ((match Try.prog.underlying 75 with | some (.struct fs) => fs | _ => (#[] : Array Field)).mapM fun (f : Field) => (do pure (f.offset, ← Go.sizeOf f.type) : Sem (Nat × Nat))).run Try.prog w = .ok #[(0, 1)] w := fun _ => by kernel_rfl
theorem Z75 : zeroI Try.prog 75 = some (D.val (.agg [.one (.slice none 0 0)])) := by kernel_rfl
theorem N21 : Fn_ Try.prog 21 := ⟨_, Try.func21, rfl, by decide⟩
theorem Z27 : zeroI Try.prog 27 = some (D.val (.agg [.ints .u64 [0, 0, 0, 0] 4])) := by kernel_rfl
theorem I75_0 : fieldI Try.prog 75 0 = some (0, 42) := by kernel_rfl
theorem T42 : tyI Try.prog 42 = some (false, 1) := by kernel_rfl
theorem J27 : appI Try.prog 27 = some (4, 32) := by kernel_rfl
theorem N22 : Fn_ Try.prog 22 := ⟨_, Try.func22, rfl, by decide⟩
theorem N26 : Fn_ Try.prog 26 := ⟨_, Try.func26, rfl, by decide⟩
theorem N23 : Fn_ Try.prog 23 := ⟨_, Try.func23, rfl, by decide⟩
theorem N24 : Fn_ Try.prog 24 := ⟨_, Try.func24, rfl, by decide⟩
theorem N25 : Fn_ Try.prog 25 := ⟨_, Try.func25, rfl, by decide⟩
theorem T5 : tyI Try.prog 5 = some (false, 1) := by kernel_rfl
theorem N27 : Fn_ Try.prog 27 := ⟨_, Try.func27, rfl, by decide⟩
theorem I40_1 : fieldI Try.prog 40 1 = some (1, 3) := by kernel_rfl
theorem N28 : Fn_ Try.prog 28 := ⟨_, Try.func28, rfl, by decide⟩
theorem N29 : Fn_ Try.prog 29 := ⟨_, Try.func29, rfl, by decide⟩
theorem I40_2 : fieldI Try.prog 40 2 = some (2, 3) := by kernel_rfl
theorem N34 : Fn_ Try.prog 34 := ⟨_, Try.func34, rfl, by decide⟩
theorem N30 : Fn_ Try.prog 30 := ⟨_, Try.func30, rfl, by decide⟩
theorem N31 : Fn_ Try.prog 31 := ⟨_, Try.func31, rfl, by decide⟩
theorem Z76 : zeroI Try.prog 76 = some (D.val (.agg [.ints .u8 [0, 0, 0, 0, 0, 0, 0, 0, 0, 0, 0, 0, 0, 0, 0, 0, 0, 0, 0, 0, 0, 0, 0, 0, 0, 0, 0, 0, 0, 0, 0, 0] 32])) := by kernel_rfl
theorem T76 : tyI Try.prog 76 = some (true, 32) := by kernel_rfl
theorem N44 : Fn_ Try.prog 44 := ⟨_, Try.func44, rfl, by decide⟩
theorem N32 : Fn_ Try.prog 32 := ⟨_, Try.func32, rfl, by decide⟩
theorem Z65 : zeroI Try.prog 65 = some (D.val (.agg [.ints .i64 [0, 0, 0, 0, 0, 0, 0, 0, 0, 0, 0, 0, 0, 0, 0, 0, 0, 0, 0, 0, 0, 0, 0, 0, 0, 0, 0, 0, 0, 0, 0, 0] 32])) := by kernel_rfl
theorem T65 : tyI Try.prog 65 = some (true, 32) := by kernel_rfl
theorem N45 : Fn_ Try.prog 45 := ⟨_, Try.func45, rfl, by decide⟩
theorem N46 : Fn_ Try.prog 46 := ⟨_, Try.func46, rfl, by decide⟩
theorem N33 : Fn_ Try.prog 33 := ⟨_, Try.func33, rfl, by decide⟩
theorem N47 : Fn_ Try.prog 47 := ⟨_, Try.func47, rfl, by decide⟩
theorem N35 : Fn_ Try.prog 35 := ⟨_, Try.func35, rfl, by decide⟩
theorem N48 : Fn_ Try.prog 48 := ⟨_, Try.func48, rfl, by decide⟩
theorem N39 : Fn_ Try.prog 39 := ⟨_, Try.func39, rfl, by decide⟩
theorem N36 : Fn_ Try.prog 36 := ⟨_, Try.func36, rfl, by decide⟩
theorem N49 : Fn_ Try.prog 49 := ⟨_, Try.func49, rfl, by decide⟩
theorem N38 : Fn_ Try.prog 38 := ⟨_, Try.func38, rfl, by decide⟩
theorem N37 : Fn_ Try.prog 37 := ⟨_, Try.func37, rfl, by decide⟩
def Gd3 : Int → Prop := fun x => inK .i64 x
def Gd27 : (List Int) → Prop := fun xs => xs.length = 4 ∧ ∀ y ∈ xs, inK .u64 y
def Gd5 : Int → Prop := fun x => inK .u8 x
def Gd38 : (List Int) → Prop := fun xs => (∀ y ∈ xs, Gd5 y) ∧ xs.length ≤ maxLen
def Gd40 : (Int × Int × Int × Int × (List Int) × (List Int) × (List Int)) → Prop := fun y => Gd3 y.1 ∧ (Gd3 y.2.1 ∧ (Gd3 y.2.2.1 ∧ (Gd3 y.2.2.2.1 ∧ (Gd27 y.2.2.2.2.1 ∧ (Gd27 y.2.2.2.2.2.1 ∧ (Gd38 y.2.2.2.2.2.2))))))
def Gd36 : (List (Int × Int × Int × Int × (List Int) × (List Int) × (List Int))) → Prop := fun xs => (∀ y ∈ xs, Gd40 y) ∧ xs.length ≤ maxLen
def Gd42 : (List (List Int)) → Prop := fun xs => (∀ y ∈ xs, Gd27 y) ∧ xs.length ≤ maxLen
/-! smithy/mem.Words -/
abbrev mem_Words.Ty : Type := Int → Option Int
def mem_Words.Ctr (s : mem_Words.Ty) : Prop := ∀ (x1 : Int) (r : Int) (h0 : s x1 = some r) (mi : Mem) (w0 : World), okL mi [(.v (.int .u64 x1))] → Pre mi [] w0 → Calls Try.prog 10 (([(.v (.int .u64 x1))] : List D).map D.val).toArray w0 (RetX mi [] (fun (ch : Unit) => ((.v (.int .u64 r)) : D)) (fun (ch : Unit) => []) w0)
def mem_Words.j1 (y1 : Int) : Option Int := some y1
def mem_Words.f (x1 : Int) : Option Int := if (decide (0 < (Int.tmod x1 32))) = true then (mem_Words.j1 (wr .u64 ((wr .u64 (Int.tdiv x1 32)) + 1))) else (mem_Words.j1 (wr .u64 (Int.tdiv x1 32)))
theorem mem_Words.ok : mem_Words.Ctr (mem_Words.f) := by
  intro x1 r h0 mi w0 ok hm
  delta mem_Words.f at h0
  refine c_enterX (n := 12) [(.v (.int .u64 x1))] (l := [(0, (.v (.int .u64 x1)))]) Try.func10 rfl rfl rfl rfl ok hm ?_
  clear ok hm
  intro b0 hb a S
  refine c_region ?_
  refine s_assign S rfl rfl ?_; clear S a; intro a S
  refine c_end ?_
  refine c_region ?_
  refine s_move S rfl rfl ?_; clear S a; intro a S
  refine s_quo S rfl rfl (by decide) rfl ?_; clear S a; intro a S
  refine s_assign S rfl rfl ?_; clear S a; intro a S
  refine c_end ?_
  refine wp_seq_k ?_
  intro K1 hK1
  have j1 : ∀ (m : Mem) (y1 : Int) (a : Act) (w : World), St 12 m b0 [(3, (.v (.int .u64 y1)))] [] a w → mem_Words.j1 y1 = some r → K1 a w := by
    intro m y1 a w S h0
    delta mem_Words.j1 at h0
    refine hK1 a w ?_
    refine c_region ?_
    refine s_move S rfl rfl ?_; clear S a; intro a S
    refine s_assign S rfl rfl ?_; clear S a; intro a S
    refine c_end ?_
    refine wp_ret ?_
    obtain rfl := Option.some.inj h0
    exact b_ret1 (d := (.v (.int .u64 y1))) S rfl rfl fun ok => S.retX (Hx := []) hb _ _ (() : Unit) .nil ok
  refine c_region ?_
  refine s_move S rfl rfl ?_; clear S a; intro a S
  refine s_rem S rfl rfl (by decide) rfl ?_; clear S a; intro a S
  refine s_bin S rfl rfl rfl rfl ?_; clear S a; intro a S
  refine c_end ?_
  rcases ite_of h0 with ⟨c1, h1⟩ | ⟨c1, h1⟩ <;> clear h0
  · refine c_condT S rfl c1 ?_
    refine c_region' ?_
    refine s_move S rfl rfl ?_; clear S a; intro a S
    refine s_bin S rfl rfl rfl rfl ?_; clear S a; intro a S
    refine s_assign S rfl rfl ?_; clear S a; intro a S
    refine c_end' ?_
    refine x_thenN ?_
    exact j1 _ (wr .u64 ((wr .u64 (Int.tdiv x1 32)) + 1)) a w0 (S.sub ⟨rfl, trivial⟩ .nil) h1
  · refine c_condF S rfl c1 ?_
    refine wp_skip ?_
    refine x_thenN ?_
    exact j1 _ (wr .u64 (Int.tdiv x1 32)) a w0 (S.sub ⟨rfl, trivial⟩ .nil) h1
/-! smithy/smithyref10.Words -/
abbrev smithyref10_Words.Ty : Type := Int → Option Int
def smithyref10_Words.Ctr (s : smithyref10_Words.Ty) : Prop := ∀ (x1 : Int) (r : Int) (h0 : s x1 = some r) (mi : Mem) (w0 : World), okL mi [(.v (.int .u64 x1))] → Pre mi [] w0 → Calls Try.prog 11 (([(.v (.int .u64 x1))] : List D).map D.val).toArray w0 (RetX mi [] (fun (ch : Unit) => ((.v (.int .u64 r)) : D)) (fun (ch : Unit) => []) w0)
def smithyref10_Words.f (x1 : Int) : Option Int := if ((Int.tmod x1 32) == 0) = true then (some (wr .u64 (Int.tdiv x1 32))) else (some (wr .u64 ((wr .u64 (Int.tdiv x1 32)) + 1)))
theorem smithyref10_Words.ok : smithyref10_Words.Ctr (smithyref10_Words.f) := by
  intro x1 r h0 mi w0 ok hm
  delta smithyref10_Words.f at h0
  refine c_enterX (n := 11) [(.v (.int .u64 x1))] (l := [(0, (.v (.int .u64 x1)))]) Try.func11 rfl rfl rfl rfl ok hm ?_
  clear ok hm
  intro b0 hb a S
  refine c_region ?_
  refine s_assign S rfl rfl ?_; clear S a; intro a S
  refine c_end ?_
  refine wp_seq ?_
  refine c_region ?_
  refine s_move S rfl rfl ?_; clear S a; intro a S
  refine s_rem S rfl rfl (by decide) rfl ?_; clear S a; intro a S
  refine s_bin S rfl rfl rfl rfl ?_; clear S a; intro a S
  refine c_end ?_
  rcases ite_of h0 with ⟨c1, h1⟩ | ⟨c1, h1⟩ <;> clear h0
  · refine c_condT S rfl c1 ?_
    refine c_region ?_
    refine s_move S rfl rfl ?_; clear S a; intro a S
    refine s_quo S rfl rfl (by decide) rfl ?_; clear S a; intro a S
    refine s_assign S rfl rfl ?_; clear S a; intro a S
    refine c_end ?_
    refine wp_ret ?_
    refine x_thenR ?_
    obtain rfl := Option.some.inj h1
    exact b_ret1 (d := (.v (.int .u64 (wr .u64 (Int.tdiv x1 32))))) S rfl rfl fun ok => S.retX (Hx := []) hb _ _ (() : Unit) .nil ok
  · refine c_condF S rfl c1 ?_
    refine wp_skip ?_
    refine x_thenN ?_
    refine c_region ?_
    refine s_move S rfl rfl ?_; clear S a; intro a S
    refine s_quo S rfl rfl (by decide) rfl ?_; clear S a; intro a S
    refine s_bin S rfl rfl rfl rfl ?_; clear S a; intro a S
    refine s_assign S rfl rfl ?_; clear S a; intro a S
    refine c_end ?_
    refine wp_ret ?_
    obtain rfl := Option.some.inj h1
    exact b_ret1 (d := (.v (.int .u64 (wr .u64 ((wr .u64 (Int.tdiv x1 32)) + 1))))) S rfl rfl fun ok => S.retX (Hx := []) hb _ _ (() : Unit) .nil ok
/-! smithy/mem.New -/
abbrev mem_New.Ty : Type := Option (((List Int)))
def mem_New.Ctr (s : mem_New.Ty) : Prop := ∀ (r : ((List Int))) (h0 : s = some r) (mi : Mem) (w0 : World), okL mi [] → Pre mi [] w0 → Calls Try.prog 15 (([] : List D).map D.val).toArray w0 (RetX mi [] (fun (ch : Nat × (Option Addr) × Nat × Nat) => ((.v (.pointer (some ⟨ch.1, 0, none⟩))) : D)) (fun (ch : Nat × (Option Addr) × Nat × Nat) => [Res.cells ch.1 72 [.one (.slice ch.2.1 ch.2.2.1 ch.2.2.2)], Res.row (Ty.int .u8) 5 ch.2.1 ch.2.2.1 ch.2.2.2 r]) w0)
def mem_New.f : Option (((List Int))) := some (([] : List Int))
theorem mem_New.ok : mem_New.Ctr (mem_New.f) := by
  intro r h0 mi w0 ok hm
  delta mem_New.f at h0
  refine c_enterX (n := 3) [] (l := []) Try.func15 rfl rfl rfl rfl ok hm ?_
  clear ok hm
  intro b0 hb a S
  refine c_region ?_
  refine s_assign S rfl rfl ?_; clear S a; intro a S
  refine c_end ?_
  refine c_region ?_
  refine s_bldS S (ds := []) (zs := [.one (.slice none 0 0)]) (s' := [.one (.slice none 0 0)]) rfl Try.underlying72 P72 Z72 ⟨rfl, trivial⟩ rfl rfl ?_; clear S a; intro a S
  refine s_box S rfl rfl rfl ?_; clear S a; intro g1 a w S
  refine s_assign S rfl rfl ?_; clear S a; intro a S
  refine c_end ?_
  refine wp_ret ?_
  replace S := S.nilrow (Ty.int .u8) 5
  obtain rfl := Option.some.inj h0
  exact b_ret1 (d := (.v (.pointer (some ⟨g1, 0, none⟩)))) S rfl rfl fun ok => S.retX (Hx := []) hb _ _ ((g1, none, 0, 0) : Nat × (Option Addr) × Nat × Nat) (.cons (.there .here) (.cons .here .nil)) ok
/-! smithy/word.Small -/
abbrev word_Small.Ty : Type := (List Int) → Option (Int × Bool)
def word_Small.Ctr (s : word_Small.Ty) : Prop := ∀ (x1 : List Int) (r : Int × Bool) (h0 : s x1 = some r) (mi : Mem) (w0 : World), okL mi [(.agg [.ints .u64 x1 4])] → Pre mi [] w0 → Calls Try.prog 50 (([(.agg [.ints .u64 x1 4])] : List D).map D.val).toArray w0 (RetX mi [] (fun (ch : Unit) => ((.tup [(false, [.one (.int .u64 r.1)]), (false, [.one (.bool r.2)])]) : D)) (fun (ch : Unit) => []) w0)
def word_Small.f (x1 : List Int) : Option (Int × Bool) := if ((bits .or .u64 (bits .or .u64 (rd x1 1) (rd x1 2)) (rd x1 3)) != 0) = true then (some (0, false)) else (some (rd x1 0, true))
theorem word_Small.ok : word_Small.Ctr (word_Small.f) := by
  intro x1 r h0 mi w0 ok hm
  delta word_Small.f at h0
  refine c_enterX (n := 15) [(.agg [.ints .u64 x1 4])] (l := [(0, (.agg [.ints .u64 x1 4]))]) Try.func50 rfl rfl rfl rfl ok hm ?_
  clear ok hm
  intro b0 hb a S
  refine c_region ?_
  refine s_box S rfl rfl rfl ?_; clear S a; intro g1 a w S
  refine s_assign S rfl rfl ?_; clear S a; intro a S
  refine s_assign S rfl rfl ?_; clear S a; intro a S
  refine c_end ?_
  refine wp_seq ?_
  refine c_region ?_
  refine s_iaddr S (o' := 1) rfl rfl Try.underlying27 T22 (by decide) (by decide) rfl rfl ?_; clear S a; intro a S
  refine s_loadi S (i := 1) rfl .here T22 .here rfl (by decide) (by decide) rfl ?_; clear S a; intro a S
  refine s_iaddr S (o' := 2) rfl rfl Try.underlying27 T22 (by decide) (by decide) rfl rfl ?_; clear S a; intro a S
  refine s_loadi S (i := 2) rfl .here T22 .here rfl (by decide) (by decide) rfl ?_; clear S a; intro a S
  refine s_bin S rfl rfl rfl rfl ?_; clear S a; intro a S
  refine s_iaddr S (o' := 3) rfl rfl Try.underlying27 T22 (by decide) (by decide) rfl rfl ?_; clear S a; intro a S
  refine s_loadi S (i := 3) rfl .here T22 .here rfl (by decide) (by decide) rfl ?_; clear S a; intro a S
  refine s_bin S rfl rfl rfl rfl ?_; clear S a; intro a S
  refine s_bin S rfl rfl rfl rfl ?_; clear S a; intro a S
  refine c_end ?_
  rcases ite_of h0 with ⟨c1, h1⟩ | ⟨c1, h1⟩ <;> clear h0
  · refine c_condT S rfl c1 ?_
    refine c_region ?_
    refine s_assign S rfl rfl ?_; clear S a; intro a S
    refine s_assign S rfl rfl ?_; clear S a; intro a S
    refine c_end ?_
    refine wp_ret ?_
    refine x_thenR ?_
    obtain rfl := Option.some.inj h1
    exact b_ret2 (d1 := (.v (.int .u64 0))) (d2 := (.v (.bool false))) S rfl rfl rfl fun ok1 ok2 => S.retX (Hx := []) hb _ _ (() : Unit) .nil ⟨⟨ok1, trivial⟩, ⟨ok2, trivial⟩, trivial⟩
  · refine c_condF S rfl c1 ?_
    refine wp_skip ?_
    refine x_thenN ?_
    refine c_region ?_
    refine s_iaddr S (o' := 0) rfl rfl Try.underlying27 T22 (by decide) (by decide) rfl rfl ?_; clear S a; intro a S
    refine s_loadi S (i := 0) rfl .here T22 .here rfl (by decide) (by decide) rfl ?_; clear S a; intro a S
    refine s_assign S rfl rfl ?_; clear S a; intro a S
    refine s_assign S rfl rfl ?_; clear S a; intro a S
    refine c_end ?_
    refine wp_ret ?_
    obtain rfl := Option.some.inj h1
    exact b_ret2 (d1 := (.v (.int .u64 (rd x1 0)))) (d2 := (.v (.bool true))) S rfl rfl rfl fun ok1 ok2 => S.retX (Hx := []) hb _ _ (() : Unit) .nil ⟨⟨ok1, trivial⟩, ⟨ok2, trivial⟩, trivial⟩
/-! (*smithy/mem.Memory).reach -/
abbrev mem_Memory_reach.Ty : Type := ((List Int)) → (List Int) → (List Int) → Option (Int × Bool)
def mem_Memory_reach.Ctr (s : mem_Memory_reach.Ty) : Prop := ∀ (x1 : (List Int)) (x2 : List Int) (x3 : List Int) (ch_0_0 : Nat) (ch_0_1 : Option Addr) (ch_0_2 : Nat) (ch_0_3 : Nat) (r : Int × Bool) (h0 : s x1 x2 x3 = some r) (mi : Mem) (w0 : World), okL mi [(.v (.pointer (some ⟨ch_0_0, 0, none⟩))), (.agg [.ints .u64 x2 4]), (.agg [.ints .u64 x3 4])] → Pre mi [Res.cells ch_0_0 72 [.one (.slice ch_0_1 ch_0_2 ch_0_3)], Res.row (Ty.int .u8) 5 ch_0_1 ch_0_2 ch_0_3 x1] w0 → Calls Try.prog 41 (([(.v (.pointer (some ⟨ch_0_0, 0, none⟩))), (.agg [.ints .u64 x2 4]), (.agg [.ints .u64 x3 4])] : List D).map D.val).toArray w0 (RetX mi [Res.cells ch_0_0 72 [.one (.slice ch_0_1 ch_0_2 ch_0_3)], Res.row (Ty.int .u8) 5 ch_0_1 ch_0_2 ch_0_3 x1] (fun (ch : Unit) => ((.tup [(false, [.one (.int .u64 r.1)]), (false, [.one (.bool r.2)])]) : D)) (fun (ch : Unit) => [Res.cells ch_0_0 72 [.one (.slice ch_0_1 ch_0_2 ch_0_3)], Res.row (Ty.int .u8) 5 ch_0_1 ch_0_2 ch_0_3 x1]) w0)
def mem_Memory_reach.j1 (x1 : (List Int)) (t1 : Int × Bool) (t2 : Int × Bool) (y1 : Bool) : Option (Int × Bool) := if y1 = true then (some (0, false)) else ((mem_Words.f (wr .u64 (t1.1 + t2.1))).bind fun t3 => (some (imax (wr .u64 (wr .i64 (Int.tdiv ((x1).length : Int) 32))) t3, true)))
def mem_Memory_reach.f (x1 : (List Int)) (x2 : List Int) (x3 : List Int) : Option (Int × Bool) := if (decide (x3 = [0, 0, 0, 0])) = true then (some (wr .u64 (wr .i64 (Int.tdiv ((x1).length : Int) 32)), true)) else ((word_Small.f x2).bind fun t1 => ((word_Small.f x3).bind fun t2 => (if (!t1.2) = true then (mem_Memory_reach.j1 x1 t1 t2 true) else (if (!t2.2) = true then (mem_Memory_reach.j1 x1 t1 t2 true) else (if (decide (4194304 < t1.1)) = true then (mem_Memory_reach.j1 x1 t1 t2 true) else (if (decide (4194304 < t2.1)) = true then (mem_Memory_reach.j1 x1 t1 t2 true) else (mem_Memory_reach.j1 x1 t1 t2 (decide (4194304 < (wr .u64 (t1.1 + t2.1)))))))))))
theorem mem_Memory_reach.ok : mem_Memory_reach.Ctr (mem_Memory_reach.f) := by
  intro x1 x2 x3 ch_0_0 ch_0_1 ch_0_2 ch_0_3 r h0 mi w0 ok hm
  delta mem_Memory_reach.f at h0
  refine c_enterX (n := 62) [(.v (.pointer (some ⟨ch_0_0, 0, none⟩))), (.agg [.ints .u64 x2 4]), (.agg [.ints .u64 x3 4])] (l := [(0, (.v (.pointer (some ⟨ch_0_0, 0, none⟩)))), (1, (.agg [.ints .u64 x2 4])), (2, (.agg [.ints .u64 x3 4]))]) Try.func41 rfl rfl rfl rfl ok hm ?_
  clear ok hm
  intro b0 hb a S
  refine c_region ?_
  refine s_box S rfl rfl rfl ?_; clear S a; intro g1 a w S
  refine s_box S rfl rfl rfl ?_; clear S a w; intro g2 a w S
  refine s_assign S rfl rfl ?_; clear S a; intro a S
  refine s_assign S rfl rfl ?_; clear S a; intro a S
  refine c_end ?_
  refine wp_seq ?_
  refine c_region ?_
  refine s_move S rfl rfl ?_; clear S a; intro a S
  refine s_eqp S (b := false) rfl rfl Try.underlying28 rfl rfl ?_; clear S a; intro a S
  refine c_end ?_
  refine c_condF S rfl rfl ?_
  refine wp_skip ?_
  refine x_thenN ?_
  refine c_region ?_
  refine s_move S rfl rfl ?_; clear S a; intro a S
  refine s_nilchk S rfl rfl ?_; clear S a; intro a S
  refine s_fieldAddr S rfl I72_0 T38 (by decide) rfl rfl ?_; clear S a; intro a S
  refine s_load1 S rfl (.there (.there .here)) T38 (v := (.slice ch_0_1 ch_0_2 ch_0_3)) rfl rfl ?_; clear S a; intro a S
  refine s_lenO S rfl (.there (.there (.there .here))) Try.underlying38 rfl ?_; clear S a; intro a S
  refine s_quo S rfl rfl (by decide) rfl ?_; clear S a; intro a S
  refine s_conv S rfl rfl Try.underlying22 rfl ?_; clear S a; intro a S
  refine s_assign S rfl rfl ?_; clear S a; intro a S
  refine c_end ?_
  refine wp_seq ?_
  refine c_region ?_
  refine s_loada S rfl .here T27 (s' := [.ints .u64 x3 4]) rfl rfl ?_; clear S a; intro a S
  refine s_build S (ds := []) (dv := (.agg [.ints .u64 [0, 0, 0, 0] 4])) rfl (fun _ => by kernel_rfl) ⟨rfl, trivial⟩ rfl ?_; clear S a; intro a S
  refine s_eqa S rfl rfl Try.underlying27 Try.underlying22 T22 Q27 rfl ?_; clear S a; intro a S
  refine c_end ?_
  rcases ite_of h0 with ⟨c1, h1⟩ | ⟨c1, h1⟩ <;> clear h0
  · refine c_condT S rfl c1 ?_
    refine c_region ?_
    refine s_move S rfl rfl ?_; clear S a; intro a S
    refine s_assign S rfl rfl ?_; clear S a; intro a S
    refine s_assign S rfl rfl ?_; clear S a; intro a S
    refine c_end ?_
    refine wp_ret ?_
    refine x_thenR ?_
    obtain rfl := Option.some.inj h1
    exact b_ret2 (d1 := (.v (.int .u64 (wr .u64 (wr .i64 (Int.tdiv ((x1).length : Int) 32)))))) (d2 := (.v (.bool true))) S rfl rfl rfl fun ok1 ok2 => S.retX (Hx := []) hb _ _ (() : Unit) (.cons (.there (.there .here)) (.cons (.there (.there .here)) .nil)) ⟨⟨ok1, trivial⟩, ⟨ok2, trivial⟩, trivial⟩
  · refine c_condF S rfl c1 ?_
    refine wp_skip ?_
    refine x_thenN ?_
    refine c_region ?_
    refine s_loada S rfl (.there .here) T27 (s' := [.ints .u64 x2 4]) rfl rfl ?_; clear S a; intro a S
    obtain ⟨t1, et1, h2⟩ := bind_of h1; clear h1
    refine s_callX S (ds' := [(.agg [.ints .u64 x2 4])]) (ds := [(.agg [.ints .u64 x2 4])]) [] [Res.cells g2 27 [.ints .u64 x3 4], Res.cells g1 27 [.ints .u64 x2 4], Res.cells ch_0_0 72 [.one (.slice ch_0_1 ch_0_2 ch_0_3)], Res.row (Ty.int .u8) 5 ch_0_1 ch_0_2 ch_0_3 x1] (fun (ch : Unit) => ((.tup [(false, [.one (.int .u64 t1.1)]), (false, [.one (.bool t1.2)])]) : D)) (fun (ch : Unit) => []) (fun (ch : Unit) => [Res.cells g2 27 [.ints .u64 x3 4], Res.cells g1 27 [.ints .u64 x2 4], Res.cells ch_0_0 72 [.one (.slice ch_0_1 ch_0_2 ch_0_3)], Res.row (Ty.int .u8) 5 ch_0_1 ch_0_2 ch_0_3 x1]) (fun _ => rfl) N50 rfl rfl (fun ok => ok) (.cons .here (.cons .here (.cons .here (.cons .here .nil)))) rfl (word_Small.ok x2 t1 et1 _ _) ?_; clear S a w; intro ch1 m le1 a w S
    refine s_move S rfl rfl ?_; clear S a; intro a S
    refine s_extract S rfl rfl rfl rfl ?_; clear S a; intro a S
    refine s_extract S rfl rfl rfl rfl ?_; clear S a; intro a S
    refine s_assign S rfl rfl ?_; clear S a; intro a S
    refine s_assign S rfl rfl ?_; clear S a; intro a S
    refine c_end ?_
    refine c_region ?_
    refine s_loada S rfl .here T27 (s' := [.ints .u64 x3 4]) rfl rfl ?_; clear S a; intro a S
    obtain ⟨t2, et2, h3⟩ := bind_of h2; clear h2
    refine s_callX S (ds' := [(.agg [.ints .u64 x3 4])]) (ds := [(.agg [.ints .u64 x3 4])]) [] [Res.cells g2 27 [.ints .u64 x3 4], Res.cells g1 27 [.ints .u64 x2 4], Res.cells ch_0_0 72 [.one (.slice ch_0_1 ch_0_2 ch_0_3)], Res.row (Ty.int .u8) 5 ch_0_1 ch_0_2 ch_0_3 x1] (fun (ch : Unit) => ((.tup [(false, [.one (.int .u64 t2.1)]), (false, [.one (.bool t2.2)])]) : D)) (fun (ch : Unit) => []) (fun (ch : Unit) => [Res.cells g2 27 [.ints .u64 x3 4], Res.cells g1 27 [.ints .u64 x2 4], Res.cells ch_0_0 72 [.one (.slice ch_0_1 ch_0_2 ch_0_3)], Res.row (Ty.int .u8) 5 ch_0_1 ch_0_2 ch_0_3 x1]) (fun _ => rfl) N50 rfl rfl (fun ok => ok) (.cons .here (.cons .here (.cons .here (.cons .here .nil)))) rfl (word_Small.ok x3 t2 et2 _ _) ?_; clear S a w; intro ch2 m le1 a w S
    refine s_move S rfl rfl ?_; clear S a; intro a S
    refine s_extract S rfl rfl rfl rfl ?_; clear S a; intro a S
    refine s_extract S rfl rfl rfl rfl ?_; clear S a; intro a S
    refine s_assign S rfl rfl ?_; clear S a; intro a S
    refine s_assign S rfl rfl ?_; clear S a; intro a S
    refine c_end ?_
    refine wp_seq ?_
    refine wp_seq_k ?_
    intro K1 hK1
    have j1 : ∀ (m : Mem) (y1 : Bool) (a : Act) (w : World), St 62 m b0 [(55, (.v (.bool y1))), (11, (.v (.int .u64 t2.1))), (9, (.v (.int .u64 t1.1))), (8, (.v (.int .u64 (wr .u64 (wr .i64 (Int.tdiv ((x1).length : Int) 32))))))] [Res.cells ch_0_0 72 [.one (.slice ch_0_1 ch_0_2 ch_0_3)], Res.row (Ty.int .u8) 5 ch_0_1 ch_0_2 ch_0_3 x1] a w → mem_Memory_reach.j1 x1 t1 t2 y1 = some r → K1 a w := by
      intro m y1 a w S h0
      delta mem_Memory_reach.j1 at h0
      refine hK1 a w ?_
      rcases ite_of h0 with ⟨c2, h1⟩ | ⟨c2, h1⟩ <;> clear h0
      · refine c_condT S rfl c2 ?_
        refine c_region ?_
        refine s_assign S rfl rfl ?_; clear S a; intro a S
        refine s_assign S rfl rfl ?_; clear S a; intro a S
        refine c_end ?_
        refine wp_ret ?_
        refine x_thenR ?_
        obtain rfl := Option.some.inj h1
        exact b_ret2 (d1 := (.v (.int .u64 0))) (d2 := (.v (.bool false))) S rfl rfl rfl fun ok1 ok2 => S.retX (Hx := []) hb _ _ (() : Unit) (.cons .here (.cons .here .nil)) ⟨⟨ok1, trivial⟩, ⟨ok2, trivial⟩, trivial⟩
      · refine c_condF S rfl c2 ?_
        refine wp_skip ?_
        refine x_thenN ?_
        refine c_region ?_
        refine s_move S rfl rfl ?_; clear S a; intro a S
        refine s_move S rfl rfl ?_; clear S a; intro a S
        refine s_move S rfl rfl ?_; clear S a; intro a S
        refine s_bin S rfl rfl rfl rfl ?_; clear S a; intro a S
        obtain ⟨t3, et3, h2⟩ := bind_of h1; clear h1
        refine s_callX S (ds' := [(.v (.int .u64 (wr .u64 (t1.1 + t2.1))))]) (ds := [(.v (.int .u64 (wr .u64 (t1.1 + t2.1))))]) [] [Res.cells ch_0_0 72 [.one (.slice ch_0_1 ch_0_2 ch_0_3)], Res.row (Ty.int .u8) 5 ch_0_1 ch_0_2 ch_0_3 x1] (fun (ch : Unit) => ((.v (.int .u64 t3)) : D)) (fun (ch : Unit) => []) (fun (ch : Unit) => [Res.cells ch_0_0 72 [.one (.slice ch_0_1 ch_0_2 ch_0_3)], Res.row (Ty.int .u8) 5 ch_0_1 ch_0_2 ch_0_3 x1]) (fun _ => rfl) N10 rfl rfl (fun ok => ok) (.cons .here (.cons .here .nil)) rfl (mem_Words.ok (wr .u64 (t1.1 + t2.1)) t3 et3 _ _) ?_; clear S a w; intro ch3 m le1 a w S
        refine s_max2 S rfl rfl rfl ?_; clear S a; intro a S
        refine s_assign S rfl rfl ?_; clear S a; intro a S
        refine s_assign S rfl rfl ?_; clear S a; intro a S
        refine c_end ?_
        refine wp_ret ?_
        obtain rfl := Option.some.inj h2
        exact b_ret2 (d1 := (.v (.int .u64 (imax (wr .u64 (wr .i64 (Int.tdiv ((x1).length : Int) 32))) t3)))) (d2 := (.v (.bool true))) S rfl rfl rfl fun ok1 ok2 => S.retX (Hx := []) hb _ _ (() : Unit) (.cons .here (.cons .here .nil)) ⟨⟨ok1, trivial⟩, ⟨ok2, trivial⟩, trivial⟩
    refine c_region' ?_
    refine s_move S rfl rfl ?_; clear S a; intro a S
    refine s_not S rfl rfl ?_; clear S a; intro a S
    refine s_move S rfl rfl ?_; clear S a; intro a S
    rcases ite_of h3 with ⟨c3, h4⟩ | ⟨c3, h4⟩ <;> clear h3
    · refine s_gF S (b := (!t1.2)) rfl rfl c3 rfl ?_; clear S a; intro a S
      refine s_gF S (b := (!t1.2)) rfl rfl c3 rfl ?_; clear S a; intro a S
      refine s_pick S (b := true) (hc_of rfl c3) rfl rfl ?_; clear S a; intro a S
      refine s_move S rfl rfl ?_; clear S a; intro a S
      refine s_gF S (b := true) rfl rfl rfl rfl ?_; clear S a; intro a S
      refine s_gF S (b := true) rfl rfl rfl rfl ?_; clear S a; intro a S
      refine s_pick S (b := true) (hc_of rfl rfl) rfl rfl ?_; clear S a; intro a S
      refine s_move S rfl rfl ?_; clear S a; intro a S
      refine s_gF S (b := true) rfl rfl rfl rfl ?_; clear S a; intro a S
      refine s_gF S (b := true) rfl rfl rfl rfl ?_; clear S a; intro a S
      refine s_pick S (b := true) (hc_of rfl rfl) rfl rfl ?_; clear S a; intro a S
      refine s_move S rfl rfl ?_; clear S a; intro a S
      refine s_gF S (b := true) rfl rfl rfl rfl ?_; clear S a; intro a S
      refine s_gF S (b := true) rfl rfl rfl rfl ?_; clear S a; intro a S
      refine s_gF S (b := true) rfl rfl rfl rfl ?_; clear S a; intro a S
      refine s_gF S (b := true) rfl rfl rfl rfl ?_; clear S a; intro a S
      refine s_pick S (b := true) (hc_of rfl rfl) rfl rfl ?_; clear S a; intro a S
      refine c_end' ?_
      refine x_thenN ?_
      exact j1 _ true a w (S.sub ⟨rfl, rfl, rfl, rfl, trivial⟩ (.cons (.there (.there .here)) (.cons (.there (.there .here)) .nil))) h4
    · refine s_gT S (b := (!t1.2)) rfl rfl c3 ?_
      refine s_move S rfl rfl ?_; clear S a; intro a S
      refine s_gT S (b := (!t1.2)) rfl rfl c3 ?_
      refine s_not S rfl rfl ?_; clear S a; intro a S
      refine s_pick S (b := false) (hc_of rfl c3) rfl rfl ?_; clear S a; intro a S
      refine s_move S rfl rfl ?_; clear S a; intro a S
      rcases ite_of h4 with ⟨c4, h5⟩ | ⟨c4, h5⟩ <;> clear h4
      · refine s_gF S (b := (!t2.2)) rfl rfl c4 rfl ?_; clear S a; intro a S
        refine s_gF S (b := (!t2.2)) rfl rfl c4 rfl ?_; clear S a; intro a S
        refine s_pick S (b := true) (hc_of rfl c4) rfl rfl ?_; clear S a; intro a S
        refine s_move S rfl rfl ?_; clear S a; intro a S
        refine s_gF S (b := true) rfl rfl rfl rfl ?_; clear S a; intro a S
        refine s_gF S (b := true) rfl rfl rfl rfl ?_; clear S a; intro a S
        refine s_pick S (b := true) (hc_of rfl rfl) rfl rfl ?_; clear S a; intro a S
        refine s_move S rfl rfl ?_; clear S a; intro a S
        refine s_gF S (b := true) rfl rfl rfl rfl ?_; clear S a; intro a S
        refine s_gF S (b := true) rfl rfl rfl rfl ?_; clear S a; intro a S
        refine s_gF S (b := true) rfl rfl rfl rfl ?_; clear S a; intro a S
        refine s_gF S (b := true) rfl rfl rfl rfl ?_; clear S a; intro a S
        refine s_pick S (b := true) (hc_of rfl rfl) rfl rfl ?_; clear S a; intro a S
        refine c_end' ?_
        refine x_thenN ?_
        exact j1 _ true a w (S.sub ⟨rfl, rfl, rfl, rfl, trivial⟩ (.cons (.there (.there .here)) (.cons (.there (.there .here)) .nil))) h5
      · refine s_gT S (b := (!t2.2)) rfl rfl c4 ?_
        refine s_move S rfl rfl ?_; clear S a; intro a S
        refine s_gT S (b := (!t2.2)) rfl rfl c4 ?_
        refine s_bin S rfl rfl rfl rfl ?_; clear S a; intro a S
        refine s_pick S (b := false) (hc_of rfl c4) rfl rfl ?_; clear S a; intro a S
        refine s_move S rfl rfl ?_; clear S a; intro a S
        rcases ite_of h5 with ⟨c5, h6⟩ | ⟨c5, h6⟩ <;> clear h5
        · refine s_gF S (b := (decide (4194304 < t1.1))) rfl rfl c5 rfl ?_; clear S a; intro a S
          refine s_gF S (b := (decide (4194304 < t1.1))) rfl rfl c5 rfl ?_; clear S a; intro a S
          refine s_pick S (b := true) (hc_of rfl c5) rfl rfl ?_; clear S a; intro a S
          refine s_move S rfl rfl ?_; clear S a; intro a S
          refine s_gF S (b := true) rfl rfl rfl rfl ?_; clear S a; intro a S
          refine s_gF S (b := true) rfl rfl rfl rfl ?_; clear S a; intro a S
          refine s_gF S (b := true) rfl rfl rfl rfl ?_; clear S a; intro a S
          refine s_gF S (b := true) rfl rfl rfl rfl ?_; clear S a; intro a S
          refine s_pick S (b := true) (hc_of rfl rfl) rfl rfl ?_; clear S a; intro a S
          refine c_end' ?_
          refine x_thenN ?_
          exact j1 _ true a w (S.sub ⟨rfl, rfl, rfl, rfl, trivial⟩ (.cons (.there (.there .here)) (.cons (.there (.there .here)) .nil))) h6
        · refine s_gT S (b := (decide (4194304 < t1.1))) rfl rfl c5 ?_
          refine s_move S rfl rfl ?_; clear S a; intro a S
          refine s_gT S (b := (decide (4194304 < t1.1))) rfl rfl c5 ?_
          refine s_bin S rfl rfl rfl rfl ?_; clear S a; intro a S
          refine s_pick S (b := false) (hc_of rfl c5) rfl rfl ?_; clear S a; intro a S
          refine s_move S rfl rfl ?_; clear S a; intro a S
          rcases ite_of h6 with ⟨c6, h7⟩ | ⟨c6, h7⟩ <;> clear h6
          · refine s_gF S (b := (decide (4194304 < t2.1))) rfl rfl c6 rfl ?_; clear S a; intro a S
            refine s_gF S (b := (decide (4194304 < t2.1))) rfl rfl c6 rfl ?_; clear S a; intro a S
            refine s_gF S (b := (decide (4194304 < t2.1))) rfl rfl c6 rfl ?_; clear S a; intro a S
            refine s_gF S (b := (decide (4194304 < t2.1))) rfl rfl c6 rfl ?_; clear S a; intro a S
            refine s_pick S (b := true) (hc_of rfl c6) rfl rfl ?_; clear S a; intro a S
            refine c_end' ?_
            refine x_thenN ?_
            exact j1 _ true a w (S.sub ⟨rfl, rfl, rfl, rfl, trivial⟩ (.cons (.there (.there .here)) (.cons (.there (.there .here)) .nil))) h7
          · refine s_gT S (b := (decide (4194304 < t2.1))) rfl rfl c6 ?_
            refine s_move S rfl rfl ?_; clear S a; intro a S
            refine s_gT S (b := (decide (4194304 < t2.1))) rfl rfl c6 ?_
            refine s_move S rfl rfl ?_; clear S a; intro a S
            refine s_gT S (b := (decide (4194304 < t2.1))) rfl rfl c6 ?_
            refine s_bin S rfl rfl rfl rfl ?_; clear S a; intro a S
            refine s_gT S (b := (decide (4194304 < t2.1))) rfl rfl c6 ?_
            refine s_bin S rfl rfl rfl rfl ?_; clear S a; intro a S
            refine s_pick S (b := false) (hc_of rfl c6) rfl rfl ?_; clear S a; intro a S
            refine c_end' ?_
            refine x_thenN ?_
            exact j1 _ (decide (4194304 < (wr .u64 (t1.1 + t2.1)))) a w (S.sub ⟨rfl, rfl, rfl, rfl, trivial⟩ (.cons (.there (.there .here)) (.cons (.there (.there .here)) .nil))) h7
/-! math/bits.Mul64 -/
abbrev bits_Mul64.Ty : Type := Int → Int → Option (Int × Int)
def bits_Mul64.Ctr (s : bits_Mul64.Ty) : Prop := ∀ (x1 : Int) (x2 : Int) (r : Int × Int) (h0 : s x1 x2 = some r) (mi : Mem) (w0 : World), okL mi [(.v (.int .u64 x1)), (.v (.int .u64 x2))] → Pre mi [] w0 → Calls Try.prog 40 (([(.v (.int .u64 x1)), (.v (.int .u64 x2))] : List D).map D.val).toArray w0 (RetX mi [] (fun (ch : Unit) => ((.tup [(false, [.one (.int .u64 r.1)]), (false, [.one (.int .u64 r.2)])]) : D)) (fun (ch : Unit) => []) w0)
def bits_Mul64.f (x1 : Int) (x2 : Int) : Option (Int × Int) := some (wr .u64 ((wr .u64 ((wr .u64 ((shr x1 32) * (shr x2 32))) + (shr (wr .u64 ((wr .u64 ((shr x1 32) * (bits .and .u64 x2 4294967295))) + (shr (wr .u64 ((bits .and .u64 x1 4294967295) * (bits .and .u64 x2 4294967295))) 32))) 32))) + (shr (wr .u64 ((bits .and .u64 (wr .u64 ((wr .u64 ((shr x1 32) * (bits .and .u64 x2 4294967295))) + (shr (wr .u64 ((bits .and .u64 x1 4294967295) * (bits .and .u64 x2 4294967295))) 32))) 4294967295) + (wr .u64 ((bits .and .u64 x1 4294967295) * (shr x2 32))))) 32)), wr .u64 (x1 * x2))
theorem bits_Mul64.ok : bits_Mul64.Ctr (bits_Mul64.f) := by
  intro x1 x2 r h0 mi w0 ok hm
  delta bits_Mul64.f at h0
  refine c_enterX (n := 51) [(.v (.int .u64 x1)), (.v (.int .u64 x2))] (l := [(0, (.v (.int .u64 x1))), (1, (.v (.int .u64 x2)))]) Try.func40 rfl rfl rfl rfl ok hm ?_
  clear ok hm
  intro b0 hb a S
  refine c_region ?_
  refine s_assign S rfl rfl ?_; clear S a; intro a S
  refine s_assign S rfl rfl ?_; clear S a; intro a S
  refine c_end ?_
  refine c_region ?_
  refine s_move S rfl rfl ?_; clear S a; intro a S
  refine s_bin S rfl rfl rfl rfl ?_; clear S a; intro a S
  refine s_assign S rfl rfl ?_; clear S a; intro a S
  refine c_end ?_
  refine c_region ?_
  refine s_move S rfl rfl ?_; clear S a; intro a S
  refine s_shr S (e := 32) rfl rfl (by decide) rfl rfl ?_; clear S a; intro a S
  refine s_assign S rfl rfl ?_; clear S a; intro a S
  refine c_end ?_
  refine c_region ?_
  refine s_move S rfl rfl ?_; clear S a; intro a S
  refine s_bin S rfl rfl rfl rfl ?_; clear S a; intro a S
  refine s_assign S rfl rfl ?_; clear S a; intro a S
  refine c_end ?_
  refine c_region ?_
  refine s_move S rfl rfl ?_; clear S a; intro a S
  refine s_shr S (e := 32) rfl rfl (by decide) rfl rfl ?_; clear S a; intro a S
  refine s_assign S rfl rfl ?_; clear S a; intro a S
  refine c_end ?_
  refine c_region ?_
  refine s_move S rfl rfl ?_; clear S a; intro a S
  refine s_move S rfl rfl ?_; clear S a; intro a S
  refine s_bin S rfl rfl rfl rfl ?_; clear S a; intro a S
  refine s_assign S rfl rfl ?_; clear S a; intro a S
  refine c_end ?_
  refine c_region ?_
  refine s_move S rfl rfl ?_; clear S a; intro a S
  refine s_move S rfl rfl ?_; clear S a; intro a S
  refine s_bin S rfl rfl rfl rfl ?_; clear S a; intro a S
  refine s_move S rfl rfl ?_; clear S a; intro a S
  refine s_shr S (e := 32) rfl rfl (by decide) rfl rfl ?_; clear S a; intro a S
  refine s_bin S rfl rfl rfl rfl ?_; clear S a; intro a S
  refine s_assign S rfl rfl ?_; clear S a; intro a S
  refine c_end ?_
  refine c_region ?_
  refine s_move S rfl rfl ?_; clear S a; intro a S
  refine s_bin S rfl rfl rfl rfl ?_; clear S a; intro a S
  refine s_assign S rfl rfl ?_; clear S a; intro a S
  refine c_end ?_
  refine c_region ?_
  refine s_move S rfl rfl ?_; clear S a; intro a S
  refine s_shr S (e := 32) rfl rfl (by decide) rfl rfl ?_; clear S a; intro a S
  refine s_assign S rfl rfl ?_; clear S a; intro a S
  refine c_end ?_
  refine c_region ?_
  refine s_move S rfl rfl ?_; clear S a; intro a S
  refine s_move S rfl rfl ?_; clear S a; intro a S
  refine s_move S rfl rfl ?_; clear S a; intro a S
  refine s_bin S rfl rfl rfl rfl ?_; clear S a; intro a S
  refine s_bin S rfl rfl rfl rfl ?_; clear S a; intro a S
  refine s_assign S rfl rfl ?_; clear S a; intro a S
  refine c_end ?_
  refine c_region ?_
  refine s_move S rfl rfl ?_; clear S a; intro a S
  refine s_move S rfl rfl ?_; clear S a; intro a S
  refine s_bin S rfl rfl rfl rfl ?_; clear S a; intro a S
  refine s_move S rfl rfl ?_; clear S a; intro a S
  refine s_bin S rfl rfl rfl rfl ?_; clear S a; intro a S
  refine s_move S rfl rfl ?_; clear S a; intro a S
  refine s_shr S (e := 32) rfl rfl (by decide) rfl rfl ?_; clear S a; intro a S
  refine s_bin S rfl rfl rfl rfl ?_; clear S a; intro a S
  refine s_assign S rfl rfl ?_; clear S a; intro a S
  refine c_end ?_
  refine c_region ?_
  refine s_move S rfl rfl ?_; clear S a; intro a S
  refine s_move S rfl rfl ?_; clear S a; intro a S
  refine s_bin S rfl rfl rfl rfl ?_; clear S a; intro a S
  refine s_assign S rfl rfl ?_; clear S a; intro a S
  refine c_end ?_
  refine wp_ret ?_
  obtain rfl := Option.some.inj h0
  exact b_ret2 (d1 := (.v (.int .u64 (wr .u64 ((wr .u64 ((wr .u64 ((shr x1 32) * (shr x2 32))) + (shr (wr .u64 ((wr .u64 ((shr x1 32) * (bits .and .u64 x2 4294967295))) + (shr (wr .u64 ((bits .and .u64 x1 4294967295) * (bits .and .u64 x2 4294967295))) 32))) 32))) + (shr (wr .u64 ((bits .and .u64 (wr .u64 ((wr .u64 ((shr x1 32) * (bits .and .u64 x2 4294967295))) + (shr (wr .u64 ((bits .and .u64 x1 4294967295) * (bits .and .u64 x2 4294967295))) 32))) 4294967295) + (wr .u64 ((bits .and .u64 x1 4294967295) * (shr x2 32))))) 32)))))) (d2 := (.v (.int .u64 (wr .u64 (x1 * x2))))) S rfl rfl rfl fun ok1 ok2 => S.retX (Hx := []) hb _ _ (() : Unit) .nil ⟨⟨ok1, trivial⟩, ⟨ok2, trivial⟩, trivial⟩
/-! smithy/mem.Price -/
abbrev mem_Price.Ty : Type := Int → Option Int
def mem_Price.Ctr (s : mem_Price.Ty) : Prop := ∀ (x1 : Int) (r : Int) (h0 : s x1 = some r) (mi : Mem) (w0 : World), okL mi [(.v (.int .u64 x1))] → Pre mi [] w0 → Calls Try.prog 13 (([(.v (.int .u64 x1))] : List D).map D.val).toArray w0 (RetX mi [] (fun (ch : Unit) => ((.v (.int .u64 r)) : D)) (fun (ch : Unit) => []) w0)
def mem_Price.f (x1 : Int) : Option Int := if (decide (4294967296 < x1)) = true then (some 18446744073709551615) else ((bits_Mul64.f x1 x1).bind fun t1 => (some (wr .u64 ((wr .u64 (3 * x1)) + (bits .or .u64 (shl .u64 t1.1 55) (shr t1.2 9))))))
theorem mem_Price.ok : mem_Price.Ctr (mem_Price.f) := by
  intro x1 r h0 mi w0 ok hm
  delta mem_Price.f at h0
  refine c_enterX (n := 21) [(.v (.int .u64 x1))] (l := [(0, (.v (.int .u64 x1)))]) Try.func13 rfl rfl rfl rfl ok hm ?_
  clear ok hm
  intro b0 hb a S
  refine c_region ?_
  refine s_assign S rfl rfl ?_; clear S a; intro a S
  refine c_end ?_
  refine wp_seq ?_
  refine c_region ?_
  refine s_move S rfl rfl ?_; clear S a; intro a S
  refine s_bin S rfl rfl rfl rfl ?_; clear S a; intro a S
  refine c_end ?_
  rcases ite_of h0 with ⟨c1, h1⟩ | ⟨c1, h1⟩ <;> clear h0
  · refine c_condT S rfl c1 ?_
    refine c_region ?_
    refine s_assign S rfl rfl ?_; clear S a; intro a S
    refine c_end ?_
    refine wp_ret ?_
    refine x_thenR ?_
    obtain rfl := Option.some.inj h1
    exact b_ret1 (d := (.v (.int .u64 18446744073709551615))) S rfl rfl fun ok => S.retX (Hx := []) hb _ _ (() : Unit) .nil ok
  · refine c_condF S rfl c1 ?_
    refine wp_skip ?_
    refine x_thenN ?_
    refine c_region ?_
    refine s_move S rfl rfl ?_; clear S a; intro a S
    refine s_move S rfl rfl ?_; clear S a; intro a S
    obtain ⟨t1, et1, h2⟩ := bind_of h1; clear h1
    refine s_callX S (ds' := [(.v (.int .u64 x1)), (.v (.int .u64 x1))]) (ds := [(.v (.int .u64 x1)), (.v (.int .u64 x1))]) [] [] (fun (ch : Unit) => ((.tup [(false, [.one (.int .u64 t1.1)]), (false, [.one (.int .u64 t1.2)])]) : D)) (fun (ch : Unit) => []) (fun (ch : Unit) => []) (fun _ => rfl) N40 rfl rfl (fun ok => ok) .nil rfl (bits_Mul64.ok x1 x1 t1 et1 _ _) ?_; clear S a; intro ch1 m le1 a w S
    refine s_move S rfl rfl ?_; clear S a; intro a S
    refine s_extract S rfl rfl rfl rfl ?_; clear S a; intro a S
    refine s_extract S rfl rfl rfl rfl ?_; clear S a; intro a S
    refine s_assign S rfl rfl ?_; clear S a; intro a S
    refine s_assign S rfl rfl ?_; clear S a; intro a S
    refine c_end ?_
    refine c_region ?_
    refine s_move S rfl rfl ?_; clear S a; intro a S
    refine s_bin S rfl rfl rfl rfl ?_; clear S a; intro a S
    refine s_move S rfl rfl ?_; clear S a; intro a S
    refine s_shl S (e := 55) rfl rfl (by decide) rfl rfl ?_; clear S a; intro a S
    refine s_move S rfl rfl ?_; clear S a; intro a S
    refine s_shr S (e := 9) rfl rfl (by decide) rfl rfl ?_; clear S a; intro a S
    refine s_bin S rfl rfl rfl rfl ?_; clear S a; intro a S
    refine s_bin S rfl rfl rfl rfl ?_; clear S a; intro a S
    refine s_assign S rfl rfl ?_; clear S a; intro a S
    refine c_end ?_
    refine wp_ret ?_
    obtain rfl := Option.some.inj h2
    exact b_ret1 (d := (.v (.int .u64 (wr .u64 ((wr .u64 (3 * x1)) + (bits .or .u64 (shl .u64 t1.1 55) (shr t1.2 9))))))) S rfl rfl fun ok => S.retX (Hx := []) hb _ _ (() : Unit) .nil ok
/-! (*smithy/mem.Memory).Cost -/
abbrev mem_Memory_Cost.Ty : Type := ((List Int)) → (List Int) → (List Int) → Option (Int × Bool)
def mem_Memory_Cost.Ctr (s : mem_Memory_Cost.Ty) : Prop := ∀ (x1 : (List Int)) (x2 : List Int) (x3 : List Int) (ch_0_0 : Nat) (ch_0_1 : Option Addr) (ch_0_2 : Nat) (ch_0_3 : Nat) (r : Int × Bool) (h0 : s x1 x2 x3 = some r) (mi : Mem) (w0 : World), okL mi [(.v (.pointer (some ⟨ch_0_0, 0, none⟩))), (.agg [.ints .u64 x2 4]), (.agg [.ints .u64 x3 4])] → Pre mi [Res.cells ch_0_0 72 [.one (.slice ch_0_1 ch_0_2 ch_0_3)], Res.row (Ty.int .u8) 5 ch_0_1 ch_0_2 ch_0_3 x1] w0 → Calls Try.prog 18 (([(.v (.pointer (some ⟨ch_0_0, 0, none⟩))), (.agg [.ints .u64 x2 4]), (.agg [.ints .u64 x3 4])] : List D).map D.val).toArray w0 (RetX mi [Res.cells ch_0_0 72 [.one (.slice ch_0_1 ch_0_2 ch_0_3)], Res.row (Ty.int .u8) 5 ch_0_1 ch_0_2 ch_0_3 x1] (fun (ch : Unit) => ((.tup [(false, [.one (.int .u64 r.1)]), (false, [.one (.bool r.2)])]) : D)) (fun (ch : Unit) => [Res.cells ch_0_0 72 [.one (.slice ch_0_1 ch_0_2 ch_0_3)], Res.row (Ty.int .u8) 5 ch_0_1 ch_0_2 ch_0_3 x1]) w0)
def mem_Memory_Cost.f (x1 : (List Int)) (x2 : List Int) (x3 : List Int) : Option (Int × Bool) := (mem_Memory_reach.f (x1) x2 x3).bind fun t1 => (if (!t1.2) = true then (some (0, false)) else ((mem_Price.f t1.1).bind fun t2 => ((mem_Price.f (wr .u64 (wr .i64 (Int.tdiv ((x1).length : Int) 32)))).bind fun t3 => (some (wr .u64 (t2 - t3), true)))))
theorem mem_Memory_Cost.ok : mem_Memory_Cost.Ctr (mem_Memory_Cost.f) := by
  intro x1 x2 x3 ch_0_0 ch_0_1 ch_0_2 ch_0_3 r h0 mi w0 ok hm
  delta mem_Memory_Cost.f at h0
  refine c_enterX (n := 30) [(.v (.pointer (some ⟨ch_0_0, 0, none⟩))), (.agg [.ints .u64 x2 4]), (.agg [.ints .u64 x3 4])] (l := [(0, (.v (.pointer (some ⟨ch_0_0, 0, none⟩)))), (1, (.agg [.ints .u64 x2 4])), (2, (.agg [.ints .u64 x3 4]))]) Try.func18 rfl rfl rfl rfl ok hm ?_
  clear ok hm
  intro b0 hb a S
  refine c_region ?_
  refine s_box S rfl rfl rfl ?_; clear S a; intro g1 a w S
  refine s_box S rfl rfl rfl ?_; clear S a w; intro g2 a w S
  refine s_assign S rfl rfl ?_; clear S a; intro a S
  refine s_assign S rfl rfl ?_; clear S a; intro a S
  refine c_end ?_
  refine c_region ?_
  refine s_move S rfl rfl ?_; clear S a; intro a S
  refine s_loada S rfl (.there .here) T27 (s' := [.ints .u64 x2 4]) rfl rfl ?_; clear S a; intro a S
  refine s_loada S rfl .here T27 (s' := [.ints .u64 x3 4]) rfl rfl ?_; clear S a; intro a S
  obtain ⟨t1, et1, h1⟩ := bind_of h0; clear h0
  refine s_callX S (ds' := [(.v (.pointer (some ⟨ch_0_0, 0, none⟩))), (.agg [.ints .u64 x2 4]), (.agg [.ints .u64 x3 4])]) (ds := [(.v (.pointer (some ⟨ch_0_0, 0, none⟩))), (.agg [.ints .u64 x2 4]), (.agg [.ints .u64 x3 4])]) [Res.cells ch_0_0 72 [.one (.slice ch_0_1 ch_0_2 ch_0_3)], Res.row (Ty.int .u8) 5 ch_0_1 ch_0_2 ch_0_3 x1] [Res.cells g2 27 [.ints .u64 x3 4], Res.cells g1 27 [.ints .u64 x2 4]] (fun (ch : Unit) => ((.tup [(false, [.one (.int .u64 t1.1)]), (false, [.one (.bool t1.2)])]) : D)) (fun (ch : Unit) => [Res.cells ch_0_0 72 [.one (.slice ch_0_1 ch_0_2 ch_0_3)], Res.row (Ty.int .u8) 5 ch_0_1 ch_0_2 ch_0_3 x1]) (fun (ch : Unit) => [Res.cells ch_0_0 72 [.one (.slice ch_0_1 ch_0_2 ch_0_3)], Res.row (Ty.int .u8) 5 ch_0_1 ch_0_2 ch_0_3 x1, Res.cells g2 27 [.ints .u64 x3 4], Res.cells g1 27 [.ints .u64 x2 4]]) (fun _ => rfl) N41 rfl rfl (fun ok => ok) (.cons (.there (.there .here)) (.cons (.there (.there .here)) (.cons .here (.cons .here .nil)))) rfl (mem_Memory_reach.ok (x1) x2 x3 ch_0_0 ch_0_1 ch_0_2 ch_0_3 t1 et1 _ _) ?_; clear S a w; intro ch1 m le1 a w S
  refine s_move S rfl rfl ?_; clear S a; intro a S
  refine s_extract S rfl rfl rfl rfl ?_; clear S a; intro a S
  refine s_extract S rfl rfl rfl rfl ?_; clear S a; intro a S
  refine s_assign S rfl rfl ?_; clear S a; intro a S
  refine s_assign S rfl rfl ?_; clear S a; intro a S
  refine c_end ?_
  refine wp_seq ?_
  refine c_region ?_
  refine s_move S rfl rfl ?_; clear S a; intro a S
  refine s_not S rfl rfl ?_; clear S a; intro a S
  refine c_end ?_
  rcases ite_of h1 with ⟨c1, h2⟩ | ⟨c1, h2⟩ <;> clear h1
  · refine c_condT S rfl c1 ?_
    refine c_region ?_
    refine s_assign S rfl rfl ?_; clear S a; intro a S
    refine s_assign S rfl rfl ?_; clear S a; intro a S
    refine c_end ?_
    refine wp_ret ?_
    refine x_thenR ?_
    obtain rfl := Option.some.inj h2
    exact b_ret2 (d1 := (.v (.int .u64 0))) (d2 := (.v (.bool false))) S rfl rfl rfl fun ok1 ok2 => S.retX (Hx := []) hb _ _ (() : Unit) (.cons .here (.cons .here .nil)) ⟨⟨ok1, trivial⟩, ⟨ok2, trivial⟩, trivial⟩
  · refine c_condF S rfl c1 ?_
    refine wp_skip ?_
    refine x_thenN ?_
    refine wp_seq (c_heldS S (.take 0 (.take 2 (.take 3 (.take 4 (.take 5 (.take 6 (.take 7 (.take 8 (.alts (.run 1 true (.alts (.run 9 true (.take 10 (.take 11 (.take 12 .done))) .nil)) .nil)))))))))) 13 [Res.cells ch_0_0 72 [.one (.slice ch_0_1 ch_0_2 ch_0_3)], Res.row (Ty.int .u8) 5 ch_0_1 ch_0_2 ch_0_3 x1, Res.cells g2 27 [.ints .u64 x3 4], Res.cells g1 27 [.ints .u64 x2 4]] (.cons .here (.cons .here (.cons .here (.cons .here .nil)))) ⟨Res.stay_cells, Res.stay_row flat_int, Res.stay_cells, Res.stay_cells, trivial⟩ [(8, (.v (.int .u64 t1.1))), (0, (.v (.pointer (some ⟨ch_0_0, 0, none⟩))))] ⟨rfl, rfl, trivial⟩ (by kernel_rfl) (by kernel_rfl) ?_); clear S; intro w S CL hw le
    refine h_move S CL hw le ⟨rfl, rfl, trivial⟩ rfl rfl rfl trivial ?_; clear S CL a; intro a S CL
    refine h_move S CL hw le ⟨rfl, rfl, rfl, trivial⟩ rfl rfl rfl trivial ?_; clear S CL a; intro a S CL
    refine h_nilchk S CL hw le ⟨rfl, rfl, rfl, rfl, trivial⟩ rfl rfl rfl rfl trivial ?_; clear S CL a; intro a S CL
    refine h_fieldAddr S CL hw le ⟨rfl, rfl, rfl, rfl, rfl, trivial⟩ rfl I72_0 T38 (by decide) rfl rfl rfl trivial ?_; clear S CL a; intro a S CL
    refine h_load1 S CL hw le ⟨rfl, rfl, rfl, rfl, rfl, rfl, trivial⟩ rfl .here T38 (v := (.slice ch_0_1 ch_0_2 ch_0_3)) rfl rfl rfl trivial ?_; clear S CL a; intro a S CL
    refine h_lenO S CL hw le ⟨rfl, rfl, rfl, rfl, rfl, rfl, rfl, trivial⟩ rfl (.there .here) Try.underlying38 rfl rfl trivial ?_; clear S CL a; intro a S CL
    refine h_quo S CL hw le ⟨rfl, rfl, rfl, rfl, rfl, rfl, rfl, rfl, trivial⟩ rfl rfl (by decide) rfl rfl trivial ?_; clear S CL a; intro a S CL
    refine h_conv S CL hw le ⟨rfl, rfl, rfl, rfl, rfl, rfl, rfl, rfl, rfl, trivial⟩ rfl rfl Try.underlying22 rfl rfl trivial ?_; clear S CL a; intro a S CL
    refine h_run' S rfl trivial ?_
    obtain ⟨t2, et2, h3⟩ := bind_of h2; clear h2
    refine s_callX S (ds' := [(.v (.int .u64 t1.1))]) (ds := [(.v (.int .u64 t1.1))]) [] [Res.cells ch_0_0 72 [.one (.slice ch_0_1 ch_0_2 ch_0_3)], Res.row (Ty.int .u8) 5 ch_0_1 ch_0_2 ch_0_3 x1, Res.cells g2 27 [.ints .u64 x3 4], Res.cells g1 27 [.ints .u64 x2 4]] (fun (ch : Unit) => ((.v (.int .u64 t2)) : D)) (fun (ch : Unit) => []) (fun (ch : Unit) => [Res.cells ch_0_0 72 [.one (.slice ch_0_1 ch_0_2 ch_0_3)], Res.row (Ty.int .u8) 5 ch_0_1 ch_0_2 ch_0_3 x1, Res.cells g2 27 [.ints .u64 x3 4], Res.cells g1 27 [.ints .u64 x2 4]]) (fun _ => rfl) N13 rfl rfl (fun ok => ok) (.cons .here (.cons .here (.cons .here (.cons .here .nil)))) rfl (mem_Price.ok t1.1 t2 et2 _ _) ?_; clear S a; intro ch2 m le1 a w S
    replace le := le.trans le1
    replace hw := CL.again hw S (.cons .here (.cons .here (.cons .here (.cons .here .nil)))) le
    refine h_back ⟨fun _ => hw, ?_⟩
    replace CL := CL.add (t := 20) (d := (.v (.int .u64 t2))) S rfl rfl
    refine h_run' S rfl trivial ?_
    obtain ⟨t3, et3, h4⟩ := bind_of h3; clear h3
    refine s_callX S (ds' := [(.v (.int .u64 (wr .u64 (wr .i64 (Int.tdiv ((x1).length : Int) 32)))))]) (ds := [(.v (.int .u64 (wr .u64 (wr .i64 (Int.tdiv ((x1).length : Int) 32)))))]) [] [Res.cells ch_0_0 72 [.one (.slice ch_0_1 ch_0_2 ch_0_3)], Res.row (Ty.int .u8) 5 ch_0_1 ch_0_2 ch_0_3 x1, Res.cells g2 27 [.ints .u64 x3 4], Res.cells g1 27 [.ints .u64 x2 4]] (fun (ch : Unit) => ((.v (.int .u64 t3)) : D)) (fun (ch : Unit) => []) (fun (ch : Unit) => [Res.cells ch_0_0 72 [.one (.slice ch_0_1 ch_0_2 ch_0_3)], Res.row (Ty.int .u8) 5 ch_0_1 ch_0_2 ch_0_3 x1, Res.cells g2 27 [.ints .u64 x3 4], Res.cells g1 27 [.ints .u64 x2 4]]) (fun _ => rfl) N13 rfl rfl (fun ok => ok) (.cons .here (.cons .here (.cons .here (.cons .here .nil)))) rfl (mem_Price.ok (wr .u64 (wr .i64 (Int.tdiv ((x1).length : Int) 32))) t3 et3 _ _) ?_; clear S a; intro ch3 m le1 a w S
    replace le := le.trans le1
    replace hw := CL.again hw S (.cons .here (.cons .here (.cons .here (.cons .here .nil)))) le
    refine h_back ⟨fun _ => hw, ?_⟩
    replace CL := CL.add (t := 28) (d := (.v (.int .u64 t3))) S rfl rfl
    refine h_bin S CL hw le ⟨rfl, rfl, rfl, rfl, rfl, rfl, rfl, rfl, rfl, rfl, rfl, rfl, trivial⟩ rfl rfl rfl rfl rfl trivial ?_; clear S CL a; intro a S CL
    refine h_assign S CL hw le ⟨rfl, rfl, rfl, rfl, rfl, rfl, rfl, rfl, rfl, rfl, rfl, rfl, rfl, trivial⟩ rfl rfl rfl trivial ?_; clear S CL a; intro a S CL
    refine h_assign S CL hw le ⟨rfl, rfl, rfl, rfl, rfl, rfl, rfl, rfl, rfl, rfl, rfl, rfl, rfl, rfl, trivial⟩ rfl rfl rfl trivial ?_; clear S CL a; intro a S CL
    refine h_done ?_; clear CL hw le
    refine x_thenN ?_
    refine wp_ret ?_
    obtain rfl := Option.some.inj h4
    exact b_ret2 (d1 := (.v (.int .u64 (wr .u64 (t2 - t3))))) (d2 := (.v (.bool true))) S rfl rfl rfl fun ok1 ok2 => S.retX (Hx := []) hb _ _ (() : Unit) (.cons .here (.cons .here .nil)) ⟨⟨ok1, trivial⟩, ⟨ok2, trivial⟩, trivial⟩
/-! (*smithy/mem.Memory).Reach -/
abbrev mem_Memory_Reach.Ty : Type := ((List Int)) → (List Int) → (List Int) → Option (Bool × ((List Int)))
def mem_Memory_Reach.Ctr (s : mem_Memory_Reach.Ty) : Prop := ∀ (x1 : (List Int)) (x2 : List Int) (x3 : List Int) (ch_0_0 : Nat) (ch_0_1 : Option Addr) (ch_0_2 : Nat) (ch_0_3 : Nat) (r : Bool × ((List Int))) (h0 : s x1 x2 x3 = some r) (mi : Mem) (w0 : World), okL mi [(.v (.pointer (some ⟨ch_0_0, 0, none⟩))), (.agg [.ints .u64 x2 4]), (.agg [.ints .u64 x3 4])] → Pre mi [Res.cells ch_0_0 72 [.one (.slice ch_0_1 ch_0_2 ch_0_3)], Res.row (Ty.int .u8) 5 ch_0_1 ch_0_2 ch_0_3 x1] w0 → Calls Try.prog 16 (([(.v (.pointer (some ⟨ch_0_0, 0, none⟩))), (.agg [.ints .u64 x2 4]), (.agg [.ints .u64 x3 4])] : List D).map D.val).toArray w0 (RetX mi [Res.cells ch_0_0 72 [.one (.slice ch_0_1 ch_0_2 ch_0_3)], Res.row (Ty.int .u8) 5 ch_0_1 ch_0_2 ch_0_3 x1] (fun (ch : (Option Addr) × Nat × Nat) => ((.v (.bool r.1)) : D)) (fun (ch : (Option Addr) × Nat × Nat) => [Res.cells ch_0_0 72 [.one (.slice ch.1 ch.2.1 ch.2.2)], Res.row (Ty.int .u8) 5 ch.1 ch.2.1 ch.2.2 r.2]) w0)
def mem_Memory_Reach.j1 (y1 : List Int) : Option (Bool × ((List Int))) := some (true, (y1))
def mem_Memory_Reach.f (x1 : (List Int)) (x2 : List Int) (x3 : List Int) : Option (Bool × ((List Int))) := (mem_Memory_reach.f (x1) x2 x3).bind fun t1 => (if (!t1.2) = true then (some (false, (x1))) else (if (decide (0 < (wr .i64 ((wr .i64 ((wr .i64 t1.1) * 32)) - ((x1).length : Int))))) = true then (if 0 ≤ (wr .i64 ((wr .i64 ((wr .i64 t1.1) * 32)) - ((x1).length : Int))) ∧ ((x1).length + Int.toNat (wr .i64 ((wr .i64 ((wr .i64 t1.1) * 32)) - ((x1).length : Int)))) * 1 ≤ 140737488355328 then (mem_Memory_Reach.j1 (x1 ++ List.replicate (Int.toNat (wr .i64 ((wr .i64 ((wr .i64 t1.1) * 32)) - ((x1).length : Int)))) 0)) else none) else (mem_Memory_Reach.j1 x1)))
theorem mem_Memory_Reach.ok : mem_Memory_Reach.Ctr (mem_Memory_Reach.f) := by
  intro x1 x2 x3 ch_0_0 ch_0_1 ch_0_2 ch_0_3 r h0 mi w0 ok hm
  delta mem_Memory_Reach.f at h0
  refine c_enterX (n := 39) [(.v (.pointer (some ⟨ch_0_0, 0, none⟩))), (.agg [.ints .u64 x2 4]), (.agg [.ints .u64 x3 4])] (l := [(0, (.v (.pointer (some ⟨ch_0_0, 0, none⟩)))), (1, (.agg [.ints .u64 x2 4])), (2, (.agg [.ints .u64 x3 4]))]) Try.func16 rfl rfl rfl rfl ok hm ?_
  clear ok hm
  intro b0 hb a S
  refine c_region ?_
  refine s_box S rfl rfl rfl ?_; clear S a; intro g1 a w S
  refine s_box S rfl rfl rfl ?_; clear S a w; intro g2 a w S
  refine s_assign S rfl rfl ?_; clear S a; intro a S
  refine c_end ?_
  refine c_region ?_
  refine s_move S rfl rfl ?_; clear S a; intro a S
  refine s_loada S rfl (.there .here) T27 (s' := [.ints .u64 x2 4]) rfl rfl ?_; clear S a; intro a S
  refine s_loada S rfl .here T27 (s' := [.ints .u64 x3 4]) rfl rfl ?_; clear S a; intro a S
  obtain ⟨t1, et1, h1⟩ := bind_of h0; clear h0
  refine s_callX S (ds' := [(.v (.pointer (some ⟨ch_0_0, 0, none⟩))), (.agg [.ints .u64 x2 4]), (.agg [.ints .u64 x3 4])]) (ds := [(.v (.pointer (some ⟨ch_0_0, 0, none⟩))), (.agg [.ints .u64 x2 4]), (.agg [.ints .u64 x3 4])]) [Res.cells ch_0_0 72 [.one (.slice ch_0_1 ch_0_2 ch_0_3)], Res.row (Ty.int .u8) 5 ch_0_1 ch_0_2 ch_0_3 x1] [Res.cells g2 27 [.ints .u64 x3 4], Res.cells g1 27 [.ints .u64 x2 4]] (fun (ch : Unit) => ((.tup [(false, [.one (.int .u64 t1.1)]), (false, [.one (.bool t1.2)])]) : D)) (fun (ch : Unit) => [Res.cells ch_0_0 72 [.one (.slice ch_0_1 ch_0_2 ch_0_3)], Res.row (Ty.int .u8) 5 ch_0_1 ch_0_2 ch_0_3 x1]) (fun (ch : Unit) => [Res.cells ch_0_0 72 [.one (.slice ch_0_1 ch_0_2 ch_0_3)], Res.row (Ty.int .u8) 5 ch_0_1 ch_0_2 ch_0_3 x1, Res.cells g2 27 [.ints .u64 x3 4], Res.cells g1 27 [.ints .u64 x2 4]]) (fun _ => rfl) N41 rfl rfl (fun ok => ok) (.cons (.there (.there .here)) (.cons (.there (.there .here)) (.cons .here (.cons .here .nil)))) rfl (mem_Memory_reach.ok (x1) x2 x3 ch_0_0 ch_0_1 ch_0_2 ch_0_3 t1 et1 _ _) ?_; clear S a w; intro ch1 m le1 a w S
  refine s_move S rfl rfl ?_; clear S a; intro a S
  refine s_extract S rfl rfl rfl rfl ?_; clear S a; intro a S
  refine s_extract S rfl rfl rfl rfl ?_; clear S a; intro a S
  refine s_assign S rfl rfl ?_; clear S a; intro a S
  refine s_assign S rfl rfl ?_; clear S a; intro a S
  refine c_end ?_
  refine wp_seq ?_
  refine c_region ?_
  refine s_move S rfl rfl ?_; clear S a; intro a S
  refine s_not S rfl rfl ?_; clear S a; intro a S
  refine c_end ?_
  rcases ite_of h1 with ⟨c1, h2⟩ | ⟨c1, h2⟩ <;> clear h1
  · refine c_condT S rfl c1 ?_
    refine c_region ?_
    refine s_assign S rfl rfl ?_; clear S a; intro a S
    refine c_end ?_
    refine wp_ret ?_
    refine x_thenR ?_
    obtain rfl := Option.some.inj h2
    exact b_ret1 (d := (.v (.bool false))) S rfl rfl fun ok => S.retX (Hx := []) hb _ _ ((ch_0_1, ch_0_2, ch_0_3) : (Option Addr) × Nat × Nat) (.cons .here (.cons .here .nil)) ok
  · refine c_condF S rfl c1 ?_
    refine wp_skip ?_
    refine x_thenN ?_
    refine wp_seq_k ?_
    intro K1 hK1
    have j1 : ∀ (m : Mem) (A1 : Option Addr) (nn1 : Nat) (cp1 : Nat) (y1 : List Int) (a : Act) (w : World), St 39 m b0 [] [Res.cells ch_0_0 72 [.one (.slice A1 nn1 cp1)], Res.row (Ty.int .u8) 5 A1 nn1 cp1 y1] a w → mem_Memory_Reach.j1 y1 = some r → K1 a w := by
      intro m A1 nn1 cp1 y1 a w S h0
      delta mem_Memory_Reach.j1 at h0
      refine hK1 a w ?_
      refine c_region ?_
      refine s_assign S rfl rfl ?_; clear S a; intro a S
      refine c_end ?_
      refine wp_ret ?_
      obtain rfl := Option.some.inj h0
      exact b_ret1 (d := (.v (.bool true))) S rfl rfl fun ok => S.retX (Hx := []) hb _ _ ((A1, nn1, cp1) : (Option Addr) × Nat × Nat) (.cons .here (.cons .here .nil)) ok
    refine c_region ?_
    refine s_move S rfl rfl ?_; clear S a; intro a S
    refine s_conv S rfl rfl Try.underlying3 rfl ?_; clear S a; intro a S
    refine s_bin S rfl rfl rfl rfl ?_; clear S a; intro a S
    refine s_move S rfl rfl ?_; clear S a; intro a S
    refine s_nilchk S rfl rfl ?_; clear S a; intro a S
    refine s_fieldAddr S rfl I72_0 T38 (by decide) rfl rfl ?_; clear S a; intro a S
    refine s_load1 S rfl .here T38 (v := (.slice ch_0_1 ch_0_2 ch_0_3)) rfl rfl ?_; clear S a; intro a S
    refine s_lenO S rfl (.there .here) Try.underlying38 rfl ?_; clear S a; intro a S
    refine s_bin S rfl rfl rfl rfl ?_; clear S a; intro a S
    refine s_assign S rfl rfl ?_; clear S a; intro a S
    refine c_end ?_
    refine c_region ?_
    refine s_move S rfl rfl ?_; clear S a; intro a S
    refine s_bin S rfl rfl rfl rfl ?_; clear S a; intro a S
    refine c_end ?_
    rcases ite_of h2 with ⟨c2, h3⟩ | ⟨c2, h3⟩ <;> clear h2
    · refine c_condT S rfl c2 ?_
      refine c_region' ?_
      refine s_move S rfl rfl ?_; clear S a; intro a S
      refine s_move S rfl rfl ?_; clear S a; intro a S
      refine s_nilchk S rfl rfl ?_; clear S a; intro a S
      refine s_fieldAddr S rfl I72_0 T38 (by decide) rfl rfl ?_; clear S a; intro a S
      refine s_load1 S rfl .here T38 (v := (.slice ch_0_1 ch_0_2 ch_0_3)) rfl rfl ?_; clear S a; intro a S
      refine s_move S rfl rfl ?_; clear S a; intro a S
      obtain ⟨c3, h4⟩ := chk_of h3; clear h3
      refine s_appZ S (z := 0) (c0 := ()) rfl (fun _ _ => (.there .here)) rfl Try.underlying38 Try.underlying3 J5 Z5 rfl ⟨rfl, trivial⟩ c3.1 c3.2 rfl ?_; clear S a w; intro A2 cp2 a w S
      refine s_nilchk S rfl rfl ?_; clear S a; intro a S
      refine s_fieldAddr S rfl I72_0 T38 (by decide) rfl rfl ?_; clear S a; intro a S
      refine s_store S rfl rfl rfl (s' := [.one (.slice A2 (ch_0_2 + Int.toNat (wr .i64 ((wr .i64 ((wr .i64 t1.1) * 32)) - ((x1).length : Int)))) cp2)]) .here T38 rfl rfl ?_; clear S w; intro w S
      refine c_end' ?_
      refine x_thenN ?_
      exact j1 _ A2 (ch_0_2 + Int.toNat (wr .i64 ((wr .i64 ((wr .i64 t1.1) * 32)) - ((x1).length : Int)))) cp2 (x1 ++ List.replicate (Int.toNat (wr .i64 ((wr .i64 ((wr .i64 t1.1) * 32)) - ((x1).length : Int)))) 0) a w (S.sub trivial (.cons .here (.cons .here .nil))) h4
    · refine c_condF S rfl c2 ?_
      refine wp_skip ?_
      refine x_thenN ?_
      exact j1 _ ch_0_1 ch_0_2 ch_0_3 x1 a w (S.sub trivial (.cons .here (.cons .here .nil))) h3
/-! (*smithy/mem.Memory).Len -/
abbrev mem_Memory_Len.Ty : Type := ((List Int)) → Option Int
def mem_Memory_Len.Ctr (s : mem_Memory_Len.Ty) : Prop := ∀ (x1 : (List Int)) (ch_0_0 : Nat) (ch_0_1 : Option Addr) (ch_0_2 : Nat) (ch_0_3 : Nat) (r : Int) (h0 : s x1 = some r) (mi : Mem) (w0 : World), okL mi [(.v (.pointer (some ⟨ch_0_0, 0, none⟩)))] → Pre mi [Res.cells ch_0_0 72 [.one (.slice ch_0_1 ch_0_2 ch_0_3)], Res.row (Ty.int .u8) 5 ch_0_1 ch_0_2 ch_0_3 x1] w0 → Calls Try.prog 19 (([(.v (.pointer (some ⟨ch_0_0, 0, none⟩)))] : List D).map D.val).toArray w0 (RetX mi [Res.cells ch_0_0 72 [.one (.slice ch_0_1 ch_0_2 ch_0_3)], Res.row (Ty.int .u8) 5 ch_0_1 ch_0_2 ch_0_3 x1] (fun (ch : Unit) => ((.v (.int .i64 r)) : D)) (fun (ch : Unit) => [Res.cells ch_0_0 72 [.one (.slice ch_0_1 ch_0_2 ch_0_3)], Res.row (Ty.int .u8) 5 ch_0_1 ch_0_2 ch_0_3 x1]) w0)
def mem_Memory_Len.f (x1 : (List Int)) : Option Int := some ((x1).length : Int)
theorem mem_Memory_Len.ok : mem_Memory_Len.Ctr (mem_Memory_Len.f) := by
  intro x1 ch_0_0 ch_0_1 ch_0_2 ch_0_3 r h0 mi w0 ok hm
  delta mem_Memory_Len.f at h0
  refine c_enterX (n := 10) [(.v (.pointer (some ⟨ch_0_0, 0, none⟩)))] (l := [(0, (.v (.pointer (some ⟨ch_0_0, 0, none⟩))))]) Try.func19 rfl rfl rfl rfl ok hm ?_
  clear ok hm
  intro b0 hb a S
  refine c_region ?_
  refine s_assign S rfl rfl ?_; clear S a; intro a S
  refine c_end ?_
  refine wp_seq ?_
  refine c_region ?_
  refine s_move S rfl rfl ?_; clear S a; intro a S
  refine s_eqp S (b := false) rfl rfl Try.underlying28 rfl rfl ?_; clear S a; intro a S
  refine c_end ?_
  refine c_condF S rfl rfl ?_
  refine wp_skip ?_
  refine x_thenN ?_
  refine c_region ?_
  refine s_move S rfl rfl ?_; clear S a; intro a S
  refine s_nilchk S rfl rfl ?_; clear S a; intro a S
  refine s_fieldAddr S rfl I72_0 T38 (by decide) rfl rfl ?_; clear S a; intro a S
  refine s_load1 S rfl .here T38 (v := (.slice ch_0_1 ch_0_2 ch_0_3)) rfl rfl ?_; clear S a; intro a S
  refine s_lenO S rfl (.there .here) Try.underlying38 rfl ?_; clear S a; intro a S
  refine s_assign S rfl rfl ?_; clear S a; intro a S
  refine c_end ?_
  refine wp_ret ?_
  obtain rfl := Option.some.inj h0
  exact b_ret1 (d := (.v (.int .i64 ((x1).length : Int)))) S rfl rfl fun ok => S.retX (Hx := []) hb _ _ (() : Unit) (.cons .here (.cons .here .nil)) ok
/-! smithy/smithylaw10.fixed -/
abbrev smithylaw10_fixed.Ty : Type := Option Bool
def smithylaw10_fixed.Ctr (s : smithylaw10_fixed.Ty) : Prop := ∀ (r : Bool) (h0 : s = some r) (mi : Mem) (w0 : World), okL mi [] → Pre mi [] w0 → Calls Try.prog 12 (([] : List D).map D.val).toArray w0 (RetX mi [] (fun (ch : Unit) => ((.v (.bool r)) : D)) (fun (ch : Unit) => []) w0)
def smithylaw10_fixed.f : Option Bool := (mem_New.f).bind fun t1 => ((mem_Memory_Cost.f (t1) [31, 0, 0, 0] [2, 0, 0, 0]).bind fun t2 => (if t2.2 = true then (if (t2.1 == 6) = true then ((mem_Memory_Reach.f (t1) [31, 0, 0, 0] [2, 0, 0, 0]).bind fun t3 => (if t3.1 = true then ((mem_Memory_Len.f (t3.2)).bind fun t4 => (if (t4 == 64) = true then ((mem_Price.f 1024).bind fun t5 => (some (t5 == 5120))) else (some false))) else (some false))) else (some false)) else (some false)))
theorem smithylaw10_fixed.ok : smithylaw10_fixed.Ctr (smithylaw10_fixed.f) := by
  intro r h0 mi w0 ok hm
  delta smithylaw10_fixed.f at h0
  refine c_enterX (n := 32) [] (l := []) Try.func12 rfl rfl rfl rfl ok hm ?_
  clear ok hm
  intro b0 hb a S
  refine c_region ?_
  refine s_assign S rfl rfl ?_; clear S a; intro a S
  refine c_end ?_
  refine c_region ?_
  obtain ⟨t1, et1, h1⟩ := bind_of h0; clear h0
  refine s_callX S (ds' := []) (ds := []) [] [] (fun (ch : Nat × (Option Addr) × Nat × Nat) => ((.v (.pointer (some ⟨ch.1, 0, none⟩))) : D)) (fun (ch : Nat × (Option Addr) × Nat × Nat) => [Res.cells ch.1 72 [.one (.slice ch.2.1 ch.2.2.1 ch.2.2.2)], Res.row (Ty.int .u8) 5 ch.2.1 ch.2.2.1 ch.2.2.2 t1]) (fun (ch : Nat × (Option Addr) × Nat × Nat) => [Res.cells ch.1 72 [.one (.slice ch.2.1 ch.2.2.1 ch.2.2.2)], Res.row (Ty.int .u8) 5 ch.2.1 ch.2.2.1 ch.2.2.2 t1]) (fun _ => rfl) N15 rfl rfl (fun ok => ok) .nil rfl (mem_New.ok t1 et1 _ _) ?_; clear S a; intro ch1 m le1 a w S
  refine s_assign S rfl rfl ?_; clear S a; intro a S
  refine c_end ?_
  refine c_region ?_
  refine s_move S rfl rfl ?_; clear S a; intro a S
  refine s_build S (ds := [(0, (.v (.int .u64 31)))]) (dv := (.agg [.ints .u64 [31, 0, 0, 0] 4])) rfl (fun _ => by kernel_rfl) ⟨rfl, trivial⟩ rfl ?_; clear S a; intro a S
  refine s_build S (ds := [(0, (.v (.int .u64 2)))]) (dv := (.agg [.ints .u64 [2, 0, 0, 0] 4])) rfl (fun _ => by kernel_rfl) ⟨rfl, trivial⟩ rfl ?_; clear S a; intro a S
  obtain ⟨t2, et2, h2⟩ := bind_of h1; clear h1
  refine s_callX S (ds' := [(.v (.pointer (some ⟨ch1.1, 0, none⟩))), (.agg [.ints .u64 [31, 0, 0, 0] 4]), (.agg [.ints .u64 [2, 0, 0, 0] 4])]) (ds := [(.v (.pointer (some ⟨ch1.1, 0, none⟩))), (.agg [.ints .u64 [31, 0, 0, 0] 4]), (.agg [.ints .u64 [2, 0, 0, 0] 4])]) [Res.cells ch1.1 72 [.one (.slice ch1.2.1 ch1.2.2.1 ch1.2.2.2)], Res.row (Ty.int .u8) 5 ch1.2.1 ch1.2.2.1 ch1.2.2.2 t1] [] (fun (ch : Unit) => ((.tup [(false, [.one (.int .u64 t2.1)]), (false, [.one (.bool t2.2)])]) : D)) (fun (ch : Unit) => [Res.cells ch1.1 72 [.one (.slice ch1.2.1 ch1.2.2.1 ch1.2.2.2)], Res.row (Ty.int .u8) 5 ch1.2.1 ch1.2.2.1 ch1.2.2.2 t1]) (fun (ch : Unit) => [Res.cells ch1.1 72 [.one (.slice ch1.2.1 ch1.2.2.1 ch1.2.2.2)], Res.row (Ty.int .u8) 5 ch1.2.1 ch1.2.2.1 ch1.2.2.2 t1]) (fun _ => rfl) N18 rfl rfl (fun ok => ok) (.cons .here (.cons .here .nil)) rfl (mem_Memory_Cost.ok (t1) [31, 0, 0, 0] [2, 0, 0, 0] ch1.1 ch1.2.1 ch1.2.2.1 ch1.2.2.2 t2 et2 _ _) ?_; clear S a w; intro ch2 m le1 a w S
  refine s_move S rfl rfl ?_; clear S a; intro a S
  refine s_extract S rfl rfl rfl rfl ?_; clear S a; intro a S
  refine s_extract S rfl rfl rfl rfl ?_; clear S a; intro a S
  refine s_assign S rfl rfl ?_; clear S a; intro a S
  refine s_assign S rfl rfl ?_; clear S a; intro a S
  refine c_end ?_
  refine c_region ?_
  refine s_move S rfl rfl ?_; clear S a; intro a S
  refine s_move S rfl rfl ?_; clear S a; intro a S
  rcases ite_of h2 with ⟨c1, h3⟩ | ⟨c1, h3⟩ <;> clear h2
  · refine s_gT S (b := t2.2) rfl rfl c1 ?_
    refine s_move S rfl rfl ?_; clear S a; intro a S
    refine s_gT S (b := t2.2) rfl rfl c1 ?_
    refine s_bin S rfl rfl rfl rfl ?_; clear S a; intro a S
    refine s_pick S (b := true) (hc_of rfl c1) rfl rfl ?_; clear S a; intro a S
    refine s_move S rfl rfl ?_; clear S a; intro a S
    rcases ite_of h3 with ⟨c2, h4⟩ | ⟨c2, h4⟩ <;> clear h3
    · refine s_gT S (b := (t2.1 == 6)) rfl rfl c2 ?_
      refine s_move S rfl rfl ?_; clear S a; intro a S
      refine s_gT S (b := (t2.1 == 6)) rfl rfl c2 ?_
      refine s_build S (ds := [(0, (.v (.int .u64 31)))]) (dv := (.agg [.ints .u64 [31, 0, 0, 0] 4])) rfl (fun _ => by kernel_rfl) ⟨rfl, trivial⟩ rfl ?_; clear S a; intro a S
      refine s_gT S (b := (t2.1 == 6)) rfl rfl c2 ?_
      refine s_build S (ds := [(0, (.v (.int .u64 2)))]) (dv := (.agg [.ints .u64 [2, 0, 0, 0] 4])) rfl (fun _ => by kernel_rfl) ⟨rfl, trivial⟩ rfl ?_; clear S a; intro a S
      refine s_gT S (b := (t2.1 == 6)) rfl rfl c2 ?_
      obtain ⟨t3, et3, h5⟩ := bind_of h4; clear h4
      refine s_callX S (ds' := [(.v (.pointer (some ⟨ch1.1, 0, none⟩))), (.agg [.ints .u64 [31, 0, 0, 0] 4]), (.agg [.ints .u64 [2, 0, 0, 0] 4])]) (ds := [(.v (.pointer (some ⟨ch1.1, 0, none⟩))), (.agg [.ints .u64 [31, 0, 0, 0] 4]), (.agg [.ints .u64 [2, 0, 0, 0] 4])]) [Res.cells ch1.1 72 [.one (.slice ch1.2.1 ch1.2.2.1 ch1.2.2.2)], Res.row (Ty.int .u8) 5 ch1.2.1 ch1.2.2.1 ch1.2.2.2 t1] [] (fun (ch : (Option Addr) × Nat × Nat) => ((.v (.bool t3.1)) : D)) (fun (ch : (Option Addr) × Nat × Nat) => [Res.cells ch1.1 72 [.one (.slice ch.1 ch.2.1 ch.2.2)], Res.row (Ty.int .u8) 5 ch.1 ch.2.1 ch.2.2 t3.2]) (fun (ch : (Option Addr) × Nat × Nat) => [Res.cells ch1.1 72 [.one (.slice ch.1 ch.2.1 ch.2.2)], Res.row (Ty.int .u8) 5 ch.1 ch.2.1 ch.2.2 t3.2]) (fun _ => rfl) N16 rfl rfl (fun ok => ok) (.cons .here (.cons .here .nil)) rfl (mem_Memory_Reach.ok (t1) [31, 0, 0, 0] [2, 0, 0, 0] ch1.1 ch1.2.1 ch1.2.2.1 ch1.2.2.2 t3 et3 _ _) ?_; clear S a w; intro ch3 m le1 a w S
      refine s_pick S (b := true) (hc_of rfl c2) rfl rfl ?_; clear S a; intro a S
      refine s_move S rfl rfl ?_; clear S a; intro a S
      rcases ite_of h5 with ⟨c3, h6⟩ | ⟨c3, h6⟩ <;> clear h5
      · refine s_gT S (b := t3.1) rfl rfl c3 ?_
        refine s_move S rfl rfl ?_; clear S a; intro a S
        refine s_gT S (b := t3.1) rfl rfl c3 ?_
        obtain ⟨t4, et4, h7⟩ := bind_of h6; clear h6
        refine s_callX S (ds' := [(.v (.pointer (some ⟨ch1.1, 0, none⟩)))]) (ds := [(.v (.pointer (some ⟨ch1.1, 0, none⟩)))]) [Res.cells ch1.1 72 [.one (.slice ch3.1 ch3.2.1 ch3.2.2)], Res.row (Ty.int .u8) 5 ch3.1 ch3.2.1 ch3.2.2 t3.2] [] (fun (ch : Unit) => ((.v (.int .i64 t4)) : D)) (fun (ch : Unit) => [Res.cells ch1.1 72 [.one (.slice ch3.1 ch3.2.1 ch3.2.2)], Res.row (Ty.int .u8) 5 ch3.1 ch3.2.1 ch3.2.2 t3.2]) (fun (ch : Unit) => [Res.cells ch1.1 72 [.one (.slice ch3.1 ch3.2.1 ch3.2.2)], Res.row (Ty.int .u8) 5 ch3.1 ch3.2.1 ch3.2.2 t3.2]) (fun _ => rfl) N19 rfl rfl (fun ok => ok) (.cons .here (.cons .here .nil)) rfl (mem_Memory_Len.ok (t3.2) ch1.1 ch3.1 ch3.2.1 ch3.2.2 t4 et4 _ _) ?_; clear S a w; intro ch4 m le1 a w S
        refine s_gT S (b := t3.1) rfl rfl c3 ?_
        refine s_bin S rfl rfl rfl rfl ?_; clear S a; intro a S
        refine s_pick S (b := true) (hc_of rfl c3) rfl rfl ?_; clear S a; intro a S
        refine s_move S rfl rfl ?_; clear S a; intro a S
        rcases ite_of h7 with ⟨c4, h8⟩ | ⟨c4, h8⟩ <;> clear h7
        · refine s_gT S (b := (t4 == 64)) rfl rfl c4 ?_
          obtain ⟨t5, et5, h9⟩ := bind_of h8; clear h8
          refine s_callX S (ds' := [(.v (.int .u64 1024))]) (ds := [(.v (.int .u64 1024))]) [] [Res.cells ch1.1 72 [.one (.slice ch3.1 ch3.2.1 ch3.2.2)], Res.row (Ty.int .u8) 5 ch3.1 ch3.2.1 ch3.2.2 t3.2] (fun (ch : Unit) => ((.v (.int .u64 t5)) : D)) (fun (ch : Unit) => []) (fun (ch : Unit) => [Res.cells ch1.1 72 [.one (.slice ch3.1 ch3.2.1 ch3.2.2)], Res.row (Ty.int .u8) 5 ch3.1 ch3.2.1 ch3.2.2 t3.2]) (fun _ => rfl) N13 rfl rfl (fun ok => ok) (.cons .here (.cons .here .nil)) rfl (mem_Price.ok 1024 t5 et5 _ _) ?_; clear S a w; intro ch5 m le1 a w S
          refine s_gT S (b := (t4 == 64)) rfl rfl c4 ?_
          refine s_bin S rfl rfl rfl rfl ?_; clear S a; intro a S
          refine s_pick S (b := true) (hc_of rfl c4) rfl rfl ?_; clear S a; intro a S
          refine s_assign S rfl rfl ?_; clear S a; intro a S
          refine c_end ?_
          refine wp_ret ?_
          obtain rfl := Option.some.inj h9
          exact b_ret1 (d := (.v (.bool (t5 == 5120)))) S rfl rfl fun ok => S.retX (Hx := []) hb _ _ (() : Unit) .nil ok
        · refine s_gF S (b := (t4 == 64)) rfl rfl c4 rfl ?_; clear S a; intro a S
          refine s_gF S (b := (t4 == 64)) rfl rfl c4 rfl ?_; clear S a; intro a S
          refine s_pick S (b := false) (hc_of rfl c4) rfl rfl ?_; clear S a; intro a S
          refine s_assign S rfl rfl ?_; clear S a; intro a S
          refine c_end ?_
          refine wp_ret ?_
          obtain rfl := Option.some.inj h8
          exact b_ret1 (d := (.v (.bool false))) S rfl rfl fun ok => S.retX (Hx := []) hb _ _ (() : Unit) .nil ok
      · refine s_gF S (b := t3.1) rfl rfl c3 rfl ?_; clear S a; intro a S
        refine s_gF S (b := t3.1) rfl rfl c3 rfl ?_; clear S a; intro a S
        refine s_gF S (b := t3.1) rfl rfl c3 rfl ?_; clear S a; intro a S
        refine s_pick S (b := false) (hc_of rfl c3) rfl rfl ?_; clear S a; intro a S
        refine s_move S rfl rfl ?_; clear S a; intro a S
        refine s_gF S (b := false) rfl rfl rfl rfl ?_; clear S a; intro a S
        refine s_gF S (b := false) rfl rfl rfl rfl ?_; clear S a; intro a S
        refine s_pick S (b := false) (hc_of rfl rfl) rfl rfl ?_; clear S a; intro a S
        refine s_assign S rfl rfl ?_; clear S a; intro a S
        refine c_end ?_
        refine wp_ret ?_
        obtain rfl := Option.some.inj h6
        exact b_ret1 (d := (.v (.bool false))) S rfl rfl fun ok => S.retX (Hx := []) hb _ _ (() : Unit) .nil ok
    · refine s_gF S (b := (t2.1 == 6)) rfl rfl c2 rfl ?_; clear S a; intro a S
      refine s_gF S (b := (t2.1 == 6)) rfl rfl c2 rfl ?_; clear S a; intro a S
      refine s_gF S (b := (t2.1 == 6)) rfl rfl c2 rfl ?_; clear S a; intro a S
      refine s_gF S (b := (t2.1 == 6)) rfl rfl c2 rfl ?_; clear S a; intro a S
      refine s_pick S (b := false) (hc_of rfl c2) rfl rfl ?_; clear S a; intro a S
      refine s_move S rfl rfl ?_; clear S a; intro a S
      refine s_gF S (b := false) rfl rfl rfl rfl ?_; clear S a; intro a S
      refine s_gF S (b := false) rfl rfl rfl rfl ?_; clear S a; intro a S
      refine s_gF S (b := false) rfl rfl rfl rfl ?_; clear S a; intro a S
      refine s_pick S (b := false) (hc_of rfl rfl) rfl rfl ?_; clear S a; intro a S
      refine s_move S rfl rfl ?_; clear S a; intro a S
      refine s_gF S (b := false) rfl rfl rfl rfl ?_; clear S a; intro a S
      refine s_gF S (b := false) rfl rfl rfl rfl ?_; clear S a; intro a S
      refine s_pick S (b := false) (hc_of rfl rfl) rfl rfl ?_; clear S a; intro a S
      refine s_assign S rfl rfl ?_; clear S a; intro a S
      refine c_end ?_
      refine wp_ret ?_
      obtain rfl := Option.some.inj h4
      exact b_ret1 (d := (.v (.bool false))) S rfl rfl fun ok => S.retX (Hx := []) hb _ _ (() : Unit) .nil ok
  · refine s_gF S (b := t2.2) rfl rfl c1 rfl ?_; clear S a; intro a S
    refine s_gF S (b := t2.2) rfl rfl c1 rfl ?_; clear S a; intro a S
    refine s_pick S (b := false) (hc_of rfl c1) rfl rfl ?_; clear S a; intro a S
    refine s_move S rfl rfl ?_; clear S a; intro a S
    refine s_gF S (b := false) rfl rfl rfl rfl ?_; clear S a; intro a S
    refine s_gF S (b := false) rfl rfl rfl rfl ?_; clear S a; intro a S
    refine s_gF S (b := false) rfl rfl rfl rfl ?_; clear S a; intro a S
    refine s_gF S (b := false) rfl rfl rfl rfl ?_; clear S a; intro a S
    refine s_pick S (b := false) (hc_of rfl rfl) rfl rfl ?_; clear S a; intro a S
    refine s_move S rfl rfl ?_; clear S a; intro a S
    refine s_gF S (b := false) rfl rfl rfl rfl ?_; clear S a; intro a S
    refine s_gF S (b := false) rfl rfl rfl rfl ?_; clear S a; intro a S
    refine s_gF S (b := false) rfl rfl rfl rfl ?_; clear S a; intro a S
    refine s_pick S (b := false) (hc_of rfl rfl) rfl rfl ?_; clear S a; intro a S
    refine s_move S rfl rfl ?_; clear S a; intro a S
    refine s_gF S (b := false) rfl rfl rfl rfl ?_; clear S a; intro a S
    refine s_gF S (b := false) rfl rfl rfl rfl ?_; clear S a; intro a S
    refine s_pick S (b := false) (hc_of rfl rfl) rfl rfl ?_; clear S a; intro a S
    refine s_assign S rfl rfl ?_; clear S a; intro a S
    refine c_end ?_
    refine wp_ret ?_
    obtain rfl := Option.some.inj h3
    exact b_ret1 (d := (.v (.bool false))) S rfl rfl fun ok => S.retX (Hx := []) hb _ _ (() : Unit) .nil ok
/-! smithy/smithyref10.Price -/
abbrev smithyref10_Price.Ty : Type := Int → Option Int
def smithyref10_Price.Ctr (s : smithyref10_Price.Ty) : Prop := ∀ (x1 : Int) (r : Int) (h0 : s x1 = some r) (mi : Mem) (w0 : World), okL mi [(.v (.int .u64 x1))] → Pre mi [] w0 → Calls Try.prog 14 (([(.v (.int .u64 x1))] : List D).map D.val).toArray w0 (RetX mi [] (fun (ch : Unit) => ((.v (.int .u64 r)) : D)) (fun (ch : Unit) => []) w0)
def smithyref10_Price.f (x1 : Int) : Option Int := some (wr .u64 ((wr .u64 (3 * x1)) + (wr .u64 (Int.tdiv (wr .u64 (x1 * x1)) 512))))
theorem smithyref10_Price.ok : smithyref10_Price.Ctr (smithyref10_Price.f) := by
  intro x1 r h0 mi w0 ok hm
  delta smithyref10_Price.f at h0
  refine c_enterX (n := 10) [(.v (.int .u64 x1))] (l := [(0, (.v (.int .u64 x1)))]) Try.func14 rfl rfl rfl rfl ok hm ?_
  clear ok hm
  intro b0 hb a S
  refine c_region ?_
  refine s_assign S rfl rfl ?_; clear S a; intro a S
  refine c_end ?_
  refine c_region ?_
  refine s_move S rfl rfl ?_; clear S a; intro a S
  refine s_bin S rfl rfl rfl rfl ?_; clear S a; intro a S
  refine s_move S rfl rfl ?_; clear S a; intro a S
  refine s_move S rfl rfl ?_; clear S a; intro a S
  refine s_bin S rfl rfl rfl rfl ?_; clear S a; intro a S
  refine s_quo S rfl rfl (by decide) rfl ?_; clear S a; intro a S
  refine s_bin S rfl rfl rfl rfl ?_; clear S a; intro a S
  refine s_assign S rfl rfl ?_; clear S a; intro a S
  refine c_end ?_
  refine wp_ret ?_
  obtain rfl := Option.some.inj h0
  exact b_ret1 (d := (.v (.int .u64 (wr .u64 ((wr .u64 (3 * x1)) + (wr .u64 (Int.tdiv (wr .u64 (x1 * x1)) 512))))))) S rfl rfl fun ok => S.retX (Hx := []) hb _ _ (() : Unit) .nil ok
/-! smithy/smithylaw10.MemPrices -/
abbrev smithylaw10_MemPrices.Ty : Type := Int → Option Bool
def smithylaw10_MemPrices.Ctr (s : smithylaw10_MemPrices.Ty) : Prop := ∀ (x1 : Int) (r : Bool) (h0 : s x1 = some r) (mi : Mem) (w0 : World), okL mi [(.v (.int .u64 x1))] → Pre mi [] w0 → Calls Try.prog 3 (([(.v (.int .u64 x1))] : List D).map D.val).toArray w0 (RetX mi [] (fun (ch : Unit) => ((.v (.bool r)) : D)) (fun (ch : Unit) => []) w0)
def smithylaw10_MemPrices.f (x1 : Int) : Option Bool := (mem_Words.f x1).bind fun t1 => ((smithyref10_Words.f x1).bind fun t2 => (if (t1 != t2) = true then (some false) else (if (decide (4294967296 < x1)) = true then ((smithylaw10_fixed.f).bind fun t3 => (if t3 = true then ((mem_Price.f x1).bind fun t4 => (some (t4 == 18446744073709551615))) else (some false))) else (if (x1 == 4294967296) = true then ((smithylaw10_fixed.f).bind fun t5 => (if t5 = true then ((mem_Price.f x1).bind fun t6 => (some (t6 == 36028809903865856))) else (some false))) else ((smithylaw10_fixed.f).bind fun t7 => (if t7 = true then ((mem_Price.f x1).bind fun t8 => ((smithyref10_Price.f x1).bind fun t9 => (some (t8 == t9)))) else (some false)))))))
theorem smithylaw10_MemPrices.ok : smithylaw10_MemPrices.Ctr (smithylaw10_MemPrices.f) := by
  intro x1 r h0 mi w0 ok hm
  delta smithylaw10_MemPrices.f at h0
  refine c_enterX (n := 32) [(.v (.int .u64 x1))] (l := [(0, (.v (.int .u64 x1)))]) Try.func3 rfl rfl rfl rfl ok hm ?_
  clear ok hm
  intro b0 hb a S
  refine c_region ?_
  refine s_assign S rfl rfl ?_; clear S a; intro a S
  refine c_end ?_
  refine wp_seq ?_
  refine c_region ?_
  refine s_move S rfl rfl ?_; clear S a; intro a S
  obtain ⟨t1, et1, h1⟩ := bind_of h0; clear h0
  refine s_callX S (ds' := [(.v (.int .u64 x1))]) (ds := [(.v (.int .u64 x1))]) [] [] (fun (ch : Unit) => ((.v (.int .u64 t1)) : D)) (fun (ch : Unit) => []) (fun (ch : Unit) => []) (fun _ => rfl) N10 rfl rfl (fun ok => ok) .nil rfl (mem_Words.ok x1 t1 et1 _ _) ?_; clear S a; intro ch1 m le1 a w S
  refine s_move S rfl rfl ?_; clear S a; intro a S
  obtain ⟨t2, et2, h2⟩ := bind_of h1; clear h1
  refine s_callX S (ds' := [(.v (.int .u64 x1))]) (ds := [(.v (.int .u64 x1))]) [] [] (fun (ch : Unit) => ((.v (.int .u64 t2)) : D)) (fun (ch : Unit) => []) (fun (ch : Unit) => []) (fun _ => rfl) N11 rfl rfl (fun ok => ok) .nil rfl (smithyref10_Words.ok x1 t2 et2 _ _) ?_; clear S a w; intro ch2 m le1 a w S
  refine s_bin S rfl rfl rfl rfl ?_; clear S a; intro a S
  refine c_end ?_
  rcases ite_of h2 with ⟨c1, h3⟩ | ⟨c1, h3⟩ <;> clear h2
  · refine c_condT S rfl c1 ?_
    refine c_region ?_
    refine s_assign S rfl rfl ?_; clear S a; intro a S
    refine c_end ?_
    refine wp_ret ?_
    refine x_thenR ?_
    obtain rfl := Option.some.inj h3
    exact b_ret1 (d := (.v (.bool false))) S rfl rfl fun ok => S.retX (Hx := []) hb _ _ (() : Unit) .nil ok
  · refine c_condF S rfl c1 ?_
    refine wp_skip ?_
    refine x_thenN ?_
    refine wp_seq ?_
    refine c_region ?_
    refine s_move S rfl rfl ?_; clear S a; intro a S
    refine s_bin S rfl rfl rfl rfl ?_; clear S a; intro a S
    refine c_end ?_
    rcases ite_of h3 with ⟨c2, h4⟩ | ⟨c2, h4⟩ <;> clear h3
    · refine c_condT S rfl c2 ?_
      refine c_region ?_
      obtain ⟨t3, et3, h5⟩ := bind_of h4; clear h4
      refine s_callX S (ds' := []) (ds := []) [] [] (fun (ch : Unit) => ((.v (.bool t3)) : D)) (fun (ch : Unit) => []) (fun (ch : Unit) => []) (fun _ => rfl) N12 rfl rfl (fun ok => ok) .nil rfl (smithylaw10_fixed.ok t3 et3 _ _) ?_; clear S a w; intro ch3 m le1 a w S
      refine s_move S rfl rfl ?_; clear S a; intro a S
      rcases ite_of h5 with ⟨c3, h6⟩ | ⟨c3, h6⟩ <;> clear h5
      · refine s_gT S (b := t3) rfl rfl c3 ?_
        refine s_move S rfl rfl ?_; clear S a; intro a S
        refine s_gT S (b := t3) rfl rfl c3 ?_
        obtain ⟨t4, et4, h7⟩ := bind_of h6; clear h6
        refine s_callX S (ds' := [(.v (.int .u64 x1))]) (ds := [(.v (.int .u64 x1))]) [] [] (fun (ch : Unit) => ((.v (.int .u64 t4)) : D)) (fun (ch : Unit) => []) (fun (ch : Unit) => []) (fun _ => rfl) N13 rfl rfl (fun ok => ok) .nil rfl (mem_Price.ok x1 t4 et4 _ _) ?_; clear S a w; intro ch4 m le1 a w S
        refine s_gT S (b := t3) rfl rfl c3 ?_
        refine s_bin S rfl rfl rfl rfl ?_; clear S a; intro a S
        refine s_pick S (b := true) (hc_of rfl c3) rfl rfl ?_; clear S a; intro a S
        refine s_assign S rfl rfl ?_; clear S a; intro a S
        refine c_end ?_
        refine wp_ret ?_
        refine x_thenR ?_
        obtain rfl := Option.some.inj h7
        exact b_ret1 (d := (.v (.bool (t4 == 18446744073709551615)))) S rfl rfl fun ok => S.retX (Hx := []) hb _ _ (() : Unit) .nil ok
      · refine s_gF S (b := t3) rfl rfl c3 rfl ?_; clear S a; intro a S
        refine s_gF S (b := t3) rfl rfl c3 rfl ?_; clear S a; intro a S
        refine s_gF S (b := t3) rfl rfl c3 rfl ?_; clear S a; intro a S
        refine s_pick S (b := false) (hc_of rfl c3) rfl rfl ?_; clear S a; intro a S
        refine s_assign S rfl rfl ?_; clear S a; intro a S
        refine c_end ?_
        refine wp_ret ?_
        refine x_thenR ?_
        obtain rfl := Option.some.inj h6
        exact b_ret1 (d := (.v (.bool false))) S rfl rfl fun ok => S.retX (Hx := []) hb _ _ (() : Unit) .nil ok
    · refine c_condF S rfl c2 ?_
      refine wp_skip ?_
      refine x_thenN ?_
      refine wp_seq ?_
      refine c_region ?_
      refine s_move S rfl rfl ?_; clear S a; intro a S
      refine s_bin S rfl rfl rfl rfl ?_; clear S a; intro a S
      refine c_end ?_
      rcases ite_of h4 with ⟨c4, h5⟩ | ⟨c4, h5⟩ <;> clear h4
      · refine c_condT S rfl c4 ?_
        refine c_region ?_
        obtain ⟨t5, et5, h6⟩ := bind_of h5; clear h5
        refine s_callX S (ds' := []) (ds := []) [] [] (fun (ch : Unit) => ((.v (.bool t5)) : D)) (fun (ch : Unit) => []) (fun (ch : Unit) => []) (fun _ => rfl) N12 rfl rfl (fun ok => ok) .nil rfl (smithylaw10_fixed.ok t5 et5 _ _) ?_; clear S a w; intro ch5 m le1 a w S
        refine s_move S rfl rfl ?_; clear S a; intro a S
        rcases ite_of h6 with ⟨c5, h7⟩ | ⟨c5, h7⟩ <;> clear h6
        · refine s_gT S (b := t5) rfl rfl c5 ?_
          refine s_move S rfl rfl ?_; clear S a; intro a S
          refine s_gT S (b := t5) rfl rfl c5 ?_
          obtain ⟨t6, et6, h8⟩ := bind_of h7; clear h7
          refine s_callX S (ds' := [(.v (.int .u64 x1))]) (ds := [(.v (.int .u64 x1))]) [] [] (fun (ch : Unit) => ((.v (.int .u64 t6)) : D)) (fun (ch : Unit) => []) (fun (ch : Unit) => []) (fun _ => rfl) N13 rfl rfl (fun ok => ok) .nil rfl (mem_Price.ok x1 t6 et6 _ _) ?_; clear S a w; intro ch6 m le1 a w S
          refine s_gT S (b := t5) rfl rfl c5 ?_
          refine s_bin S rfl rfl rfl rfl ?_; clear S a; intro a S
          refine s_pick S (b := true) (hc_of rfl c5) rfl rfl ?_; clear S a; intro a S
          refine s_assign S rfl rfl ?_; clear S a; intro a S
          refine c_end ?_
          refine wp_ret ?_
          refine x_thenR ?_
          obtain rfl := Option.some.inj h8
          exact b_ret1 (d := (.v (.bool (t6 == 36028809903865856)))) S rfl rfl fun ok => S.retX (Hx := []) hb _ _ (() : Unit) .nil ok
        · refine s_gF S (b := t5) rfl rfl c5 rfl ?_; clear S a; intro a S
          refine s_gF S (b := t5) rfl rfl c5 rfl ?_; clear S a; intro a S
          refine s_gF S (b := t5) rfl rfl c5 rfl ?_; clear S a; intro a S
          refine s_pick S (b := false) (hc_of rfl c5) rfl rfl ?_; clear S a; intro a S
          refine s_assign S rfl rfl ?_; clear S a; intro a S
          refine c_end ?_
          refine wp_ret ?_
          refine x_thenR ?_
          obtain rfl := Option.some.inj h7
          exact b_ret1 (d := (.v (.bool false))) S rfl rfl fun ok => S.retX (Hx := []) hb _ _ (() : Unit) .nil ok
      · refine c_condF S rfl c4 ?_
        refine wp_skip ?_
        refine x_thenN ?_
        refine c_region ?_
        obtain ⟨t7, et7, h6⟩ := bind_of h5; clear h5
        refine s_callX S (ds' := []) (ds := []) [] [] (fun (ch : Unit) => ((.v (.bool t7)) : D)) (fun (ch : Unit) => []) (fun (ch : Unit) => []) (fun _ => rfl) N12 rfl rfl (fun ok => ok) .nil rfl (smithylaw10_fixed.ok t7 et7 _ _) ?_; clear S a w; intro ch7 m le1 a w S
        refine s_move S rfl rfl ?_; clear S a; intro a S
        rcases ite_of h6 with ⟨c6, h7⟩ | ⟨c6, h7⟩ <;> clear h6
        · refine s_gT S (b := t7) rfl rfl c6 ?_
          refine s_move S rfl rfl ?_; clear S a; intro a S
          refine s_gT S (b := t7) rfl rfl c6 ?_
          obtain ⟨t8, et8, h8⟩ := bind_of h7; clear h7
          refine s_callX S (ds' := [(.v (.int .u64 x1))]) (ds := [(.v (.int .u64 x1))]) [] [] (fun (ch : Unit) => ((.v (.int .u64 t8)) : D)) (fun (ch : Unit) => []) (fun (ch : Unit) => []) (fun _ => rfl) N13 rfl rfl (fun ok => ok) .nil rfl (mem_Price.ok x1 t8 et8 _ _) ?_; clear S a w; intro ch8 m le1 a w S
          refine s_gT S (b := t7) rfl rfl c6 ?_
          refine s_move S rfl rfl ?_; clear S a; intro a S
          refine s_gT S (b := t7) rfl rfl c6 ?_
          obtain ⟨t9, et9, h9⟩ := bind_of h8; clear h8
          refine s_callX S (ds' := [(.v (.int .u64 x1))]) (ds := [(.v (.int .u64 x1))]) [] [] (fun (ch : Unit) => ((.v (.int .u64 t9)) : D)) (fun (ch : Unit) => []) (fun (ch : Unit) => []) (fun _ => rfl) N14 rfl rfl (fun ok => ok) .nil rfl (smithyref10_Price.ok x1 t9 et9 _ _) ?_; clear S a w; intro ch9 m le1 a w S
          refine s_gT S (b := t7) rfl rfl c6 ?_
          refine s_bin S rfl rfl rfl rfl ?_; clear S a; intro a S
          refine s_pick S (b := true) (hc_of rfl c6) rfl rfl ?_; clear S a; intro a S
          refine s_assign S rfl rfl ?_; clear S a; intro a S
          refine c_end ?_
          refine wp_ret ?_
          obtain rfl := Option.some.inj h9
          exact b_ret1 (d := (.v (.bool (t8 == t9)))) S rfl rfl fun ok => S.retX (Hx := []) hb _ _ (() : Unit) .nil ok
        · refine s_gF S (b := t7) rfl rfl c6 rfl ?_; clear S a; intro a S
          refine s_gF S (b := t7) rfl rfl c6 rfl ?_; clear S a; intro a S
          refine s_gF S (b := t7) rfl rfl c6 rfl ?_; clear S a; intro a S
          refine s_gF S (b := t7) rfl rfl c6 rfl ?_; clear S a; intro a S
          refine s_gF S (b := t7) rfl rfl c6 rfl ?_; clear S a; intro a S
          refine s_pick S (b := false) (hc_of rfl c6) rfl rfl ?_; clear S a; intro a S
          refine s_assign S rfl rfl ?_; clear S a; intro a S
          refine c_end ?_
          refine wp_ret ?_
          obtain rfl := Option.some.inj h7
          exact b_ret1 (d := (.v (.bool false))) S rfl rfl fun ok => S.retX (Hx := []) hb _ _ (() : Unit) .nil ok
/-! smithy/smithyref10.small -/
abbrev smithyref10_small.Ty : Type := (List Int) → Option (Int × Bool)
def smithyref10_small.Ctr (s : smithyref10_small.Ty) : Prop := ∀ (x1 : List Int) (r : Int × Bool) (h0 : s x1 = some r) (mi : Mem) (w0 : World), okL mi [(.agg [.ints .u64 x1 4])] → Pre mi [] w0 → Calls Try.prog 42 (([(.agg [.ints .u64 x1 4])] : List D).map D.val).toArray w0 (RetX mi [] (fun (ch : Unit) => ((.tup [(false, [.one (.int .u64 r.1)]), (false, [.one (.bool r.2)])]) : D)) (fun (ch : Unit) => []) w0)
def smithyref10_small.j1 (x1 : List Int) (y1 : Bool) : Option (Int × Bool) := if y1 = true then (some (0, false)) else (some (rd x1 0, true))
def smithyref10_small.f (x1 : List Int) : Option (Int × Bool) := if ((rd x1 1) != 0) = true then (smithyref10_small.j1 x1 true) else (if ((rd x1 2) != 0) = true then (smithyref10_small.j1 x1 true) else (if ((rd x1 3) != 0) = true then (smithyref10_small.j1 x1 true) else (smithyref10_small.j1 x1 (decide (4194304 < (rd x1 0))))))
theorem smithyref10_small.ok : smithyref10_small.Ctr (smithyref10_small.f) := by
  intro x1 r h0 mi w0 ok hm
  delta smithyref10_small.f at h0
  refine c_enterX (n := 24) [(.agg [.ints .u64 x1 4])] (l := [(0, (.agg [.ints .u64 x1 4]))]) Try.func42 rfl rfl rfl rfl ok hm ?_
  clear ok hm
  intro b0 hb a S
  refine c_region ?_
  refine s_box S rfl rfl rfl ?_; clear S a; intro g1 a w S
  refine s_assign S rfl rfl ?_; clear S a; intro a S
  refine s_assign S rfl rfl ?_; clear S a; intro a S
  refine c_end ?_
  refine wp_seq ?_
  refine wp_seq_k ?_
  intro K1 hK1
  have j1 : ∀ (m : Mem) (y1 : Bool) (g2 : Nat) (a : Act) (w : World), St 24 m b0 [(21, (.v (.bool y1))), (1, (.v (.pointer (some ⟨g2, 0, none⟩))))] [Res.cells g2 27 [.ints .u64 x1 4]] a w → smithyref10_small.j1 x1 y1 = some r → K1 a w := by
    intro m y1 g2 a w S h0
    delta smithyref10_small.j1 at h0
    refine hK1 a w ?_
    rcases ite_of h0 with ⟨c1, h1⟩ | ⟨c1, h1⟩ <;> clear h0
    · refine c_condT S rfl c1 ?_
      refine c_region ?_
      refine s_assign S rfl rfl ?_; clear S a; intro a S
      refine s_assign S rfl rfl ?_; clear S a; intro a S
      refine c_end ?_
      refine wp_ret ?_
      refine x_thenR ?_
      obtain rfl := Option.some.inj h1
      exact b_ret2 (d1 := (.v (.int .u64 0))) (d2 := (.v (.bool false))) S rfl rfl rfl fun ok1 ok2 => S.retX (Hx := []) hb _ _ (() : Unit) .nil ⟨⟨ok1, trivial⟩, ⟨ok2, trivial⟩, trivial⟩
    · refine c_condF S rfl c1 ?_
      refine wp_skip ?_
      refine x_thenN ?_
      refine c_region ?_
      refine s_iaddr S (o' := 0) rfl rfl Try.underlying27 T22 (by decide) (by decide) rfl rfl ?_; clear S a; intro a S
      refine s_loadi S (i := 0) rfl .here T22 .here rfl (by decide) (by decide) rfl ?_; clear S a; intro a S
      refine s_assign S rfl rfl ?_; clear S a; intro a S
      refine s_assign S rfl rfl ?_; clear S a; intro a S
      refine c_end ?_
      refine wp_ret ?_
      obtain rfl := Option.some.inj h1
      exact b_ret2 (d1 := (.v (.int .u64 (rd x1 0)))) (d2 := (.v (.bool true))) S rfl rfl rfl fun ok1 ok2 => S.retX (Hx := []) hb _ _ (() : Unit) .nil ⟨⟨ok1, trivial⟩, ⟨ok2, trivial⟩, trivial⟩
  refine c_region' ?_
  refine s_iaddr S (o' := 1) rfl rfl Try.underlying27 T22 (by decide) (by decide) rfl rfl ?_; clear S a; intro a S
  refine s_loadi S (i := 1) rfl .here T22 .here rfl (by decide) (by decide) rfl ?_; clear S a; intro a S
  refine s_bin S rfl rfl rfl rfl ?_; clear S a; intro a S
  refine s_move S rfl rfl ?_; clear S a; intro a S
  rcases ite_of h0 with ⟨c2, h1⟩ | ⟨c2, h1⟩ <;> clear h0
  · refine s_gF S (b := ((rd x1 1) != 0)) rfl rfl c2 rfl ?_; clear S a; intro a S
    refine s_gF S (b := ((rd x1 1) != 0)) rfl rfl c2 rfl ?_; clear S a; intro a S
    refine s_gF S (b := ((rd x1 1) != 0)) rfl rfl c2 rfl ?_; clear S a; intro a S
    refine s_pick S (b := true) (hc_of rfl c2) rfl rfl ?_; clear S a; intro a S
    refine s_move S rfl rfl ?_; clear S a; intro a S
    refine s_gF S (b := true) rfl rfl rfl rfl ?_; clear S a; intro a S
    refine s_gF S (b := true) rfl rfl rfl rfl ?_; clear S a; intro a S
    refine s_gF S (b := true) rfl rfl rfl rfl ?_; clear S a; intro a S
    refine s_pick S (b := true) (hc_of rfl rfl) rfl rfl ?_; clear S a; intro a S
    refine s_move S rfl rfl ?_; clear S a; intro a S
    refine s_gF S (b := true) rfl rfl rfl rfl ?_; clear S a; intro a S
    refine s_gF S (b := true) rfl rfl rfl rfl ?_; clear S a; intro a S
    refine s_gF S (b := true) rfl rfl rfl rfl ?_; clear S a; intro a S
    refine s_pick S (b := true) (hc_of rfl rfl) rfl rfl ?_; clear S a; intro a S
    refine c_end' ?_
    refine x_thenN ?_
    exact j1 _ true g1 a w (S.sub ⟨rfl, rfl, trivial⟩ (.cons .here .nil)) h1
  · refine s_gT S (b := ((rd x1 1) != 0)) rfl rfl c2 ?_
    refine s_iaddr S (o' := 2) rfl rfl Try.underlying27 T22 (by decide) (by decide) rfl rfl ?_; clear S a; intro a S
    refine s_gT S (b := ((rd x1 1) != 0)) rfl rfl c2 ?_
    refine s_loadi S (i := 2) rfl .here T22 .here rfl (by decide) (by decide) rfl ?_; clear S a; intro a S
    refine s_gT S (b := ((rd x1 1) != 0)) rfl rfl c2 ?_
    refine s_bin S rfl rfl rfl rfl ?_; clear S a; intro a S
    refine s_pick S (b := false) (hc_of rfl c2) rfl rfl ?_; clear S a; intro a S
    refine s_move S rfl rfl ?_; clear S a; intro a S
    rcases ite_of h1 with ⟨c3, h2⟩ | ⟨c3, h2⟩ <;> clear h1
    · refine s_gF S (b := ((rd x1 2) != 0)) rfl rfl c3 rfl ?_; clear S a; intro a S
      refine s_gF S (b := ((rd x1 2) != 0)) rfl rfl c3 rfl ?_; clear S a; intro a S
      refine s_gF S (b := ((rd x1 2) != 0)) rfl rfl c3 rfl ?_; clear S a; intro a S
      refine s_pick S (b := true) (hc_of rfl c3) rfl rfl ?_; clear S a; intro a S
      refine s_move S rfl rfl ?_; clear S a; intro a S
      refine s_gF S (b := true) rfl rfl rfl rfl ?_; clear S a; intro a S
      refine s_gF S (b := true) rfl rfl rfl rfl ?_; clear S a; intro a S
      refine s_gF S (b := true) rfl rfl rfl rfl ?_; clear S a; intro a S
      refine s_pick S (b := true) (hc_of rfl rfl) rfl rfl ?_; clear S a; intro a S
      refine c_end' ?_
      refine x_thenN ?_
      exact j1 _ true g1 a w (S.sub ⟨rfl, rfl, trivial⟩ (.cons .here .nil)) h2
    · refine s_gT S (b := ((rd x1 2) != 0)) rfl rfl c3 ?_
      refine s_iaddr S (o' := 3) rfl rfl Try.underlying27 T22 (by decide) (by decide) rfl rfl ?_; clear S a; intro a S
      refine s_gT S (b := ((rd x1 2) != 0)) rfl rfl c3 ?_
      refine s_loadi S (i := 3) rfl .here T22 .here rfl (by decide) (by decide) rfl ?_; clear S a; intro a S
      refine s_gT S (b := ((rd x1 2) != 0)) rfl rfl c3 ?_
      refine s_bin S rfl rfl rfl rfl ?_; clear S a; intro a S
      refine s_pick S (b := false) (hc_of rfl c3) rfl rfl ?_; clear S a; intro a S
      refine s_move S rfl rfl ?_; clear S a; intro a S
      rcases ite_of h2 with ⟨c4, h3⟩ | ⟨c4, h3⟩ <;> clear h2
      · refine s_gF S (b := ((rd x1 3) != 0)) rfl rfl c4 rfl ?_; clear S a; intro a S
        refine s_gF S (b := ((rd x1 3) != 0)) rfl rfl c4 rfl ?_; clear S a; intro a S
        refine s_gF S (b := ((rd x1 3) != 0)) rfl rfl c4 rfl ?_; clear S a; intro a S
        refine s_pick S (b := true) (hc_of rfl c4) rfl rfl ?_; clear S a; intro a S
        refine c_end' ?_
        refine x_thenN ?_
        exact j1 _ true g1 a w (S.sub ⟨rfl, rfl, trivial⟩ (.cons .here .nil)) h3
      · refine s_gT S (b := ((rd x1 3) != 0)) rfl rfl c4 ?_
        refine s_iaddr S (o' := 0) rfl rfl Try.underlying27 T22 (by decide) (by decide) rfl rfl ?_; clear S a; intro a S
        refine s_gT S (b := ((rd x1 3) != 0)) rfl rfl c4 ?_
        refine s_loadi S (i := 0) rfl .here T22 .here rfl (by decide) (by decide) rfl ?_; clear S a; intro a S
        refine s_gT S (b := ((rd x1 3) != 0)) rfl rfl c4 ?_
        refine s_bin S rfl rfl rfl rfl ?_; clear S a; intro a S
        refine s_pick S (b := false) (hc_of rfl c4) rfl rfl ?_; clear S a; intro a S
        refine c_end' ?_
        refine x_thenN ?_
        exact j1 _ (decide (4194304 < (rd x1 0))) g1 a w (S.sub ⟨rfl, rfl, trivial⟩ (.cons .here .nil)) h3
/-! smithy/smithyref10.Reach -/
abbrev smithyref10_Reach.Ty : Type := Int → (List Int) → (List Int) → Option (Int × Bool)
def smithyref10_Reach.Ctr (s : smithyref10_Reach.Ty) : Prop := ∀ (x1 : Int) (x2 : List Int) (x3 : List Int) (r : Int × Bool) (h0 : s x1 x2 x3 = some r) (mi : Mem) (w0 : World), okL mi [(.v (.int .i64 x1)), (.agg [.ints .u64 x2 4]), (.agg [.ints .u64 x3 4])] → Pre mi [] w0 → Calls Try.prog 17 (([(.v (.int .i64 x1)), (.agg [.ints .u64 x2 4]), (.agg [.ints .u64 x3 4])] : List D).map D.val).toArray w0 (RetX mi [] (fun (ch : Unit) => ((.tup [(false, [.one (.int .i64 r.1)]), (false, [.one (.bool r.2)])]) : D)) (fun (ch : Unit) => []) w0)
def smithyref10_Reach.j1 (x1 : Int) (t1 : Int × Bool) (t2 : Int × Bool) (y1 : Bool) : Option (Int × Bool) := if y1 = true then (some (0, false)) else ((smithyref10_Words.f (wr .u64 (t1.1 + t2.1))).bind fun t3 => (some (imax x1 (wr .i64 ((wr .i64 t3) * 32)), true)))
def smithyref10_Reach.f (x1 : Int) (x2 : List Int) (x3 : List Int) : Option (Int × Bool) := if (decide (x3 = [0, 0, 0, 0])) = true then (some (x1, true)) else ((smithyref10_small.f x2).bind fun t1 => ((smithyref10_small.f x3).bind fun t2 => (if (!t1.2) = true then (smithyref10_Reach.j1 x1 t1 t2 true) else (if (!t2.2) = true then (smithyref10_Reach.j1 x1 t1 t2 true) else (smithyref10_Reach.j1 x1 t1 t2 (decide (4194304 < (wr .u64 (t1.1 + t2.1)))))))))
theorem smithyref10_Reach.ok : smithyref10_Reach.Ctr (smithyref10_Reach.f) := by
  intro x1 x2 x3 r h0 mi w0 ok hm
  delta smithyref10_Reach.f at h0
  refine c_enterX (n := 46) [(.v (.int .i64 x1)), (.agg [.ints .u64 x2 4]), (.agg [.ints .u64 x3 4])] (l := [(0, (.v (.int .i64 x1))), (1, (.agg [.ints .u64 x2 4])), (2, (.agg [.ints .u64 x3 4]))]) Try.func17 rfl rfl rfl rfl ok hm ?_
  clear ok hm
  intro b0 hb a S
  refine c_region ?_
  refine s_box S rfl rfl rfl ?_; clear S a; intro g1 a w S
  refine s_box S rfl rfl rfl ?_; clear S a w; intro g2 a w S
  refine s_assign S rfl rfl ?_; clear S a; intro a S
  refine s_assign S rfl rfl ?_; clear S a; intro a S
  refine c_end ?_
  refine wp_seq ?_
  refine c_region ?_
  refine s_loada S rfl .here T27 (s' := [.ints .u64 x3 4]) rfl rfl ?_; clear S a; intro a S
  refine s_build S (ds := []) (dv := (.agg [.ints .u64 [0, 0, 0, 0] 4])) rfl (fun _ => by kernel_rfl) ⟨rfl, trivial⟩ rfl ?_; clear S a; intro a S
  refine s_eqa S rfl rfl Try.underlying27 Try.underlying22 T22 Q27 rfl ?_; clear S a; intro a S
  refine c_end ?_
  rcases ite_of h0 with ⟨c1, h1⟩ | ⟨c1, h1⟩ <;> clear h0
  · refine c_condT S rfl c1 ?_
    refine c_region ?_
    refine s_move S rfl rfl ?_; clear S a; intro a S
    refine s_assign S rfl rfl ?_; clear S a; intro a S
    refine s_assign S rfl rfl ?_; clear S a; intro a S
    refine c_end ?_
    refine wp_ret ?_
    refine x_thenR ?_
    obtain rfl := Option.some.inj h1
    exact b_ret2 (d1 := (.v (.int .i64 x1))) (d2 := (.v (.bool true))) S rfl rfl rfl fun ok1 ok2 => S.retX (Hx := []) hb _ _ (() : Unit) .nil ⟨⟨ok1, trivial⟩, ⟨ok2, trivial⟩, trivial⟩
  · refine c_condF S rfl c1 ?_
    refine wp_skip ?_
    refine x_thenN ?_
    refine c_region ?_
    refine s_loada S rfl (.there .here) T27 (s' := [.ints .u64 x2 4]) rfl rfl ?_; clear S a; intro a S
    obtain ⟨t1, et1, h2⟩ := bind_of h1; clear h1
    refine s_callX S (ds' := [(.agg [.ints .u64 x2 4])]) (ds := [(.agg [.ints .u64 x2 4])]) [] [Res.cells g2 27 [.ints .u64 x3 4], Res.cells g1 27 [.ints .u64 x2 4]] (fun (ch : Unit) => ((.tup [(false, [.one (.int .u64 t1.1)]), (false, [.one (.bool t1.2)])]) : D)) (fun (ch : Unit) => []) (fun (ch : Unit) => [Res.cells g2 27 [.ints .u64 x3 4], Res.cells g1 27 [.ints .u64 x2 4]]) (fun _ => rfl) N42 rfl rfl (fun ok => ok) (.cons .here (.cons .here .nil)) rfl (smithyref10_small.ok x2 t1 et1 _ _) ?_; clear S a w; intro ch1 m le1 a w S
    refine s_move S rfl rfl ?_; clear S a; intro a S
    refine s_extract S rfl rfl rfl rfl ?_; clear S a; intro a S
    refine s_extract S rfl rfl rfl rfl ?_; clear S a; intro a S
    refine s_assign S rfl rfl ?_; clear S a; intro a S
    refine s_assign S rfl rfl ?_; clear S a; intro a S
    refine c_end ?_
    refine c_region ?_
    refine s_loada S rfl .here T27 (s' := [.ints .u64 x3 4]) rfl rfl ?_; clear S a; intro a S
    obtain ⟨t2, et2, h3⟩ := bind_of h2; clear h2
    refine s_callX S (ds' := [(.agg [.ints .u64 x3 4])]) (ds := [(.agg [.ints .u64 x3 4])]) [] [Res.cells g2 27 [.ints .u64 x3 4], Res.cells g1 27 [.ints .u64 x2 4]] (fun (ch : Unit) => ((.tup [(false, [.one (.int .u64 t2.1)]), (false, [.one (.bool t2.2)])]) : D)) (fun (ch : Unit) => []) (fun (ch : Unit) => [Res.cells g2 27 [.ints .u64 x3 4], Res.cells g1 27 [.ints .u64 x2 4]]) (fun _ => rfl) N42 rfl rfl (fun ok => ok) (.cons .here (.cons .here .nil)) rfl (smithyref10_small.ok x3 t2 et2 _ _) ?_; clear S a w; intro ch2 m le1 a w S
    refine s_move S rfl rfl ?_; clear S a; intro a S
    refine s_extract S rfl rfl rfl rfl ?_; clear S a; intro a S
    refine s_extract S rfl rfl rfl rfl ?_; clear S a; intro a S
    refine s_assign S rfl rfl ?_; clear S a; intro a S
    refine s_assign S rfl rfl ?_; clear S a; intro a S
    refine c_end ?_
    refine wp_seq ?_
    refine wp_seq_k ?_
    intro K1 hK1
    have j1 : ∀ (m : Mem) (y1 : Bool) (a : Act) (w : World), St 46 m b0 [(37, (.v (.bool y1))), (10, (.v (.int .u64 t2.1))), (8, (.v (.int .u64 t1.1))), (0, (.v (.int .i64 x1)))] [] a w → smithyref10_Reach.j1 x1 t1 t2 y1 = some r → K1 a w := by
      intro m y1 a w S h0
      delta smithyref10_Reach.j1 at h0
      refine hK1 a w ?_
      rcases ite_of h0 with ⟨c2, h1⟩ | ⟨c2, h1⟩ <;> clear h0
      · refine c_condT S rfl c2 ?_
        refine c_region ?_
        refine s_assign S rfl rfl ?_; clear S a; intro a S
        refine s_assign S rfl rfl ?_; clear S a; intro a S
        refine c_end ?_
        refine wp_ret ?_
        refine x_thenR ?_
        obtain rfl := Option.some.inj h1
        exact b_ret2 (d1 := (.v (.int .i64 0))) (d2 := (.v (.bool false))) S rfl rfl rfl fun ok1 ok2 => S.retX (Hx := []) hb _ _ (() : Unit) .nil ⟨⟨ok1, trivial⟩, ⟨ok2, trivial⟩, trivial⟩
      · refine c_condF S rfl c2 ?_
        refine wp_skip ?_
        refine x_thenN ?_
        refine c_region ?_
        refine s_move S rfl rfl ?_; clear S a; intro a S
        refine s_move S rfl rfl ?_; clear S a; intro a S
        refine s_move S rfl rfl ?_; clear S a; intro a S
        refine s_bin S rfl rfl rfl rfl ?_; clear S a; intro a S
        obtain ⟨t3, et3, h2⟩ := bind_of h1; clear h1
        refine s_callX S (ds' := [(.v (.int .u64 (wr .u64 (t1.1 + t2.1))))]) (ds := [(.v (.int .u64 (wr .u64 (t1.1 + t2.1))))]) [] [] (fun (ch : Unit) => ((.v (.int .u64 t3)) : D)) (fun (ch : Unit) => []) (fun (ch : Unit) => []) (fun _ => rfl) N11 rfl rfl (fun ok => ok) .nil rfl (smithyref10_Words.ok (wr .u64 (t1.1 + t2.1)) t3 et3 _ _) ?_; clear S a w; intro ch3 m le1 a w S
        refine s_conv S rfl rfl Try.underlying3 rfl ?_; clear S a; intro a S
        refine s_bin S rfl rfl rfl rfl ?_; clear S a; intro a S
        refine s_max2 S rfl rfl rfl ?_; clear S a; intro a S
        refine s_assign S rfl rfl ?_; clear S a; intro a S
        refine s_assign S rfl rfl ?_; clear S a; intro a S
        refine c_end ?_
        refine wp_ret ?_
        obtain rfl := Option.some.inj h2
        exact b_ret2 (d1 := (.v (.int .i64 (imax x1 (wr .i64 ((wr .i64 t3) * 32)))))) (d2 := (.v (.bool true))) S rfl rfl rfl fun ok1 ok2 => S.retX (Hx := []) hb _ _ (() : Unit) .nil ⟨⟨ok1, trivial⟩, ⟨ok2, trivial⟩, trivial⟩
    refine c_region' ?_
    refine s_move S rfl rfl ?_; clear S a; intro a S
    refine s_not S rfl rfl ?_; clear S a; intro a S
    refine s_move S rfl rfl ?_; clear S a; intro a S
    rcases ite_of h3 with ⟨c3, h4⟩ | ⟨c3, h4⟩ <;> clear h3
    · refine s_gF S (b := (!t1.2)) rfl rfl c3 rfl ?_; clear S a; intro a S
      refine s_gF S (b := (!t1.2)) rfl rfl c3 rfl ?_; clear S a; intro a S
      refine s_pick S (b := true) (hc_of rfl c3) rfl rfl ?_; clear S a; intro a S
      refine s_move S rfl rfl ?_; clear S a; intro a S
      refine s_gF S (b := true) rfl rfl rfl rfl ?_; clear S a; intro a S
      refine s_gF S (b := true) rfl rfl rfl rfl ?_; clear S a; intro a S
      refine s_gF S (b := true) rfl rfl rfl rfl ?_; clear S a; intro a S
      refine s_gF S (b := true) rfl rfl rfl rfl ?_; clear S a; intro a S
      refine s_pick S (b := true) (hc_of rfl rfl) rfl rfl ?_; clear S a; intro a S
      refine c_end' ?_
      refine x_thenN ?_
      exact j1 _ true a w (S.sub ⟨rfl, rfl, rfl, rfl, trivial⟩ .nil) h4
    · refine s_gT S (b := (!t1.2)) rfl rfl c3 ?_
      refine s_move S rfl rfl ?_; clear S a; intro a S
      refine s_gT S (b := (!t1.2)) rfl rfl c3 ?_
      refine s_not S rfl rfl ?_; clear S a; intro a S
      refine s_pick S (b := false) (hc_of rfl c3) rfl rfl ?_; clear S a; intro a S
      refine s_move S rfl rfl ?_; clear S a; intro a S
      rcases ite_of h4 with ⟨c4, h5⟩ | ⟨c4, h5⟩ <;> clear h4
      · refine s_gF S (b := (!t2.2)) rfl rfl c4 rfl ?_; clear S a; intro a S
        refine s_gF S (b := (!t2.2)) rfl rfl c4 rfl ?_; clear S a; intro a S
        refine s_gF S (b := (!t2.2)) rfl rfl c4 rfl ?_; clear S a; intro a S
        refine s_gF S (b := (!t2.2)) rfl rfl c4 rfl ?_; clear S a; intro a S
        refine s_pick S (b := true) (hc_of rfl c4) rfl rfl ?_; clear S a; intro a S
        refine c_end' ?_
        refine x_thenN ?_
        exact j1 _ true a w (S.sub ⟨rfl, rfl, rfl, rfl, trivial⟩ .nil) h5
      · refine s_gT S (b := (!t2.2)) rfl rfl c4 ?_
        refine s_move S rfl rfl ?_; clear S a; intro a S
        refine s_gT S (b := (!t2.2)) rfl rfl c4 ?_
        refine s_move S rfl rfl ?_; clear S a; intro a S
        refine s_gT S (b := (!t2.2)) rfl rfl c4 ?_
        refine s_bin S rfl rfl rfl rfl ?_; clear S a; intro a S
        refine s_gT S (b := (!t2.2)) rfl rfl c4 ?_
        refine s_bin S rfl rfl rfl rfl ?_; clear S a; intro a S
        refine s_pick S (b := false) (hc_of rfl c4) rfl rfl ?_; clear S a; intro a S
        refine c_end' ?_
        refine x_thenN ?_
        exact j1 _ (decide (4194304 < (wr .u64 (t1.1 + t2.1)))) a w (S.sub ⟨rfl, rfl, rfl, rfl, trivial⟩ .nil) h5
/-! smithy/smithylaw10.MemFar -/
abbrev smithylaw10_MemFar.Ty : Type := (List Int) → (List Int) → Option Bool
def smithylaw10_MemFar.Ctr (s : smithylaw10_MemFar.Ty) : Prop := ∀ (x1 : List Int) (x2 : List Int) (r : Bool) (h0 : s x1 x2 = some r) (mi : Mem) (w0 : World), okL mi [(.agg [.ints .u64 x1 4]), (.agg [.ints .u64 x2 4])] → Pre mi [] w0 → Calls Try.prog 4 (([(.agg [.ints .u64 x1 4]), (.agg [.ints .u64 x2 4])] : List D).map D.val).toArray w0 (RetX mi [] (fun (ch : Unit) => ((.v (.bool r)) : D)) (fun (ch : Unit) => []) w0)
def smithylaw10_MemFar.j1 (x1 : List Int) (x2 : List Int) (t2 : Bool × ((List Int))) (t3 : Int × Bool) (y1 : Bool) : Option Bool := if y1 = true then ((smithylaw10_fixed.f).bind fun t4 => (some t4)) else ((mem_Memory_Cost.f (t2.2) x1 x2).bind fun t5 => (if (!t3.2) = true then ((smithylaw10_fixed.f).bind fun t6 => (if t6 = true then (if (!t5.2) = true then (if (t5.1 == 0) = true then ((mem_Memory_Reach.f (t2.2) x1 x2).bind fun t7 => (if (!t7.1) = true then ((mem_Memory_Len.f (t7.2)).bind fun t8 => (some (t8 == 32))) else (some false))) else (some false)) else (some false)) else (some false))) else ((smithylaw10_fixed.f).bind fun t9 => (if t9 = true then (if t5.2 = true then ((mem_Memory_Reach.f (t2.2) x1 x2).bind fun t10 => (if t10.1 = true then ((mem_Memory_Len.f (t10.2)).bind fun t11 => (some (t11 == t3.1))) else (some false))) else (some false)) else (some false)))))
def smithylaw10_MemFar.f (x1 : List Int) (x2 : List Int) : Option Bool := (mem_New.f).bind fun t1 => ((mem_Memory_Reach.f (t1) [5, 0, 0, 0] [3, 0, 0, 0]).bind fun t2 => (if (!t2.1) = true then (some false) else ((smithyref10_Reach.f 32 x1 x2).bind fun t3 => (if t3.2 = true then (smithylaw10_MemFar.j1 x1 x2 t2 t3 (decide (300000 < t3.1))) else (smithylaw10_MemFar.j1 x1 x2 t2 t3 false)))))
theorem smithylaw10_MemFar.ok : smithylaw10_MemFar.Ctr (smithylaw10_MemFar.f) := by
  intro x1 x2 r h0 mi w0 ok hm
  delta smithylaw10_MemFar.f at h0
  refine c_enterX (n := 78) [(.agg [.ints .u64 x1 4]), (.agg [.ints .u64 x2 4])] (l := [(0, (.agg [.ints .u64 x1 4])), (1, (.agg [.ints .u64 x2 4]))]) Try.func4 rfl rfl rfl rfl ok hm ?_
  clear ok hm
  intro b0 hb a S
  refine c_region ?_
  refine s_box S rfl rfl rfl ?_; clear S a; intro g1 a w S
  refine s_box S rfl rfl rfl ?_; clear S a w; intro g2 a w S
  refine s_assign S rfl rfl ?_; clear S a; intro a S
  refine c_end ?_
  refine c_region ?_
  obtain ⟨t1, et1, h1⟩ := bind_of h0; clear h0
  refine s_callX S (ds' := []) (ds := []) [] [Res.cells g2 27 [.ints .u64 x2 4], Res.cells g1 27 [.ints .u64 x1 4]] (fun (ch : Nat × (Option Addr) × Nat × Nat) => ((.v (.pointer (some ⟨ch.1, 0, none⟩))) : D)) (fun (ch : Nat × (Option Addr) × Nat × Nat) => [Res.cells ch.1 72 [.one (.slice ch.2.1 ch.2.2.1 ch.2.2.2)], Res.row (Ty.int .u8) 5 ch.2.1 ch.2.2.1 ch.2.2.2 t1]) (fun (ch : Nat × (Option Addr) × Nat × Nat) => [Res.cells ch.1 72 [.one (.slice ch.2.1 ch.2.2.1 ch.2.2.2)], Res.row (Ty.int .u8) 5 ch.2.1 ch.2.2.1 ch.2.2.2 t1, Res.cells g2 27 [.ints .u64 x2 4], Res.cells g1 27 [.ints .u64 x1 4]]) (fun _ => rfl) N15 rfl rfl (fun ok => ok) (.cons .here (.cons .here .nil)) rfl (mem_New.ok t1 et1 _ _) ?_; clear S a w; intro ch1 m le1 a w S
  refine s_assign S rfl rfl ?_; clear S a; intro a S
  refine c_end ?_
  refine wp_seq ?_
  refine c_region ?_
  refine s_move S rfl rfl ?_; clear S a; intro a S
  refine s_eqp S (b := false) rfl rfl Try.underlying28 rfl rfl ?_; clear S a; intro a S
  refine s_move S rfl rfl ?_; clear S a; intro a S
  refine s_gT S (b := false) rfl rfl rfl ?_
  refine s_move S rfl rfl ?_; clear S a; intro a S
  refine s_gT S (b := false) rfl rfl rfl ?_
  refine s_build S (ds := [(0, (.v (.int .u64 5)))]) (dv := (.agg [.ints .u64 [5, 0, 0, 0] 4])) rfl (fun _ => by kernel_rfl) ⟨rfl, trivial⟩ rfl ?_; clear S a; intro a S
  refine s_gT S (b := false) rfl rfl rfl ?_
  refine s_build S (ds := [(0, (.v (.int .u64 3)))]) (dv := (.agg [.ints .u64 [3, 0, 0, 0] 4])) rfl (fun _ => by kernel_rfl) ⟨rfl, trivial⟩ rfl ?_; clear S a; intro a S
  refine s_gT S (b := false) rfl rfl rfl ?_
  obtain ⟨t2, et2, h2⟩ := bind_of h1; clear h1
  refine s_callX S (ds' := [(.v (.pointer (some ⟨ch1.1, 0, none⟩))), (.agg [.ints .u64 [5, 0, 0, 0] 4]), (.agg [.ints .u64 [3, 0, 0, 0] 4])]) (ds := [(.v (.pointer (some ⟨ch1.1, 0, none⟩))), (.agg [.ints .u64 [5, 0, 0, 0] 4]), (.agg [.ints .u64 [3, 0, 0, 0] 4])]) [Res.cells ch1.1 72 [.one (.slice ch1.2.1 ch1.2.2.1 ch1.2.2.2)], Res.row (Ty.int .u8) 5 ch1.2.1 ch1.2.2.1 ch1.2.2.2 t1] [Res.cells g2 27 [.ints .u64 x2 4], Res.cells g1 27 [.ints .u64 x1 4]] (fun (ch : (Option Addr) × Nat × Nat) => ((.v (.bool t2.1)) : D)) (fun (ch : (Option Addr) × Nat × Nat) => [Res.cells ch1.1 72 [.one (.slice ch.1 ch.2.1 ch.2.2)], Res.row (Ty.int .u8) 5 ch.1 ch.2.1 ch.2.2 t2.2]) (fun (ch : (Option Addr) × Nat × Nat) => [Res.cells ch1.1 72 [.one (.slice ch.1 ch.2.1 ch.2.2)], Res.row (Ty.int .u8) 5 ch.1 ch.2.1 ch.2.2 t2.2, Res.cells g2 27 [.ints .u64 x2 4], Res.cells g1 27 [.ints .u64 x1 4]]) (fun _ => rfl) N16 rfl rfl (fun ok => ok) (.cons .here (.cons .here (.cons .here (.cons .here .nil)))) rfl (mem_Memory_Reach.ok (t1) [5, 0, 0, 0] [3, 0, 0, 0] ch1.1 ch1.2.1 ch1.2.2.1 ch1.2.2.2 t2 et2 _ _) ?_; clear S a w; intro ch2 m le1 a w S
  refine s_gT S (b := false) rfl rfl rfl ?_
  refine s_not S rfl rfl ?_; clear S a; intro a S
  refine s_pick S (b := false) (hc_of rfl rfl) rfl rfl ?_; clear S a; intro a S
  refine c_end ?_
  rcases ite_of h2 with ⟨c1, h3⟩ | ⟨c1, h3⟩ <;> clear h2
  · refine c_condT S rfl c1 ?_
    refine c_region ?_
    refine s_assign S rfl rfl ?_; clear S a; intro a S
    refine c_end ?_
    refine wp_ret ?_
    refine x_thenR ?_
    obtain rfl := Option.some.inj h3
    exact b_ret1 (d := (.v (.bool false))) S rfl rfl fun ok => S.retX (Hx := []) hb _ _ (() : Unit) .nil ok
  · refine c_condF S rfl c1 ?_
    refine wp_skip ?_
    refine x_thenN ?_
    refine c_region ?_
    refine s_loada S rfl (.there (.there (.there .here))) T27 (s' := [.ints .u64 x1 4]) rfl rfl ?_; clear S a; intro a S
    refine s_loada S rfl (.there (.there .here)) T27 (s' := [.ints .u64 x2 4]) rfl rfl ?_; clear S a; intro a S
    obtain ⟨t3, et3, h4⟩ := bind_of h3; clear h3
    refine s_callX S (ds' := [(.v (.int .i64 32)), (.agg [.ints .u64 x1 4]), (.agg [.ints .u64 x2 4])]) (ds := [(.v (.int .i64 32)), (.agg [.ints .u64 x1 4]), (.agg [.ints .u64 x2 4])]) [] [Res.cells ch1.1 72 [.one (.slice ch2.1 ch2.2.1 ch2.2.2)], Res.row (Ty.int .u8) 5 ch2.1 ch2.2.1 ch2.2.2 t2.2, Res.cells g2 27 [.ints .u64 x2 4], Res.cells g1 27 [.ints .u64 x1 4]] (fun (ch : Unit) => ((.tup [(false, [.one (.int .i64 t3.1)]), (false, [.one (.bool t3.2)])]) : D)) (fun (ch : Unit) => []) (fun (ch : Unit) => [Res.cells ch1.1 72 [.one (.slice ch2.1 ch2.2.1 ch2.2.2)], Res.row (Ty.int .u8) 5 ch2.1 ch2.2.1 ch2.2.2 t2.2, Res.cells g2 27 [.ints .u64 x2 4], Res.cells g1 27 [.ints .u64 x1 4]]) (fun _ => rfl) N17 rfl rfl (fun ok => ok) (.cons .here (.cons .here (.cons .here (.cons .here .nil)))) rfl (smithyref10_Reach.ok 32 x1 x2 t3 et3 _ _) ?_; clear S a w; intro ch3 m le1 a w S
    refine s_move S rfl rfl ?_; clear S a; intro a S
    refine s_extract S rfl rfl rfl rfl ?_; clear S a; intro a S
    refine s_extract S rfl rfl rfl rfl ?_; clear S a; intro a S
    refine s_assign S rfl rfl ?_; clear S a; intro a S
    refine s_assign S rfl rfl ?_; clear S a; intro a S
    refine c_end ?_
    refine wp_seq ?_
    refine wp_seq_k ?_
    intro K1 hK1
    have j1 : ∀ (m : Mem) (y1 : Bool) (g3 : Nat) (g4 : Nat) (g5 : Nat) (A1 : Option Addr) (nn1 : Nat) (cp1 : Nat) (a : Act) (w : World), St 78 m b0 [(30, (.v (.bool y1))), (7, (.v (.bool t3.2))), (6, (.v (.int .i64 t3.1))), (5, (.v (.pointer (some ⟨g3, 0, none⟩)))), (3, (.v (.pointer (some ⟨g4, 0, none⟩)))), (2, (.v (.pointer (some ⟨g5, 0, none⟩))))] [Res.cells g3 72 [.one (.slice A1 nn1 cp1)], Res.row (Ty.int .u8) 5 A1 nn1 cp1 t2.2, Res.cells g4 27 [.ints .u64 x2 4], Res.cells g5 27 [.ints .u64 x1 4]] a w → smithylaw10_MemFar.j1 x1 x2 t2 t3 y1 = some r → K1 a w := by
      intro m y1 g3 g4 g5 A1 nn1 cp1 a w S h0
      delta smithylaw10_MemFar.j1 at h0
      refine hK1 a w ?_
      rcases ite_of h0 with ⟨c2, h1⟩ | ⟨c2, h1⟩ <;> clear h0
      · refine c_condT S rfl c2 ?_
        refine c_region ?_
        obtain ⟨t4, et4, h2⟩ := bind_of h1; clear h1
        refine s_callX S (ds' := []) (ds := []) [] [Res.cells g3 72 [.one (.slice A1 nn1 cp1)], Res.row (Ty.int .u8) 5 A1 nn1 cp1 t2.2, Res.cells g4 27 [.ints .u64 x2 4], Res.cells g5 27 [.ints .u64 x1 4]] (fun (ch : Unit) => ((.v (.bool t4)) : D)) (fun (ch : Unit) => []) (fun (ch : Unit) => [Res.cells g3 72 [.one (.slice A1 nn1 cp1)], Res.row (Ty.int .u8) 5 A1 nn1 cp1 t2.2, Res.cells g4 27 [.ints .u64 x2 4], Res.cells g5 27 [.ints .u64 x1 4]]) (fun _ => rfl) N12 rfl rfl (fun ok => ok) (.cons .here (.cons .here (.cons .here (.cons .here .nil)))) rfl (smithylaw10_fixed.ok t4 et4 _ _) ?_; clear S a w; intro ch4 m le1 a w S
        refine s_assign S rfl rfl ?_; clear S a; intro a S
        refine c_end ?_
        refine wp_ret ?_
        refine x_thenR ?_
        obtain rfl := Option.some.inj h2
        exact b_ret1 (d := (.v (.bool t4))) S rfl rfl fun ok => S.retX (Hx := []) hb _ _ (() : Unit) .nil ok
      · refine c_condF S rfl c2 ?_
        refine wp_skip ?_
        refine x_thenN ?_
        refine c_region ?_
        refine s_move S rfl rfl ?_; clear S a; intro a S
        refine s_loada S rfl (.there (.there (.there .here))) T27 (s' := [.ints .u64 x1 4]) rfl rfl ?_; clear S a; intro a S
        refine s_loada S rfl (.there (.there .here)) T27 (s' := [.ints .u64 x2 4]) rfl rfl ?_; clear S a; intro a S
        obtain ⟨t5, et5, h2⟩ := bind_of h1; clear h1
        refine s_callX S (ds' := [(.v (.pointer (some ⟨g3, 0, none⟩))), (.agg [.ints .u64 x1 4]), (.agg [.ints .u64 x2 4])]) (ds := [(.v (.pointer (some ⟨g3, 0, none⟩))), (.agg [.ints .u64 x1 4]), (.agg [.ints .u64 x2 4])]) [Res.cells g3 72 [.one (.slice A1 nn1 cp1)], Res.row (Ty.int .u8) 5 A1 nn1 cp1 t2.2] [Res.cells g4 27 [.ints .u64 x2 4], Res.cells g5 27 [.ints .u64 x1 4]] (fun (ch : Unit) => ((.tup [(false, [.one (.int .u64 t5.1)]), (false, [.one (.bool t5.2)])]) : D)) (fun (ch : Unit) => [Res.cells g3 72 [.one (.slice A1 nn1 cp1)], Res.row (Ty.int .u8) 5 A1 nn1 cp1 t2.2]) (fun (ch : Unit) => [Res.cells g3 72 [.one (.slice A1 nn1 cp1)], Res.row (Ty.int .u8) 5 A1 nn1 cp1 t2.2, Res.cells g4 27 [.ints .u64 x2 4], Res.cells g5 27 [.ints .u64 x1 4]]) (fun _ => rfl) N18 rfl rfl (fun ok => ok) (.cons .here (.cons .here (.cons .here (.cons .here .nil)))) rfl (mem_Memory_Cost.ok (t2.2) x1 x2 g3 A1 nn1 cp1 t5 et5 _ _) ?_; clear S a w; intro ch5 m le1 a w S
        refine s_move S rfl rfl ?_; clear S a; intro a S
        refine s_extract S rfl rfl rfl rfl ?_; clear S a; intro a S
        refine s_extract S rfl rfl rfl rfl ?_; clear S a; intro a S
        refine s_assign S rfl rfl ?_; clear S a; intro a S
        refine s_assign S rfl rfl ?_; clear S a; intro a S
        refine c_end ?_
        refine wp_seq ?_
        refine c_region ?_
        refine s_move S rfl rfl ?_; clear S a; intro a S
        refine s_not S rfl rfl ?_; clear S a; intro a S
        refine c_end ?_
        rcases ite_of h2 with ⟨c3, h3⟩ | ⟨c3, h3⟩ <;> clear h2
        · refine c_condT S rfl c3 ?_
          refine c_region ?_
          obtain ⟨t6, et6, h4⟩ := bind_of h3; clear h3
          refine s_callX S (ds' := []) (ds := []) [] [Res.cells g3 72 [.one (.slice A1 nn1 cp1)], Res.row (Ty.int .u8) 5 A1 nn1 cp1 t2.2, Res.cells g4 27 [.ints .u64 x2 4], Res.cells g5 27 [.ints .u64 x1 4]] (fun (ch : Unit) => ((.v (.bool t6)) : D)) (fun (ch : Unit) => []) (fun (ch : Unit) => [Res.cells g3 72 [.one (.slice A1 nn1 cp1)], Res.row (Ty.int .u8) 5 A1 nn1 cp1 t2.2, Res.cells g4 27 [.ints .u64 x2 4], Res.cells g5 27 [.ints .u64 x1 4]]) (fun _ => rfl) N12 rfl rfl (fun ok => ok) (.cons .here (.cons .here (.cons .here (.cons .here .nil)))) rfl (smithylaw10_fixed.ok t6 et6 _ _) ?_; clear S a w; intro ch6 m le1 a w S
          refine s_move S rfl rfl ?_; clear S a; intro a S
          rcases ite_of h4 with ⟨c4, h5⟩ | ⟨c4, h5⟩ <;> clear h4
          · refine s_gT S (b := t6) rfl rfl c4 ?_
            refine s_move S rfl rfl ?_; clear S a; intro a S
            refine s_gT S (b := t6) rfl rfl c4 ?_
            refine s_not S rfl rfl ?_; clear S a; intro a S
            refine s_pick S (b := true) (hc_of rfl c4) rfl rfl ?_; clear S a; intro a S
            refine s_move S rfl rfl ?_; clear S a; intro a S
            rcases ite_of h5 with ⟨c5, h6⟩ | ⟨c5, h6⟩ <;> clear h5
            · refine s_gT S (b := (!t5.2)) rfl rfl c5 ?_
              refine s_move S rfl rfl ?_; clear S a; intro a S
              refine s_gT S (b := (!t5.2)) rfl rfl c5 ?_
              refine s_bin S rfl rfl rfl rfl ?_; clear S a; intro a S
              refine s_pick S (b := true) (hc_of rfl c5) rfl rfl ?_; clear S a; intro a S
              refine s_move S rfl rfl ?_; clear S a; intro a S
              rcases ite_of h6 with ⟨c6, h7⟩ | ⟨c6, h7⟩ <;> clear h6
              · refine s_gT S (b := (t5.1 == 0)) rfl rfl c6 ?_
                refine s_move S rfl rfl ?_; clear S a; intro a S
                refine s_gT S (b := (t5.1 == 0)) rfl rfl c6 ?_
                refine s_loada S rfl (.there (.there (.there .here))) T27 (s' := [.ints .u64 x1 4]) rfl rfl ?_; clear S a; intro a S
                refine s_gT S (b := (t5.1 == 0)) rfl rfl c6 ?_
                refine s_loada S rfl (.there (.there .here)) T27 (s' := [.ints .u64 x2 4]) rfl rfl ?_; clear S a; intro a S
                refine s_gT S (b := (t5.1 == 0)) rfl rfl c6 ?_
                obtain ⟨t7, et7, h8⟩ := bind_of h7; clear h7
                refine s_callX S (ds' := [(.v (.pointer (some ⟨g3, 0, none⟩))), (.agg [.ints .u64 x1 4]), (.agg [.ints .u64 x2 4])]) (ds := [(.v (.pointer (some ⟨g3, 0, none⟩))), (.agg [.ints .u64 x1 4]), (.agg [.ints .u64 x2 4])]) [Res.cells g3 72 [.one (.slice A1 nn1 cp1)], Res.row (Ty.int .u8) 5 A1 nn1 cp1 t2.2] [Res.cells g4 27 [.ints .u64 x2 4], Res.cells g5 27 [.ints .u64 x1 4]] (fun (ch : (Option Addr) × Nat × Nat) => ((.v (.bool t7.1)) : D)) (fun (ch : (Option Addr) × Nat × Nat) => [Res.cells g3 72 [.one (.slice ch.1 ch.2.1 ch.2.2)], Res.row (Ty.int .u8) 5 ch.1 ch.2.1 ch.2.2 t7.2]) (fun (ch : (Option Addr) × Nat × Nat) => [Res.cells g3 72 [.one (.slice ch.1 ch.2.1 ch.2.2)], Res.row (Ty.int .u8) 5 ch.1 ch.2.1 ch.2.2 t7.2, Res.cells g4 27 [.ints .u64 x2 4], Res.cells g5 27 [.ints .u64 x1 4]]) (fun _ => rfl) N16 rfl rfl (fun ok => ok) (.cons .here (.cons .here (.cons .here (.cons .here .nil)))) rfl (mem_Memory_Reach.ok (t2.2) x1 x2 g3 A1 nn1 cp1 t7 et7 _ _) ?_; clear S a w; intro ch7 m le1 a w S
                refine s_gT S (b := (t5.1 == 0)) rfl rfl c6 ?_
                refine s_not S rfl rfl ?_; clear S a; intro a S
                refine s_pick S (b := true) (hc_of rfl c6) rfl rfl ?_; clear S a; intro a S
                refine s_move S rfl rfl ?_; clear S a; intro a S
                rcases ite_of h8 with ⟨c7, h9⟩ | ⟨c7, h9⟩ <;> clear h8
                · refine s_gT S (b := (!t7.1)) rfl rfl c7 ?_
                  refine s_move S rfl rfl ?_; clear S a; intro a S
                  refine s_gT S (b := (!t7.1)) rfl rfl c7 ?_
                  obtain ⟨t8, et8, h10⟩ := bind_of h9; clear h9
                  refine s_callX S (ds' := [(.v (.pointer (some ⟨g3, 0, none⟩)))]) (ds := [(.v (.pointer (some ⟨g3, 0, none⟩)))]) [Res.cells g3 72 [.one (.slice ch7.1 ch7.2.1 ch7.2.2)], Res.row (Ty.int .u8) 5 ch7.1 ch7.2.1 ch7.2.2 t7.2] [Res.cells g4 27 [.ints .u64 x2 4], Res.cells g5 27 [.ints .u64 x1 4]] (fun (ch : Unit) => ((.v (.int .i64 t8)) : D)) (fun (ch : Unit) => [Res.cells g3 72 [.one (.slice ch7.1 ch7.2.1 ch7.2.2)], Res.row (Ty.int .u8) 5 ch7.1 ch7.2.1 ch7.2.2 t7.2]) (fun (ch : Unit) => [Res.cells g3 72 [.one (.slice ch7.1 ch7.2.1 ch7.2.2)], Res.row (Ty.int .u8) 5 ch7.1 ch7.2.1 ch7.2.2 t7.2, Res.cells g4 27 [.ints .u64 x2 4], Res.cells g5 27 [.ints .u64 x1 4]]) (fun _ => rfl) N19 rfl rfl (fun ok => ok) (.cons .here (.cons .here (.cons .here (.cons .here .nil)))) rfl (mem_Memory_Len.ok (t7.2) g3 ch7.1 ch7.2.1 ch7.2.2 t8 et8 _ _) ?_; clear S a w; intro ch8 m le1 a w S
                  refine s_gT S (b := (!t7.1)) rfl rfl c7 ?_
                  refine s_bin S rfl rfl rfl rfl ?_; clear S a; intro a S
                  refine s_pick S (b := true) (hc_of rfl c7) rfl rfl ?_; clear S a; intro a S
                  refine s_assign S rfl rfl ?_; clear S a; intro a S
                  refine c_end ?_
                  refine wp_ret ?_
                  refine x_thenR ?_
                  obtain rfl := Option.some.inj h10
                  exact b_ret1 (d := (.v (.bool (t8 == 32)))) S rfl rfl fun ok => S.retX (Hx := []) hb _ _ (() : Unit) .nil ok
                · refine s_gF S (b := (!t7.1)) rfl rfl c7 rfl ?_; clear S a; intro a S
                  refine s_gF S (b := (!t7.1)) rfl rfl c7 rfl ?_; clear S a; intro a S
                  refine s_gF S (b := (!t7.1)) rfl rfl c7 rfl ?_; clear S a; intro a S
                  refine s_pick S (b := false) (hc_of rfl c7) rfl rfl ?_; clear S a; intro a S
                  refine s_assign S rfl rfl ?_; clear S a; intro a S
                  refine c_end ?_
                  refine wp_ret ?_
                  refine x_thenR ?_
                  obtain rfl := Option.some.inj h9
                  exact b_ret1 (d := (.v (.bool false))) S rfl rfl fun ok => S.retX (Hx := []) hb _ _ (() : Unit) .nil ok
              · refine s_gF S (b := (t5.1 == 0)) rfl rfl c6 rfl ?_; clear S a; intro a S
                refine s_gF S (b := (t5.1 == 0)) rfl rfl c6 rfl ?_; clear S a; intro a S
                refine s_gF S (b := (t5.1 == 0)) rfl rfl c6 rfl ?_; clear S a; intro a S
                refine s_gF S (b := (t5.1 == 0)) rfl rfl c6 rfl ?_; clear S a; intro a S
                refine s_gF S (b := (t5.1 == 0)) rfl rfl c6 rfl ?_; clear S a; intro a S
                refine s_pick S (b := false) (hc_of rfl c6) rfl rfl ?_; clear S a; intro a S
                refine s_move S rfl rfl ?_; clear S a; intro a S
                refine s_gF S (b := false) rfl rfl rfl rfl ?_; clear S a; intro a S
                refine s_gF S (b := false) rfl rfl rfl rfl ?_; clear S a; intro a S
                refine s_gF S (b := false) rfl rfl rfl rfl ?_; clear S a; intro a S
                refine s_pick S (b := false) (hc_of rfl rfl) rfl rfl ?_; clear S a; intro a S
                refine s_assign S rfl rfl ?_; clear S a; intro a S
                refine c_end ?_
                refine wp_ret ?_
                refine x_thenR ?_
                obtain rfl := Option.some.inj h7
                exact b_ret1 (d := (.v (.bool false))) S rfl rfl fun ok => S.retX (Hx := []) hb _ _ (() : Unit) .nil ok
            · refine s_gF S (b := (!t5.2)) rfl rfl c5 rfl ?_; clear S a; intro a S
              refine s_gF S (b := (!t5.2)) rfl rfl c5 rfl ?_; clear S a; intro a S
              refine s_pick S (b := false) (hc_of rfl c5) rfl rfl ?_; clear S a; intro a S
              refine s_move S rfl rfl ?_; clear S a; intro a S
              refine s_gF S (b := false) rfl rfl rfl rfl ?_; clear S a; intro a S
              refine s_gF S (b := false) rfl rfl rfl rfl ?_; clear S a; intro a S
              refine s_gF S (b := false) rfl rfl rfl rfl ?_; clear S a; intro a S
              refine s_gF S (b := false) rfl rfl rfl rfl ?_; clear S a; intro a S
              refine s_gF S (b := false) rfl rfl rfl rfl ?_; clear S a; intro a S
              refine s_pick S (b := false) (hc_of rfl rfl) rfl rfl ?_; clear S a; intro a S
              refine s_move S rfl rfl ?_; clear S a; intro a S
              refine s_gF S (b := false) rfl rfl rfl rfl ?_; clear S a; intro a S
              refine s_gF S (b := false) rfl rfl rfl rfl ?_; clear S a; intro a S
              refine s_gF S (b := false) rfl rfl rfl rfl ?_; clear S a; intro a S
              refine s_pick S (b := false) (hc_of rfl rfl) rfl rfl ?_; clear S a; intro a S
              refine s_assign S rfl rfl ?_; clear S a; intro a S
              refine c_end ?_
              refine wp_ret ?_
              refine x_thenR ?_
              obtain rfl := Option.some.inj h6
              exact b_ret1 (d := (.v (.bool false))) S rfl rfl fun ok => S.retX (Hx := []) hb _ _ (() : Unit) .nil ok
          · refine s_gF S (b := t6) rfl rfl c4 rfl ?_; clear S a; intro a S
            refine s_gF S (b := t6) rfl rfl c4 rfl ?_; clear S a; intro a S
            refine s_pick S (b := false) (hc_of rfl c4) rfl rfl ?_; clear S a; intro a S
            refine s_move S rfl rfl ?_; clear S a; intro a S
            refine s_gF S (b := false) rfl rfl rfl rfl ?_; clear S a; intro a S
            refine s_gF S (b := false) rfl rfl rfl rfl ?_; clear S a; intro a S
            refine s_pick S (b := false) (hc_of rfl rfl) rfl rfl ?_; clear S a; intro a S
            refine s_move S rfl rfl ?_; clear S a; intro a S
            refine s_gF S (b := false) rfl rfl rfl rfl ?_; clear S a; intro a S
            refine s_gF S (b := false) rfl rfl rfl rfl ?_; clear S a; intro a S
            refine s_gF S (b := false) rfl rfl rfl rfl ?_; clear S a; intro a S
            refine s_gF S (b := false) rfl rfl rfl rfl ?_; clear S a; intro a S
            refine s_gF S (b := false) rfl rfl rfl rfl ?_; clear S a; intro a S
            refine s_pick S (b := false) (hc_of rfl rfl) rfl rfl ?_; clear S a; intro a S
            refine s_move S rfl rfl ?_; clear S a; intro a S
            refine s_gF S (b := false) rfl rfl rfl rfl ?_; clear S a; intro a S
            refine s_gF S (b := false) rfl rfl rfl rfl ?_; clear S a; intro a S
            refine s_gF S (b := false) rfl rfl rfl rfl ?_; clear S a; intro a S
            refine s_pick S (b := false) (hc_of rfl rfl) rfl rfl ?_; clear S a; intro a S
            refine s_assign S rfl rfl ?_; clear S a; intro a S
            refine c_end ?_
            refine wp_ret ?_
            refine x_thenR ?_
            obtain rfl := Option.some.inj h5
            exact b_ret1 (d := (.v (.bool false))) S rfl rfl fun ok => S.retX (Hx := []) hb _ _ (() : Unit) .nil ok
        · refine c_condF S rfl c3 ?_
          refine wp_skip ?_
          refine x_thenN ?_
          refine c_region ?_
          obtain ⟨t9, et9, h4⟩ := bind_of h3; clear h3
          refine s_callX S (ds' := []) (ds := []) [] [Res.cells g3 72 [.one (.slice A1 nn1 cp1)], Res.row (Ty.int .u8) 5 A1 nn1 cp1 t2.2, Res.cells g4 27 [.ints .u64 x2 4], Res.cells g5 27 [.ints .u64 x1 4]] (fun (ch : Unit) => ((.v (.bool t9)) : D)) (fun (ch : Unit) => []) (fun (ch : Unit) => [Res.cells g3 72 [.one (.slice A1 nn1 cp1)], Res.row (Ty.int .u8) 5 A1 nn1 cp1 t2.2, Res.cells g4 27 [.ints .u64 x2 4], Res.cells g5 27 [.ints .u64 x1 4]]) (fun _ => rfl) N12 rfl rfl (fun ok => ok) (.cons .here (.cons .here (.cons .here (.cons .here .nil)))) rfl (smithylaw10_fixed.ok t9 et9 _ _) ?_; clear S a w; intro ch9 m le1 a w S
          refine s_move S rfl rfl ?_; clear S a; intro a S
          rcases ite_of h4 with ⟨c8, h5⟩ | ⟨c8, h5⟩ <;> clear h4
          · refine s_gT S (b := t9) rfl rfl c8 ?_
            refine s_move S rfl rfl ?_; clear S a; intro a S
            refine s_pick S (b := true) (hc_of rfl c8) rfl rfl ?_; clear S a; intro a S
            refine s_move S rfl rfl ?_; clear S a; intro a S
            rcases ite_of h5 with ⟨c9, h6⟩ | ⟨c9, h6⟩ <;> clear h5
            · refine s_gT S (b := t5.2) rfl rfl c9 ?_
              refine s_move S rfl rfl ?_; clear S a; intro a S
              refine s_gT S (b := t5.2) rfl rfl c9 ?_
              refine s_loada S rfl (.there (.there (.there .here))) T27 (s' := [.ints .u64 x1 4]) rfl rfl ?_; clear S a; intro a S
              refine s_gT S (b := t5.2) rfl rfl c9 ?_
              refine s_loada S rfl (.there (.there .here)) T27 (s' := [.ints .u64 x2 4]) rfl rfl ?_; clear S a; intro a S
              refine s_gT S (b := t5.2) rfl rfl c9 ?_
              obtain ⟨t10, et10, h7⟩ := bind_of h6; clear h6
              refine s_callX S (ds' := [(.v (.pointer (some ⟨g3, 0, none⟩))), (.agg [.ints .u64 x1 4]), (.agg [.ints .u64 x2 4])]) (ds := [(.v (.pointer (some ⟨g3, 0, none⟩))), (.agg [.ints .u64 x1 4]), (.agg [.ints .u64 x2 4])]) [Res.cells g3 72 [.one (.slice A1 nn1 cp1)], Res.row (Ty.int .u8) 5 A1 nn1 cp1 t2.2] [Res.cells g4 27 [.ints .u64 x2 4], Res.cells g5 27 [.ints .u64 x1 4]] (fun (ch : (Option Addr) × Nat × Nat) => ((.v (.bool t10.1)) : D)) (fun (ch : (Option Addr) × Nat × Nat) => [Res.cells g3 72 [.one (.slice ch.1 ch.2.1 ch.2.2)], Res.row (Ty.int .u8) 5 ch.1 ch.2.1 ch.2.2 t10.2]) (fun (ch : (Option Addr) × Nat × Nat) => [Res.cells g3 72 [.one (.slice ch.1 ch.2.1 ch.2.2)], Res.row (Ty.int .u8) 5 ch.1 ch.2.1 ch.2.2 t10.2, Res.cells g4 27 [.ints .u64 x2 4], Res.cells g5 27 [.ints .u64 x1 4]]) (fun _ => rfl) N16 rfl rfl (fun ok => ok) (.cons .here (.cons .here (.cons .here (.cons .here .nil)))) rfl (mem_Memory_Reach.ok (t2.2) x1 x2 g3 A1 nn1 cp1 t10 et10 _ _) ?_; clear S a w; intro ch10 m le1 a w S
              refine s_pick S (b := true) (hc_of rfl c9) rfl rfl ?_; clear S a; intro a S
              refine s_move S rfl rfl ?_; clear S a; intro a S
              rcases ite_of h7 with ⟨c10, h8⟩ | ⟨c10, h8⟩ <;> clear h7
              · refine s_gT S (b := t10.1) rfl rfl c10 ?_
                refine s_move S rfl rfl ?_; clear S a; intro a S
                refine s_gT S (b := t10.1) rfl rfl c10 ?_
                obtain ⟨t11, et11, h9⟩ := bind_of h8; clear h8
                refine s_callX S (ds' := [(.v (.pointer (some ⟨g3, 0, none⟩)))]) (ds := [(.v (.pointer (some ⟨g3, 0, none⟩)))]) [Res.cells g3 72 [.one (.slice ch10.1 ch10.2.1 ch10.2.2)], Res.row (Ty.int .u8) 5 ch10.1 ch10.2.1 ch10.2.2 t10.2] [Res.cells g4 27 [.ints .u64 x2 4], Res.cells g5 27 [.ints .u64 x1 4]] (fun (ch : Unit) => ((.v (.int .i64 t11)) : D)) (fun (ch : Unit) => [Res.cells g3 72 [.one (.slice ch10.1 ch10.2.1 ch10.2.2)], Res.row (Ty.int .u8) 5 ch10.1 ch10.2.1 ch10.2.2 t10.2]) (fun (ch : Unit) => [Res.cells g3 72 [.one (.slice ch10.1 ch10.2.1 ch10.2.2)], Res.row (Ty.int .u8) 5 ch10.1 ch10.2.1 ch10.2.2 t10.2, Res.cells g4 27 [.ints .u64 x2 4], Res.cells g5 27 [.ints .u64 x1 4]]) (fun _ => rfl) N19 rfl rfl (fun ok => ok) (.cons .here (.cons .here (.cons .here (.cons .here .nil)))) rfl (mem_Memory_Len.ok (t10.2) g3 ch10.1 ch10.2.1 ch10.2.2 t11 et11 _ _) ?_; clear S a w; intro ch11 m le1 a w S
                refine s_gT S (b := t10.1) rfl rfl c10 ?_
                refine s_move S rfl rfl ?_; clear S a; intro a S
                refine s_gT S (b := t10.1) rfl rfl c10 ?_
                refine s_bin S rfl rfl rfl rfl ?_; clear S a; intro a S
                refine s_pick S (b := true) (hc_of rfl c10) rfl rfl ?_; clear S a; intro a S
                refine s_assign S rfl rfl ?_; clear S a; intro a S
                refine c_end ?_
                refine wp_ret ?_
                obtain rfl := Option.some.inj h9
                exact b_ret1 (d := (.v (.bool (t11 == t3.1)))) S rfl rfl fun ok => S.retX (Hx := []) hb _ _ (() : Unit) .nil ok
              · refine s_gF S (b := t10.1) rfl rfl c10 rfl ?_; clear S a; intro a S
                refine s_gF S (b := t10.1) rfl rfl c10 rfl ?_; clear S a; intro a S
                refine s_gF S (b := t10.1) rfl rfl c10 rfl ?_; clear S a; intro a S
                refine s_gF S (b := t10.1) rfl rfl c10 rfl ?_; clear S a; intro a S
                refine s_pick S (b := false) (hc_of rfl c10) rfl rfl ?_; clear S a; intro a S
                refine s_assign S rfl rfl ?_; clear S a; intro a S
                refine c_end ?_
                refine wp_ret ?_
                obtain rfl := Option.some.inj h8
                exact b_ret1 (d := (.v (.bool false))) S rfl rfl fun ok => S.retX (Hx := []) hb _ _ (() : Unit) .nil ok
            · refine s_gF S (b := t5.2) rfl rfl c9 rfl ?_; clear S a; intro a S
              refine s_gF S (b := t5.2) rfl rfl c9 rfl ?_; clear S a; intro a S
              refine s_gF S (b := t5.2) rfl rfl c9 rfl ?_; clear S a; intro a S
              refine s_gF S (b := t5.2) rfl rfl c9 rfl ?_; clear S a; intro a S
              refine s_pick S (b := false) (hc_of rfl c9) rfl rfl ?_; clear S a; intro a S
              refine s_move S rfl rfl ?_; clear S a; intro a S
              refine s_gF S (b := false) rfl rfl rfl rfl ?_; clear S a; intro a S
              refine s_gF S (b := false) rfl rfl rfl rfl ?_; clear S a; intro a S
              refine s_gF S (b := false) rfl rfl rfl rfl ?_; clear S a; intro a S
              refine s_gF S (b := false) rfl rfl rfl rfl ?_; clear S a; intro a S
              refine s_pick S (b := false) (hc_of rfl rfl) rfl rfl ?_; clear S a; intro a S
              refine s_assign S rfl rfl ?_; clear S a; intro a S
              refine c_end ?_
              refine wp_ret ?_
              obtain rfl := Option.some.inj h6
              exact b_ret1 (d := (.v (.bool false))) S rfl rfl fun ok => S.retX (Hx := []) hb _ _ (() : Unit) .nil ok
          · refine s_gF S (b := t9) rfl rfl c8 rfl ?_; clear S a; intro a S
            refine s_pick S (b := false) (hc_of rfl c8) rfl rfl ?_; clear S a; intro a S
            refine s_move S rfl rfl ?_; clear S a; intro a S
            refine s_gF S (b := false) rfl rfl rfl rfl ?_; clear S a; intro a S
            refine s_gF S (b := false) rfl rfl rfl rfl ?_; clear S a; intro a S
            refine s_gF S (b := false) rfl rfl rfl rfl ?_; clear S a; intro a S
            refine s_gF S (b := false) rfl rfl rfl rfl ?_; clear S a; intro a S
            refine s_pick S (b := false) (hc_of rfl rfl) rfl rfl ?_; clear S a; intro a S
            refine s_move S rfl rfl ?_; clear S a; intro a S
            refine s_gF S (b := false) rfl rfl rfl rfl ?_; clear S a; intro a S
            refine s_gF S (b := false) rfl rfl rfl rfl ?_; clear S a; intro a S
            refine s_gF S (b := false) rfl rfl rfl rfl ?_; clear S a; intro a S
            refine s_gF S (b := false) rfl rfl rfl rfl ?_; clear S a; intro a S
            refine s_pick S (b := false) (hc_of rfl rfl) rfl rfl ?_; clear S a; intro a S
            refine s_assign S rfl rfl ?_; clear S a; intro a S
            refine c_end ?_
            refine wp_ret ?_
            obtain rfl := Option.some.inj h5
            exact b_ret1 (d := (.v (.bool false))) S rfl rfl fun ok => S.retX (Hx := []) hb _ _ (() : Unit) .nil ok
    refine c_region' ?_
    refine s_move S rfl rfl ?_; clear S a; intro a S
    refine s_move S rfl rfl ?_; clear S a; intro a S
    rcases ite_of h4 with ⟨c11, h5⟩ | ⟨c11, h5⟩ <;> clear h4
    · refine s_gT S (b := t3.2) rfl rfl c11 ?_
      refine s_move S rfl rfl ?_; clear S a; intro a S
      refine s_gT S (b := t3.2) rfl rfl c11 ?_
      refine s_bin S rfl rfl rfl rfl ?_; clear S a; intro a S
      refine s_pick S (b := true) (hc_of rfl c11) rfl rfl ?_; clear S a; intro a S
      refine c_end' ?_
      refine x_thenN ?_
      exact j1 _ (decide (300000 < t3.1)) ch1.1 g2 g1 ch2.1 ch2.2.1 ch2.2.2 a w (S.sub ⟨rfl, rfl, rfl, rfl, rfl, rfl, trivial⟩ (.cons .here (.cons .here (.cons .here (.cons .here .nil))))) h5
    · refine s_gF S (b := t3.2) rfl rfl c11 rfl ?_; clear S a; intro a S
      refine s_gF S (b := t3.2) rfl rfl c11 rfl ?_; clear S a; intro a S
      refine s_pick S (b := false) (hc_of rfl c11) rfl rfl ?_; clear S a; intro a S
      refine c_end' ?_
      refine x_thenN ?_
      exact j1 _ false ch1.1 g2 g1 ch2.1 ch2.2.1 ch2.2.2 a w (S.sub ⟨rfl, rfl, rfl, rfl, rfl, rfl, trivial⟩ (.cons .here (.cons .here (.cons .here (.cons .here .nil))))) h5
/-! smithy/smithylaw10.small -/
abbrev smithylaw10_small.Ty : Type := (List Int) → Option Bool
def smithylaw10_small.Ctr (s : smithylaw10_small.Ty) : Prop := ∀ (x1 : List Int) (r : Bool) (h0 : s x1 = some r) (mi : Mem) (w0 : World), okL mi [(.agg [.ints .u64 x1 4])] → Pre mi [] w0 → Calls Try.prog 43 (([(.agg [.ints .u64 x1 4])] : List D).map D.val).toArray w0 (RetX mi [] (fun (ch : Unit) => ((.v (.bool r)) : D)) (fun (ch : Unit) => []) w0)
def smithylaw10_small.f (x1 : List Int) : Option Bool := if ((rd x1 1) == 0) = true then (if ((rd x1 2) == 0) = true then (if ((rd x1 3) == 0) = true then (some (decide ((rd x1 0) ≤ 4194304))) else (some false)) else (some false)) else (some false)
theorem smithylaw10_small.ok : smithylaw10_small.Ctr (smithylaw10_small.f) := by
  intro x1 r h0 mi w0 ok hm
  delta smithylaw10_small.f at h0
  refine c_enterX (n := 21) [(.agg [.ints .u64 x1 4])] (l := [(0, (.agg [.ints .u64 x1 4]))]) Try.func43 rfl rfl rfl rfl ok hm ?_
  clear ok hm
  intro b0 hb a S
  refine c_region ?_
  refine s_box S rfl rfl rfl ?_; clear S a; intro g1 a w S
  refine s_assign S rfl rfl ?_; clear S a; intro a S
  refine c_end ?_
  refine c_region ?_
  refine s_iaddr S (o' := 1) rfl rfl Try.underlying27 T22 (by decide) (by decide) rfl rfl ?_; clear S a; intro a S
  refine s_loadi S (i := 1) rfl .here T22 .here rfl (by decide) (by decide) rfl ?_; clear S a; intro a S
  refine s_bin S rfl rfl rfl rfl ?_; clear S a; intro a S
  refine s_move S rfl rfl ?_; clear S a; intro a S
  rcases ite_of h0 with ⟨c1, h1⟩ | ⟨c1, h1⟩ <;> clear h0
  · refine s_gT S (b := ((rd x1 1) == 0)) rfl rfl c1 ?_
    refine s_iaddr S (o' := 2) rfl rfl Try.underlying27 T22 (by decide) (by decide) rfl rfl ?_; clear S a; intro a S
    refine s_gT S (b := ((rd x1 1) == 0)) rfl rfl c1 ?_
    refine s_loadi S (i := 2) rfl .here T22 .here rfl (by decide) (by decide) rfl ?_; clear S a; intro a S
    refine s_gT S (b := ((rd x1 1) == 0)) rfl rfl c1 ?_
    refine s_bin S rfl rfl rfl rfl ?_; clear S a; intro a S
    refine s_pick S (b := true) (hc_of rfl c1) rfl rfl ?_; clear S a; intro a S
    refine s_move S rfl rfl ?_; clear S a; intro a S
    rcases ite_of h1 with ⟨c2, h2⟩ | ⟨c2, h2⟩ <;> clear h1
    · refine s_gT S (b := ((rd x1 2) == 0)) rfl rfl c2 ?_
      refine s_iaddr S (o' := 3) rfl rfl Try.underlying27 T22 (by decide) (by decide) rfl rfl ?_; clear S a; intro a S
      refine s_gT S (b := ((rd x1 2) == 0)) rfl rfl c2 ?_
      refine s_loadi S (i := 3) rfl .here T22 .here rfl (by decide) (by decide) rfl ?_; clear S a; intro a S
      refine s_gT S (b := ((rd x1 2) == 0)) rfl rfl c2 ?_
      refine s_bin S rfl rfl rfl rfl ?_; clear S a; intro a S
      refine s_pick S (b := true) (hc_of rfl c2) rfl rfl ?_; clear S a; intro a S
      refine s_move S rfl rfl ?_; clear S a; intro a S
      rcases ite_of h2 with ⟨c3, h3⟩ | ⟨c3, h3⟩ <;> clear h2
      · refine s_gT S (b := ((rd x1 3) == 0)) rfl rfl c3 ?_
        refine s_iaddr S (o' := 0) rfl rfl Try.underlying27 T22 (by decide) (by decide) rfl rfl ?_; clear S a; intro a S
        refine s_gT S (b := ((rd x1 3) == 0)) rfl rfl c3 ?_
        refine s_loadi S (i := 0) rfl .here T22 .here rfl (by decide) (by decide) rfl ?_; clear S a; intro a S
        refine s_gT S (b := ((rd x1 3) == 0)) rfl rfl c3 ?_
        refine s_bin S rfl rfl rfl rfl ?_; clear S a; intro a S
        refine s_pick S (b := true) (hc_of rfl c3) rfl rfl ?_; clear S a; intro a S
        refine s_assign S rfl rfl ?_; clear S a; intro a S
        refine c_end ?_
        refine wp_ret ?_
        obtain rfl := Option.some.inj h3
        exact b_ret1 (d := (.v (.bool (decide ((rd x1 0) ≤ 4194304))))) S rfl rfl fun ok => S.retX (Hx := []) hb _ _ (() : Unit) .nil ok
      · refine s_gF S (b := ((rd x1 3) == 0)) rfl rfl c3 rfl ?_; clear S a; intro a S
        refine s_gF S (b := ((rd x1 3) == 0)) rfl rfl c3 rfl ?_; clear S a; intro a S
        refine s_gF S (b := ((rd x1 3) == 0)) rfl rfl c3 rfl ?_; clear S a; intro a S
        refine s_pick S (b := false) (hc_of rfl c3) rfl rfl ?_; clear S a; intro a S
        refine s_assign S rfl rfl ?_; clear S a; intro a S
        refine c_end ?_
        refine wp_ret ?_
        obtain rfl := Option.some.inj h3
        exact b_ret1 (d := (.v (.bool false))) S rfl rfl fun ok => S.retX (Hx := []) hb _ _ (() : Unit) .nil ok
    · refine s_gF S (b := ((rd x1 2) == 0)) rfl rfl c2 rfl ?_; clear S a; intro a S
      refine s_gF S (b := ((rd x1 2) == 0)) rfl rfl c2 rfl ?_; clear S a; intro a S
      refine s_gF S (b := ((rd x1 2) == 0)) rfl rfl c2 rfl ?_; clear S a; intro a S
      refine s_pick S (b := false) (hc_of rfl c2) rfl rfl ?_; clear S a; intro a S
      refine s_move S rfl rfl ?_; clear S a; intro a S
      refine s_gF S (b := false) rfl rfl rfl rfl ?_; clear S a; intro a S
      refine s_gF S (b := false) rfl rfl rfl rfl ?_; clear S a; intro a S
      refine s_gF S (b := false) rfl rfl rfl rfl ?_; clear S a; intro a S
      refine s_pick S (b := false) (hc_of rfl rfl) rfl rfl ?_; clear S a; intro a S
      refine s_assign S rfl rfl ?_; clear S a; intro a S
      refine c_end ?_
      refine wp_ret ?_
      obtain rfl := Option.some.inj h2
      exact b_ret1 (d := (.v (.bool false))) S rfl rfl fun ok => S.retX (Hx := []) hb _ _ (() : Unit) .nil ok
  · refine s_gF S (b := ((rd x1 1) == 0)) rfl rfl c1 rfl ?_; clear S a; intro a S
    refine s_gF S (b := ((rd x1 1) == 0)) rfl rfl c1 rfl ?_; clear S a; intro a S
    refine s_gF S (b := ((rd x1 1) == 0)) rfl rfl c1 rfl ?_; clear S a; intro a S
    refine s_pick S (b := false) (hc_of rfl c1) rfl rfl ?_; clear S a; intro a S
    refine s_move S rfl rfl ?_; clear S a; intro a S
    refine s_gF S (b := false) rfl rfl rfl rfl ?_; clear S a; intro a S
    refine s_gF S (b := false) rfl rfl rfl rfl ?_; clear S a; intro a S
    refine s_gF S (b := false) rfl rfl rfl rfl ?_; clear S a; intro a S
    refine s_pick S (b := false) (hc_of rfl rfl) rfl rfl ?_; clear S a; intro a S
    refine s_move S rfl rfl ?_; clear S a; intro a S
    refine s_gF S (b := false) rfl rfl rfl rfl ?_; clear S a; intro a S
    refine s_gF S (b := false) rfl rfl rfl rfl ?_; clear S a; intro a S
    refine s_gF S (b := false) rfl rfl rfl rfl ?_; clear S a; intro a S
    refine s_pick S (b := false) (hc_of rfl rfl) rfl rfl ?_; clear S a; intro a S
    refine s_assign S rfl rfl ?_; clear S a; intro a S
    refine c_end ?_
    refine wp_ret ?_
    obtain rfl := Option.some.inj h1
    exact b_ret1 (d := (.v (.bool false))) S rfl rfl fun ok => S.retX (Hx := []) hb _ _ (() : Unit) .nil ok
/-! smithy/smithylaw10.cut -/
abbrev smithylaw10_cut.Ty : Type := (List (Int × Int × Int × Int × (List Int) × (List Int) × (List Int))) → Option ((List (Int × Int × Int × Int × (List Int) × (List Int) × (List Int))))
def smithylaw10_cut.Ctr (s : smithylaw10_cut.Ty) : Prop := ∀ (x1 : List (Int × Int × Int × Int × (List Int) × (List Int) × (List Int))) (ch_0_0 : Option Addr) (ch_0_1 : Nat) (r : (List (Int × Int × Int × Int × (List Int) × (List Int) × (List Int)))) (h0 : s x1 = some r) (mi : Mem) (w0 : World), okL mi [(.sl ch_0_0 (x1).length ch_0_1 (RdS (Ty.prod (Ty.int .i64) (Ty.prod (Ty.int .i64) (Ty.prod (Ty.int .i64) (Ty.prod (Ty.int .i64) (Ty.prod (Ty.arr .u64 4) (Ty.prod (Ty.arr .u64 4) (Ty.slice (Ty.int .u8)))))))) ch_0_0 x1))] → Pre mi [] w0 → Calls Try.prog 20 (([(.sl ch_0_0 (x1).length ch_0_1 (RdS (Ty.prod (Ty.int .i64) (Ty.prod (Ty.int .i64) (Ty.prod (Ty.int .i64) (Ty.prod (Ty.int .i64) (Ty.prod (Ty.arr .u64 4) (Ty.prod (Ty.arr .u64 4) (Ty.slice (Ty.int .u8)))))))) ch_0_0 x1))] : List D).map D.val).toArray w0 (RetX mi [] (fun (ch : (Option Addr) × Nat) => ((.sl ch.1 (r).length ch.2 (RdS (Ty.prod (Ty.int .i64) (Ty.prod (Ty.int .i64) (Ty.prod (Ty.int .i64) (Ty.prod (Ty.int .i64) (Ty.prod (Ty.arr .u64 4) (Ty.prod (Ty.arr .u64 4) (Ty.slice (Ty.int .u8)))))))) ch.1 r)) : D)) (fun (ch : (Option Addr) × Nat) => []) w0)
def smithylaw10_cut.j1 (x1 : List (Int × Int × Int × Int × (List Int) × (List Int) × (List Int))) : Option ((List (Int × Int × Int × Int × (List Int) × (List Int) × (List Int)))) := some x1
def smithylaw10_cut.j2 (x1 : List (Int × Int × Int × Int × (List Int) × (List Int) × (List Int))) (y1 : Int) (rec1 : Int → Option ((List (Int × Int × Int × Int × (List Int) × (List Int) × (List Int))))) (y2 : Bool) : Option ((List (Int × Int × Int × Int × (List Int) × (List Int) × (List Int)))) := if y2 = true then (if (0 : Int) ≤ 0 ∧ (0 : Int) ≤ y1 ∧ y1 ≤ ((x1).length : Int) then (some (x1.take (Int.toNat y1))) else none) else (rec1 (wr .i64 (y1 + 1)))
def smithylaw10_cut.b1 (x1 : List (Int × Int × Int × Int × (List Int) × (List Int) × (List Int))) (rec1 : Int → Option ((List (Int × Int × Int × Int × (List Int) × (List Int) × (List Int))))) (y1 : Int) : Option ((List (Int × Int × Int × Int × (List Int) × (List Int) × (List Int)))) := if (decide (y1 < ((x1).length : Int))) = true then (if 0 ≤ y1 ∧ y1 < ((x1).length : Int) then (if (decide (100 < y1)) = true then (smithylaw10_cut.j2 x1 y1 rec1 true) else (if (decide (1000 < (((gt x1 y1).2.2.2.2.2.2).length : Int))) = true then (smithylaw10_cut.j2 x1 y1 rec1 true) else (if (((gt x1 y1).1) == 0) = true then ((smithylaw10_small.f ((gt x1 y1).2.2.2.2.1)).bind fun t1 => (if t1 = true then ((smithylaw10_small.f ((gt x1 y1).2.2.2.2.2.1)).bind fun t2 => (if t2 = true then (if (decide (250000 < (wr .u64 ((rd ((gt x1 y1).2.2.2.2.1) 0) + (rd ((gt x1 y1).2.2.2.2.2.1) 0))))) = true then (if (decide ((wr .u64 ((rd ((gt x1 y1).2.2.2.2.1) 0) + (rd ((gt x1 y1).2.2.2.2.2.1) 0))) ≤ 4194304)) = true then (smithylaw10_cut.j2 x1 y1 rec1 true) else (smithylaw10_cut.j2 x1 y1 rec1 (decide (5000 < ((gt x1 y1).2.2.2.1))))) else (smithylaw10_cut.j2 x1 y1 rec1 (decide (5000 < ((gt x1 y1).2.2.2.1))))) else (smithylaw10_cut.j2 x1 y1 rec1 (decide (5000 < ((gt x1 y1).2.2.2.1)))))) else (smithylaw10_cut.j2 x1 y1 rec1 (decide (5000 < ((gt x1 y1).2.2.2.1)))))) else (smithylaw10_cut.j2 x1 y1 rec1 (decide (5000 < ((gt x1 y1).2.2.2.1))))))) else none) else (smithylaw10_cut.j1 x1)
def smithylaw10_cut.l1 (x1 : List (Int × Int × Int × Int × (List Int) × (List Int) × (List Int))) : Nat → Int → Option ((List (Int × Int × Int × Int × (List Int) × (List Int) × (List Int))))
  | 0, _ => none
  | q + 1, y1 => smithylaw10_cut.b1 x1 (smithylaw10_cut.l1 x1 q) y1
def smithylaw10_cut.f (k : Nat) (x1 : List (Int × Int × Int × Int × (List Int) × (List Int) × (List Int))) : Option ((List (Int × Int × Int × Int × (List Int) × (List Int) × (List Int)))) := smithylaw10_cut.l1 x1 k 0
theorem smithylaw10_cut.ok (k : Nat) : smithylaw10_cut.Ctr (smithylaw10_cut.f k) := by
  intro x1 ch_0_0 ch_0_1 r h0 mi w0 ok hm
  delta smithylaw10_cut.f at h0
  refine c_enterX (n := 65) [(.sl ch_0_0 (x1).length ch_0_1 (RdS (Ty.prod (Ty.int .i64) (Ty.prod (Ty.int .i64) (Ty.prod (Ty.int .i64) (Ty.prod (Ty.int .i64) (Ty.prod (Ty.arr .u64 4) (Ty.prod (Ty.arr .u64 4) (Ty.slice (Ty.int .u8)))))))) ch_0_0 x1))] (l := [(0, (.sl ch_0_0 (x1).length ch_0_1 (RdS (Ty.prod (Ty.int .i64) (Ty.prod (Ty.int .i64) (Ty.prod (Ty.int .i64) (Ty.prod (Ty.int .i64) (Ty.prod (Ty.arr .u64 4) (Ty.prod (Ty.arr .u64 4) (Ty.slice (Ty.int .u8)))))))) ch_0_0 x1)))]) Try.func20 rfl rfl rfl rfl ok hm ?_
  clear ok hm
  intro b0 hb a S
  refine c_region ?_
  refine s_assign S rfl rfl ?_; clear S a; intro a S
  refine c_end ?_
  refine wp_seq_k ?_
  intro K1 hK1
  have j1 : ∀ (m : Mem) (a : Act) (w : World), St 65 m b0 [(0, (.sl ch_0_0 (x1).length ch_0_1 (RdS (Ty.prod (Ty.int .i64) (Ty.prod (Ty.int .i64) (Ty.prod (Ty.int .i64) (Ty.prod (Ty.int .i64) (Ty.prod (Ty.arr .u64 4) (Ty.prod (Ty.arr .u64 4) (Ty.slice (Ty.int .u8)))))))) ch_0_0 x1)))] [] a w → smithylaw10_cut.j1 x1 = some r → K1 a w := by
    intro m a w S h0
    delta smithylaw10_cut.j1 at h0
    refine hK1 a w ?_
    refine c_region ?_
    refine s_move S rfl rfl ?_; clear S a; intro a S
    refine s_assign S rfl rfl ?_; clear S a; intro a S
    refine c_end ?_
    refine wp_ret ?_
    obtain rfl := Option.some.inj h0
    exact b_ret1 (d := (.sl ch_0_0 (x1).length ch_0_1 (RdS (Ty.prod (Ty.int .i64) (Ty.prod (Ty.int .i64) (Ty.prod (Ty.int .i64) (Ty.prod (Ty.int .i64) (Ty.prod (Ty.arr .u64 4) (Ty.prod (Ty.arr .u64 4) (Ty.slice (Ty.int .u8)))))))) ch_0_0 x1))) S rfl rfl fun ok => S.retX (Hx := []) hb _ _ ((ch_0_0, ch_0_1) : (Option Addr) × Nat) .nil ok
  refine c_region ?_
  refine s_move S rfl rfl ?_; clear S a; intro a S
  refine s_lenS S rfl Try.underlying36 rfl ?_; clear S a; intro a S
  refine s_move S rfl rfl ?_; clear S a; intro a S
  refine c_end ?_
  refine wp_block ?_
  refine c_loop (fun q1 a w => ∃ (m : Mem) (y1 : Int), St 65 m b0 [(7, (.v (.int .i64 y1))), (6, (.v (.int .i64 ((x1).length : Int)))), (5, (.sl ch_0_0 (x1).length ch_0_1 (RdS (Ty.prod (Ty.int .i64) (Ty.prod (Ty.int .i64) (Ty.prod (Ty.int .i64) (Ty.prod (Ty.int .i64) (Ty.prod (Ty.arr .u64 4) (Ty.prod (Ty.arr .u64 4) (Ty.slice (Ty.int .u8)))))))) ch_0_0 x1))), (0, (.sl ch_0_0 (x1).length ch_0_1 (RdS (Ty.prod (Ty.int .i64) (Ty.prod (Ty.int .i64) (Ty.prod (Ty.int .i64) (Ty.prod (Ty.int .i64) (Ty.prod (Ty.arr .u64 4) (Ty.prod (Ty.arr .u64 4) (Ty.slice (Ty.int .u8)))))))) ch_0_0 x1)))] [] a w ∧ smithylaw10_cut.l1 x1 q1 y1 = some r) ?_ ?_ (k := k) ⟨_, 0, (S.sub ⟨rfl, rfl, rfl, rfl, trivial⟩ .nil), h0⟩
  · rintro a w ⟨m, y1, S, h0⟩
    exact (nomatch (show (none : Option ((List (Int × Int × Int × Int × (List Int) × (List Int) × (List Int))))) = some r from h0))
  · clear S h0
    rintro q1 a w ⟨m, y1, S, h0⟩
    replace h0 : smithylaw10_cut.b1 x1 (smithylaw10_cut.l1 x1 q1) y1 = some r := h0
    delta smithylaw10_cut.b1 at h0
    refine c_region ?_
    refine s_bin S rfl rfl rfl rfl ?_; clear S a; intro a S
    refine c_end ?_
    refine wp_seq ?_
    rcases ite_of h0 with ⟨c1, h1⟩ | ⟨c1, h1⟩ <;> clear h0
    · refine c_condT S rfl c1 ?_
      refine wp_skip ?_
      refine x_thenN ?_
      refine wp_seq ?_
      refine wp_block ?_
      refine c_region ?_
      refine s_move S rfl rfl ?_; clear S a; intro a S
      obtain ⟨c2, h2⟩ := chk_of h1; clear h1
      refine s_iaddrS S rfl rfl rfl Try.underlying36 T40 c2.1 c2.2 rfl ?_; clear S a; intro p1 a S
      refine s_ldA S (fun (c : Unit × Unit × Unit × Unit × Unit × Unit × (Option Addr × Nat)) => [.one (.int .i64 ((gt x1 y1).1)), .one (.int .i64 ((gt x1 y1).2.1)), .one (.int .i64 ((gt x1 y1).2.2.1)), .one (.int .i64 ((gt x1 y1).2.2.2.1)), .ints .u64 ((gt x1 y1).2.2.2.2.1) 4, .ints .u64 ((gt x1 y1).2.2.2.2.2.1) 4, .sl c.2.2.2.2.2.2.1 ((gt x1 y1).2.2.2.2.2.2).length c.2.2.2.2.2.2.2 (RdS (Ty.int .u8) c.2.2.2.2.2.2.1 ((gt x1 y1).2.2.2.2.2.2))]) rfl T40 (fun _ => rfl) rfl ?_; clear S a; intro ch1 a S
      refine s_alloc S Z40 rfl ⟨rfl, rfl, rfl, rfl, rfl, rfl, rfl, trivial⟩ rfl ?_; clear S a w; intro g1 a w S
      refine s_assign S rfl rfl ?_; clear S a; intro a S
      refine s_store S rfl rfl rfl (s' := [.one (.int .i64 ((gt x1 y1).1)), .one (.int .i64 ((gt x1 y1).2.1)), .one (.int .i64 ((gt x1 y1).2.2.1)), .one (.int .i64 ((gt x1 y1).2.2.2.1)), .ints .u64 ((gt x1 y1).2.2.2.2.1) 4, .ints .u64 ((gt x1 y1).2.2.2.2.2.1) 4, .sl ch1.2.2.2.2.2.2.1 ((gt x1 y1).2.2.2.2.2.2).length ch1.2.2.2.2.2.2.2 (RdS (Ty.int .u8) ch1.2.2.2.2.2.2.1 ((gt x1 y1).2.2.2.2.2.2))]) .here T40 rfl rfl ?_; clear S w; intro w S
      refine c_end ?_
      refine wp_seq_k ?_
      intro K2 hK2
      have j2 : ∀ (m : Mem) (y2 : Bool) (a : Act) (w : World), St 65 m b0 [(59, (.v (.bool y2))), (3, (.v (.int .i64 y1))), (7, (.v (.int .i64 y1))), (6, (.v (.int .i64 ((x1).length : Int)))), (5, (.sl ch_0_0 (x1).length ch_0_1 (RdS (Ty.prod (Ty.int .i64) (Ty.prod (Ty.int .i64) (Ty.prod (Ty.int .i64) (Ty.prod (Ty.int .i64) (Ty.prod (Ty.arr .u64 4) (Ty.prod (Ty.arr .u64 4) (Ty.slice (Ty.int .u8)))))))) ch_0_0 x1))), (0, (.sl ch_0_0 (x1).length ch_0_1 (RdS (Ty.prod (Ty.int .i64) (Ty.prod (Ty.int .i64) (Ty.prod (Ty.int .i64) (Ty.prod (Ty.int .i64) (Ty.prod (Ty.arr .u64 4) (Ty.prod (Ty.arr .u64 4) (Ty.slice (Ty.int .u8)))))))) ch_0_0 x1)))] [] a w → smithylaw10_cut.j2 x1 y1 (smithylaw10_cut.l1 x1 q1) y2 = some r → K2 a w := by
        intro m y2 a w S h0
        delta smithylaw10_cut.j2 at h0
        refine hK2 a w ?_
        rcases ite_of h0 with ⟨c3, h1⟩ | ⟨c3, h1⟩ <;> clear h0
        · refine c_condT S rfl c3 ?_
          refine c_region ?_
          refine s_move S rfl rfl ?_; clear S a; intro a S
          refine s_move S rfl rfl ?_; clear S a; intro a S
          obtain ⟨c4, h2⟩ := chk_of h1; clear h1
          refine s_cutS S (i := 0) (j := y1) (ys := x1.take (Int.toNat y1)) rfl rfl Try.underlying36 T40 (.inl ⟨rfl, rfl⟩) (.inr ⟨_, _, rfl, rfl⟩) c4 rfl (by simp) ?_; clear S a; intro A1 cp1 a S
          refine s_assign S rfl rfl ?_; clear S a; intro a S
          refine c_end ?_
          refine wp_ret ?_
          refine x_blockR ?_
          refine x_thenR ?_
          refine x_thenR ?_
          refine x_blockR ?_
          refine x_thenR ?_
          obtain rfl := Option.some.inj h2
          exact b_ret1 (d := (.sl A1 (x1.take (Int.toNat y1)).length cp1 (RdS (Ty.prod (Ty.int .i64) (Ty.prod (Ty.int .i64) (Ty.prod (Ty.int .i64) (Ty.prod (Ty.int .i64) (Ty.prod (Ty.arr .u64 4) (Ty.prod (Ty.arr .u64 4) (Ty.slice (Ty.int .u8)))))))) A1 (x1.take (Int.toNat y1))))) S rfl rfl fun ok => S.retX (Hx := []) hb _ _ ((A1, cp1) : (Option Addr) × Nat) .nil ok
        · refine c_condF S rfl c3 ?_
          refine wp_skip ?_
          refine x_blockN ?_
          refine x_thenN ?_
          refine c_region' ?_
          refine s_bin S rfl rfl rfl rfl ?_; clear S a; intro a S
          refine s_move S rfl rfl ?_; clear S a; intro a S
          refine c_end' ?_
          refine x_thenN ?_
          exact ⟨_, (wr .i64 (y1 + 1)), (S.sub ⟨rfl, rfl, rfl, rfl, trivial⟩ .nil), h1⟩
      refine c_region' ?_
      refine s_move S rfl rfl ?_; clear S a; intro a S
      refine s_bin S rfl rfl rfl rfl ?_; clear S a; intro a S
      refine s_move S rfl rfl ?_; clear S a; intro a S
      rcases ite_of h2 with ⟨c5, h3⟩ | ⟨c5, h3⟩ <;> clear h2
      · refine s_gF S (b := (decide (100 < y1))) rfl rfl c5 rfl ?_; clear S a; intro a S
        refine s_gF S (b := (decide (100 < y1))) rfl rfl c5 rfl ?_; clear S a; intro a S
        refine s_gF S (b := (decide (100 < y1))) rfl rfl c5 rfl ?_; clear S a; intro a S
        refine s_gF S (b := (decide (100 < y1))) rfl rfl c5 rfl ?_; clear S a; intro a S
        refine s_pick S (b := true) (hc_of rfl c5) rfl rfl ?_; clear S a; intro a S
        refine s_move S rfl rfl ?_; clear S a; intro a S
        refine s_gF S (b := true) rfl rfl rfl rfl ?_; clear S a; intro a S
        refine s_gF S (b := true) rfl rfl rfl rfl ?_; clear S a; intro a S
        refine s_gF S (b := true) rfl rfl rfl rfl ?_; clear S a; intro a S
        refine s_gF S (b := true) rfl rfl rfl rfl ?_; clear S a; intro a S
        refine s_gU S rfl rfl rfl ?_; clear S a; intro a S
        refine s_gU S rfl rfl rfl ?_; clear S a; intro a S
        refine s_gU S rfl rfl rfl ?_; clear S a; intro a S
        refine s_gF S (b := true) rfl rfl rfl rfl ?_; clear S a; intro a S
        refine s_gF S (b := true) rfl rfl rfl rfl ?_; clear S a; intro a S
        refine s_gU S rfl rfl rfl ?_; clear S a; intro a S
        refine s_gU S rfl rfl rfl ?_; clear S a; intro a S
        refine s_gU S rfl rfl rfl ?_; clear S a; intro a S
        refine s_gF S (b := true) rfl rfl rfl rfl ?_; clear S a; intro a S
        refine s_gF S (b := true) rfl rfl rfl rfl ?_; clear S a; intro a S
        refine s_gU S rfl rfl rfl ?_; clear S a; intro a S
        refine s_gU S rfl rfl rfl ?_; clear S a; intro a S
        refine s_gU S rfl rfl rfl ?_; clear S a; intro a S
        refine s_gU S rfl rfl rfl ?_; clear S a; intro a S
        refine s_gU S rfl rfl rfl ?_; clear S a; intro a S
        refine s_gU S rfl rfl rfl ?_; clear S a; intro a S
        refine s_gU S rfl rfl rfl ?_; clear S a; intro a S
        refine s_gU S rfl rfl rfl ?_; clear S a; intro a S
        refine s_gF S (b := true) rfl rfl rfl rfl ?_; clear S a; intro a S
        refine s_gF S (b := true) rfl rfl rfl rfl ?_; clear S a; intro a S
        refine s_gU S rfl rfl rfl ?_; clear S a; intro a S
        refine s_gU S rfl rfl rfl ?_; clear S a; intro a S
        refine s_gU S rfl rfl rfl ?_; clear S a; intro a S
        refine s_gU S rfl rfl rfl ?_; clear S a; intro a S
        refine s_gU S rfl rfl rfl ?_; clear S a; intro a S
        refine s_gU S rfl rfl rfl ?_; clear S a; intro a S
        refine s_gU S rfl rfl rfl ?_; clear S a; intro a S
        refine s_gU S rfl rfl rfl ?_; clear S a; intro a S
        refine s_gF S (b := true) rfl rfl rfl rfl ?_; clear S a; intro a S
        refine s_pick S (b := true) (hc_of rfl rfl) rfl rfl ?_; clear S a; intro a S
        refine s_move S rfl rfl ?_; clear S a; intro a S
        refine s_gF S (b := true) rfl rfl rfl rfl ?_; clear S a; intro a S
        refine s_gF S (b := true) rfl rfl rfl rfl ?_; clear S a; intro a S
        refine s_gF S (b := true) rfl rfl rfl rfl ?_; clear S a; intro a S
        refine s_pick S (b := true) (hc_of rfl rfl) rfl rfl ?_; clear S a; intro a S
        refine c_end' ?_
        refine x_thenN ?_
        exact j2 _ true a w (S.sub ⟨rfl, rfl, rfl, rfl, rfl, rfl, trivial⟩ .nil) h3
      · refine s_gT S (b := (decide (100 < y1))) rfl rfl c5 ?_
        refine s_fieldAddr S rfl I40_6 T38 (by decide) rfl rfl ?_; clear S a; intro a S
        refine s_gT S (b := (decide (100 < y1))) rfl rfl c5 ?_
        refine s_loadSl S rfl .here T38 (A := ch1.2.2.2.2.2.2.1) (len := ((gt x1 y1).2.2.2.2.2.2).length) (cap := ch1.2.2.2.2.2.2.2) rfl rfl ?_; clear S a; intro a S
        refine s_gT S (b := (decide (100 < y1))) rfl rfl c5 ?_
        refine s_lenS S rfl Try.underlying38 rfl ?_; clear S a; intro a S
        refine s_gT S (b := (decide (100 < y1))) rfl rfl c5 ?_
        refine s_bin S rfl rfl rfl rfl ?_; clear S a; intro a S
        refine s_pick S (b := false) (hc_of rfl c5) rfl rfl ?_; clear S a; intro a S
        refine s_move S rfl rfl ?_; clear S a; intro a S
        rcases ite_of h3 with ⟨c6, h4⟩ | ⟨c6, h4⟩ <;> clear h3
        · refine s_gF S (b := (decide (1000 < (((gt x1 y1).2.2.2.2.2.2).length : Int)))) rfl rfl c6 rfl ?_; clear S a; intro a S
          refine s_gF S (b := (decide (1000 < (((gt x1 y1).2.2.2.2.2.2).length : Int)))) rfl rfl c6 rfl ?_; clear S a; intro a S
          refine s_gF S (b := (decide (1000 < (((gt x1 y1).2.2.2.2.2.2).length : Int)))) rfl rfl c6 rfl ?_; clear S a; intro a S
          refine s_gF S (b := (decide (1000 < (((gt x1 y1).2.2.2.2.2.2).length : Int)))) rfl rfl c6 rfl ?_; clear S a; intro a S
          refine s_gU S rfl rfl rfl ?_; clear S a; intro a S
          refine s_gU S rfl rfl rfl ?_; clear S a; intro a S
          refine s_gU S rfl rfl rfl ?_; clear S a; intro a S
          refine s_gF S (b := (decide (1000 < (((gt x1 y1).2.2.2.2.2.2).length : Int)))) rfl rfl c6 rfl ?_; clear S a; intro a S
          refine s_gF S (b := (decide (1000 < (((gt x1 y1).2.2.2.2.2.2).length : Int)))) rfl rfl c6 rfl ?_; clear S a; intro a S
          refine s_gU S rfl rfl rfl ?_; clear S a; intro a S
          refine s_gU S rfl rfl rfl ?_; clear S a; intro a S
          refine s_gU S rfl rfl rfl ?_; clear S a; intro a S
          refine s_gF S (b := (decide (1000 < (((gt x1 y1).2.2.2.2.2.2).length : Int)))) rfl rfl c6 rfl ?_; clear S a; intro a S
          refine s_gF S (b := (decide (1000 < (((gt x1 y1).2.2.2.2.2.2).length : Int)))) rfl rfl c6 rfl ?_; clear S a; intro a S
          refine s_gU S rfl rfl rfl ?_; clear S a; intro a S
          refine s_gU S rfl rfl rfl ?_; clear S a; intro a S
          refine s_gU S rfl rfl rfl ?_; clear S a; intro a S
          refine s_gU S rfl rfl rfl ?_; clear S a; intro a S
          refine s_gU S rfl rfl rfl ?_; clear S a; intro a S
          refine s_gU S rfl rfl rfl ?_; clear S a; intro a S
          refine s_gU S rfl rfl rfl ?_; clear S a; intro a S
          refine s_gU S rfl rfl rfl ?_; clear S a; intro a S
          refine s_gF S (b := (decide (1000 < (((gt x1 y1).2.2.2.2.2.2).length : Int)))) rfl rfl c6 rfl ?_; clear S a; intro a S
          refine s_gF S (b := (decide (1000 < (((gt x1 y1).2.2.2.2.2.2).length : Int)))) rfl rfl c6 rfl ?_; clear S a; intro a S
          refine s_gU S rfl rfl rfl ?_; clear S a; intro a S
          refine s_gU S rfl rfl rfl ?_; clear S a; intro a S
          refine s_gU S rfl rfl rfl ?_; clear S a; intro a S
          refine s_gU S rfl rfl rfl ?_; clear S a; intro a S
          refine s_gU S rfl rfl rfl ?_; clear S a; intro a S
          refine s_gU S rfl rfl rfl ?_; clear S a; intro a S
          refine s_gU S rfl rfl rfl ?_; clear S a; intro a S
          refine s_gU S rfl rfl rfl ?_; clear S a; intro a S
          refine s_gF S (b := (decide (1000 < (((gt x1 y1).2.2.2.2.2.2).length : Int)))) rfl rfl c6 rfl ?_; clear S a; intro a S
          refine s_pick S (b := true) (hc_of rfl c6) rfl rfl ?_; clear S a; intro a S
          refine s_move S rfl rfl ?_; clear S a; intro a S
          refine s_gF S (b := true) rfl rfl rfl rfl ?_; clear S a; intro a S
          refine s_gF S (b := true) rfl rfl rfl rfl ?_; clear S a; intro a S
          refine s_gF S (b := true) rfl rfl rfl rfl ?_; clear S a; intro a S
          refine s_pick S (b := true) (hc_of rfl rfl) rfl rfl ?_; clear S a; intro a S
          refine c_end' ?_
          refine x_thenN ?_
          exact j2 _ true a w (S.sub ⟨rfl, rfl, rfl, rfl, rfl, rfl, trivial⟩ .nil) h4
        · refine s_gT S (b := (decide (1000 < (((gt x1 y1).2.2.2.2.2.2).length : Int)))) rfl rfl c6 ?_
          refine s_fieldAddr S rfl I40_0 T3 (by decide) rfl rfl ?_; clear S a; intro a S
          refine s_gT S (b := (decide (1000 < (((gt x1 y1).2.2.2.2.2.2).length : Int)))) rfl rfl c6 ?_
          refine s_load1 S rfl .here T3 (v := (.int .i64 ((gt x1 y1).1))) rfl rfl ?_; clear S a; intro a S
          refine s_gT S (b := (decide (1000 < (((gt x1 y1).2.2.2.2.2.2).length : Int)))) rfl rfl c6 ?_
          refine s_bin S rfl rfl rfl rfl ?_; clear S a; intro a S
          refine s_gT S (b := (decide (1000 < (((gt x1 y1).2.2.2.2.2.2).length : Int)))) rfl rfl c6 ?_
          refine s_move S rfl rfl ?_; clear S a; intro a S
          rcases ite_of h4 with ⟨c7, h5⟩ | ⟨c7, h5⟩ <;> clear h4
          · refine s_gT S (b := (((gt x1 y1).1) == 0)) rfl rfl c7 ?_
            refine s_fieldAddr S rfl I40_4 T27 (by decide) rfl rfl ?_; clear S a; intro a S
            refine s_gT S (b := (((gt x1 y1).1) == 0)) rfl rfl c7 ?_
            refine s_loada S rfl .here T27 (s' := [.ints .u64 ((gt x1 y1).2.2.2.2.1) 4]) rfl rfl ?_; clear S a; intro a S
            refine s_gT S (b := (((gt x1 y1).1) == 0)) rfl rfl c7 ?_
            obtain ⟨t1, et1, h6⟩ := bind_of h5; clear h5
            refine s_callX S (ds' := [(.agg [.ints .u64 ((gt x1 y1).2.2.2.2.1) 4])]) (ds := [(.agg [.ints .u64 ((gt x1 y1).2.2.2.2.1) 4])]) [] [Res.cells g1 40 [.one (.int .i64 ((gt x1 y1).1)), .one (.int .i64 ((gt x1 y1).2.1)), .one (.int .i64 ((gt x1 y1).2.2.1)), .one (.int .i64 ((gt x1 y1).2.2.2.1)), .ints .u64 ((gt x1 y1).2.2.2.2.1) 4, .ints .u64 ((gt x1 y1).2.2.2.2.2.1) 4, .sl ch1.2.2.2.2.2.2.1 ((gt x1 y1).2.2.2.2.2.2).length ch1.2.2.2.2.2.2.2 (RdS (Ty.int .u8) ch1.2.2.2.2.2.2.1 ((gt x1 y1).2.2.2.2.2.2))]] (fun (ch : Unit) => ((.v (.bool t1)) : D)) (fun (ch : Unit) => []) (fun (ch : Unit) => [Res.cells g1 40 [.one (.int .i64 ((gt x1 y1).1)), .one (.int .i64 ((gt x1 y1).2.1)), .one (.int .i64 ((gt x1 y1).2.2.1)), .one (.int .i64 ((gt x1 y1).2.2.2.1)), .ints .u64 ((gt x1 y1).2.2.2.2.1) 4, .ints .u64 ((gt x1 y1).2.2.2.2.2.1) 4, .sl ch1.2.2.2.2.2.2.1 ((gt x1 y1).2.2.2.2.2.2).length ch1.2.2.2.2.2.2.2 (RdS (Ty.int .u8) ch1.2.2.2.2.2.2.1 ((gt x1 y1).2.2.2.2.2.2))]]) (fun _ => rfl) N43 rfl rfl (fun ok => ok) (.cons .here .nil) rfl (smithylaw10_small.ok ((gt x1 y1).2.2.2.2.1) t1 et1 _ _) ?_; clear S a w; intro ch2 m le1 a w S
            refine s_gT S (b := (decide (1000 < (((gt x1 y1).2.2.2.2.2.2).length : Int)))) rfl rfl c6 ?_
            refine s_pick S (b := true) (hc_of rfl c7) rfl rfl ?_; clear S a; intro a S
            refine s_gT S (b := (decide (1000 < (((gt x1 y1).2.2.2.2.2.2).length : Int)))) rfl rfl c6 ?_
            refine s_move S rfl rfl ?_; clear S a; intro a S
            rcases ite_of h6 with ⟨c8, h7⟩ | ⟨c8, h7⟩ <;> clear h6
            · refine s_gT S (b := t1) rfl rfl c8 ?_
              refine s_fieldAddr S rfl I40_5 T27 (by decide) rfl rfl ?_; clear S a; intro a S
              refine s_gT S (b := t1) rfl rfl c8 ?_
              refine s_loada S rfl .here T27 (s' := [.ints .u64 ((gt x1 y1).2.2.2.2.2.1) 4]) rfl rfl ?_; clear S a; intro a S
              refine s_gT S (b := t1) rfl rfl c8 ?_
              obtain ⟨t2, et2, h8⟩ := bind_of h7; clear h7
              refine s_callX S (ds' := [(.agg [.ints .u64 ((gt x1 y1).2.2.2.2.2.1) 4])]) (ds := [(.agg [.ints .u64 ((gt x1 y1).2.2.2.2.2.1) 4])]) [] [Res.cells g1 40 [.one (.int .i64 ((gt x1 y1).1)), .one (.int .i64 ((gt x1 y1).2.1)), .one (.int .i64 ((gt x1 y1).2.2.1)), .one (.int .i64 ((gt x1 y1).2.2.2.1)), .ints .u64 ((gt x1 y1).2.2.2.2.1) 4, .ints .u64 ((gt x1 y1).2.2.2.2.2.1) 4, .sl ch1.2.2.2.2.2.2.1 ((gt x1 y1).2.2.2.2.2.2).length ch1.2.2.2.2.2.2.2 (RdS (Ty.int .u8) ch1.2.2.2.2.2.2.1 ((gt x1 y1).2.2.2.2.2.2))]] (fun (ch : Unit) => ((.v (.bool t2)) : D)) (fun (ch : Unit) => []) (fun (ch : Unit) => [Res.cells g1 40 [.one (.int .i64 ((gt x1 y1).1)), .one (.int .i64 ((gt x1 y1).2.1)), .one (.int .i64 ((gt x1 y1).2.2.1)), .one (.int .i64 ((gt x1 y1).2.2.2.1)), .ints .u64 ((gt x1 y1).2.2.2.2.1) 4, .ints .u64 ((gt x1 y1).2.2.2.2.2.1) 4, .sl ch1.2.2.2.2.2.2.1 ((gt x1 y1).2.2.2.2.2.2).length ch1.2.2.2.2.2.2.2 (RdS (Ty.int .u8) ch1.2.2.2.2.2.2.1 ((gt x1 y1).2.2.2.2.2.2))]]) (fun _ => rfl) N43 rfl rfl (fun ok => ok) (.cons .here .nil) rfl (smithylaw10_small.ok ((gt x1 y1).2.2.2.2.2.1) t2 et2 _ _) ?_; clear S a w; intro ch3 m le1 a w S
              refine s_gT S (b := (decide (1000 < (((gt x1 y1).2.2.2.2.2.2).length : Int)))) rfl rfl c6 ?_
              refine s_pick S (b := true) (hc_of rfl c8) rfl rfl ?_; clear S a; intro a S
              refine s_gT S (b := (decide (1000 < (((gt x1 y1).2.2.2.2.2.2).length : Int)))) rfl rfl c6 ?_
              refine s_move S rfl rfl ?_; clear S a; intro a S
              rcases ite_of h8 with ⟨c9, h9⟩ | ⟨c9, h9⟩ <;> clear h8
              · refine s_gT S (b := t2) rfl rfl c9 ?_
                refine s_fieldAddr S rfl I40_4 T27 (by decide) rfl rfl ?_; clear S a; intro a S
                refine s_gT S (b := t2) rfl rfl c9 ?_
                refine s_iaddr S (o' := 4) rfl rfl Try.underlying27 T22 (by decide) (by decide) rfl rfl ?_; clear S a; intro a S
                refine s_gT S (b := t2) rfl rfl c9 ?_
                refine s_loadi S (i := 0) rfl .here T22 (.there (.there (.there (.there .here rfl) rfl) rfl) rfl) rfl (by decide) (by decide) rfl ?_; clear S a; intro a S
                refine s_gT S (b := t2) rfl rfl c9 ?_
                refine s_fieldAddr S rfl I40_5 T27 (by decide) rfl rfl ?_; clear S a; intro a S
                refine s_gT S (b := t2) rfl rfl c9 ?_
                refine s_iaddr S (o' := 8) rfl rfl Try.underlying27 T22 (by decide) (by decide) rfl rfl ?_; clear S a; intro a S
                refine s_gT S (b := t2) rfl rfl c9 ?_
                refine s_loadi S (i := 0) rfl .here T22 (.there (.there (.there (.there (.there .here rfl) rfl) rfl) rfl) rfl) rfl (by decide) (by decide) rfl ?_; clear S a; intro a S
                refine s_gT S (b := t2) rfl rfl c9 ?_
                refine s_bin S rfl rfl rfl rfl ?_; clear S a; intro a S
                refine s_gT S (b := t2) rfl rfl c9 ?_
                refine s_bin S rfl rfl rfl rfl ?_; clear S a; intro a S
                refine s_gT S (b := (decide (1000 < (((gt x1 y1).2.2.2.2.2.2).length : Int)))) rfl rfl c6 ?_
                refine s_pick S (b := true) (hc_of rfl c9) rfl rfl ?_; clear S a; intro a S
                refine s_gT S (b := (decide (1000 < (((gt x1 y1).2.2.2.2.2.2).length : Int)))) rfl rfl c6 ?_
                refine s_move S rfl rfl ?_; clear S a; intro a S
                rcases ite_of h9 with ⟨c10, h10⟩ | ⟨c10, h10⟩ <;> clear h9
                · refine s_gT S (b := (decide (250000 < (wr .u64 ((rd ((gt x1 y1).2.2.2.2.1) 0) + (rd ((gt x1 y1).2.2.2.2.2.1) 0)))))) rfl rfl c10 ?_
                  refine s_fieldAddr S rfl I40_4 T27 (by decide) rfl rfl ?_; clear S a; intro a S
                  refine s_gT S (b := (decide (250000 < (wr .u64 ((rd ((gt x1 y1).2.2.2.2.1) 0) + (rd ((gt x1 y1).2.2.2.2.2.1) 0)))))) rfl rfl c10 ?_
                  refine s_iaddr S (o' := 4) rfl rfl Try.underlying27 T22 (by decide) (by decide) rfl rfl ?_; clear S a; intro a S
                  refine s_gT S (b := (decide (250000 < (wr .u64 ((rd ((gt x1 y1).2.2.2.2.1) 0) + (rd ((gt x1 y1).2.2.2.2.2.1) 0)))))) rfl rfl c10 ?_
                  refine s_loadi S (i := 0) rfl .here T22 (.there (.there (.there (.there .here rfl) rfl) rfl) rfl) rfl (by decide) (by decide) rfl ?_; clear S a; intro a S
                  refine s_gT S (b := (decide (250000 < (wr .u64 ((rd ((gt x1 y1).2.2.2.2.1) 0) + (rd ((gt x1 y1).2.2.2.2.2.1) 0)))))) rfl rfl c10 ?_
                  refine s_fieldAddr S rfl I40_5 T27 (by decide) rfl rfl ?_; clear S a; intro a S
                  refine s_gT S (b := (decide (250000 < (wr .u64 ((rd ((gt x1 y1).2.2.2.2.1) 0) + (rd ((gt x1 y1).2.2.2.2.2.1) 0)))))) rfl rfl c10 ?_
                  refine s_iaddr S (o' := 8) rfl rfl Try.underlying27 T22 (by decide) (by decide) rfl rfl ?_; clear S a; intro a S
                  refine s_gT S (b := (decide (250000 < (wr .u64 ((rd ((gt x1 y1).2.2.2.2.1) 0) + (rd ((gt x1 y1).2.2.2.2.2.1) 0)))))) rfl rfl c10 ?_
                  refine s_loadi S (i := 0) rfl .here T22 (.there (.there (.there (.there (.there .here rfl) rfl) rfl) rfl) rfl) rfl (by decide) (by decide) rfl ?_; clear S a; intro a S
                  refine s_gT S (b := (decide (250000 < (wr .u64 ((rd ((gt x1 y1).2.2.2.2.1) 0) + (rd ((gt x1 y1).2.2.2.2.2.1) 0)))))) rfl rfl c10 ?_
                  refine s_bin S rfl rfl rfl rfl ?_; clear S a; intro a S
                  refine s_gT S (b := (decide (250000 < (wr .u64 ((rd ((gt x1 y1).2.2.2.2.1) 0) + (rd ((gt x1 y1).2.2.2.2.2.1) 0)))))) rfl rfl c10 ?_
                  refine s_bin S rfl rfl rfl rfl ?_; clear S a; intro a S
                  refine s_gT S (b := (decide (1000 < (((gt x1 y1).2.2.2.2.2.2).length : Int)))) rfl rfl c6 ?_
                  refine s_pick S (b := true) (hc_of rfl c10) rfl rfl ?_; clear S a; intro a S
                  refine s_pick S (b := false) (hc_of rfl c6) rfl rfl ?_; clear S a; intro a S
                  refine s_move S rfl rfl ?_; clear S a; intro a S
                  rcases ite_of h10 with ⟨c11, h11⟩ | ⟨c11, h11⟩ <;> clear h10
                  · refine s_gF S (b := (decide ((wr .u64 ((rd ((gt x1 y1).2.2.2.2.1) 0) + (rd ((gt x1 y1).2.2.2.2.2.1) 0))) ≤ 4194304))) rfl rfl c11 rfl ?_; clear S a; intro a S
                    refine s_gF S (b := (decide ((wr .u64 ((rd ((gt x1 y1).2.2.2.2.1) 0) + (rd ((gt x1 y1).2.2.2.2.2.1) 0))) ≤ 4194304))) rfl rfl c11 rfl ?_; clear S a; intro a S
                    refine s_gF S (b := (decide ((wr .u64 ((rd ((gt x1 y1).2.2.2.2.1) 0) + (rd ((gt x1 y1).2.2.2.2.2.1) 0))) ≤ 4194304))) rfl rfl c11 rfl ?_; clear S a; intro a S
                    refine s_pick S (b := true) (hc_of rfl c11) rfl rfl ?_; clear S a; intro a S
                    refine c_end' ?_
                    refine x_thenN ?_
                    exact j2 _ true a w (S.sub ⟨rfl, rfl, rfl, rfl, rfl, rfl, trivial⟩ .nil) h11
                  · refine s_gT S (b := (decide ((wr .u64 ((rd ((gt x1 y1).2.2.2.2.1) 0) + (rd ((gt x1 y1).2.2.2.2.2.1) 0))) ≤ 4194304))) rfl rfl c11 ?_
                    refine s_fieldAddr S rfl I40_3 T3 (by decide) rfl rfl ?_; clear S a; intro a S
                    refine s_gT S (b := (decide ((wr .u64 ((rd ((gt x1 y1).2.2.2.2.1) 0) + (rd ((gt x1 y1).2.2.2.2.2.1) 0))) ≤ 4194304))) rfl rfl c11 ?_
                    refine s_load1 S rfl .here T3 (v := (.int .i64 ((gt x1 y1).2.2.2.1))) rfl rfl ?_; clear S a; intro a S
                    refine s_gT S (b := (decide ((wr .u64 ((rd ((gt x1 y1).2.2.2.2.1) 0) + (rd ((gt x1 y1).2.2.2.2.2.1) 0))) ≤ 4194304))) rfl rfl c11 ?_
                    refine s_bin S rfl rfl rfl rfl ?_; clear S a; intro a S
                    refine s_pick S (b := false) (hc_of rfl c11) rfl rfl ?_; clear S a; intro a S
                    refine c_end' ?_
                    refine x_thenN ?_
                    exact j2 _ (decide (5000 < ((gt x1 y1).2.2.2.1))) a w (S.sub ⟨rfl, rfl, rfl, rfl, rfl, rfl, trivial⟩ .nil) h11
                · refine s_gF S (b := (decide (250000 < (wr .u64 ((rd ((gt x1 y1).2.2.2.2.1) 0) + (rd ((gt x1 y1).2.2.2.2.2.1) 0)))))) rfl rfl c10 rfl ?_; clear S a; intro a S
                  refine s_gF S (b := (decide (250000 < (wr .u64 ((rd ((gt x1 y1).2.2.2.2.1) 0) + (rd ((gt x1 y1).2.2.2.2.2.1) 0)))))) rfl rfl c10 rfl ?_; clear S a; intro a S
                  refine s_gF S (b := (decide (250000 < (wr .u64 ((rd ((gt x1 y1).2.2.2.2.1) 0) + (rd ((gt x1 y1).2.2.2.2.2.1) 0)))))) rfl rfl c10 rfl ?_; clear S a; intro a S
                  refine s_gF S (b := (decide (250000 < (wr .u64 ((rd ((gt x1 y1).2.2.2.2.1) 0) + (rd ((gt x1 y1).2.2.2.2.2.1) 0)))))) rfl rfl c10 rfl ?_; clear S a; intro a S
                  refine s_gF S (b := (decide (250000 < (wr .u64 ((rd ((gt x1 y1).2.2.2.2.1) 0) + (rd ((gt x1 y1).2.2.2.2.2.1) 0)))))) rfl rfl c10 rfl ?_; clear S a; intro a S
                  refine s_gF S (b := (decide (250000 < (wr .u64 ((rd ((gt x1 y1).2.2.2.2.1) 0) + (rd ((gt x1 y1).2.2.2.2.2.1) 0)))))) rfl rfl c10 rfl ?_; clear S a; intro a S
                  refine s_gF S (b := (decide (250000 < (wr .u64 ((rd ((gt x1 y1).2.2.2.2.1) 0) + (rd ((gt x1 y1).2.2.2.2.2.1) 0)))))) rfl rfl c10 rfl ?_; clear S a; intro a S
                  refine s_gF S (b := (decide (250000 < (wr .u64 ((rd ((gt x1 y1).2.2.2.2.1) 0) + (rd ((gt x1 y1).2.2.2.2.2.1) 0)))))) rfl rfl c10 rfl ?_; clear S a; intro a S
                  refine s_gT S (b := (decide (1000 < (((gt x1 y1).2.2.2.2.2.2).length : Int)))) rfl rfl c6 ?_
                  refine s_pick S (b := false) (hc_of rfl c10) rfl rfl ?_; clear S a; intro a S
                  refine s_pick S (b := false) (hc_of rfl c6) rfl rfl ?_; clear S a; intro a S
                  refine s_move S rfl rfl ?_; clear S a; intro a S
                  refine s_gT S (b := false) rfl rfl rfl ?_
                  refine s_fieldAddr S rfl I40_3 T3 (by decide) rfl rfl ?_; clear S a; intro a S
                  refine s_gT S (b := false) rfl rfl rfl ?_
                  refine s_load1 S rfl .here T3 (v := (.int .i64 ((gt x1 y1).2.2.2.1))) rfl rfl ?_; clear S a; intro a S
                  refine s_gT S (b := false) rfl rfl rfl ?_
                  refine s_bin S rfl rfl rfl rfl ?_; clear S a; intro a S
                  refine s_pick S (b := false) (hc_of rfl rfl) rfl rfl ?_; clear S a; intro a S
                  refine c_end' ?_
                  refine x_thenN ?_
                  exact j2 _ (decide (5000 < ((gt x1 y1).2.2.2.1))) a w (S.sub ⟨rfl, rfl, rfl, rfl, rfl, rfl, trivial⟩ .nil) h10
              · refine s_gF S (b := t2) rfl rfl c9 rfl ?_; clear S a; intro a S
                refine s_gF S (b := t2) rfl rfl c9 rfl ?_; clear S a; intro a S
                refine s_gF S (b := t2) rfl rfl c9 rfl ?_; clear S a; intro a S
                refine s_gF S (b := t2) rfl rfl c9 rfl ?_; clear S a; intro a S
                refine s_gF S (b := t2) rfl rfl c9 rfl ?_; clear S a; intro a S
                refine s_gF S (b := t2) rfl rfl c9 rfl ?_; clear S a; intro a S
                refine s_gF S (b := t2) rfl rfl c9 rfl ?_; clear S a; intro a S
                refine s_gF S (b := t2) rfl rfl c9 rfl ?_; clear S a; intro a S
                refine s_gT S (b := (decide (1000 < (((gt x1 y1).2.2.2.2.2.2).length : Int)))) rfl rfl c6 ?_
                refine s_pick S (b := false) (hc_of rfl c9) rfl rfl ?_; clear S a; intro a S
                refine s_gT S (b := (decide (1000 < (((gt x1 y1).2.2.2.2.2.2).length : Int)))) rfl rfl c6 ?_
                refine s_move S rfl rfl ?_; clear S a; intro a S
                refine s_gF S (b := false) rfl rfl rfl rfl ?_; clear S a; intro a S
                refine s_gF S (b := false) rfl rfl rfl rfl ?_; clear S a; intro a S
                refine s_gF S (b := false) rfl rfl rfl rfl ?_; clear S a; intro a S
                refine s_gF S (b := false) rfl rfl rfl rfl ?_; clear S a; intro a S
                refine s_gF S (b := false) rfl rfl rfl rfl ?_; clear S a; intro a S
                refine s_gF S (b := false) rfl rfl rfl rfl ?_; clear S a; intro a S
                refine s_gF S (b := false) rfl rfl rfl rfl ?_; clear S a; intro a S
                refine s_gF S (b := false) rfl rfl rfl rfl ?_; clear S a; intro a S
                refine s_gT S (b := (decide (1000 < (((gt x1 y1).2.2.2.2.2.2).length : Int)))) rfl rfl c6 ?_
                refine s_pick S (b := false) (hc_of rfl rfl) rfl rfl ?_; clear S a; intro a S
                refine s_pick S (b := false) (hc_of rfl c6) rfl rfl ?_; clear S a; intro a S
                refine s_move S rfl rfl ?_; clear S a; intro a S
                refine s_gT S (b := false) rfl rfl rfl ?_
                refine s_fieldAddr S rfl I40_3 T3 (by decide) rfl rfl ?_; clear S a; intro a S
                refine s_gT S (b := false) rfl rfl rfl ?_
                refine s_load1 S rfl .here T3 (v := (.int .i64 ((gt x1 y1).2.2.2.1))) rfl rfl ?_; clear S a; intro a S
                refine s_gT S (b := false) rfl rfl rfl ?_
                refine s_bin S rfl rfl rfl rfl ?_; clear S a; intro a S
                refine s_pick S (b := false) (hc_of rfl rfl) rfl rfl ?_; clear S a; intro a S
                refine c_end' ?_
                refine x_thenN ?_
                exact j2 _ (decide (5000 < ((gt x1 y1).2.2.2.1))) a w (S.sub ⟨rfl, rfl, rfl, rfl, rfl, rfl, trivial⟩ .nil) h9
            · refine s_gF S (b := t1) rfl rfl c8 rfl ?_; clear S a; intro a S
              refine s_gF S (b := t1) rfl rfl c8 rfl ?_; clear S a; intro a S
              refine s_gF S (b := t1) rfl rfl c8 rfl ?_; clear S a; intro a S
              refine s_gT S (b := (decide (1000 < (((gt x1 y1).2.2.2.2.2.2).length : Int)))) rfl rfl c6 ?_
              refine s_pick S (b := false) (hc_of rfl c8) rfl rfl ?_; clear S a; intro a S
              refine s_gT S (b := (decide (1000 < (((gt x1 y1).2.2.2.2.2.2).length : Int)))) rfl rfl c6 ?_
              refine s_move S rfl rfl ?_; clear S a; intro a S
              refine s_gF S (b := false) rfl rfl rfl rfl ?_; clear S a; intro a S
              refine s_gF S (b := false) rfl rfl rfl rfl ?_; clear S a; intro a S
              refine s_gF S (b := false) rfl rfl rfl rfl ?_; clear S a; intro a S
              refine s_gF S (b := false) rfl rfl rfl rfl ?_; clear S a; intro a S
              refine s_gF S (b := false) rfl rfl rfl rfl ?_; clear S a; intro a S
              refine s_gF S (b := false) rfl rfl rfl rfl ?_; clear S a; intro a S
              refine s_gF S (b := false) rfl rfl rfl rfl ?_; clear S a; intro a S
              refine s_gF S (b := false) rfl rfl rfl rfl ?_; clear S a; intro a S
              refine s_gT S (b := (decide (1000 < (((gt x1 y1).2.2.2.2.2.2).length : Int)))) rfl rfl c6 ?_
              refine s_pick S (b := false) (hc_of rfl rfl) rfl rfl ?_; clear S a; intro a S
              refine s_gT S (b := (decide (1000 < (((gt x1 y1).2.2.2.2.2.2).length : Int)))) rfl rfl c6 ?_
              refine s_move S rfl rfl ?_; clear S a; intro a S
              refine s_gF S (b := false) rfl rfl rfl rfl ?_; clear S a; intro a S
              refine s_gF S (b := false) rfl rfl rfl rfl ?_; clear S a; intro a S
              refine s_gF S (b := false) rfl rfl rfl rfl ?_; clear S a; intro a S
              refine s_gF S (b := false) rfl rfl rfl rfl ?_; clear S a; intro a S
              refine s_gF S (b := false) rfl rfl rfl rfl ?_; clear S a; intro a S
              refine s_gF S (b := false) rfl rfl rfl rfl ?_; clear S a; intro a S
              refine s_gF S (b := false) rfl rfl rfl rfl ?_; clear S a; intro a S
              refine s_gF S (b := false) rfl rfl rfl rfl ?_; clear S a; intro a S
              refine s_gT S (b := (decide (1000 < (((gt x1 y1).2.2.2.2.2.2).length : Int)))) rfl rfl c6 ?_
              refine s_pick S (b := false) (hc_of rfl rfl) rfl rfl ?_; clear S a; intro a S
              refine s_pick S (b := false) (hc_of rfl c6) rfl rfl ?_; clear S a; intro a S
              refine s_move S rfl rfl ?_; clear S a; intro a S
              refine s_gT S (b := false) rfl rfl rfl ?_
              refine s_fieldAddr S rfl I40_3 T3 (by decide) rfl rfl ?_; clear S a; intro a S
              refine s_gT S (b := false) rfl rfl rfl ?_
              refine s_load1 S rfl .here T3 (v := (.int .i64 ((gt x1 y1).2.2.2.1))) rfl rfl ?_; clear S a; intro a S
              refine s_gT S (b := false) rfl rfl rfl ?_
              refine s_bin S rfl rfl rfl rfl ?_; clear S a; intro a S
              refine s_pick S (b := false) (hc_of rfl rfl) rfl rfl ?_; clear S a; intro a S
              refine c_end' ?_
              refine x_thenN ?_
              exact j2 _ (decide (5000 < ((gt x1 y1).2.2.2.1))) a w (S.sub ⟨rfl, rfl, rfl, rfl, rfl, rfl, trivial⟩ .nil) h7
          · refine s_gF S (b := (((gt x1 y1).1) == 0)) rfl rfl c7 rfl ?_; clear S a; intro a S
            refine s_gF S (b := (((gt x1 y1).1) == 0)) rfl rfl c7 rfl ?_; clear S a; intro a S
            refine s_gF S (b := (((gt x1 y1).1) == 0)) rfl rfl c7 rfl ?_; clear S a; intro a S
            refine s_gT S (b := (decide (1000 < (((gt x1 y1).2.2.2.2.2.2).length : Int)))) rfl rfl c6 ?_
            refine s_pick S (b := false) (hc_of rfl c7) rfl rfl ?_; clear S a; intro a S
            refine s_gT S (b := (decide (1000 < (((gt x1 y1).2.2.2.2.2.2).length : Int)))) rfl rfl c6 ?_
            refine s_move S rfl rfl ?_; clear S a; intro a S
            refine s_gF S (b := false) rfl rfl rfl rfl ?_; clear S a; intro a S
            refine s_gF S (b := false) rfl rfl rfl rfl ?_; clear S a; intro a S
            refine s_gF S (b := false) rfl rfl rfl rfl ?_; clear S a; intro a S
            refine s_gT S (b := (decide (1000 < (((gt x1 y1).2.2.2.2.2.2).length : Int)))) rfl rfl c6 ?_
            refine s_pick S (b := false) (hc_of rfl rfl) rfl rfl ?_; clear S a; intro a S
            refine s_gT S (b := (decide (1000 < (((gt x1 y1).2.2.2.2.2.2).length : Int)))) rfl rfl c6 ?_
            refine s_move S rfl rfl ?_; clear S a; intro a S
            refine s_gF S (b := false) rfl rfl rfl rfl ?_; clear S a; intro a S
            refine s_gF S (b := false) rfl rfl rfl rfl ?_; clear S a; intro a S
            refine s_gF S (b := false) rfl rfl rfl rfl ?_; clear S a; intro a S
            refine s_gF S (b := false) rfl rfl rfl rfl ?_; clear S a; intro a S
            refine s_gF S (b := false) rfl rfl rfl rfl ?_; clear S a; intro a S
            refine s_gF S (b := false) rfl rfl rfl rfl ?_; clear S a; intro a S
            refine s_gF S (b := false) rfl rfl rfl rfl ?_; clear S a; intro a S
            refine s_gF S (b := false) rfl rfl rfl rfl ?_; clear S a; intro a S
            refine s_gT S (b := (decide (1000 < (((gt x1 y1).2.2.2.2.2.2).length : Int)))) rfl rfl c6 ?_
            refine s_pick S (b := false) (hc_of rfl rfl) rfl rfl ?_; clear S a; intro a S
            refine s_gT S (b := (decide (1000 < (((gt x1 y1).2.2.2.2.2.2).length : Int)))) rfl rfl c6 ?_
            refine s_move S rfl rfl ?_; clear S a; intro a S
            refine s_gF S (b := false) rfl rfl rfl rfl ?_; clear S a; intro a S
            refine s_gF S (b := false) rfl rfl rfl rfl ?_; clear S a; intro a S
            refine s_gF S (b := false) rfl rfl rfl rfl ?_; clear S a; intro a S
            refine s_gF S (b := false) rfl rfl rfl rfl ?_; clear S a; intro a S
            refine s_gF S (b := false) rfl rfl rfl rfl ?_; clear S a; intro a S
            refine s_gF S (b := false) rfl rfl rfl rfl ?_; clear S a; intro a S
            refine s_gF S (b := false) rfl rfl rfl rfl ?_; clear S a; intro a S
            refine s_gF S (b := false) rfl rfl rfl rfl ?_; clear S a; intro a S
            refine s_gT S (b := (decide (1000 < (((gt x1 y1).2.2.2.2.2.2).length : Int)))) rfl rfl c6 ?_
            refine s_pick S (b := false) (hc_of rfl rfl) rfl rfl ?_; clear S a; intro a S
            refine s_pick S (b := false) (hc_of rfl c6) rfl rfl ?_; clear S a; intro a S
            refine s_move S rfl rfl ?_; clear S a; intro a S
            refine s_gT S (b := false) rfl rfl rfl ?_
            refine s_fieldAddr S rfl I40_3 T3 (by decide) rfl rfl ?_; clear S a; intro a S
            refine s_gT S (b := false) rfl rfl rfl ?_
            refine s_load1 S rfl .here T3 (v := (.int .i64 ((gt x1 y1).2.2.2.1))) rfl rfl ?_; clear S a; intro a S
            refine s_gT S (b := false) rfl rfl rfl ?_
            refine s_bin S rfl rfl rfl rfl ?_; clear S a; intro a S
            refine s_pick S (b := false) (hc_of rfl rfl) rfl rfl ?_; clear S a; intro a S
            refine c_end' ?_
            refine x_thenN ?_
            exact j2 _ (decide (5000 < ((gt x1 y1).2.2.2.1))) a w (S.sub ⟨rfl, rfl, rfl, rfl, rfl, rfl, trivial⟩ .nil) h5
    · refine c_condF S rfl c1 ?_
      refine wp_exit ?_
      refine x_thenX ?_
      refine x_thenX ?_
      refine x_blockX ?_
      refine x_thenN ?_
      exact j1 _ a w (S.sub ⟨rfl, trivial⟩ .nil) h1
end GW
