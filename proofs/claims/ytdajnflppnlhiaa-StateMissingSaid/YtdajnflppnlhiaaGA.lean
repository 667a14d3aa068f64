import Derived.Test.YtdajnflppnlhiaaProg
import Derived.Test.YtdajnflppnlhiaaGWRowx
set_option linter.unusedVariables false
set_option linter.unusedSimpArgs false
set_option maxRecDepth 10000
set_option maxHeartbeats 4000000
namespace GW
open Go Go.RowKit Go.Proofs
noncomputable section
abbrev L39 : Type := (List Int) × Int × (List Int) × (List Int) × (List ((List Int) × (List Int)))
abbrev Y82 : Ty ((List Int) × (List Int)) := (Ty.prod (Ty.arr .u64 4) (Ty.arr .u64 4))
abbrev Y39 : Ty L39 := (Ty.prod (Ty.arr .u8 20) (Ty.prod (Ty.int .u64) (Ty.prod (Ty.arr .u64 4) (Ty.prod (Ty.slice (Ty.int .u8)) (Ty.slice Y82)))))
theorem T39 : tyI Try.prog 39 = some (true, 27) := by kernel_rfl
theorem I39_3 : fieldI Try.prog 39 3 = some (25, 36) := by kernel_rfl
theorem T36 : tyI Try.prog 36 = some (false, 1) := by kernel_rfl
theorem I39_4 : fieldI Try.prog 39 4 = some (26, 37) := by kernel_rfl
theorem T37 : tyI Try.prog 37 = some (false, 1) := by kernel_rfl
theorem N22 : Fn_ Try.prog 22 := ⟨_, Try.func22, rfl, by decide⟩
theorem Z39 : zeroI Try.prog 39 = some (D.val (.agg [.ints .u8 [0, 0, 0, 0, 0, 0, 0, 0, 0, 0, 0, 0, 0, 0, 0, 0, 0, 0, 0, 0] 20, .one (.int .u64 0), .ints .u64 [0, 0, 0, 0] 4, .one (.slice none 0 0), .one (.slice none 0 0)])) := by kernel_rfl
theorem T82 : tyI Try.prog 82 = some (true, 8) := by kernel_rfl
theorem I82_1 : fieldI Try.prog 82 1 = some (4, 35) := by kernel_rfl
theorem T35 : tyI Try.prog 35 = some (true, 4) := by kernel_rfl
theorem T32 : tyI Try.prog 32 = some (false, 1) := by kernel_rfl
theorem Q35 : Try.prog.eqGuardType Try.prog.depth 35 = false := by kernel_rfl
theorem I82_0 : fieldI Try.prog 82 0 = some (0, 35) := by kernel_rfl
theorem Z105 : zeroI Try.prog 105 = some (D.val (.agg [.ints .i64 [0, 0, 0, 0, 0, 0, 0, 0, 0, 0, 0, 0, 0, 0, 0, 0, 0, 0, 0, 0, 0, 0, 0, 0, 0, 0, 0, 0, 0, 0, 0, 0] 32])) := by kernel_rfl
theorem T105 : tyI Try.prog 105 = some (true, 32) := by kernel_rfl
theorem T3 : tyI Try.prog 3 = some (false, 1) := by kernel_rfl
theorem N52 : Fn_ Try.prog 52 := ⟨_, Try.func52, rfl, by decide⟩
theorem N51 : Fn_ Try.prog 51 := ⟨_, Try.func51, rfl, by decide⟩
theorem N40 : Fn_ Try.prog 40 := ⟨_, Try.func40, rfl, by decide⟩
abbrev W1 : Type := (List Int) × Int × (List Int) × (List Int) × (List ((List Int) × (List Int)))
theorem N23 : Fn_ Try.prog 23 := ⟨_, Try.func23, rfl, by decide⟩
theorem N5 : Fn_ Try.prog 5 := ⟨_, Try.func5, rfl, by decide⟩
theorem P68 : ∀ w : World, ((match Try.prog.underlying 68 with | some (.struct fs) => fs | _ => (#[] : Array Field)).mapM fun (f : Field) => (do pure (f.offset, ← Go.sizeOf f.type) : Sem (Nat × Nat))).run Try.prog w = .ok #[(0, 1)] w := fun _ => by kernel_rfl
theorem Z68 : zeroI Try.prog 68 = some (D.val (.agg [.one (.slice none 0 0)])) := by kernel_rfl
abbrev L76 : Type := L39 × L39 × Bool × Nat × Bool × Bool × Nat
abbrev YE76 (M1 M2 : List Nat) : Ty (L76) := (Ty.prod Y39 (Ty.prod Y39 (Ty.prod Ty.bool (Ty.prod (Ty.mid M1) (Ty.prod Ty.bool (Ty.prod Ty.bool (Ty.mid M2)))))))
theorem YS76_0 (M1 M2 : List Nat) (g : Nat) : SubT (YE76 M1 M2) (YE76 (M1 ++ [g]) M2) := (subT_prod (SubT.refl _) (subT_prod (SubT.refl _) (subT_prod (SubT.refl _) (subT_prod (subT_mid M1 g) (subT_prod (SubT.refl _) (subT_prod (SubT.refl _) (SubT.refl _)))))))
theorem YS76_1 (M1 M2 : List Nat) (g : Nat) : SubT (YE76 M1 M2) (YE76 M1 (M2 ++ [g])) := (subT_prod (SubT.refl _) (subT_prod (SubT.refl _) (subT_prod (SubT.refl _) (subT_prod (SubT.refl _) (subT_prod (SubT.refl _) (subT_prod (SubT.refl _) (subT_mid M2 g)))))))
abbrev L51 : Type := (List Int) × (List (List Int)) × (List Int)
abbrev Y51 : Ty L51 := (Ty.prod (Ty.arr .u8 20) (Ty.prod (Ty.slice (Ty.arr .u64 4)) (Ty.slice (Ty.int .u8))))
inductive Clo where
  | nil
  | c33 (x0 : Bool) (x1 : List Int) (x2 : Nat) (x3 : List Int)
instance : Inhabited Clo := ⟨.nil⟩
def cA (c : List Addr) (i : Nat) : Addr := c.getD i ⟨0, 0, none⟩
def cloV : Clo → List Addr → Value
  | .nil, _ => .nilFunc
  | .c33 _ _ _ _, c => .func (.func 33) #[] #[.pointer (some (cA c 0)), .pointer (some (cA c 1)), .pointer (some (cA c 2)), .pointer (some (cA c 3))]
def cloR (gs : Nat) (G M1 M2 : List Nat) : Clo → List Addr → Mem → Prop
  | .nil, _ => fun _ => True
  | .c33 x0 x1 x2 x3, c => fun m => At Ty.bool (cA c 0) x0 m ∧ At (Ty.arr .u64 4) (cA c 1) x1 m ∧ At (Ty.mid M1) (cA c 2) x2 m ∧ At (Ty.arr .u64 4) (cA c 3) x3 m ∧ True
theorem cloM (gs : Nat) (G M1 M2 : List Nat) : ∀ (x : Clo) (c : List Addr), Mono (cloR gs G M1 M2 x c)
  | .nil, _ => fun _ _ _ _ => trivial
  | .c33 _ _ _ _, c => fun m m' hm h => ⟨At.mono _ _ _ m m' hm h.1, At.mono _ _ _ m m' hm h.2.1, At.mono _ _ _ m m' hm h.2.2.1, At.mono _ _ _ m m' hm h.2.2.2.1, trivial⟩
abbrev YC (gs : Nat) (G M1 M2 : List Nat) : Ty Clo := Ty.fnc cloV (cloR gs G M1 M2)
theorem cloS_0 (gs : Nat) (G M1 M2 : List Nat) (g : Nat) : ∀ (x : Clo) (c : List Addr) (m : Mem), cloR gs G M1 M2 x c m → cloR gs (G ++ [g]) M1 M2 x c m
  | .nil, _, _, _ => trivial
  | .c33 _ _ _ _, c, m, h => ⟨h.1, h.2.1, h.2.2.1, h.2.2.2.1, trivial⟩
theorem YCs_0 (gs : Nat) (G M1 M2 : List Nat) (g : Nat) : SubT (YC gs G M1 M2) (YC gs (G ++ [g]) M1 M2) := subT_fnc (cloS_0 gs G M1 M2 g) (cloM _ _ _ _)
theorem cloS_1 (gs : Nat) (G M1 M2 : List Nat) (g : Nat) : ∀ (x : Clo) (c : List Addr) (m : Mem), cloR gs G M1 M2 x c m → cloR gs G (M1 ++ [g]) M2 x c m
  | .nil, _, _, _ => trivial
  | .c33 _ _ _ _, c, m, h => ⟨h.1, h.2.1, (at_sub (subT_mid _ g) h.2.2.1), h.2.2.2.1, trivial⟩
theorem YCs_1 (gs : Nat) (G M1 M2 : List Nat) (g : Nat) : SubT (YC gs G M1 M2) (YC gs G (M1 ++ [g]) M2) := subT_fnc (cloS_1 gs G M1 M2 g) (cloM _ _ _ _)
theorem cloS_2 (gs : Nat) (G M1 M2 : List Nat) (g : Nat) : ∀ (x : Clo) (c : List Addr) (m : Mem), cloR gs G M1 M2 x c m → cloR gs G M1 (M2 ++ [g]) x c m
  | .nil, _, _, _ => trivial
  | .c33 _ _ _ _, c, m, h => ⟨h.1, h.2.1, h.2.2.1, h.2.2.2.1, trivial⟩
theorem YCs_2 (gs : Nat) (G M1 M2 : List Nat) (g : Nat) : SubT (YC gs G M1 M2) (YC gs G M1 (M2 ++ [g])) := subT_fnc (cloS_2 gs G M1 M2 g) (cloM _ _ _ _)
theorem P72 : ∀ w : World, ((match Try.prog.underlying 72 with | some (.struct fs) => fs | _ => (#[] : Array Field)).mapM fun (f : Field) => (do pure (f.offset, ← Go.sizeOf f.type) : Sem (Nat × Nat))).run Try.prog w = .ok #[(0, 1), (1, 1), (2, 1), (3, 1), (4, 1), (5, 1)] w := fun _ => by kernel_rfl
theorem Z72 : zeroI Try.prog 72 = some (D.val (.agg [.one .nilIface, .one (.map none), .one (.int .i64 0), .one (.slice none 0 0), .one (.slice none 0 0), .one (.slice none 0 0)])) := by kernel_rfl
abbrev W2 : Type := (((List L39)) × ((List ((List Int) × Option Nat)) × (List L76) × (List (List ((List Int) × (List Int)))) × (List (List ((List Int) × Bool)))) × Int × (List L51) × (List Clo) × (List (List Int)))
abbrev W3 : Type := Nat × (Option Addr) × Nat × Nat × (List Nat) × (List Nat) × (List Nat) × (Option Addr) × Nat × Nat × (Option Addr) × Nat × Nat × (Option Addr) × Nat × Nat
theorem N7 : Fn_ Try.prog 7 := ⟨_, Try.func7, rfl, by decide⟩
theorem T31 : tyI Try.prog 31 = some (true, 20) := by kernel_rfl
theorem I72_1 : fieldI Try.prog 72 1 = some (1, 69) := by kernel_rfl
theorem T69 : tyI Try.prog 69 = some (false, 1) := by kernel_rfl
theorem T5 : tyI Try.prog 5 = some (false, 1) := by kernel_rfl
theorem KT31 : KeyT Try.prog 31 true (Ty.arr .u8 20) := keyT_arr Try.underlying31 Try.underlying5 T5 T31
theorem Z77 : zeroI Try.prog 77 = some (D.val (.v (.pointer none))) := by kernel_rfl
theorem I72_0 : fieldI Try.prog 72 0 = some (0, 45) := by kernel_rfl
theorem T45 : tyI Try.prog 45 = some (false, 1) := by kernel_rfl
theorem I68_0 : fieldI Try.prog 68 0 = some (0, 22) := by kernel_rfl
theorem T22 : tyI Try.prog 22 = some (false, 1) := by kernel_rfl
theorem I39_0 : fieldI Try.prog 39 0 = some (0, 31) := by kernel_rfl
theorem Q31 : Try.prog.eqGuardType Try.prog.depth 31 = false := by kernel_rfl
theorem P39 : ∀ w : World, ((match Try.prog.underlying 39 with | some (.struct fs) => fs | _ => (#[] : Array Field)).mapM fun (f : Field) => (do pure (f.offset, ← Go.sizeOf f.type) : Sem (Nat × Nat))).run Try.prog w = .ok #[(0, 20), (20, 1), (21, 4), (25, 1), (26, 1)] w := fun _ => by kernel_rfl
abbrev W4 : Type := ((List Int) × Int × (List Int) × (List Int) × (List ((List Int) × (List Int)))) × Bool
abbrev W5 : Type := (Option Addr) × Nat × (Option Addr) × Nat
theorem N102 : Fn_ Try.prog 102 := ⟨_, Try.func102, rfl, by decide⟩
theorem M68_Account : methI Try.prog 68 "Account" = some 102 := by kernel_rfl
theorem I72_5 : fieldI Try.prog 72 5 = some (5, 23) := by kernel_rfl
theorem T23 : tyI Try.prog 23 = some (false, 1) := by kernel_rfl
theorem J31 : appI Try.prog 31 = some (20, 20) := by kernel_rfl
theorem Z31 : zeroI Try.prog 31 = some (D.val (.agg [.ints .u8 [0, 0, 0, 0, 0, 0, 0, 0, 0, 0, 0, 0, 0, 0, 0, 0, 0, 0, 0, 0] 20])) := by kernel_rfl
theorem P76 : ∀ w : World, ((match Try.prog.underlying 76 with | some (.struct fs) => fs | _ => (#[] : Array Field)).mapM fun (f : Field) => (do pure (f.offset, ← Go.sizeOf f.type) : Sem (Nat × Nat))).run Try.prog w = .ok #[(0, 27), (27, 27), (54, 1), (55, 1), (56, 1), (57, 1), (58, 1)] w := fun _ => by kernel_rfl
theorem Z76 : zeroI Try.prog 76 = some (D.val (.agg [.ints .u8 [0, 0, 0, 0, 0, 0, 0, 0, 0, 0, 0, 0, 0, 0, 0, 0, 0, 0, 0, 0] 20, .one (.int .u64 0), .ints .u64 [0, 0, 0, 0] 4, .one (.slice none 0 0), .one (.slice none 0 0), .ints .u8 [0, 0, 0, 0, 0, 0, 0, 0, 0, 0, 0, 0, 0, 0, 0, 0, 0, 0, 0, 0] 20, .one (.int .u64 0), .ints .u64 [0, 0, 0, 0] 4, .one (.slice none 0 0), .one (.slice none 0 0), .one (.bool false), .one (.map none), .one (.bool false), .one (.bool false), .one (.map none)])) := by kernel_rfl
abbrev W6 : Type := (Option Nat) × (Unit × ((List ((List Int) × Option Nat)) × (List L76) × (List (List ((List Int) × (List Int)))) × (List (List ((List Int) × Bool)))) × Unit × (List L51) × (List Clo) × (List (List Int)))
abbrev W7 : Type := Nat × (List Nat) × (List Nat) × (List Nat) × (Option Addr) × Nat × Nat × (Option Addr) × Nat × Nat × (Option Addr) × Nat × Nat
abbrev W8 : Type := ((List L39)) × ((List ((List Int) × Option Nat)) × (List L76) × (List (List ((List Int) × (List Int)))) × (List (List ((List Int) × Bool)))) × Int × (List L51) × (List Clo) × (List (List Int))
abbrev W9 : Type := List ((List Int) × (List Int))
theorem N26 : Fn_ Try.prog 26 := ⟨_, Try.func26, rfl, by decide⟩
theorem I76_3 : fieldI Try.prog 76 3 = some (55, 73) := by kernel_rfl
theorem T73 : tyI Try.prog 73 = some (false, 1) := by kernel_rfl
theorem Z73 : zeroI Try.prog 73 = some (D.val (.v (.map none))) := by kernel_rfl
theorem KT35 : KeyT Try.prog 35 true (Ty.arr .u64 4) := keyT_arr Try.underlying35 Try.underlying32 T32 T35
theorem Z35 : zeroI Try.prog 35 = some (D.val (.agg [.ints .u64 [0, 0, 0, 0] 4])) := by kernel_rfl
theorem Z4 : zeroI Try.prog 4 = some (D.val (.v (.bool false))) := by kernel_rfl
theorem T4 : tyI Try.prog 4 = some (false, 1) := by kernel_rfl
theorem I72_4 : fieldI Try.prog 72 4 = some (4, 70) := by kernel_rfl
theorem T70 : tyI Try.prog 70 = some (false, 1) := by kernel_rfl
theorem J1 : appI Try.prog 1 = some (1, 8) := by kernel_rfl
theorem Z1 : zeroI Try.prog 1 = some (D.val (.v .nilFunc)) := by kernel_rfl
abbrev W10 : Type := (Unit × Unit × Unit × Unit × (List Clo) × Unit)
theorem N29 : Fn_ Try.prog 29 := ⟨_, Try.func29, rfl, by decide⟩
abbrev W11 : Type := (Unit × ((List ((List Int) × Option Nat)) × (List L76) × (List (List ((List Int) × (List Int)))) × (List (List ((List Int) × Bool)))) × Unit × (List L51) × (List Clo) × (List (List Int)))
theorem N15 : Fn_ Try.prog 15 := ⟨_, Try.func15, rfl, by decide⟩
theorem N24 : Fn_ Try.prog 24 := ⟨_, Try.func24, rfl, by decide⟩
theorem T1 : tyI Try.prog 1 = some (false, 1) := by kernel_rfl
abbrev W12 : Type := (Unit × ((List ((List Int) × Option Nat)) × (List L76) × (List (List ((List Int) × (List Int)))) × (List (List ((List Int) × Bool)))) × Unit × Unit × Unit × Unit)
abbrev W13 : Type := Nat × (List Nat) × (List Nat) × (List Nat)
abbrev W14 : Type := (Option Addr) × Nat × Nat × (List Nat) × (List Nat) × (List Nat) × (Option Addr) × Nat × Nat × (Option Addr) × Nat × Nat × (Option Addr) × Nat × Nat
theorem N33 : Fn_ Try.prog 33 := ⟨_, Try.func33, rfl, by decide⟩
abbrev W15 : Type := List ((List Int) × Option Nat)
abbrev W16 : Type := List (List ((List Int) × (List Int)))
abbrev W17 : Type := List (List ((List Int) × Bool))
theorem N25 : Fn_ Try.prog 25 := ⟨_, Try.func25, rfl, by decide⟩
theorem I76_2 : fieldI Try.prog 76 2 = some (54, 4) := by kernel_rfl
theorem I76_0 : fieldI Try.prog 76 0 = some (0, 39) := by kernel_rfl
theorem N44 : Fn_ Try.prog 44 := ⟨_, Try.func44, rfl, by decide⟩
theorem N66 : Fn_ Try.prog 66 := ⟨_, Try.func66, rfl, by decide⟩
theorem N65 : Fn_ Try.prog 65 := ⟨_, Try.func65, rfl, by decide⟩
theorem N50 : Fn_ Try.prog 50 := ⟨_, Try.func50, rfl, by decide⟩
abbrev W18 : Type := (List Int) × (Unit × ((List ((List Int) × Option Nat)) × (List L76) × (List (List ((List Int) × (List Int)))) × (List (List ((List Int) × Bool)))) × Unit × (List L51) × (List Clo) × (List (List Int)))
theorem N39 : Fn_ Try.prog 39 := ⟨_, Try.func39, rfl, by decide⟩
theorem N20 : Fn_ Try.prog 20 := ⟨_, Try.func20, rfl, by decide⟩
theorem N6 : Fn_ Try.prog 6 := ⟨_, Try.func6, rfl, by decide⟩
theorem P29 : ∀ w : World, ((match Try.prog.underlying 29 with | some (.struct fs) => fs | _ => (#[] : Array Field)).mapM fun (f : Field) => (do pure (f.offset, ← Go.sizeOf f.type) : Sem (Nat × Nat))).run Try.prog w = .ok #[(0, 1)] w := fun _ => by kernel_rfl
theorem Z29 : zeroI Try.prog 29 = some (D.val (.agg [.one (.slice none 0 0)])) := by kernel_rfl
theorem I29_0 : fieldI Try.prog 29 0 = some (0, 22) := by kernel_rfl
theorem N9 : Fn_ Try.prog 9 := ⟨_, Try.func9, rfl, by decide⟩
theorem N101 : Fn_ Try.prog 101 := ⟨_, Try.func101, rfl, by decide⟩
theorem M29_Account : methI Try.prog 29 "Account" = some 101 := by kernel_rfl
theorem I76_1 : fieldI Try.prog 76 1 = some (27, 39) := by kernel_rfl
theorem I39_1 : fieldI Try.prog 39 1 = some (20, 32) := by kernel_rfl
abbrev W19 : Type := Int × (Unit × ((List ((List Int) × Option Nat)) × (List L76) × (List (List ((List Int) × (List Int)))) × (List (List ((List Int) × Bool)))) × Unit × (List L51) × (List Clo) × (List (List Int)))
theorem N8 : Fn_ Try.prog 8 := ⟨_, Try.func8, rfl, by decide⟩
theorem N10 : Fn_ Try.prog 10 := ⟨_, Try.func10, rfl, by decide⟩
theorem J5 : appI Try.prog 5 = some (1, 1) := by kernel_rfl
theorem Z5 : zeroI Try.prog 5 = some (D.val (.v (.int .u8 0))) := by kernel_rfl
theorem N27 : Fn_ Try.prog 27 := ⟨_, Try.func27, rfl, by decide⟩
theorem J82 : appI Try.prog 82 = some (8, 64) := by kernel_rfl
theorem Z82 : zeroI Try.prog 82 = some (D.val (.agg [.ints .u64 [0, 0, 0, 0] 4, .ints .u64 [0, 0, 0, 0] 4])) := by kernel_rfl
abbrev W20 : Type := (List ((List Int) × (List Int)))
theorem N28 : Fn_ Try.prog 28 := ⟨_, Try.func28, rfl, by decide⟩
theorem J39 : appI Try.prog 39 = some (27, 112) := by kernel_rfl
theorem N11 : Fn_ Try.prog 11 := ⟨_, Try.func11, rfl, by decide⟩
theorem I39_2 : fieldI Try.prog 39 2 = some (21, 35) := by kernel_rfl
theorem N12 : Fn_ Try.prog 12 := ⟨_, Try.func12, rfl, by decide⟩
def Gd31 : (List Int) → Prop := fun xs => xs.length = 20 ∧ ∀ y ∈ xs, inK .u8 y
def Gd32 : Int → Prop := fun x => inK .u64 x
def Gd35 : (List Int) → Prop := fun xs => xs.length = 4 ∧ ∀ y ∈ xs, inK .u64 y
def Gd5 : Int → Prop := fun x => inK .u8 x
def Gd36 : (List Int) → Prop := fun xs => (∀ y ∈ xs, Gd5 y) ∧ xs.length ≤ maxLen
def Gd82 : ((List Int) × (List Int)) → Prop := fun y => Gd35 y.1 ∧ (Gd35 y.2)
def Gd37 : (List ((List Int) × (List Int))) → Prop := fun xs => (∀ y ∈ xs, Gd82 y) ∧ xs.length ≤ maxLen
def Gd39 : L39 → Prop := fun y => Gd31 y.1 ∧ (Gd32 y.2.1 ∧ (Gd35 y.2.2.1 ∧ (Gd36 y.2.2.2.1 ∧ (Gd37 y.2.2.2.2))))
def Gd22 : (List L39) → Prop := fun xs => (∀ y ∈ xs, Gd39 y) ∧ xs.length ≤ maxLen
def Gd23 : (List (List Int)) → Prop := fun xs => (∀ y ∈ xs, Gd31 y) ∧ xs.length ≤ maxLen
abbrev smithyref13_Great.Ty : Type := (List L39) → Option Bool
def smithyref13_Great.Ctr (s : smithyref13_Great.Ty) : Prop := ∀ (x1 : List L39) (ch_0_0 : Option Addr) (ch_0_1 : Nat) (r : Bool) (h0 : s x1 = some r) (mi : Mem) (w0 : World), okL mi [(.sl ch_0_0 (x1).length ch_0_1 (RdS Y39 ch_0_0 x1))] → Pre mi [] w0 → Calls Try.prog 22 (([(.sl ch_0_0 (x1).length ch_0_1 (RdS Y39 ch_0_0 x1))] : List D).map D.val).toArray w0 (RetX mi [] (fun (ch : Unit) => ((.v (.bool r)) : D)) (fun (ch : Unit) => []) w0)
def smithyref13_Great.j1 : Option Bool := some false
def smithyref13_Great.j2 (y1 : Int) (rec1 : Int → Option Bool) (y2 : Bool) : Option Bool := if y2 = true then (some true) else (rec1 (wr .i64 (y1 + 1)))
def smithyref13_Great.b1 (x1 : List L39) (rec1 : Int → Option Bool) (y1 : Int) : Option Bool := if (decide (y1 < ((x1).length : Int))) = true then (if (0 : Int) ≤ y1 ∧ y1 < ((x1).length : Int) then (if (decide (3000 < (((gt x1 y1).2.2.2.1).length : Int))) = true then (smithyref13_Great.j2 y1 rec1 true) else (smithyref13_Great.j2 y1 rec1 (decide (100 < (((gt x1 y1).2.2.2.2).length : Int))))) else none) else smithyref13_Great.j1
def smithyref13_Great.l1 (x1 : List L39) : Nat → Int → Option Bool
  | 0, _ => none
  | q + 1, y1 => smithyref13_Great.b1 x1 (smithyref13_Great.l1 x1 q) y1
def smithyref13_Great.f (k : Nat) (x1 : List L39) : Option Bool := if (decide (50 < ((x1).length : Int))) = true then (some true) else (smithyref13_Great.l1 x1 k 0)
theorem smithyref13_Great.ok (k : Nat) : smithyref13_Great.Ctr (smithyref13_Great.f k) := by
 intro x1 ch_0_0 ch_0_1 r h0 mi w0 ok hm
 delta smithyref13_Great.f at h0
 refine c_enterX (n := 29) [(.sl ch_0_0 (x1).length ch_0_1 (RdS Y39 ch_0_0 x1))] (l := [(0, (.sl ch_0_0 (x1).length ch_0_1 (RdS Y39 ch_0_0 x1)))]) Try.func22 rfl rfl rfl rfl ok hm ?_
 clear ok hm
 intro b0 hb a S
 refine c_region ?_
 refine s_assign S rfl rfl ?_; clear S a; intro a S
 refine c_end ?_
 refine wp_seq ?_
 refine c_region ?_
 refine s_move S rfl rfl ?_; clear S a; intro a S
 refine s_lenS S rfl Try.underlying22 rfl ?_; clear S a; intro a S
 refine s_bin S rfl rfl rfl rfl ?_; clear S a; intro a S
 refine c_end ?_
 rcases ite_of h0 with ⟨c1, h1⟩ | ⟨c1, h1⟩ <;> clear h0
 ·refine c_condT S rfl c1 ?_
  refine c_region ?_
  refine s_assign S rfl rfl ?_; clear S a; intro a S
  refine c_end ?_
  refine wp_ret ?_
  refine x_thenR ?_
  obtain rfl := Option.some.inj h1
  exact b_ret1 (d := (.v (.bool true))) S rfl rfl fun ok => S.retX (Hx := []) hb _ _ (() : Unit) .nil ok
 ·refine c_condF S rfl c1 ?_
  refine wp_skip ?_
  refine x_thenN ?_
  refine wp_seq_k ?_
  intro K1 hK1
  have j1 : ∀ (m : Mem) (a : Act) (w : World), St 29 m b0 [] [] a w → smithyref13_Great.j1 = some r → K1 a w := by
   intro m a w S h0
   delta smithyref13_Great.j1 at h0
   refine hK1 a w ?_
   refine c_region ?_
   refine s_assign S rfl rfl ?_; clear S a; intro a S
   refine c_end ?_
   refine wp_ret ?_
   obtain rfl := Option.some.inj h0
   exact b_ret1 (d := (.v (.bool false))) S rfl rfl fun ok => S.retX (Hx := []) hb _ _ (() : Unit) .nil ok
  refine c_region ?_
  refine s_move S rfl rfl ?_; clear S a; intro a S
  refine s_lenS S rfl Try.underlying22 rfl ?_; clear S a; intro a S
  refine s_move S rfl rfl ?_; clear S a; intro a S
  refine c_end ?_
  refine wp_block ?_
  refine c_loop (fun q1 a w => ∃ (m : Mem) (y1 : Int), St 29 m b0 [(9, (.v (.int .i64 y1))), (8, (.v (.int .i64 ((x1).length : Int)))), (0, (.sl ch_0_0 (x1).length ch_0_1 (RdS Y39 ch_0_0 x1)))] [] a w ∧ smithyref13_Great.l1 x1 q1 y1 = some r) ?_ ?_ (k := k) ⟨_, 0, (S.sub (subR rfl) .nil), h1⟩
  ·rintro a w ⟨m, y1, S, h0⟩
   exact (nomatch (show (none : Option Bool) = some r from h0))
  ·clear S h1
   rintro q1 a w ⟨m, y1, S, h0⟩
   replace h0 : smithyref13_Great.b1 x1 (smithyref13_Great.l1 x1 q1) y1 = some r := h0
   delta smithyref13_Great.b1 at h0
   refine c_region ?_
   refine s_bin S rfl rfl rfl rfl ?_; clear S a; intro a S
   refine c_end ?_
   refine wp_seq ?_
   rcases ite_of h0 with ⟨c2, h1⟩ | ⟨c2, h1⟩ <;> clear h0
   ·refine c_condT S rfl c2 ?_
    refine wp_skip ?_
    refine x_thenN ?_
    refine wp_seq ?_
    refine wp_block ?_
    refine c_region ?_
    refine s_move S rfl rfl ?_; clear S a; intro a S
    refine s_assign S rfl rfl ?_; clear S a; intro a S
    refine c_end ?_
    refine wp_seq_k ?_
    intro K2 hK2
    have j2 : ∀ (m : Mem) (y2 : Bool) (a : Act) (w : World), St 29 m b0 [(27, (.v (.bool y2))), (9, (.v (.int .i64 y1))), (8, (.v (.int .i64 ((x1).length : Int)))), (0, (.sl ch_0_0 (x1).length ch_0_1 (RdS Y39 ch_0_0 x1)))] [] a w → smithyref13_Great.j2 y1 (smithyref13_Great.l1 x1 q1) y2 = some r → K2 a w := by
     intro m y2 a w S h0
     delta smithyref13_Great.j2 at h0
     refine hK2 a w ?_
     rcases ite_of h0 with ⟨c3, h1⟩ | ⟨c3, h1⟩ <;> clear h0
     ·refine c_condT S rfl c3 ?_
      refine c_region ?_
      refine s_assign S rfl rfl ?_; clear S a; intro a S
      refine c_end ?_
      refine wp_ret ?_
      refine x_blockR ?_
      refine x_thenR ?_
      refine x_thenR ?_
      refine x_blockR ?_
      refine x_thenR ?_
      obtain rfl := Option.some.inj h1
      exact b_ret1 (d := (.v (.bool true))) S rfl rfl fun ok => S.retX (Hx := []) hb _ _ (() : Unit) .nil ok
     ·refine c_condF S rfl c3 ?_
      refine wp_skip ?_
      refine x_blockN ?_
      refine x_thenN ?_
      refine c_region' ?_
      refine s_bin S rfl rfl rfl rfl ?_; clear S a; intro a S
      refine s_move S rfl rfl ?_; clear S a; intro a S
      refine c_end' ?_
      refine x_thenN ?_
      exact ⟨_, (wr .i64 (y1 + 1)), (S.sub (subR rfl) .nil), h1⟩
    refine c_region' ?_
    refine s_move S rfl rfl ?_; clear S a; intro a S
    refine s_move S rfl rfl ?_; clear S a; intro a S
    obtain ⟨c4, h2⟩ := chk_of h1; clear h1
    refine s_iaddrS S rfl rfl rfl Try.underlying22 T39 c4.1 c4.2 rfl ?_; clear S a; intro p1 a S
    refine s_faddrP S (tF := (Ty.slice (Ty.int .u8))) (y := (gt x1 y1).2.2.2.1) rfl I39_3 T36 (by decide) (fun m h => (at_fst (at_snd (at_snd (at_snd (at_0 h)))))) rfl ?_; clear S a; intro a S
    refine s_ldS S (fun c => c) rfl T36 (fun _ => rfl) rfl ?_; clear S a; intro A1 cp1 a S
    refine s_lenS S rfl Try.underlying36 rfl ?_; clear S a; intro a S
    refine s_bin S rfl rfl rfl rfl ?_; clear S a; intro a S
    refine s_move S rfl rfl ?_; clear S a; intro a S
    rcases ite_of h2 with ⟨c5, h3⟩ | ⟨c5, h3⟩ <;> clear h2
    ·refine s_gF S (b := (decide (3000 < (((gt x1 y1).2.2.2.1).length : Int)))) rfl rfl c5 rfl ?_; clear S a; intro a S
     refine s_gF S (b := (decide (3000 < (((gt x1 y1).2.2.2.1).length : Int)))) rfl rfl c5 rfl ?_; clear S a; intro a S
     refine s_gF S (b := (decide (3000 < (((gt x1 y1).2.2.2.1).length : Int)))) rfl rfl c5 rfl ?_; clear S a; intro a S
     refine s_gF S (b := (decide (3000 < (((gt x1 y1).2.2.2.1).length : Int)))) rfl rfl c5 rfl ?_; clear S a; intro a S
     refine s_gF S (b := (decide (3000 < (((gt x1 y1).2.2.2.1).length : Int)))) rfl rfl c5 rfl ?_; clear S a; intro a S
     refine s_gF S (b := (decide (3000 < (((gt x1 y1).2.2.2.1).length : Int)))) rfl rfl c5 rfl ?_; clear S a; intro a S
     refine s_gF S (b := (decide (3000 < (((gt x1 y1).2.2.2.1).length : Int)))) rfl rfl c5 rfl ?_; clear S a; intro a S
     refine s_pick S (b := true) (hc_of rfl c5) rfl rfl ?_; clear S a; intro a S
     refine c_end' ?_
     refine x_thenN ?_
     exact j2 _ true a w (S.sub (subR rfl) .nil) h3
    ·refine s_gT S (b := (decide (3000 < (((gt x1 y1).2.2.2.1).length : Int)))) rfl rfl c5 ?_
     refine s_move S rfl rfl ?_; clear S a; intro a S
     refine s_gT S (b := (decide (3000 < (((gt x1 y1).2.2.2.1).length : Int)))) rfl rfl c5 ?_
     refine s_move S rfl rfl ?_; clear S a; intro a S
     refine s_gT S (b := (decide (3000 < (((gt x1 y1).2.2.2.1).length : Int)))) rfl rfl c5 ?_
     refine s_iaddrS S rfl rfl rfl Try.underlying22 T39 c4.1 c4.2 rfl ?_; clear S a; intro p2 a S
     refine s_gT S (b := (decide (3000 < (((gt x1 y1).2.2.2.1).length : Int)))) rfl rfl c5 ?_
     refine s_faddrP S (tF := (Ty.slice Y82)) (y := (gt x1 y1).2.2.2.2) rfl I39_4 T37 (by decide) (fun m h => (at_snd (at_snd (at_snd (at_snd (at_0 h)))))) rfl ?_; clear S a; intro a S
     refine s_gT S (b := (decide (3000 < (((gt x1 y1).2.2.2.1).length : Int)))) rfl rfl c5 ?_
     refine s_ldS S (fun c => c) rfl T37 (fun _ => rfl) rfl ?_; clear S a; intro A2 cp2 a S
     refine s_gT S (b := (decide (3000 < (((gt x1 y1).2.2.2.1).length : Int)))) rfl rfl c5 ?_
     refine s_lenS S rfl Try.underlying37 rfl ?_; clear S a; intro a S
     refine s_gT S (b := (decide (3000 < (((gt x1 y1).2.2.2.1).length : Int)))) rfl rfl c5 ?_
     refine s_bin S rfl rfl rfl rfl ?_; clear S a; intro a S
     refine s_pick S (b := false) (hc_of rfl c5) rfl rfl ?_; clear S a; intro a S
     refine c_end' ?_
     refine x_thenN ?_
     exact j2 _ (decide (100 < (((gt x1 y1).2.2.2.2).length : Int))) a w (S.sub (subR rfl) .nil) h3
   ·refine c_condF S rfl c2 ?_
    refine wp_exit ?_
    refine x_thenX ?_
    refine x_thenX ?_
    refine x_blockX ?_
    refine x_thenN ?_
    exact j1 _ a w (S.sub trivial .nil) h1
abbrev smithyref01_Of.Ty : Type := (List Int) → Option ((List Int))
def smithyref01_Of.Ctr (s : smithyref01_Of.Ty) : Prop := ∀ (x1 : List Int) (r : (List Int)) (h0 : s x1 = some r) (mi : Mem) (w0 : World), okL mi [(.agg [.ints .u64 x1 4])] → Pre mi [] w0 → Calls Try.prog 52 (([(.agg [.ints .u64 x1 4])] : List D).map D.val).toArray w0 (RetX mi [] (fun (ch : Unit) => ((.agg [.ints .i64 r 32]) : D)) (fun (ch : Unit) => []) w0)
def smithyref01_Of.j1 (y1 : List Int) : Option ((List Int)) := some y1
def smithyref01_Of.b1 (x1 : List Int) (rec1 : Int → (List Int) → Option ((List Int))) (y4 : Int) (y5 : List Int) : Option ((List Int)) := if (decide (y4 < 32)) = true then (if (0 : Int) ≤ (wr .i64 (Int.tdiv y4 8)) ∧ (wr .i64 (Int.tdiv y4 8)) < 4 then (if (0 : Int) ≤ (wr .i64 (8 * (Int.tmod y4 8))) then (if (0 : Int) ≤ y4 ∧ y4 < 32 then (rec1 (wr .i64 (y4 + 1)) (y5.set (Int.toNat y4) (wr .i64 (Int.tmod (shr (rd x1 (wr .i64 (Int.tdiv y4 8))) (min (Int.toNat (wr .i64 (8 * (Int.tmod y4 8)))) 64)) 256)))) else none) else none) else none) else (smithyref01_Of.j1 y5)
def smithyref01_Of.l1 (x1 : List Int) : Nat → Int → (List Int) → Option ((List Int))
  | 0, _, _ => none
  | q + 1, y4, y5 => smithyref01_Of.b1 x1 (smithyref01_Of.l1 x1 q) y4 y5
def smithyref01_Of.f (k : Nat) (x1 : List Int) : Option ((List Int)) := smithyref01_Of.l1 x1 k 0 [0, 0, 0, 0, 0, 0, 0, 0, 0, 0, 0, 0, 0, 0, 0, 0, 0, 0, 0, 0, 0, 0, 0, 0, 0, 0, 0, 0, 0, 0, 0, 0]
theorem smithyref01_Of.ok (k : Nat) : smithyref01_Of.Ctr (smithyref01_Of.f k) := by
 intro x1 r h0 mi w0 ok hm
 delta smithyref01_Of.f at h0
 refine c_enterX (n := 23) [(.agg [.ints .u64 x1 4])] (l := [(0, (.agg [.ints .u64 x1 4]))]) Try.func52 rfl rfl rfl rfl ok hm ?_
 clear ok hm
 intro b0 hb a S
 refine c_region ?_
 refine s_box S rfl rfl rfl ?_; clear S a; intro g1 a w S
 refine s_alloc S Z105 rfl ⟨rfl, trivial⟩ rfl ?_; clear S a w; intro g2 a w S
 refine c_end ?_
 refine c_region ?_
 refine s_build S (ds := []) (dv := (.agg [.ints .i64 [0, 0, 0, 0, 0, 0, 0, 0, 0, 0, 0, 0, 0, 0, 0, 0, 0, 0, 0, 0, 0, 0, 0, 0, 0, 0, 0, 0, 0, 0, 0, 0] 32])) rfl (fun _ => by kernel_rfl) ⟨rfl, trivial⟩ rfl ?_; clear S a; intro a S
 refine s_alloc S Z105 rfl ⟨rfl, trivial⟩ rfl ?_; clear S a w; intro g3 a w S
 refine s_store S rfl rfl rfl (s' := [.ints .i64 [0, 0, 0, 0, 0, 0, 0, 0, 0, 0, 0, 0, 0, 0, 0, 0, 0, 0, 0, 0, 0, 0, 0, 0, 0, 0, 0, 0, 0, 0, 0, 0] 32]) .here T105 rfl rfl ?_; clear S w; intro w S
 refine c_end ?_
 refine wp_seq_k ?_
 intro K1 hK1
 have j1 : ∀ (m : Mem) (g13 : Nat) (g14 : Nat) (y1 : List Int) (a : Act) (w : World), St 23 m b0 [(3, (.v (.pointer (some ⟨g13, 0, none⟩)))), (2, (.v (.pointer (some ⟨g14, 0, none⟩))))] [Res.cells g13 105 [.ints .i64 y1 32], Res.cells g14 105 [.ints .i64 [0, 0, 0, 0, 0, 0, 0, 0, 0, 0, 0, 0, 0, 0, 0, 0, 0, 0, 0, 0, 0, 0, 0, 0, 0, 0, 0, 0, 0, 0, 0, 0] 32]] a w → smithyref01_Of.j1 y1 = some r → K1 a w := by
  intro m g13 g14 y1 a w S h0
  delta smithyref01_Of.j1 at h0
  refine hK1 a w ?_
  refine c_region ?_
  refine s_loada S rfl .here T105 (s' := [.ints .i64 y1 32]) rfl rfl ?_; clear S a; intro a S
  refine s_store S rfl rfl rfl (s' := [.ints .i64 y1 32]) (.there .here) T105 rfl rfl ?_; clear S w; intro w S
  refine c_end ?_
  refine wp_ret ?_
  obtain rfl := Option.some.inj h0
  exact b_ret1 (d := (.agg [.ints .i64 y1 32])) S rfl (resD_cell rfl (.there .here) T105 rfl rfl) fun ok => S.retX (Hx := []) hb _ _ (() : Unit) .nil ok
 refine c_region ?_
 refine s_assign S rfl rfl ?_; clear S a; intro a S
 refine c_end ?_
 refine wp_block ?_
 refine c_loop (fun q1 a w => ∃ (m : Mem) (y4 : Int) (g21 : Nat) (g22 : Nat) (g23 : Nat) (y5 : List Int), St 23 m b0 [(4, (.v (.int .i64 y4))), (3, (.v (.pointer (some ⟨g21, 0, none⟩)))), (2, (.v (.pointer (some ⟨g22, 0, none⟩)))), (1, (.v (.pointer (some ⟨g23, 0, none⟩))))] [Res.cells g21 105 [.ints .i64 y5 32], Res.cells g22 105 [.ints .i64 [0, 0, 0, 0, 0, 0, 0, 0, 0, 0, 0, 0, 0, 0, 0, 0, 0, 0, 0, 0, 0, 0, 0, 0, 0, 0, 0, 0, 0, 0, 0, 0] 32], Res.cells g23 35 [.ints .u64 x1 4]] a w ∧ smithyref01_Of.l1 x1 q1 y4 y5 = some r) ?_ ?_ (k := k) ⟨_, 0, g3, g2, g1, [0, 0, 0, 0, 0, 0, 0, 0, 0, 0, 0, 0, 0, 0, 0, 0, 0, 0, 0, 0, 0, 0, 0, 0, 0, 0, 0, 0, 0, 0, 0, 0], (S.sub (subR rfl) (.cons .here (.cons .here (.cons .here .nil)))), h0⟩
 ·rintro a w ⟨m, y4, g21, g22, g23, y5, S, h0⟩
  exact (nomatch (show (none : Option ((List Int))) = some r from h0))
 ·clear S h0
  rintro q1 a w ⟨m, y4, g21, g22, g23, y5, S, h0⟩
  replace h0 : smithyref01_Of.b1 x1 (smithyref01_Of.l1 x1 q1) y4 y5 = some r := h0
  delta smithyref01_Of.b1 at h0
  refine wp_seq ?_
  refine c_region ?_
  refine s_move S rfl rfl ?_; clear S a; intro a S
  refine s_bin S rfl rfl rfl rfl ?_; clear S a; intro a S
  refine c_end ?_
  rcases ite_of h0 with ⟨c1, h1⟩ | ⟨c1, h1⟩ <;> clear h0
  ·refine c_condT S rfl c1 ?_
   refine wp_skip ?_
   refine x_thenN ?_
   refine wp_seq ?_
   refine wp_block ?_
   refine c_region' ?_
   refine s_move S rfl rfl ?_; clear S a; intro a S
   refine s_move S rfl rfl ?_; clear S a; intro a S
   refine s_quo S rfl rfl (by decide) rfl ?_; clear S a; intro a S
   obtain ⟨c2, h2⟩ := chk_of h1; clear h1
   refine s_iaddr S rfl rfl Try.underlying35 T32 c2.1 c2.2 (mul1 _ _) rfl ?_; clear S a; intro a S
   refine s_loadi S (i := (wr .i64 (Int.tdiv y4 8))) rfl (.there (.there .here)) T32 .here rfl c2.1 c2.2 rfl ?_; clear S a; intro a S
   refine s_move S rfl rfl ?_; clear S a; intro a S
   refine s_rem S rfl rfl (by decide) rfl ?_; clear S a; intro a S
   refine s_bin S rfl rfl rfl rfl ?_; clear S a; intro a S
   obtain ⟨c3, h3⟩ := chk_of h2; clear h2
   refine s_shr S (e := (min (Int.toNat (wr .i64 (8 * (Int.tmod y4 8)))) 64)) rfl rfl c3 rfl rfl ?_; clear S a; intro a S
   refine s_rem S rfl rfl (by decide) rfl ?_; clear S a; intro a S
   refine s_conv S rfl rfl Try.underlying3 rfl ?_; clear S a; intro a S
   obtain ⟨c4, h4⟩ := chk_of h3; clear h3
   refine s_iaddr S rfl rfl Try.underlying105 T3 c4.1 c4.2 (mul1 _ _) rfl ?_; clear S a; intro a S
   refine s_storei S (i := y4) rfl rfl .here T3 .here rfl c4.1 c4.2 ?_; clear S w; intro w S
   refine c_end' ?_
   refine x_blockN ?_
   refine x_thenN ?_
   refine c_region' ?_
   refine s_move S rfl rfl ?_; clear S a; intro a S
   refine s_bin S rfl rfl rfl rfl ?_; clear S a; intro a S
   refine s_assign S rfl rfl ?_; clear S a; intro a S
   refine c_end' ?_
   refine x_thenN ?_
   exact ⟨_, (wr .i64 (y4 + 1)), g21, g22, g23, (y5.set (Int.toNat y4) (wr .i64 (Int.tmod (shr (rd x1 (wr .i64 (Int.tdiv y4 8))) (min (Int.toNat (wr .i64 (8 * (Int.tmod y4 8)))) 64)) 256))), (S.sub (subR rfl) (.cons .here (.cons .here (.cons .here .nil)))), h4⟩
  ·refine c_condF S rfl c1 ?_
   refine wp_exit ?_
   refine x_thenX ?_
   refine x_thenX ?_
   refine x_blockX ?_
   refine x_thenN ?_
   exact j1 _ g21 g22 y5 a w (S.sub (subR rfl) (.cons .here (.cons .here .nil))) h1
abbrev smithyref01_Compare.Ty : Type := (List Int) → (List Int) → Option Int
def smithyref01_Compare.Ctr (s : smithyref01_Compare.Ty) : Prop := ∀ (x1 : List Int) (x2 : List Int) (r : Int) (h0 : s x1 x2 = some r) (mi : Mem) (w0 : World), okL mi [(.agg [.ints .i64 x1 32]), (.agg [.ints .i64 x2 32])] → Pre mi [] w0 → Calls Try.prog 51 (([(.agg [.ints .i64 x1 32]), (.agg [.ints .i64 x2 32])] : List D).map D.val).toArray w0 (RetX mi [] (fun (ch : Unit) => ((.v (.int .i64 r)) : D)) (fun (ch : Unit) => []) w0)
def smithyref01_Compare.j1 : Option Int := some 0
def smithyref01_Compare.b1 (x1 : List Int) (x2 : List Int) (rec1 : Int → Option Int) (y1 : Int) : Option Int := if (decide (0 ≤ y1)) = true then (if (0 : Int) ≤ y1 ∧ y1 < 32 then (if (decide ((rd x1 y1) < (rd x2 y1))) = true then (some (-1)) else (if (decide ((rd x2 y1) < (rd x1 y1))) = true then (some 1) else (rec1 (wr .i64 (y1 - 1))))) else none) else smithyref01_Compare.j1
def smithyref01_Compare.l1 (x1 : List Int) (x2 : List Int) : Nat → Int → Option Int
  | 0, _ => none
  | q + 1, y1 => smithyref01_Compare.b1 x1 x2 (smithyref01_Compare.l1 x1 x2 q) y1
def smithyref01_Compare.f (k : Nat) (x1 : List Int) (x2 : List Int) : Option Int := smithyref01_Compare.l1 x1 x2 k 31
theorem smithyref01_Compare.ok (k : Nat) : smithyref01_Compare.Ctr (smithyref01_Compare.f k) := by
 intro x1 x2 r h0 mi w0 ok hm
 delta smithyref01_Compare.f at h0
 refine c_enterX (n := 24) [(.agg [.ints .i64 x1 32]), (.agg [.ints .i64 x2 32])] (l := [(0, (.agg [.ints .i64 x1 32])), (1, (.agg [.ints .i64 x2 32]))]) Try.func51 rfl rfl rfl rfl ok hm ?_
 clear ok hm
 intro b0 hb a S
 refine c_region ?_
 refine s_box S rfl rfl rfl ?_; clear S a; intro g1 a w S
 refine s_box S rfl rfl rfl ?_; clear S a w; intro g2 a w S
 refine s_assign S rfl rfl ?_; clear S a; intro a S
 refine c_end ?_
 refine wp_seq_k ?_
 intro K1 hK1
 have j1 : ∀ (m : Mem) (a : Act) (w : World), St 24 m b0 [] [] a w → smithyref01_Compare.j1 = some r → K1 a w := by
  intro m a w S h0
  delta smithyref01_Compare.j1 at h0
  refine hK1 a w ?_
  refine c_region ?_
  refine s_assign S rfl rfl ?_; clear S a; intro a S
  refine c_end ?_
  refine wp_ret ?_
  obtain rfl := Option.some.inj h0
  exact b_ret1 (d := (.v (.int .i64 0))) S rfl rfl fun ok => S.retX (Hx := []) hb _ _ (() : Unit) .nil ok
 refine c_region ?_
 refine s_assign S rfl rfl ?_; clear S a; intro a S
 refine c_end ?_
 refine wp_block ?_
 refine c_loop (fun q1 a w => ∃ (m : Mem) (y1 : Int) (g13 : Nat) (g14 : Nat), St 24 m b0 [(5, (.v (.int .i64 y1))), (3, (.v (.pointer (some ⟨g13, 0, none⟩)))), (2, (.v (.pointer (some ⟨g14, 0, none⟩))))] [Res.cells g13 105 [.ints .i64 x2 32], Res.cells g14 105 [.ints .i64 x1 32]] a w ∧ smithyref01_Compare.l1 x1 x2 q1 y1 = some r) ?_ ?_ (k := k) ⟨_, 31, g2, g1, (S.sub (subR rfl) (.cons .here (.cons .here .nil))), h0⟩
 ·rintro a w ⟨m, y1, g13, g14, S, h0⟩
  exact (nomatch (show (none : Option Int) = some r from h0))
 ·clear S h0
  rintro q1 a w ⟨m, y1, g13, g14, S, h0⟩
  replace h0 : smithyref01_Compare.b1 x1 x2 (smithyref01_Compare.l1 x1 x2 q1) y1 = some r := h0
  delta smithyref01_Compare.b1 at h0
  refine wp_seq ?_
  refine c_region ?_
  refine s_move S rfl rfl ?_; clear S a; intro a S
  refine s_bin S rfl rfl rfl rfl ?_; clear S a; intro a S
  refine c_end ?_
  rcases ite_of h0 with ⟨c1, h1⟩ | ⟨c1, h1⟩ <;> clear h0
  ·refine c_condT S rfl c1 ?_
   refine wp_skip ?_
   refine x_thenN ?_
   refine wp_seq ?_
   refine wp_block ?_
   refine wp_seq ?_
   refine wp_seq (c_heldS S (.take 0 (.take 1 (.take 2 (.take 3 (.take 4 (.take 5 (.take 6 .done))))))) 7 [Res.cells g13 105 [.ints .i64 x2 32], Res.cells g14 105 [.ints .i64 x1 32]] (.cons .here (.cons .here .nil)) ⟨Res.stay_cells, Res.stay_cells, trivial⟩ [(5, (.v (.int .i64 y1))), (3, (.v (.pointer (some ⟨g13, 0, none⟩)))), (2, (.v (.pointer (some ⟨g14, 0, none⟩))))] (subR rfl) (by kernel_rfl) (by kernel_rfl) ?_); clear S; intro w S CL hw le
   refine h_move S CL hw le (subR rfl) rfl rfl rfl trivial ?_; clear S CL a; intro a S CL
   obtain ⟨c2, h2⟩ := chk_of h1; clear h1
   refine h_iaddr S CL hw le (subR rfl) rfl rfl Try.underlying105 T3 c2.1 c2.2 (mul1 _ _) rfl rfl trivial ?_; clear S CL a; intro a S CL
   refine h_loadi S CL hw le (subR rfl) (i := y1) rfl (.there .here) T3 .here rfl c2.1 c2.2 rfl rfl trivial ?_; clear S CL a; intro a S CL
   refine h_move S CL hw le (subR rfl) rfl rfl rfl trivial ?_; clear S CL a; intro a S CL
   refine h_iaddr S CL hw le (subR rfl) rfl rfl Try.underlying105 T3 c2.1 c2.2 (mul1 _ _) rfl rfl trivial ?_; clear S CL a; intro a S CL
   refine h_loadi S CL hw le (subR rfl) (i := y1) rfl .here T3 .here rfl c2.1 c2.2 rfl rfl trivial ?_; clear S CL a; intro a S CL
   refine h_bin S CL hw le (subR rfl) rfl rfl rfl rfl rfl trivial ?_; clear S CL a; intro a S CL
   refine h_done ?_; clear CL hw le
   refine x_thenN ?_
   rcases ite_of h2 with ⟨c3, h3⟩ | ⟨c3, h3⟩ <;> clear h2
   ·refine c_condT S rfl c3 ?_
    refine c_region ?_
    refine s_assign S rfl rfl ?_; clear S a; intro a S
    refine c_end ?_
    refine wp_ret ?_
    refine x_thenR ?_
    refine x_blockR ?_
    refine x_thenR ?_
    refine x_thenR ?_
    refine x_blockR ?_
    refine x_thenR ?_
    obtain rfl := Option.some.inj h3
    exact b_ret1 (d := (.v (.int .i64 (-1)))) S rfl rfl fun ok => S.retX (Hx := []) hb _ _ (() : Unit) .nil ok
   ·refine c_condF S rfl c3 ?_
    refine wp_skip ?_
    refine x_thenN ?_
    refine wp_seq (c_heldS S (.take 0 (.take 1 (.take 2 (.take 3 (.take 4 (.take 5 (.take 6 .done))))))) 7 [Res.cells g13 105 [.ints .i64 x2 32], Res.cells g14 105 [.ints .i64 x1 32]] (.cons .here (.cons .here .nil)) ⟨Res.stay_cells, Res.stay_cells, trivial⟩ [(5, (.v (.int .i64 y1))), (3, (.v (.pointer (some ⟨g13, 0, none⟩)))), (2, (.v (.pointer (some ⟨g14, 0, none⟩))))] (subR rfl) (by kernel_rfl) (by kernel_rfl) ?_); clear S; intro w S CL hw le
    refine h_move S CL hw le (subR rfl) rfl rfl rfl trivial ?_; clear S CL a; intro a S CL
    refine h_iaddr S CL hw le (subR rfl) rfl rfl Try.underlying105 T3 c2.1 c2.2 (mul1 _ _) rfl rfl trivial ?_; clear S CL a; intro a S CL
    refine h_loadi S CL hw le (subR rfl) (i := y1) rfl (.there .here) T3 .here rfl c2.1 c2.2 rfl rfl trivial ?_; clear S CL a; intro a S CL
    refine h_move S CL hw le (subR rfl) rfl rfl rfl trivial ?_; clear S CL a; intro a S CL
    refine h_iaddr S CL hw le (subR rfl) rfl rfl Try.underlying105 T3 c2.1 c2.2 (mul1 _ _) rfl rfl trivial ?_; clear S CL a; intro a S CL
    refine h_loadi S CL hw le (subR rfl) (i := y1) rfl .here T3 .here rfl c2.1 c2.2 rfl rfl trivial ?_; clear S CL a; intro a S CL
    refine h_bin S CL hw le (subR rfl) rfl rfl rfl rfl rfl trivial ?_; clear S CL a; intro a S CL
    refine h_done ?_; clear CL hw le
    refine x_thenN ?_
    rcases ite_of h3 with ⟨c4, h4⟩ | ⟨c4, h4⟩ <;> clear h3
    ·refine c_condT S rfl c4 ?_
     refine c_region ?_
     refine s_assign S rfl rfl ?_; clear S a; intro a S
     refine c_end ?_
     refine wp_ret ?_
     refine x_blockR ?_
     refine x_thenR ?_
     refine x_thenR ?_
     refine x_blockR ?_
     refine x_thenR ?_
     obtain rfl := Option.some.inj h4
     exact b_ret1 (d := (.v (.int .i64 1))) S rfl rfl fun ok => S.retX (Hx := []) hb _ _ (() : Unit) .nil ok
    ·refine c_condF S rfl c4 ?_
     refine wp_skip ?_
     refine x_blockN ?_
     refine x_thenN ?_
     refine c_region' ?_
     refine s_move S rfl rfl ?_; clear S a; intro a S
     refine s_bin S rfl rfl rfl rfl ?_; clear S a; intro a S
     refine s_assign S rfl rfl ?_; clear S a; intro a S
     refine c_end' ?_
     refine x_thenN ?_
     exact ⟨_, (wr .i64 (y1 - 1)), g13, g14, (S.sub (subR rfl) (.cons .here (.cons .here .nil))), h4⟩
  ·refine c_condF S rfl c1 ?_
   refine wp_exit ?_
   refine x_thenX ?_
   refine x_thenX ?_
   refine x_blockX ?_
   refine x_thenN ?_
   exact j1 _ a w (S.sub trivial .nil) h1
abbrev smithyref13_less.Ty : Type := (List Int) → (List Int) → Option Bool
def smithyref13_less.Ctr (s : smithyref13_less.Ty) : Prop := ∀ (x1 : List Int) (x2 : List Int) (r : Bool) (h0 : s x1 x2 = some r) (mi : Mem) (w0 : World), okL mi [(.agg [.ints .u64 x1 4]), (.agg [.ints .u64 x2 4])] → Pre mi [] w0 → Calls Try.prog 40 (([(.agg [.ints .u64 x1 4]), (.agg [.ints .u64 x2 4])] : List D).map D.val).toArray w0 (RetX mi [] (fun (ch : Unit) => ((.v (.bool r)) : D)) (fun (ch : Unit) => []) w0)
def smithyref13_less.f (k : Nat) (x1 : List Int) (x2 : List Int) : Option Bool := (smithyref01_Of.f k x1).bind fun t1 => ((smithyref01_Of.f k x2).bind fun t2 => ((smithyref01_Compare.f k t1 t2).bind fun t3 => (some (decide (t3 < 0)))))
theorem smithyref13_less.ok (k : Nat) : smithyref13_less.Ctr (smithyref13_less.f k) := by
 intro x1 x2 r h0 mi w0 ok hm
 delta smithyref13_less.f at h0
 refine c_enterX (n := 11) [(.agg [.ints .u64 x1 4]), (.agg [.ints .u64 x2 4])] (l := [(0, (.agg [.ints .u64 x1 4])), (1, (.agg [.ints .u64 x2 4]))]) Try.func40 rfl rfl rfl rfl ok hm ?_
 clear ok hm
 intro b0 hb a S
 refine c_region ?_
 refine s_box S rfl rfl rfl ?_; clear S a; intro g1 a w S
 refine s_box S rfl rfl rfl ?_; clear S a w; intro g2 a w S
 refine s_assign S rfl rfl ?_; clear S a; intro a S
 refine c_end ?_
 refine wp_seq (c_heldS S (.take 0 (.take 2 (.alts (.run 1 true (.alts (.run 3 true (.alts (.run 4 true (.take 5 (.take 6 .done)) .nil)) .nil)) .nil)))) 7 [Res.cells g2 35 [.ints .u64 x2 4], Res.cells g1 35 [.ints .u64 x1 4]] (.cons .here (.cons .here .nil)) ⟨Res.stay_cells, Res.stay_cells, trivial⟩ [(3, (.v (.pointer (some ⟨g2, 0, none⟩)))), (2, (.v (.pointer (some ⟨g1, 0, none⟩))))] (subR rfl) (by kernel_rfl) (by kernel_rfl) ?_); clear S; intro w S CL hw le
 refine h_loada S CL hw le (subR rfl) rfl (.there .here) T35 (s' := [.ints .u64 x1 4]) rfl rfl rfl trivial ?_; clear S CL a; intro a S CL
 refine h_loada S CL hw le (subR rfl) rfl .here T35 (s' := [.ints .u64 x2 4]) rfl rfl rfl trivial ?_; clear S CL a; intro a S CL
 refine h_run' S rfl trivial ?_
 obtain ⟨t1, et1, h1⟩ := bind_of h0; clear h0
 refine s_callP S (fun (ch : Unit) => ((.agg [.ints .i64 t1 32]) : D)) N52 rfl rfl (smithyref01_Of.ok k x1 t1 et1 _ _) ?_; clear S a; intro ch1 m le1 a w S
 replace le := le.trans le1
 replace hw := CL.again hw S (.cons .here (.cons .here .nil)) le
 refine h_back ⟨fun _ => hw, ?_⟩
 refine h_run' S rfl trivial ?_
 obtain ⟨t2, et2, h2⟩ := bind_of h1; clear h1
 refine s_callP S (fun (ch : Unit) => ((.agg [.ints .i64 t2 32]) : D)) N52 rfl rfl (smithyref01_Of.ok k x2 t2 et2 _ _) ?_; clear S a; intro ch2 m le1 a w S
 replace le := le.trans le1
 replace hw := CL.again hw S (.cons .here (.cons .here .nil)) le
 refine h_back ⟨fun _ => hw, ?_⟩
 refine h_run' S rfl trivial ?_
 obtain ⟨t3, et3, h3⟩ := bind_of h2; clear h2
 refine s_callP S (fun (ch : Unit) => ((.v (.int .i64 t3)) : D)) N51 rfl rfl (smithyref01_Compare.ok k t1 t2 t3 et3 _ _) ?_; clear S a; intro ch3 m le1 a w S
 replace le := le.trans le1
 replace hw := CL.again hw S (.cons .here (.cons .here .nil)) le
 refine h_back ⟨fun _ => hw, ?_⟩
 replace CL := CL.add (t := 9) (d := (.v (.int .i64 t3))) S rfl rfl
 refine h_bin S CL hw le (subR rfl) rfl rfl rfl rfl rfl trivial ?_; clear S CL a; intro a S CL
 refine h_assign S CL hw le (subR rfl) rfl rfl rfl trivial ?_; clear S CL a; intro a S CL
 refine h_done ?_; clear CL hw le
 refine x_thenN ?_
 refine wp_ret ?_
 obtain rfl := Option.some.inj h3
 exact b_ret1 (d := (.v (.bool (decide (t3 < 0))))) S rfl rfl fun ok => S.retX (Hx := []) hb _ _ (() : Unit) .nil ok
abbrev smithyref13_Right.Ty : Type := W1 → Option Bool
def smithyref13_Right.Ctr (s : smithyref13_Right.Ty) : Prop := ∀ (x1 : W1) (ch_0_0 : Option Addr) (ch_0_1 : Nat) (ch_0_2 : Option Addr) (ch_0_3 : Nat) (r : Bool) (h0 : s x1 = some r) (mi : Mem) (w0 : World), okL mi [(.agg (Y39.segs x1 ((), (), (), (ch_0_0, ch_0_1), (ch_0_2, ch_0_3))))] → Pre mi [] w0 → Calls Try.prog 23 (([(.agg (Y39.segs x1 ((), (), (), (ch_0_0, ch_0_1), (ch_0_2, ch_0_3))))] : List D).map D.val).toArray w0 (RetX mi [] (fun (ch : Unit) => ((.v (.bool r)) : D)) (fun (ch : Unit) => []) w0)
def smithyref13_Right.j1 : Option Bool := some true
def smithyref13_Right.j2 (y1 : Int) (rec1 : Int → Option Bool) (y2 : Bool) : Option Bool := if y2 = true then (some false) else (rec1 (wr .i64 (y1 + 1)))
def smithyref13_Right.b1 (k : Nat) (x1 : W1) (rec1 : Int → Option Bool) (y1 : Int) : Option Bool := if (decide (y1 < ((x1.2.2.2.2).length : Int))) = true then (if (0 : Int) ≤ y1 ∧ y1 < ((x1.2.2.2.2).length : Int) then (if (decide ((gt x1.2.2.2.2 y1).2 = [0, 0, 0, 0])) = true then (some false) else (if (decide (0 < y1)) = true then (if (0 : Int) ≤ (wr .i64 (y1 - 1)) ∧ (wr .i64 (y1 - 1)) < ((x1.2.2.2.2).length : Int) then ((smithyref13_less.f k ((gt x1.2.2.2.2 (wr .i64 (y1 - 1))).1) ((gt x1.2.2.2.2 y1).1)).bind fun t1 => (smithyref13_Right.j2 y1 rec1 (!t1))) else none) else (smithyref13_Right.j2 y1 rec1 false))) else none) else smithyref13_Right.j1
def smithyref13_Right.l1 (k : Nat) (x1 : W1) : Nat → Int → Option Bool
  | 0, _ => none
  | q + 1, y1 => smithyref13_Right.b1 k x1 (smithyref13_Right.l1 k x1 q) y1
def smithyref13_Right.f (k : Nat) (x1 : W1) : Option Bool := smithyref13_Right.l1 k x1 k 0
theorem smithyref13_Right.ok (k : Nat) : smithyref13_Right.Ctr (smithyref13_Right.f k) := by
 intro x1 ch_0_0 ch_0_1 ch_0_2 ch_0_3 r h0 mi w0 ok hm
 delta smithyref13_Right.f at h0
 refine c_enterX (n := 38) [(.agg (Y39.segs x1 ((), (), (), (ch_0_0, ch_0_1), (ch_0_2, ch_0_3))))] (l := [(0, (.agg (Y39.segs x1 ((), (), (), (ch_0_0, ch_0_1), (ch_0_2, ch_0_3)))))]) Try.func23 rfl rfl rfl rfl ok hm ?_
 clear ok hm
 intro b0 hb a S
 refine c_region ?_
 refine s_box S rfl rfl rfl ?_; clear S a; intro g1 a w S
 refine s_assign S rfl rfl ?_; clear S a; intro a S
 refine c_end ?_
 refine wp_seq_k ?_
 intro K1 hK1
 have j1 : ∀ (m : Mem) (a : Act) (w : World), St 38 m b0 [] [] a w → smithyref13_Right.j1 = some r → K1 a w := by
  intro m a w S h0
  delta smithyref13_Right.j1 at h0
  refine hK1 a w ?_
  refine c_region ?_
  refine s_assign S rfl rfl ?_; clear S a; intro a S
  refine c_end ?_
  refine wp_ret ?_
  obtain rfl := Option.some.inj h0
  exact b_ret1 (d := (.v (.bool true))) S rfl rfl fun ok => S.retX (Hx := []) hb _ _ (() : Unit) .nil ok
 refine c_region ?_
 refine s_fieldAddr S rfl I39_4 T37 (by decide) rfl rfl ?_; clear S a; intro a S
 refine s_loadSl S rfl .here T37 (A := ch_0_2) (len := (x1.2.2.2.2).length) (cap := ch_0_3) rfl rfl ?_; clear S a; intro a S
 refine s_lenS S rfl Try.underlying37 rfl ?_; clear S a; intro a S
 refine s_move S rfl rfl ?_; clear S a; intro a S
 refine c_end ?_
 refine wp_block ?_
 refine c_loop (fun q1 a w => ∃ (m : Mem) (y1 : Int) (g9 : Nat), St 38 m b0 [(7, (.v (.int .i64 y1))), (6, (.v (.int .i64 ((x1.2.2.2.2).length : Int)))), (1, (.v (.pointer (some ⟨g9, 0, none⟩))))] [Res.cells g9 39 (Y39.segs x1 ((), (), (), (ch_0_0, ch_0_1), (ch_0_2, ch_0_3)))] a w ∧ smithyref13_Right.l1 k x1 q1 y1 = some r) ?_ ?_ (k := k) ⟨_, 0, g1, (S.sub (subR rfl) (.cons .here .nil)), h0⟩
 ·rintro a w ⟨m, y1, g9, S, h0⟩
  exact (nomatch (show (none : Option Bool) = some r from h0))
 ·clear S h0
  rintro q1 a w ⟨m, y1, g9, S, h0⟩
  replace h0 : smithyref13_Right.b1 k x1 (smithyref13_Right.l1 k x1 q1) y1 = some r := h0
  delta smithyref13_Right.b1 at h0
  refine c_region ?_
  refine s_bin S rfl rfl rfl rfl ?_; clear S a; intro a S
  refine c_end ?_
  refine wp_seq ?_
  rcases ite_of h0 with ⟨c1, h1⟩ | ⟨c1, h1⟩ <;> clear h0
  ·refine c_condT S rfl c1 ?_
   refine wp_skip ?_
   refine x_thenN ?_
   refine wp_seq ?_
   refine wp_block ?_
   refine c_region ?_
   refine s_move S rfl rfl ?_; clear S a; intro a S
   refine s_assign S rfl rfl ?_; clear S a; intro a S
   refine c_end ?_
   refine wp_seq ?_
   refine c_region ?_
   refine s_fieldAddr S rfl I39_4 T37 (by decide) rfl rfl ?_; clear S a; intro a S
   refine s_loadSl S rfl .here T37 (A := ch_0_2) (len := (x1.2.2.2.2).length) (cap := ch_0_3) rfl rfl ?_; clear S a; intro a S
   refine s_move S rfl rfl ?_; clear S a; intro a S
   obtain ⟨c2, h2⟩ := chk_of h1; clear h1
   refine s_iaddrS S rfl rfl rfl Try.underlying37 T82 c2.1 c2.2 rfl ?_; clear S a; intro p1 a S
   refine s_faddrP S (tF := (Ty.arr .u64 4)) (y := (gt x1.2.2.2.2 y1).2) rfl I82_1 T35 (by decide) (fun m h => (at_snd (at_0 h))) rfl ?_; clear S a; intro a S
   refine s_ldA S (fun (c : Unit) => [.ints .u64 ((gt x1.2.2.2.2 y1).2) 4]) rfl T35 (fun _ => rfl) rfl ?_; clear S a; intro ch1 a S
   refine s_build S (ds := []) (dv := (.agg [.ints .u64 [0, 0, 0, 0] 4])) rfl (fun _ => by kernel_rfl) ⟨rfl, trivial⟩ rfl ?_; clear S a; intro a S
   refine s_eqa S rfl rfl Try.underlying35 Try.underlying32 T32 Q35 rfl ?_; clear S a; intro a S
   refine c_end ?_
   rcases ite_of h2 with ⟨c3, h3⟩ | ⟨c3, h3⟩ <;> clear h2
   ·refine c_condT S rfl c3 ?_
    refine c_region ?_
    refine s_assign S rfl rfl ?_; clear S a; intro a S
    refine c_end ?_
    refine wp_ret ?_
    refine x_thenR ?_
    refine x_blockR ?_
    refine x_thenR ?_
    refine x_thenR ?_
    refine x_blockR ?_
    refine x_thenR ?_
    obtain rfl := Option.some.inj h3
    exact b_ret1 (d := (.v (.bool false))) S rfl rfl fun ok => S.retX (Hx := []) hb _ _ (() : Unit) .nil ok
   ·refine c_condF S rfl c3 ?_
    refine wp_skip ?_
    refine x_thenN ?_
    refine wp_seq_k ?_
    intro K2 hK2
    have j2 : ∀ (m : Mem) (y2 : Bool) (g10 : Nat) (a : Act) (w : World), St 38 m b0 [(36, (.v (.bool y2))), (7, (.v (.int .i64 y1))), (6, (.v (.int .i64 ((x1.2.2.2.2).length : Int)))), (1, (.v (.pointer (some ⟨g10, 0, none⟩))))] [Res.cells g10 39 (Y39.segs x1 ((), (), (), (ch_0_0, ch_0_1), (ch_0_2, ch_0_3)))] a w → smithyref13_Right.j2 y1 (smithyref13_Right.l1 k x1 q1) y2 = some r → K2 a w := by
     intro m y2 g10 a w S h0
     delta smithyref13_Right.j2 at h0
     refine hK2 a w ?_
     rcases ite_of h0 with ⟨c4, h1⟩ | ⟨c4, h1⟩ <;> clear h0
     ·refine c_condT S rfl c4 ?_
      refine c_region ?_
      refine s_assign S rfl rfl ?_; clear S a; intro a S
      refine c_end ?_
      refine wp_ret ?_
      refine x_blockR ?_
      refine x_thenR ?_
      refine x_thenR ?_
      refine x_blockR ?_
      refine x_thenR ?_
      obtain rfl := Option.some.inj h1
      exact b_ret1 (d := (.v (.bool false))) S rfl rfl fun ok => S.retX (Hx := []) hb _ _ (() : Unit) .nil ok
     ·refine c_condF S rfl c4 ?_
      refine wp_skip ?_
      refine x_blockN ?_
      refine x_thenN ?_
      refine c_region' ?_
      refine s_bin S rfl rfl rfl rfl ?_; clear S a; intro a S
      refine s_move S rfl rfl ?_; clear S a; intro a S
      refine c_end' ?_
      refine x_thenN ?_
      exact ⟨_, (wr .i64 (y1 + 1)), g10, (S.sub (subR rfl) (.cons .here .nil)), h1⟩
    refine c_heldS S (.take 0 (.take 1 (.take 2 (.take 3 (.take 4 (.take 5 (.take 6 (.take 7 (.take 8 (.take 9 (.take 10 (.take 11 (.take 12 (.take 13 (.take 14 (.take 15 (.alts (.run 16 true (.take 17 (.take 18 .done)) .nil)))))))))))))))))) 19 [Res.cells g9 39 (Y39.segs x1 ((), (), (), (ch_0_0, ch_0_1), (ch_0_2, ch_0_3)))] (.cons .here .nil) ⟨Res.stay_cells, trivial⟩ [(3, (.v (.int .i64 y1))), (1, (.v (.pointer (some ⟨g9, 0, none⟩))))] (subR rfl) (by kernel_rfl) (by kernel_rfl) ?_; clear S; intro w S CL hw le
    refine h_move S CL hw le (subR rfl) rfl rfl rfl trivial ?_; clear S CL a; intro a S CL
    refine h_bin S CL hw le (subR rfl) rfl rfl rfl rfl rfl trivial ?_; clear S CL a; intro a S CL
    refine h_move S CL hw le (subR rfl) rfl rfl rfl trivial ?_; clear S CL a; intro a S CL
    rcases ite_of h3 with ⟨c5, h4⟩ | ⟨c5, h4⟩ <;> clear h3
    ·refine h_fieldAddr S CL hw le (subR rfl) rfl I39_4 T37 (by decide) rfl rfl rfl ⟨_, _, rfl, rfl, c5⟩ ?_; clear S CL a; intro a S CL
     refine h_loadSl S CL hw le (subR rfl) rfl .here T37 (A := ch_0_2) (len := (x1.2.2.2.2).length) (cap := ch_0_3) rfl rfl rfl ⟨_, _, rfl, rfl, c5⟩ ?_; clear S CL a; intro a S CL
     refine h_move S CL hw le (subR rfl) rfl rfl rfl ⟨_, _, rfl, rfl, c5⟩ ?_; clear S CL a; intro a S CL
     refine h_bin S CL hw le (subR rfl) rfl rfl rfl rfl rfl ⟨_, _, rfl, rfl, c5⟩ ?_; clear S CL a; intro a S CL
     obtain ⟨c6, h5⟩ := chk_of h4; clear h4
     refine h_iaddrS S CL hw le (subR rfl) rfl rfl rfl Try.underlying37 T82 c6.1 c6.2 rfl rfl ⟨_, _, rfl, rfl, c5⟩ ?_; clear S CL a; intro p4 a S CL
     refine h_faddrP S CL hw le (subR rfl) (tF := (Ty.arr .u64 4)) (y := (gt x1.2.2.2.2 (wr .i64 (y1 - 1))).1) rfl I82_0 T35 (by decide) (fun m h => (at_fst (at_0 h))) rfl rfl ⟨_, _, rfl, rfl, c5⟩ ?_; clear S CL a; intro a S CL
     refine h_ldA S CL hw le (subR rfl) (fun (c : Unit) => [.ints .u64 ((gt x1.2.2.2.2 (wr .i64 (y1 - 1))).1) 4]) rfl T35 (fun _ => rfl) rfl rfl ⟨_, _, rfl, rfl, c5⟩ ?_; clear S CL a; intro ch2 a S CL
     refine h_fieldAddr S CL hw le (subR rfl) rfl I39_4 T37 (by decide) rfl rfl rfl ⟨_, _, rfl, rfl, c5⟩ ?_; clear S CL a; intro a S CL
     refine h_loadSl S CL hw le (subR rfl) rfl .here T37 (A := ch_0_2) (len := (x1.2.2.2.2).length) (cap := ch_0_3) rfl rfl rfl ⟨_, _, rfl, rfl, c5⟩ ?_; clear S CL a; intro a S CL
     refine h_move S CL hw le (subR rfl) rfl rfl rfl ⟨_, _, rfl, rfl, c5⟩ ?_; clear S CL a; intro a S CL
     refine h_iaddrS S CL hw le (subR rfl) rfl rfl rfl Try.underlying37 T82 c2.1 c2.2 rfl rfl ⟨_, _, rfl, rfl, c5⟩ ?_; clear S CL a; intro p5 a S CL
     refine h_faddrP S CL hw le (subR rfl) (tF := (Ty.arr .u64 4)) (y := (gt x1.2.2.2.2 y1).1) rfl I82_0 T35 (by decide) (fun m h => (at_fst (at_0 h))) rfl rfl ⟨_, _, rfl, rfl, c5⟩ ?_; clear S CL a; intro a S CL
     refine h_ldA S CL hw le (subR rfl) (fun (c : Unit) => [.ints .u64 ((gt x1.2.2.2.2 y1).1) 4]) rfl T35 (fun _ => rfl) rfl rfl ⟨_, _, rfl, rfl, c5⟩ ?_; clear S CL a; intro ch3 a S CL
     refine h_run' S rfl ⟨_, _, rfl, rfl, c5⟩ ?_
     obtain ⟨t1, et1, h6⟩ := bind_of h5; clear h5
     refine s_callP S (fun (ch : Unit) => ((.v (.bool t1)) : D)) N40 rfl rfl (smithyref13_less.ok k ((gt x1.2.2.2.2 (wr .i64 (y1 - 1))).1) ((gt x1.2.2.2.2 y1).1) t1 et1 _ _) ?_; clear S a; intro ch4 m le1 a w S
     replace le := le.trans le1
     replace hw := CL.again hw S (.cons .here .nil) le
     refine h_back ⟨fun _ => hw, ?_⟩
     replace CL := CL.add (t := 34) (d := (.v (.bool t1))) S rfl rfl
     refine h_not S CL hw le (subR rfl) rfl rfl rfl ⟨_, _, rfl, rfl, c5⟩ ?_; clear S CL a; intro a S CL
     refine h_pick S CL hw le (subR rfl) (b := true) (hc_of rfl c5) rfl rfl rfl trivial ?_; clear S CL a; intro a S CL
     refine h_done ?_; clear CL hw le
     refine x_thenN ?_
     exact j2 _ (!t1) g9 a w (S.sub (subR rfl) (.cons .here .nil)) h6
    ·refine h_skip S CL rfl rfl rfl (ne_bool c5) rfl ?_; clear S CL a; intro a S CL
     refine h_skip S CL rfl rfl rfl (ne_bool c5) rfl ?_; clear S CL a; intro a S CL
     refine h_skip S CL rfl rfl rfl (ne_bool c5) rfl ?_; clear S CL a; intro a S CL
     refine h_skip S CL rfl rfl rfl (ne_bool c5) rfl ?_; clear S CL a; intro a S CL
     refine h_skip S CL rfl rfl rfl (ne_bool c5) rfl ?_; clear S CL a; intro a S CL
     refine h_skip S CL rfl rfl rfl (ne_bool c5) rfl ?_; clear S CL a; intro a S CL
     refine h_skip S CL rfl rfl rfl (ne_bool c5) rfl ?_; clear S CL a; intro a S CL
     refine h_skip S CL rfl rfl rfl (ne_bool c5) rfl ?_; clear S CL a; intro a S CL
     refine h_skip S CL rfl rfl rfl (ne_bool c5) rfl ?_; clear S CL a; intro a S CL
     refine h_skip S CL rfl rfl rfl (ne_bool c5) rfl ?_; clear S CL a; intro a S CL
     refine h_skip S CL rfl rfl rfl (ne_bool c5) rfl ?_; clear S CL a; intro a S CL
     refine h_skip S CL rfl rfl rfl (ne_bool c5) rfl ?_; clear S CL a; intro a S CL
     refine h_skip S CL rfl rfl rfl (ne_bool c5) rfl ?_; clear S CL a; intro a S CL
     refine h_skipRt S rfl rfl rfl (ne_bool c5) rfl ?_; clear S a; intro a S
     replace hw := CL.again hw S (.cons .here .nil) le
     refine h_back ⟨fun _ => hw, ?_⟩
     replace CL := CL.add (t := 34) (d := .u) S rfl rfl
     refine h_skip S CL rfl rfl rfl (ne_bool c5) rfl ?_; clear S CL a; intro a S CL
     refine h_pick S CL hw le (subR rfl) (b := false) (hc_of rfl c5) rfl rfl rfl trivial ?_; clear S CL a; intro a S CL
     refine h_done ?_; clear CL hw le
     refine x_thenN ?_
     exact j2 _ false g9 a w (S.sub (subR rfl) (.cons .here .nil)) h4
  ·refine c_condF S rfl c1 ?_
   refine wp_exit ?_
   refine x_thenX ?_
   refine x_thenX ?_
   refine x_blockX ?_
   refine x_thenN ?_
   exact j1 _ a w (S.sub trivial .nil) h1
abbrev smithylaw14_right.Ty : Type := (List L39) → Option Bool
def smithylaw14_right.Ctr (s : smithylaw14_right.Ty) : Prop := ∀ (x1 : List L39) (ch_0_0 : Option Addr) (ch_0_1 : Nat) (r : Bool) (h0 : s x1 = some r) (mi : Mem) (w0 : World), okL mi [(.sl ch_0_0 (x1).length ch_0_1 (RdS Y39 ch_0_0 x1))] → Pre mi [] w0 → Calls Try.prog 5 (([(.sl ch_0_0 (x1).length ch_0_1 (RdS Y39 ch_0_0 x1))] : List D).map D.val).toArray w0 (RetX mi [] (fun (ch : Unit) => ((.v (.bool r)) : D)) (fun (ch : Unit) => []) w0)
def smithylaw14_right.j1 : Option Bool := some true
def smithylaw14_right.b1 (k : Nat) (x1 : List L39) (rec1 : Int → Option Bool) (y1 : Int) : Option Bool := if (decide (y1 < ((x1).length : Int))) = true then (if (0 : Int) ≤ y1 ∧ y1 < ((x1).length : Int) then ((smithyref13_Right.f k (gt x1 y1)).bind fun t4 => (if (!t4) = true then (some false) else (rec1 (wr .i64 (y1 + 1))))) else none) else smithylaw14_right.j1
def smithylaw14_right.l1 (k : Nat) (x1 : List L39) : Nat → Int → Option Bool
  | 0, _ => none
  | q + 1, y1 => smithylaw14_right.b1 k x1 (smithylaw14_right.l1 k x1 q) y1
def smithylaw14_right.f (k : Nat) (x1 : List L39) : Option Bool := (smithyref13_Great.f k x1).bind fun t1 => (if t1 = true then (some false) else (smithylaw14_right.l1 k x1 k 0))
theorem smithylaw14_right.ok (k : Nat) : smithylaw14_right.Ctr (smithylaw14_right.f k) := by
 intro x1 ch_0_0 ch_0_1 r h0 mi w0 ok hm
 delta smithylaw14_right.f at h0
 refine c_enterX (n := 17) [(.sl ch_0_0 (x1).length ch_0_1 (RdS Y39 ch_0_0 x1))] (l := [(0, (.sl ch_0_0 (x1).length ch_0_1 (RdS Y39 ch_0_0 x1)))]) Try.func5 rfl rfl rfl rfl ok hm ?_
 clear ok hm
 intro b0 hb a S
 refine c_region ?_
 refine s_assign S rfl rfl ?_; clear S a; intro a S
 refine c_end ?_
 refine wp_seq ?_
 refine c_region ?_
 refine s_move S rfl rfl ?_; clear S a; intro a S
 obtain ⟨t1, et1, h1⟩ := bind_of h0; clear h0
 refine s_callP S (fun (ch : Unit) => ((.v (.bool t1)) : D)) N22 rfl rfl (smithyref13_Great.ok k x1 ch_0_0 ch_0_1 t1 et1 _ _) ?_; clear S a; intro ch1 m le1 a w S
 refine c_end ?_
 rcases ite_of h1 with ⟨c1, h2⟩ | ⟨c1, h2⟩ <;> clear h1
 ·refine c_condT S rfl c1 ?_
  refine c_region ?_
  refine s_assign S rfl rfl ?_; clear S a; intro a S
  refine c_end ?_
  refine wp_ret ?_
  refine x_thenR ?_
  obtain rfl := Option.some.inj h2
  exact b_ret1 (d := (.v (.bool false))) S rfl rfl fun ok => S.retX (Hx := []) hb _ _ (() : Unit) .nil ok
 ·refine c_condF S rfl c1 ?_
  refine wp_skip ?_
  refine x_thenN ?_
  refine wp_seq_k ?_
  intro K1 hK1
  have j1 : ∀ (m : Mem) (a : Act) (w : World), St 17 m b0 [] [] a w → smithylaw14_right.j1 = some r → K1 a w := by
   intro m a w S h0
   delta smithylaw14_right.j1 at h0
   refine hK1 a w ?_
   refine c_region ?_
   refine s_assign S rfl rfl ?_; clear S a; intro a S
   refine c_end ?_
   refine wp_ret ?_
   obtain rfl := Option.some.inj h0
   exact b_ret1 (d := (.v (.bool true))) S rfl rfl fun ok => S.retX (Hx := []) hb _ _ (() : Unit) .nil ok
  refine c_region ?_
  refine s_move S rfl rfl ?_; clear S a; intro a S
  refine s_lenS S rfl Try.underlying22 rfl ?_; clear S a; intro a S
  refine s_move S rfl rfl ?_; clear S a; intro a S
  refine c_end ?_
  refine wp_block ?_
  refine c_loop (fun q1 a w => ∃ (m : Mem) (y1 : Int), St 17 m b0 [(9, (.v (.int .i64 y1))), (8, (.v (.int .i64 ((x1).length : Int)))), (7, (.sl ch_0_0 (x1).length ch_0_1 (RdS Y39 ch_0_0 x1)))] [] a w ∧ smithylaw14_right.l1 k x1 q1 y1 = some r) ?_ ?_ (k := k) ⟨_, 0, (S.sub (subR rfl) .nil), h2⟩
  ·rintro a w ⟨m, y1, S, h0⟩
   exact (nomatch (show (none : Option Bool) = some r from h0))
  ·clear S h2
   rintro q1 a w ⟨m, y1, S, h0⟩
   replace h0 : smithylaw14_right.b1 k x1 (smithylaw14_right.l1 k x1 q1) y1 = some r := h0
   delta smithylaw14_right.b1 at h0
   refine c_region ?_
   refine s_bin S rfl rfl rfl rfl ?_; clear S a; intro a S
   refine c_end ?_
   refine wp_seq ?_
   rcases ite_of h0 with ⟨c2, h1⟩ | ⟨c2, h1⟩ <;> clear h0
   ·refine c_condT S rfl c2 ?_
    refine wp_skip ?_
    refine x_thenN ?_
    refine wp_seq ?_
    refine wp_block ?_
    refine c_region ?_
    obtain ⟨c3, h2⟩ := chk_of h1; clear h1
    refine s_iaddrS S rfl rfl rfl Try.underlying22 T39 c3.1 c3.2 rfl ?_; clear S a; intro p1 a S
    refine s_ldA S (fun (c : Unit × Unit × Unit × (Option Addr × Nat) × (Option Addr × Nat)) => (Y39.segs (gt x1 y1) c)) rfl T39 (fun _ => rfl) rfl ?_; clear S a; intro ch4 a S
    refine s_alloc S Z39 rfl ⟨rfl, rfl, rfl, rfl, rfl, trivial⟩ rfl ?_; clear S a w; intro g1 a w S
    refine s_store S rfl rfl rfl (s' := [.ints .u8 ((gt x1 y1).1) 20, .one (.int .u64 ((gt x1 y1).2.1)), .ints .u64 ((gt x1 y1).2.2.1) 4, .sl ch4.2.2.2.1.1 ((gt x1 y1).2.2.2.1).length ch4.2.2.2.1.2 (RdS (Ty.int .u8) ch4.2.2.2.1.1 ((gt x1 y1).2.2.2.1)), .sl ch4.2.2.2.2.1 ((gt x1 y1).2.2.2.2).length ch4.2.2.2.2.2 (RdS Y82 ch4.2.2.2.2.1 ((gt x1 y1).2.2.2.2))]) .here T39 rfl rfl ?_; clear S w; intro w S
    refine c_end ?_
    refine c_region ?_
    refine s_loada S rfl .here T39 (s' := (Y39.segs (gt x1 y1) ch4)) rfl rfl ?_; clear S a; intro a S
    obtain ⟨t4, et4, h3⟩ := bind_of h2; clear h2
    refine s_callP S (fun (ch : Unit) => ((.v (.bool t4)) : D)) N23 rfl rfl (smithyref13_Right.ok k (gt x1 y1) ch4.2.2.2.1.1 ch4.2.2.2.1.2 ch4.2.2.2.2.1 ch4.2.2.2.2.2 t4 et4 _ _) ?_; clear S a w; intro ch5 m le1 a w S
    refine s_not S rfl rfl ?_; clear S a; intro a S
    refine c_end ?_
    rcases ite_of h3 with ⟨c4, h4⟩ | ⟨c4, h4⟩ <;> clear h3
    ·refine c_condT S rfl c4 ?_
     refine c_region ?_
     refine s_assign S rfl rfl ?_; clear S a; intro a S
     refine c_end ?_
     refine wp_ret ?_
     refine x_blockR ?_
     refine x_thenR ?_
     refine x_thenR ?_
     refine x_blockR ?_
     refine x_thenR ?_
     obtain rfl := Option.some.inj h4
     exact b_ret1 (d := (.v (.bool false))) S rfl rfl fun ok => S.retX (Hx := []) hb _ _ (() : Unit) .nil ok
    ·refine c_condF S rfl c4 ?_
     refine wp_skip ?_
     refine x_blockN ?_
     refine x_thenN ?_
     refine c_region' ?_
     refine s_bin S rfl rfl rfl rfl ?_; clear S a; intro a S
     refine s_move S rfl rfl ?_; clear S a; intro a S
     refine c_end' ?_
     refine x_thenN ?_
     exact ⟨_, (wr .i64 (y1 + 1)), (S.sub (subR rfl) .nil), h4⟩
   ·refine c_condF S rfl c2 ?_
    refine wp_exit ?_
    refine x_thenX ?_
    refine x_thenX ?_
    refine x_blockX ?_
    refine x_thenN ?_
    exact j1 _ a w (S.sub trivial .nil) h1
abbrev state_New_0nil.Ty : Type := Option W2
def state_New_0nil.Ctr (s : state_New_0nil.Ty) : Prop := ∀ (r : W2) (h0 : s = some r) (mi : Mem) (w0 : World), okL mi [(.v .nilIface)] → Pre mi [] w0 → Calls Try.prog 7 (([(.v .nilIface)] : List D).map D.val).toArray w0 (RetX mi [] (fun (ch : W3) => ((.v (.pointer (some ⟨ch.1, 0, none⟩))) : D)) (fun (ch : W3) => [Res.cells ch.1 72 [.rf (.iface 68 (.agg (cellsOf [.sl ch.2.1 (r.1).length ch.2.2.1 (RdS Y39 ch.2.1 r.1)]).toArray)) (IfR [.sl ch.2.1 (r.1).length ch.2.2.1 (RdS Y39 ch.2.1 r.1)]), .one (.map (some ch.2.2.2.1)), .one (.int .i64 r.2.2.1), .one (.slice ch.2.2.2.2.2.2.2.1 ch.2.2.2.2.2.2.2.2.1 ch.2.2.2.2.2.2.2.2.2.1), .one (.slice ch.2.2.2.2.2.2.2.2.2.2.1 ch.2.2.2.2.2.2.2.2.2.2.2.1 ch.2.2.2.2.2.2.2.2.2.2.2.2.1), .one (.slice ch.2.2.2.2.2.2.2.2.2.2.2.2.2.1 ch.2.2.2.2.2.2.2.2.2.2.2.2.2.2.1 ch.2.2.2.2.2.2.2.2.2.2.2.2.2.2.2)], Res.map true (Ty.arr .u8 20) false (Ty.pid ch.2.2.2.2.1) ch.2.2.2.1 r.2.1.1, Res.fam (Res.struct (YE76 ch.2.2.2.2.2.1 ch.2.2.2.2.2.2.1) 76) (one_struct _ _) ch.2.2.2.2.1 [] r.2.1.2.1, Res.fam (fun g_ kvs_ => Res.map true (Ty.arr .u64 4) true (Ty.arr .u64 4) g_ kvs_) (one_map true (Ty.arr .u64 4) true (Ty.arr .u64 4)) ch.2.2.2.2.2.1 [] r.2.1.2.2.1, Res.fam (fun g_ kvs_ => Res.map true (Ty.arr .u64 4) false Ty.bool g_ kvs_) (one_map true (Ty.arr .u64 4) false Ty.bool) ch.2.2.2.2.2.2.1 [] r.2.1.2.2.2, Res.row Y51 51 ch.2.2.2.2.2.2.2.1 ch.2.2.2.2.2.2.2.2.1 ch.2.2.2.2.2.2.2.2.2.1 r.2.2.2.1, Res.row (YC ch.1 ch.2.2.2.2.1 ch.2.2.2.2.2.1 ch.2.2.2.2.2.2.1) 1 ch.2.2.2.2.2.2.2.2.2.2.1 ch.2.2.2.2.2.2.2.2.2.2.2.1 ch.2.2.2.2.2.2.2.2.2.2.2.2.1 r.2.2.2.2.1, Res.row (Ty.arr .u8 20) 31 ch.2.2.2.2.2.2.2.2.2.2.2.2.2.1 ch.2.2.2.2.2.2.2.2.2.2.2.2.2.2.1 ch.2.2.2.2.2.2.2.2.2.2.2.2.2.2.2 r.2.2.2.2.2]) w0)
def state_New_0nil.f : Option W2 := some ((([] : List L39)), (([] : List ((List Int) × Option Nat)), ([] : List L76), ([] : List (List ((List Int) × (List Int)))), ([] : List (List ((List Int) × Bool)))), 0, ([] : List L51), ([] : List Clo), ([] : List (List Int)))
theorem state_New_0nil.ok : state_New_0nil.Ctr (state_New_0nil.f) := by
 intro r h0 mi w0 ok hm
 delta state_New_0nil.f at h0
 refine c_enterX (n := 11) [(.v .nilIface)] (l := [(0, (.v .nilIface))]) Try.func7 rfl rfl rfl rfl ok hm ?_
 clear ok hm
 intro b0 hb a S
 refine c_region ?_
 refine s_assign S rfl rfl ?_; clear S a; intro a S
 refine c_end ?_
 refine wp_seq ?_
 refine c_region ?_
 refine s_move S rfl rfl ?_; clear S a; intro a S
 refine s_eqNN S rfl Try.underlying45 rfl ?_; clear S a; intro a S
 refine c_end ?_
 refine c_condT S rfl rfl ?_
 refine c_region' ?_
 refine s_bldS S (ds := []) (zs := [.one (.slice none 0 0)]) (s' := [.one (.slice none 0 0)]) rfl Try.underlying68 P68 Z68 ⟨rfl, trivial⟩ rfl rfl ?_; clear S a; intro a S
 replace S := S.slot (u := 5) (d' := (.agg [.sl none (([] : List L39)).length 0 (RdS Y39 none ([] : List L39))])) rfl rfl (by have h := (S.get 5 (.agg [.one (.slice none 0 0)]) rfl).2; exact ⟨ok_nil, trivial⟩)
 refine s_mkI S (s := [.sl none (([] : List L39)).length 0 (RdS Y39 none ([] : List L39))]) (v := (.agg (cellsOf [.sl none (([] : List L39)).length 0 (RdS Y39 none ([] : List L39))]).toArray)) rfl rfl rfl (by kernel_rfl) rfl ?_; clear S a; intro a S
 refine s_assign S rfl rfl ?_; clear S a; intro a S
 refine c_end' ?_
 refine x_thenN ?_
 refine c_region ?_
 refine s_move S rfl rfl ?_; clear S a; intro a S
 refine s_makeMap (α := List Int) (β := Option Nat) S true (Ty.arr .u8 20) false (Ty.pid ([] : List Nat)) rfl ?_; clear S a; intro g1 a w S
 replace S := S.fam0 (fun g_ kvs_ => Res.map true (Ty.arr .u64 4) false Ty.bool g_ kvs_) (one_map true (Ty.arr .u64 4) false Ty.bool)
 replace S := S.fam0 (fun g_ kvs_ => Res.map true (Ty.arr .u64 4) true (Ty.arr .u64 4) g_ kvs_) (one_map true (Ty.arr .u64 4) true (Ty.arr .u64 4))
 replace S := S.fam0 (Res.struct (YE76 ([] : List Nat) ([] : List Nat)) 76) (one_struct _ _)
 refine s_bldS S (ds := [(0, (.rf (.iface 68 (.agg (cellsOf [.sl none (([] : List L39)).length 0 (RdS Y39 none ([] : List L39))]).toArray)) (IfR [.sl none (([] : List L39)).length 0 (RdS Y39 none ([] : List L39))]))), (1, (.v (.map (some g1))))]) (zs := [.one .nilIface, .one (.map none), .one (.int .i64 0), .one (.slice none 0 0), .one (.slice none 0 0), .one (.slice none 0 0)]) (s' := [.rf (.iface 68 (.agg (cellsOf [.sl none (([] : List L39)).length 0 (RdS Y39 none ([] : List L39))]).toArray)) (IfR [.sl none (([] : List L39)).length 0 (RdS Y39 none ([] : List L39))]), .one (.map (some g1)), .one (.int .i64 0), .one (.slice none 0 0), .one (.slice none 0 0), .one (.slice none 0 0)]) rfl Try.underlying72 P72 Z72 ⟨rfl, rfl, rfl, rfl, rfl, rfl, trivial⟩ rfl rfl ?_; clear S a; intro a S
 refine s_box S rfl rfl rfl ?_; clear S a w; intro g2 a w S
 refine s_assign S rfl rfl ?_; clear S a; intro a S
 refine c_end ?_
 refine wp_ret ?_
 replace S := S.nilrow Y51 51
 replace S := S.nilrow (YC g2 ([] : List Nat) ([] : List Nat) ([] : List Nat)) 1
 replace S := S.nilrow (Ty.arr .u8 20) 31
 obtain rfl := Option.some.inj h0
 exact b_ret1 (d := (.v (.pointer (some ⟨g2, 0, none⟩)))) S rfl rfl fun ok => S.retX (Hx := []) hb _ _ ((g2, none, 0, g1, ([] : List Nat), ([] : List Nat), ([] : List Nat), none, 0, 0, none, 0, 0, none, 0, 0) : W3) (.cons (.there (.there (.there .here))) (.cons (.there (.there (.there (.there (.there (.there .here)))))) (.cons (.there (.there (.there .here))) (.cons (.there (.there (.there .here))) (.cons (.there (.there (.there .here))) (.cons (.there (.there .here)) (.cons (.there .here) (.cons .here .nil)))))))) ok
abbrev state_list_Account.Ty : Type := ((List L39)) → (List Int) → Option W4
def state_list_Account.Ctr (s : state_list_Account.Ty) : Prop := ∀ (x1 : (List L39)) (x2 : List Int) (ch_0_0 : Option Addr) (ch_0_1 : Nat) (r : W4) (h0 : s x1 x2 = some r) (mi : Mem) (w0 : World), okL mi [(.agg [.sl ch_0_0 (x1).length ch_0_1 (RdS Y39 ch_0_0 x1)]), (.agg [.ints .u8 x2 20])] → Pre mi [] w0 → Calls Try.prog 102 (([(.agg [.sl ch_0_0 (x1).length ch_0_1 (RdS Y39 ch_0_0 x1)]), (.agg [.ints .u8 x2 20])] : List D).map D.val).toArray w0 (RetX mi [] (fun (ch : W5) => ((.tup [(true, (Y39.segs r.1 ((), (), (), (ch.1, ch.2.1), (ch.2.2.1, ch.2.2.2)))), (false, [.one (.bool r.2)])]) : D)) (fun (ch : W5) => []) w0)
def state_list_Account.j1 (x2 : List Int) : Option W4 := some ((x2, 0, [0, 0, 0, 0], ([] : List Int), ([] : List ((List Int) × (List Int)))), true)
def state_list_Account.b1 (x1 : (List L39)) (x2 : List Int) (rec1 : Int → Option W4) (y1 : Int) : Option W4 := if (decide (y1 < ((x1).length : Int))) = true then (if (0 : Int) ≤ y1 ∧ y1 < ((x1).length : Int) then (if (decide ((gt x1 y1).1 = x2)) = true then (some (gt x1 y1, true)) else (rec1 (wr .i64 (y1 + 1)))) else none) else (state_list_Account.j1 x2)
def state_list_Account.l1 (x1 : (List L39)) (x2 : List Int) : Nat → Int → Option W4
  | 0, _ => none
  | q + 1, y1 => state_list_Account.b1 x1 x2 (state_list_Account.l1 x1 x2 q) y1
def state_list_Account.f (k : Nat) (x1 : (List L39)) (x2 : List Int) : Option W4 := state_list_Account.l1 x1 x2 k 0
theorem state_list_Account.ok (k : Nat) : state_list_Account.Ctr (state_list_Account.f k) := by
 intro x1 x2 ch_0_0 ch_0_1 r h0 mi w0 ok hm
 delta state_list_Account.f at h0
 refine c_enterX (n := 23) [(.agg [.sl ch_0_0 (x1).length ch_0_1 (RdS Y39 ch_0_0 x1)]), (.agg [.ints .u8 x2 20])] (l := [(0, (.agg [.sl ch_0_0 (x1).length ch_0_1 (RdS Y39 ch_0_0 x1)])), (1, (.agg [.ints .u8 x2 20]))]) Try.func102 rfl rfl rfl rfl ok hm ?_
 clear ok hm
 intro b0 hb a S
 refine c_region ?_
 refine s_box S rfl rfl rfl ?_; clear S a; intro g1 a w S
 refine s_box S rfl rfl rfl ?_; clear S a w; intro g2 a w S
 refine s_alloc S Z39 rfl ⟨rfl, rfl, rfl, rfl, rfl, trivial⟩ rfl ?_; clear S a w; intro g3 a w S
 refine s_assign S rfl rfl ?_; clear S a; intro a S
 refine c_end ?_
 refine wp_seq_k ?_
 intro K1 hK1
 have j1 : ∀ (m : Mem) (g12 : Nat) (g13 : Nat) (a : Act) (w : World), St 23 m b0 [(4, (.v (.pointer (some ⟨g12, 0, none⟩)))), (3, (.v (.pointer (some ⟨g13, 0, none⟩))))] [Res.cells g12 39 [.ints .u8 [0, 0, 0, 0, 0, 0, 0, 0, 0, 0, 0, 0, 0, 0, 0, 0, 0, 0, 0, 0] 20, .one (.int .u64 0), .ints .u64 [0, 0, 0, 0] 4, .one (.slice none 0 0), .one (.slice none 0 0)], Res.cells g13 31 [.ints .u8 x2 20]] a w → state_list_Account.j1 x2 = some r → K1 a w := by
  intro m g12 g13 a w S h0
  delta state_list_Account.j1 at h0
  refine hK1 a w ?_
  refine c_region ?_
  refine s_loada S rfl (.there .here) T31 (s' := [.ints .u8 x2 20]) rfl rfl ?_; clear S a; intro a S
  refine s_bldS S (ds := [(0, (.agg [.ints .u8 x2 20]))]) (zs := [.ints .u8 [0, 0, 0, 0, 0, 0, 0, 0, 0, 0, 0, 0, 0, 0, 0, 0, 0, 0, 0, 0] 20, .one (.int .u64 0), .ints .u64 [0, 0, 0, 0] 4, .one (.slice none 0 0), .one (.slice none 0 0)]) (s' := [.ints .u8 x2 20, .one (.int .u64 0), .ints .u64 [0, 0, 0, 0] 4, .one (.slice none 0 0), .one (.slice none 0 0)]) rfl Try.underlying39 P39 Z39 ⟨rfl, rfl, rfl, rfl, rfl, trivial⟩ rfl rfl ?_; clear S a; intro a S
  refine s_store S rfl rfl rfl (s' := [.ints .u8 x2 20, .one (.int .u64 0), .ints .u64 [0, 0, 0, 0] 4, .one (.slice none 0 0), .one (.slice none 0 0)]) .here T39 rfl rfl ?_; clear S w; intro w S
  refine s_assign S rfl rfl ?_; clear S a; intro a S
  refine c_end ?_
  refine wp_ret ?_
  replace S := S.cellro (s' := [.ints .u8 x2 20, .one (.int .u64 0), .ints .u64 [0, 0, 0, 0] 4, .sl none (([] : List Int)).length 0 (RdS (Ty.int .u8) none ([] : List Int)), .one (.slice none 0 0)]) .here rfl (fun h => ⟨h.1, h.2.1, h.2.2.1, ok_nil, h.2.2.2.2.1, trivial⟩)
  replace S := S.cellro (s' := [.ints .u8 x2 20, .one (.int .u64 0), .ints .u64 [0, 0, 0, 0] 4, .sl none (([] : List Int)).length 0 (RdS (Ty.int .u8) none ([] : List Int)), .sl none (([] : List ((List Int) × (List Int)))).length 0 (RdS Y82 none ([] : List ((List Int) × (List Int))))]) .here rfl (fun h => ⟨h.1, h.2.1, h.2.2.1, h.2.2.2.1, ok_nil, trivial⟩)
  obtain rfl := Option.some.inj h0
  exact b_ret2 (d1 := (.agg [.ints .u8 x2 20, .one (.int .u64 0), .ints .u64 [0, 0, 0, 0] 4, .sl none (([] : List Int)).length 0 (RdS (Ty.int .u8) none ([] : List Int)), .sl none (([] : List ((List Int) × (List Int)))).length 0 (RdS Y82 none ([] : List ((List Int) × (List Int))))])) (d2 := (.v (.bool true))) S rfl (resD_cell rfl .here T39 rfl rfl) rfl fun ok1 ok2 => S.retX (Hx := []) hb _ _ ((none, 0, none, 0) : W5) .nil ⟨ok1, ⟨ok2, trivial⟩, trivial⟩
 refine c_region ?_
 refine s_fieldAddr S rfl I68_0 T22 (by decide) rfl rfl ?_; clear S a; intro a S
 refine s_loadSl S rfl (.there (.there .here)) T22 (A := ch_0_0) (len := (x1).length) (cap := ch_0_1) rfl rfl ?_; clear S a; intro a S
 refine s_lenS S rfl Try.underlying22 rfl ?_; clear S a; intro a S
 refine s_move S rfl rfl ?_; clear S a; intro a S
 refine c_end ?_
 refine wp_block ?_
 refine c_loop (fun q1 a w => ∃ (m : Mem) (y1 : Int) (g20 : Nat) (g21 : Nat), St 23 m b0 [(11, (.v (.int .i64 y1))), (10, (.v (.int .i64 ((x1).length : Int)))), (9, (.sl ch_0_0 (x1).length ch_0_1 (RdS Y39 ch_0_0 x1))), (4, (.v (.pointer (some ⟨g20, 0, none⟩)))), (3, (.v (.pointer (some ⟨g21, 0, none⟩))))] [Res.cells g20 39 [.ints .u8 [0, 0, 0, 0, 0, 0, 0, 0, 0, 0, 0, 0, 0, 0, 0, 0, 0, 0, 0, 0] 20, .one (.int .u64 0), .ints .u64 [0, 0, 0, 0] 4, .one (.slice none 0 0), .one (.slice none 0 0)], Res.cells g21 31 [.ints .u8 x2 20]] a w ∧ state_list_Account.l1 x1 x2 q1 y1 = some r) ?_ ?_ (k := k) ⟨_, 0, g3, g2, (S.sub (subR rfl) (.cons .here (.cons .here .nil))), h0⟩
 ·rintro a w ⟨m, y1, g20, g21, S, h0⟩
  exact (nomatch (show (none : Option W4) = some r from h0))
 ·clear S h0
  rintro q1 a w ⟨m, y1, g20, g21, S, h0⟩
  replace h0 : state_list_Account.b1 x1 x2 (state_list_Account.l1 x1 x2 q1) y1 = some r := h0
  delta state_list_Account.b1 at h0
  refine c_region ?_
  refine s_bin S rfl rfl rfl rfl ?_; clear S a; intro a S
  refine c_end ?_
  refine wp_seq ?_
  rcases ite_of h0 with ⟨c1, h1⟩ | ⟨c1, h1⟩ <;> clear h0
  ·refine c_condT S rfl c1 ?_
   refine wp_skip ?_
   refine x_thenN ?_
   refine wp_seq ?_
   refine wp_block ?_
   refine c_region ?_
   obtain ⟨c2, h2⟩ := chk_of h1; clear h1
   refine s_iaddrS S rfl rfl rfl Try.underlying22 T39 c2.1 c2.2 rfl ?_; clear S a; intro p1 a S
   refine s_ldA S (fun (c : Unit × Unit × Unit × (Option Addr × Nat) × (Option Addr × Nat)) => (Y39.segs (gt x1 y1) c)) rfl T39 (fun _ => rfl) rfl ?_; clear S a; intro ch1 a S
   refine s_alloc S Z39 rfl ⟨rfl, rfl, rfl, rfl, rfl, trivial⟩ rfl ?_; clear S a w; intro g22 a w S
   refine s_store S rfl rfl rfl (s' := [.ints .u8 ((gt x1 y1).1) 20, .one (.int .u64 ((gt x1 y1).2.1)), .ints .u64 ((gt x1 y1).2.2.1) 4, .sl ch1.2.2.2.1.1 ((gt x1 y1).2.2.2.1).length ch1.2.2.2.1.2 (RdS (Ty.int .u8) ch1.2.2.2.1.1 ((gt x1 y1).2.2.2.1)), .sl ch1.2.2.2.2.1 ((gt x1 y1).2.2.2.2).length ch1.2.2.2.2.2 (RdS Y82 ch1.2.2.2.2.1 ((gt x1 y1).2.2.2.2))]) .here T39 rfl rfl ?_; clear S w; intro w S
   refine c_end ?_
   refine c_region ?_
   refine s_fieldAddr S rfl I39_0 T31 (by decide) rfl rfl ?_; clear S a; intro a S
   refine s_loada S rfl .here T31 (s' := [.ints .u8 ((gt x1 y1).1) 20]) rfl rfl ?_; clear S a; intro a S
   refine s_loada S rfl (.there (.there .here)) T31 (s' := [.ints .u8 x2 20]) rfl rfl ?_; clear S a; intro a S
   refine s_eqa S rfl rfl Try.underlying31 Try.underlying5 T5 Q31 rfl ?_; clear S a; intro a S
   refine c_end ?_
   rcases ite_of h2 with ⟨c3, h3⟩ | ⟨c3, h3⟩ <;> clear h2
   ·refine c_condT S rfl c3 ?_
    refine c_region ?_
    refine s_loada S rfl .here T39 (s' := (Y39.segs (gt x1 y1) ch1)) rfl rfl ?_; clear S a; intro a S
    refine s_store S rfl rfl rfl (s' := [.ints .u8 ((gt x1 y1).1) 20, .one (.int .u64 ((gt x1 y1).2.1)), .ints .u64 ((gt x1 y1).2.2.1) 4, .sl ch1.2.2.2.1.1 ((gt x1 y1).2.2.2.1).length ch1.2.2.2.1.2 (RdS (Ty.int .u8) ch1.2.2.2.1.1 ((gt x1 y1).2.2.2.1)), .sl ch1.2.2.2.2.1 ((gt x1 y1).2.2.2.2).length ch1.2.2.2.2.2 (RdS Y82 ch1.2.2.2.2.1 ((gt x1 y1).2.2.2.2))]) (.there .here) T39 rfl rfl ?_; clear S w; intro w S
    refine s_assign S rfl rfl ?_; clear S a; intro a S
    refine c_end ?_
    refine wp_ret ?_
    refine x_blockR ?_
    refine x_thenR ?_
    refine x_thenR ?_
    refine x_blockR ?_
    refine x_thenR ?_
    obtain rfl := Option.some.inj h3
    exact b_ret2 (d1 := (.agg (Y39.segs (gt x1 y1) ch1))) (d2 := (.v (.bool true))) S rfl (resD_cell rfl (.there .here) T39 rfl rfl) rfl fun ok1 ok2 => S.retX (Hx := []) hb _ _ ((ch1.2.2.2.1.1, ch1.2.2.2.1.2, ch1.2.2.2.2.1, ch1.2.2.2.2.2) : W5) .nil ⟨ok1, ⟨ok2, trivial⟩, trivial⟩
   ·refine c_condF S rfl c3 ?_
    refine wp_skip ?_
    refine x_blockN ?_
    refine x_thenN ?_
    refine c_region' ?_
    refine s_bin S rfl rfl rfl rfl ?_; clear S a; intro a S
    refine s_move S rfl rfl ?_; clear S a; intro a S
    refine c_end' ?_
    refine x_thenN ?_
    exact ⟨_, (wr .i64 (y1 + 1)), g20, g21, (S.sub (subR rfl) (.cons (.there .here) (.cons (.there .here) .nil))), h3⟩
  ·refine c_condF S rfl c1 ?_
   refine wp_exit ?_
   refine x_thenX ?_
   refine x_thenX ?_
   refine x_blockX ?_
   refine x_thenN ?_
   exact j1 _ g20 g21 a w (S.sub (subR rfl) (.cons .here (.cons .here .nil))) h1
abbrev state_State_at.Ty : Type := W8 → (List Int) → Option W6
def state_State_at.Ctr (s : state_State_at.Ty) : Prop := ∀ (x1 : W8) (x2 : List Int) (ch_0_0 : Nat) (ch_0_1 : Option Addr) (ch_0_2 : Nat) (ch_0_3 : Nat) (ch_0_4 : List Nat) (ch_0_5 : List Nat) (ch_0_6 : List Nat) (ch_0_7 : Option Addr) (ch_0_8 : Nat) (ch_0_9 : Nat) (ch_0_10 : Option Addr) (ch_0_11 : Nat) (ch_0_12 : Nat) (ch_0_13 : Option Addr) (ch_0_14 : Nat) (ch_0_15 : Nat) (r : W6) (h0 : s x1 x2 = some r) (mi : Mem) (w0 : World), okL mi [(.v (.pointer (some ⟨ch_0_0, 0, none⟩))), (.agg [.ints .u8 x2 20])] → Pre mi [Res.cells ch_0_0 72 [.rf (.iface 68 (.agg (cellsOf [.sl ch_0_1 (x1.1).length ch_0_2 (RdS Y39 ch_0_1 x1.1)]).toArray)) (IfR [.sl ch_0_1 (x1.1).length ch_0_2 (RdS Y39 ch_0_1 x1.1)]), .one (.map (some ch_0_3)), .one (.int .i64 x1.2.2.1), .one (.slice ch_0_7 ch_0_8 ch_0_9), .one (.slice ch_0_10 ch_0_11 ch_0_12), .one (.slice ch_0_13 ch_0_14 ch_0_15)], Res.map true (Ty.arr .u8 20) false (Ty.pid ch_0_4) ch_0_3 x1.2.1.1, Res.fam (Res.struct (YE76 ch_0_5 ch_0_6) 76) (one_struct _ _) ch_0_4 [] x1.2.1.2.1, Res.fam (fun g_ kvs_ => Res.map true (Ty.arr .u64 4) true (Ty.arr .u64 4) g_ kvs_) (one_map true (Ty.arr .u64 4) true (Ty.arr .u64 4)) ch_0_5 [] x1.2.1.2.2.1, Res.fam (fun g_ kvs_ => Res.map true (Ty.arr .u64 4) false Ty.bool g_ kvs_) (one_map true (Ty.arr .u64 4) false Ty.bool) ch_0_6 [] x1.2.1.2.2.2, Res.row Y51 51 ch_0_7 ch_0_8 ch_0_9 x1.2.2.2.1, Res.row (YC ch_0_0 ch_0_4 ch_0_5 ch_0_6) 1 ch_0_10 ch_0_11 ch_0_12 x1.2.2.2.2.1, Res.row (Ty.arr .u8 20) 31 ch_0_13 ch_0_14 ch_0_15 x1.2.2.2.2.2] w0 → Calls Try.prog 26 (([(.v (.pointer (some ⟨ch_0_0, 0, none⟩))), (.agg [.ints .u8 x2 20])] : List D).map D.val).toArray w0 (RetX mi [Res.cells ch_0_0 72 [.rf (.iface 68 (.agg (cellsOf [.sl ch_0_1 (x1.1).length ch_0_2 (RdS Y39 ch_0_1 x1.1)]).toArray)) (IfR [.sl ch_0_1 (x1.1).length ch_0_2 (RdS Y39 ch_0_1 x1.1)]), .one (.map (some ch_0_3)), .one (.int .i64 x1.2.2.1), .one (.slice ch_0_7 ch_0_8 ch_0_9), .one (.slice ch_0_10 ch_0_11 ch_0_12), .one (.slice ch_0_13 ch_0_14 ch_0_15)], Res.map true (Ty.arr .u8 20) false (Ty.pid ch_0_4) ch_0_3 x1.2.1.1, Res.fam (Res.struct (YE76 ch_0_5 ch_0_6) 76) (one_struct _ _) ch_0_4 [] x1.2.1.2.1, Res.fam (fun g_ kvs_ => Res.map true (Ty.arr .u64 4) true (Ty.arr .u64 4) g_ kvs_) (one_map true (Ty.arr .u64 4) true (Ty.arr .u64 4)) ch_0_5 [] x1.2.1.2.2.1, Res.fam (fun g_ kvs_ => Res.map true (Ty.arr .u64 4) false Ty.bool g_ kvs_) (one_map true (Ty.arr .u64 4) false Ty.bool) ch_0_6 [] x1.2.1.2.2.2, Res.row Y51 51 ch_0_7 ch_0_8 ch_0_9 x1.2.2.2.1, Res.row (YC ch_0_0 ch_0_4 ch_0_5 ch_0_6) 1 ch_0_10 ch_0_11 ch_0_12 x1.2.2.2.2.1, Res.row (Ty.arr .u8 20) 31 ch_0_13 ch_0_14 ch_0_15 x1.2.2.2.2.2] (fun (ch : W7) => ((.rf (ptrV ch.2.1 r.1) (ptrR ch.2.1 r.1)) : D)) (fun (ch : W7) => [Res.cells ch_0_0 72 [.rf (.iface 68 (.agg (cellsOf [.sl ch_0_1 (x1.1).length ch_0_2 (RdS Y39 ch_0_1 x1.1)]).toArray)) (IfR [.sl ch_0_1 (x1.1).length ch_0_2 (RdS Y39 ch_0_1 x1.1)]), .one (.map (some ch.1)), .one (.int .i64 x1.2.2.1), .one (.slice ch.2.2.2.2.1 ch.2.2.2.2.2.1 ch.2.2.2.2.2.2.1), .one (.slice ch.2.2.2.2.2.2.2.1 ch.2.2.2.2.2.2.2.2.1 ch.2.2.2.2.2.2.2.2.2.1), .one (.slice ch.2.2.2.2.2.2.2.2.2.2.1 ch.2.2.2.2.2.2.2.2.2.2.2.1 ch.2.2.2.2.2.2.2.2.2.2.2.2)], Res.map true (Ty.arr .u8 20) false (Ty.pid ch.2.1) ch.1 r.2.2.1.1, Res.fam (Res.struct (YE76 ch.2.2.1 ch.2.2.2.1) 76) (one_struct _ _) ch.2.1 [] r.2.2.1.2.1, Res.fam (fun g_ kvs_ => Res.map true (Ty.arr .u64 4) true (Ty.arr .u64 4) g_ kvs_) (one_map true (Ty.arr .u64 4) true (Ty.arr .u64 4)) ch.2.2.1 [] r.2.2.1.2.2.1, Res.fam (fun g_ kvs_ => Res.map true (Ty.arr .u64 4) false Ty.bool g_ kvs_) (one_map true (Ty.arr .u64 4) false Ty.bool) ch.2.2.2.1 [] r.2.2.1.2.2.2, Res.row Y51 51 ch.2.2.2.2.1 ch.2.2.2.2.2.1 ch.2.2.2.2.2.2.1 r.2.2.2.2.1, Res.row (YC ch_0_0 ch.2.1 ch.2.2.1 ch.2.2.2.1) 1 ch.2.2.2.2.2.2.2.1 ch.2.2.2.2.2.2.2.2.1 ch.2.2.2.2.2.2.2.2.2.1 r.2.2.2.2.2.1, Res.row (Ty.arr .u8 20) 31 ch.2.2.2.2.2.2.2.2.2.2.1 ch.2.2.2.2.2.2.2.2.2.2.2.1 ch.2.2.2.2.2.2.2.2.2.2.2.2 r.2.2.2.2.2.2]) w0)
def state_State_at.j2 (x1 : W8) (x2 : List Int) (y7 : List (List Int)) (y8 : List Int) (y9 : Int) (y10 : List Int) (y11 : List Int) (y12 : W9) : Option W6 := some ((some x1.2.1.2.1.length), ((), (aput x1.2.1.1 x2 (some x1.2.1.2.1.length), x1.2.1.2.1 ++ [((x2, y9, y10, y11, y12), (x2, y9, y10, y11, y12), false, x1.2.1.2.2.1.length, false, false, x1.2.1.2.2.2.length)], x1.2.1.2.2.1 ++ [([] : List ((List Int) × (List Int)))], x1.2.1.2.2.2 ++ [([] : List ((List Int) × Bool))]), (), x1.2.2.2.1, x1.2.2.2.2.1, y7))
def state_State_at.j1 (x1 : W8) (x2 : List Int) (y1 : Bool) (y2 : List Int) (y3 : Int) (y4 : List Int) (y5 : List Int) (y6 : W9) : Option W6 := if (!y1) = true then (if (((x1.2.2.2.2.2).length : Int) == 0) = true then (state_State_at.j2 x1 x2 [x2] [0, 0, 0, 0, 0, 0, 0, 0, 0, 0, 0, 0, 0, 0, 0, 0, 0, 0, 0, 0] 0 [0, 0, 0, 0] ([] : List Int) ([] : List ((List Int) × (List Int)))) else (state_State_at.j2 x1 x2 x1.2.2.2.2.2 [0, 0, 0, 0, 0, 0, 0, 0, 0, 0, 0, 0, 0, 0, 0, 0, 0, 0, 0, 0] 0 [0, 0, 0, 0] ([] : List Int) ([] : List ((List Int) × (List Int))))) else (state_State_at.j2 x1 x2 x1.2.2.2.2.2 y2 y3 y4 y5 y6)
def state_State_at.f (k : Nat) (x1 : W8) (x2 : List Int) : Option W6 := if ((lk (aget x1.2.1.1 x2) none).2) = true then (some ((lk (aget x1.2.1.1 x2) none).1, ((), x1.2.1, (), x1.2.2.2.1, x1.2.2.2.2.1, x1.2.2.2.2.2))) else ((state_list_Account.f k (x1.1) x2).bind fun t1 => (state_State_at.j1 x1 x2 t1.2 t1.1.1 t1.1.2.1 t1.1.2.2.1 t1.1.2.2.2.1 t1.1.2.2.2.2))
theorem state_State_at.ok (k : Nat) : state_State_at.Ctr (state_State_at.f k) := by
 intro x1 x2 ch_0_0 ch_0_1 ch_0_2 ch_0_3 ch_0_4 ch_0_5 ch_0_6 ch_0_7 ch_0_8 ch_0_9 ch_0_10 ch_0_11 ch_0_12 ch_0_13 ch_0_14 ch_0_15 r h0 mi w0 ok hm
 delta state_State_at.f at h0
 refine c_enterX (n := 59) [(.v (.pointer (some ⟨ch_0_0, 0, none⟩))), (.agg [.ints .u8 x2 20])] (l := [(0, (.v (.pointer (some ⟨ch_0_0, 0, none⟩)))), (1, (.agg [.ints .u8 x2 20]))]) Try.func26 rfl rfl rfl rfl ok hm ?_
 clear ok hm
 intro b0 hb a S
 refine c_region ?_
 refine s_box S rfl rfl rfl ?_; clear S a; intro g1 a w S
 refine s_assign S rfl rfl ?_; clear S a; intro a S
 refine c_end ?_
 refine wp_seq ?_
 refine wp_seq (c_heldS S (.take 0 (.take 1 (.take 2 (.take 3 (.take 4 (.alts (.run 5 true (.pure 6 (.pure 7 (.pure 8 (.alts (.run 9 true (.alts (.run 10 true .done .nil)) .nil))))) .nil))))))) 11 [Res.cells g1 31 [.ints .u8 x2 20], Res.cells ch_0_0 72 [.rf (.iface 68 (.agg (cellsOf [.sl ch_0_1 (x1.1).length ch_0_2 (RdS Y39 ch_0_1 x1.1)]).toArray)) (IfR [.sl ch_0_1 (x1.1).length ch_0_2 (RdS Y39 ch_0_1 x1.1)]), .one (.map (some ch_0_3)), .one (.int .i64 x1.2.2.1), .one (.slice ch_0_7 ch_0_8 ch_0_9), .one (.slice ch_0_10 ch_0_11 ch_0_12), .one (.slice ch_0_13 ch_0_14 ch_0_15)], Res.row (Ty.arr .u8 20) 31 ch_0_13 ch_0_14 ch_0_15 x1.2.2.2.2.2] (.cons .here (.cons .here (.cons (.there (.there (.there (.there (.there (.there .here)))))) .nil))) ⟨Res.stay_cells, Res.stay_cells, Res.stay_row flat_arr, trivial⟩ [(3, (.v (.pointer (some ⟨g1, 0, none⟩)))), (0, (.v (.pointer (some ⟨ch_0_0, 0, none⟩))))] (subR rfl) (by kernel_rfl) (by kernel_rfl) ?_); clear S; intro w S CL hw le
 refine h_move S CL hw le (subR rfl) rfl rfl rfl trivial ?_; clear S CL a; intro a S CL
 refine h_nilchk S CL hw le (subR rfl) rfl rfl rfl rfl trivial ?_; clear S CL a; intro a S CL
 refine h_fieldAddr S CL hw le (subR rfl) rfl I72_1 T69 (by decide) rfl rfl rfl trivial ?_; clear S CL a; intro a S CL
 refine h_load1 S CL hw le (subR rfl) rfl (.there .here) T69 (v := (.map (some ch_0_3))) rfl rfl rfl trivial ?_; clear S CL a; intro a S CL
 refine h_loada S CL hw le (subR rfl) rfl .here T31 (s' := [.ints .u8 x2 20]) rfl rfl rfl trivial ?_; clear S CL a; intro a S CL
 refine h_run' S rfl trivial ?_
 refine s_lookO S (z := none) (k := x2) rfl (.there (.there .here)) () rfl (fun h => ⟨(), rfl, h⟩) Try.underlying69 KT31 Z77 ⟨⟨rfl, (fun _ h => by cases h), ptrR.mono _ _⟩, trivial⟩ rfl ?_; clear S a; intro ch1 a S
 replace hw := CL.again hw S (.cons .here (.cons .here (.cons (.there (.there (.there (.there (.there (.there .here)))))) .nil))) le
 refine h_back ⟨fun _ => hw, ?_⟩
 refine p_move S rfl rfl rfl trivial ?_; clear S a; intro a S
 refine p_extract S rfl rfl rfl rfl rfl trivial ?_; clear S a; intro a S
 refine p_extract S rfl rfl rfl rfl rfl trivial ?_; clear S a; intro a S
 refine h_run' S rfl trivial ?_
 refine s_assign S rfl rfl ?_; clear S a; intro a S
 replace hw := CL.again hw S (.cons .here (.cons .here (.cons (.there (.there (.there (.there (.there (.there .here)))))) .nil))) le
 refine h_back ⟨fun _ => hw, ?_⟩
 refine h_run' S rfl trivial ?_
 refine s_assign S rfl rfl ?_; clear S a; intro a S
 replace hw := CL.again hw S (.cons .here (.cons .here (.cons (.there (.there (.there (.there (.there (.there .here)))))) .nil))) le
 refine h_back ⟨fun _ => hw, ?_⟩
 refine h_done ?_; clear CL hw le
 refine x_thenN ?_
 refine c_region ?_
 refine s_move S rfl rfl ?_; clear S a; intro a S
 refine c_end ?_
 rcases ite_of h0 with ⟨c1, h1⟩ | ⟨c1, h1⟩ <;> clear h0
 ·refine c_condT S rfl c1 ?_
  refine c_region ?_
  refine s_move S rfl rfl ?_; clear S a; intro a S
  refine s_assign S rfl rfl ?_; clear S a; intro a S
  refine c_end ?_
  refine wp_ret ?_
  refine x_thenR ?_
  obtain rfl := Option.some.inj h1
  exact b_ret1 (d := (.rf (ptrV ch_0_4 ((lk (aget x1.2.1.1 x2) none).1)) (ptrR ch_0_4 ((lk (aget x1.2.1.1 x2) none).1)))) S rfl rfl fun ok => S.retX (Hx := []) hb _ _ ((ch_0_3, ch_0_4, ch_0_5, ch_0_6, ch_0_7, ch_0_8, ch_0_9, ch_0_10, ch_0_11, ch_0_12, ch_0_13, ch_0_14, ch_0_15) : W7) (.cons (.there .here) (.cons (.there .here) (.cons (.there .here) (.cons (.there .here) (.cons (.there .here) (.cons (.there .here) (.cons (.there .here) (.cons (.there .here) .nil)))))))) ok
 ·refine c_condF S rfl c1 ?_
  refine wp_skip ?_
  refine x_thenN ?_
  refine wp_seq_k ?_
  intro K1 hK1
  have j1 : ∀ (m : Mem) (y1 : Bool) (g3 : Nat) (g4 : Nat) (y2 : List Int) (y3 : Int) (y4 : List Int) (A1 : Option Addr) (cp1 : Nat) (y5 : List Int) (A2 : Option Addr) (cp2 : Nat) (y6 : List ((List Int) × (List Int))) (a : Act) (w : World), St 59 m b0 [(8, (.v (.bool y1))), (7, (.v (.pointer (some ⟨g3, 0, none⟩)))), (3, (.v (.pointer (some ⟨g4, 0, none⟩)))), (0, (.v (.pointer (some ⟨ch_0_0, 0, none⟩))))] [Res.cells g3 39 [.ints .u8 y2 20, .one (.int .u64 y3), .ints .u64 y4 4, .sl A1 (y5).length cp1 (RdS (Ty.int .u8) A1 y5), .sl A2 (y6).length cp2 (RdS Y82 A2 y6)], Res.cells g4 31 [.ints .u8 x2 20], Res.cells ch_0_0 72 [.rf (.iface 68 (.agg (cellsOf [.sl ch_0_1 (x1.1).length ch_0_2 (RdS Y39 ch_0_1 x1.1)]).toArray)) (IfR [.sl ch_0_1 (x1.1).length ch_0_2 (RdS Y39 ch_0_1 x1.1)]), .one (.map (some ch_0_3)), .one (.int .i64 x1.2.2.1), .one (.slice ch_0_7 ch_0_8 ch_0_9), .one (.slice ch_0_10 ch_0_11 ch_0_12), .one (.slice ch_0_13 ch_0_14 ch_0_15)], Res.map true (Ty.arr .u8 20) false (Ty.pid ch_0_4) ch_0_3 x1.2.1.1, Res.fam (Res.struct (YE76 ch_0_5 ch_0_6) 76) (one_struct _ _) ch_0_4 [] x1.2.1.2.1, Res.fam (fun g_ kvs_ => Res.map true (Ty.arr .u64 4) true (Ty.arr .u64 4) g_ kvs_) (one_map true (Ty.arr .u64 4) true (Ty.arr .u64 4)) ch_0_5 [] x1.2.1.2.2.1, Res.fam (fun g_ kvs_ => Res.map true (Ty.arr .u64 4) false Ty.bool g_ kvs_) (one_map true (Ty.arr .u64 4) false Ty.bool) ch_0_6 [] x1.2.1.2.2.2, Res.row Y51 51 ch_0_7 ch_0_8 ch_0_9 x1.2.2.2.1, Res.row (YC ch_0_0 ch_0_4 ch_0_5 ch_0_6) 1 ch_0_10 ch_0_11 ch_0_12 x1.2.2.2.2.1, Res.row (Ty.arr .u8 20) 31 ch_0_13 ch_0_14 ch_0_15 x1.2.2.2.2.2] a w → state_State_at.j1 x1 x2 y1 y2 y3 y4 y5 y6 = some r → K1 a w := by
   intro m y1 g3 g4 y2 y3 y4 A1 cp1 y5 A2 cp2 y6 a w S h0
   delta state_State_at.j1 at h0
   refine hK1 a w ?_
   refine wp_seq_k ?_
   intro K2 hK2
   have j2 : ∀ (m : Mem) (g6 : Nat) (g7 : Nat) (A3 : Option Addr) (nn1 : Nat) (cp3 : Nat) (y7 : List (List Int)) (y8 : List Int) (y9 : Int) (y10 : List Int) (A4 : Option Addr) (cp4 : Nat) (y11 : List Int) (A5 : Option Addr) (cp5 : Nat) (y12 : List ((List Int) × (List Int))) (a : Act) (w : World), St 59 m b0 [(7, (.v (.pointer (some ⟨g6, 0, none⟩)))), (3, (.v (.pointer (some ⟨g7, 0, none⟩)))), (0, (.v (.pointer (some ⟨ch_0_0, 0, none⟩))))] [Res.row (Ty.arr .u8 20) 31 A3 nn1 cp3 y7, Res.cells g6 39 [.ints .u8 y8 20, .one (.int .u64 y9), .ints .u64 y10 4, .sl A4 (y11).length cp4 (RdS (Ty.int .u8) A4 y11), .sl A5 (y12).length cp5 (RdS Y82 A5 y12)], Res.cells g7 31 [.ints .u8 x2 20], Res.cells ch_0_0 72 [.rf (.iface 68 (.agg (cellsOf [.sl ch_0_1 (x1.1).length ch_0_2 (RdS Y39 ch_0_1 x1.1)]).toArray)) (IfR [.sl ch_0_1 (x1.1).length ch_0_2 (RdS Y39 ch_0_1 x1.1)]), .one (.map (some ch_0_3)), .one (.int .i64 x1.2.2.1), .one (.slice ch_0_7 ch_0_8 ch_0_9), .one (.slice ch_0_10 ch_0_11 ch_0_12), .one (.slice A3 nn1 cp3)], Res.map true (Ty.arr .u8 20) false (Ty.pid ch_0_4) ch_0_3 x1.2.1.1, Res.fam (Res.struct (YE76 ch_0_5 ch_0_6) 76) (one_struct _ _) ch_0_4 [] x1.2.1.2.1, Res.fam (fun g_ kvs_ => Res.map true (Ty.arr .u64 4) true (Ty.arr .u64 4) g_ kvs_) (one_map true (Ty.arr .u64 4) true (Ty.arr .u64 4)) ch_0_5 [] x1.2.1.2.2.1, Res.fam (fun g_ kvs_ => Res.map true (Ty.arr .u64 4) false Ty.bool g_ kvs_) (one_map true (Ty.arr .u64 4) false Ty.bool) ch_0_6 [] x1.2.1.2.2.2, Res.row Y51 51 ch_0_7 ch_0_8 ch_0_9 x1.2.2.2.1, Res.row (YC ch_0_0 ch_0_4 ch_0_5 ch_0_6) 1 ch_0_10 ch_0_11 ch_0_12 x1.2.2.2.2.1] a w → state_State_at.j2 x1 x2 y7 y8 y9 y10 y11 y12 = some r → K2 a w := by
    intro m g6 g7 A3 nn1 cp3 y7 y8 y9 y10 A4 cp4 y11 A5 cp5 y12 a w S h0
    delta state_State_at.j2 at h0
    refine hK2 a w ?_
    refine c_region ?_
    refine s_loada S rfl (.there (.there .here)) T31 (s' := [.ints .u8 x2 20]) rfl rfl ?_; clear S a; intro a S
    refine s_fieldAddr S rfl I39_0 T31 (by decide) rfl rfl ?_; clear S a; intro a S
    refine s_store S rfl rfl rfl (s' := [.ints .u8 x2 20, .one (.int .u64 y9), .ints .u64 y10 4, .sl A4 (y11).length cp4 (RdS (Ty.int .u8) A4 y11), .sl A5 (y12).length cp5 (RdS Y82 A5 y12)]) (.there .here) T31 rfl rfl ?_; clear S w; intro w S
    refine c_end ?_
    refine c_region ?_
    refine s_loada S rfl (.there .here) T39 (s' := [.ints .u8 x2 20, .one (.int .u64 y9), .ints .u64 y10 4, .sl A4 (y11).length cp4 (RdS (Ty.int .u8) A4 y11), .sl A5 (y12).length cp5 (RdS Y82 A5 y12)]) rfl rfl ?_; clear S a; intro a S
    refine s_loada S rfl (.there .here) T39 (s' := [.ints .u8 x2 20, .one (.int .u64 y9), .ints .u64 y10 4, .sl A4 (y11).length cp4 (RdS (Ty.int .u8) A4 y11), .sl A5 (y12).length cp5 (RdS Y82 A5 y12)]) rfl rfl ?_; clear S a; intro a S
    refine s_makeMap S true (Ty.arr .u64 4) true (Ty.arr .u64 4) rfl ?_; clear S a w; intro g8 a w S
    refine s_makeMap S true (Ty.arr .u64 4) false Ty.bool rfl ?_; clear S a w; intro g9 a w S
    refine s_bldS S (ds := [(0, (.agg [.ints .u8 x2 20, .one (.int .u64 y9), .ints .u64 y10 4, .sl A4 (y11).length cp4 (RdS (Ty.int .u8) A4 y11), .sl A5 (y12).length cp5 (RdS Y82 A5 y12)])), (1, (.agg [.ints .u8 x2 20, .one (.int .u64 y9), .ints .u64 y10 4, .sl A4 (y11).length cp4 (RdS (Ty.int .u8) A4 y11), .sl A5 (y12).length cp5 (RdS Y82 A5 y12)])), (3, (.v (.map (some g8)))), (6, (.v (.map (some g9))))]) (zs := [.ints .u8 [0, 0, 0, 0, 0, 0, 0, 0, 0, 0, 0, 0, 0, 0, 0, 0, 0, 0, 0, 0] 20, .one (.int .u64 0), .ints .u64 [0, 0, 0, 0] 4, .one (.slice none 0 0), .one (.slice none 0 0), .ints .u8 [0, 0, 0, 0, 0, 0, 0, 0, 0, 0, 0, 0, 0, 0, 0, 0, 0, 0, 0, 0] 20, .one (.int .u64 0), .ints .u64 [0, 0, 0, 0] 4, .one (.slice none 0 0), .one (.slice none 0 0), .one (.bool false), .one (.map none), .one (.bool false), .one (.bool false), .one (.map none)]) (s' := [.ints .u8 x2 20, .one (.int .u64 y9), .ints .u64 y10 4, .sl A4 (y11).length cp4 (RdS (Ty.int .u8) A4 y11), .sl A5 (y12).length cp5 (RdS Y82 A5 y12), .ints .u8 x2 20, .one (.int .u64 y9), .ints .u64 y10 4, .sl A4 (y11).length cp4 (RdS (Ty.int .u8) A4 y11), .sl A5 (y12).length cp5 (RdS Y82 A5 y12), .one (.bool false), .one (.map (some g8)), .one (.bool false), .one (.bool false), .one (.map (some g9))]) rfl Try.underlying76 P76 Z76 ⟨rfl, rfl, rfl, rfl, rfl, rfl, rfl, rfl, rfl, rfl, rfl, rfl, rfl, rfl, rfl, trivial⟩ rfl rfl ?_; clear S a; intro a S
    refine s_box S rfl rfl rfl ?_; clear S a w; intro g10 a w S
    refine s_assign S rfl rfl ?_; clear S a; intro a S
    refine c_end ?_
    refine wp_seq (c_heldS S (.take 0 (.take 1 (.take 2 (.take 3 (.take 4 (.take 5 (.alts (.run 6 true .done .nil)))))))) 7 [Res.row (Ty.arr .u8 20) 31 A3 nn1 cp3 y7, Res.cells g6 39 [.ints .u8 x2 20, .one (.int .u64 y9), .ints .u64 y10 4, .sl A4 (y11).length cp4 (RdS (Ty.int .u8) A4 y11), .sl A5 (y12).length cp5 (RdS Y82 A5 y12)], Res.cells g7 31 [.ints .u8 x2 20], Res.cells ch_0_0 72 [.rf (.iface 68 (.agg (cellsOf [.sl ch_0_1 (x1.1).length ch_0_2 (RdS Y39 ch_0_1 x1.1)]).toArray)) (IfR [.sl ch_0_1 (x1.1).length ch_0_2 (RdS Y39 ch_0_1 x1.1)]), .one (.map (some ch_0_3)), .one (.int .i64 x1.2.2.1), .one (.slice ch_0_7 ch_0_8 ch_0_9), .one (.slice ch_0_10 ch_0_11 ch_0_12), .one (.slice A3 nn1 cp3)]] (.cons (.there (.there (.there .here))) (.cons (.there (.there (.there .here))) (.cons (.there (.there (.there .here))) (.cons (.there (.there (.there .here))) .nil)))) ⟨Res.stay_row flat_arr, Res.stay_cells, Res.stay_cells, Res.stay_cells, trivial⟩ [(9, (.v (.pointer (some ⟨g10, 0, none⟩)))), (3, (.v (.pointer (some ⟨g7, 0, none⟩)))), (0, (.v (.pointer (some ⟨ch_0_0, 0, none⟩))))] (subR rfl) (by kernel_rfl) (by kernel_rfl) ?_); clear S; intro w S CL hw le
    refine h_move S CL hw le (subR rfl) rfl rfl rfl trivial ?_; clear S CL a; intro a S CL
    refine h_nilchk S CL hw le (subR rfl) rfl rfl rfl rfl trivial ?_; clear S CL a; intro a S CL
    refine h_fieldAddr S CL hw le (subR rfl) rfl I72_1 T69 (by decide) rfl rfl rfl trivial ?_; clear S CL a; intro a S CL
    refine h_load1 S CL hw le (subR rfl) rfl (.there (.there (.there .here))) T69 (v := (.map (some ch_0_3))) rfl rfl rfl trivial ?_; clear S CL a; intro a S CL
    refine h_loada S CL hw le (subR rfl) rfl (.there (.there .here)) T31 (s' := [.ints .u8 x2 20]) rfl rfl rfl trivial ?_; clear S CL a; intro a S CL
    refine h_move S CL hw le (subR rfl) rfl rfl rfl trivial ?_; clear S CL a; intro a S CL
    refine h_run' S rfl trivial ?_
    have hS := S.famAdd (.there (.there .here)) (.there (.there (.there (.there (.there (.there (.there (.there .here))))))))
    clear S; obtain ⟨S, hn1⟩ := hS
    replace S := S.cellMid (s1 := [.ints .u8 x2 20, .one (.int .u64 y9), .ints .u64 y10 4, .sl A4 (y11).length cp4 (RdS (Ty.int .u8) A4 y11), .sl A5 (y12).length cp5 (RdS Y82 A5 y12), .ints .u8 x2 20, .one (.int .u64 y9), .ints .u64 y10 4, .sl A4 (y11).length cp4 (RdS (Ty.int .u8) A4 y11), .sl A5 (y12).length cp5 (RdS Y82 A5 y12), .one (.bool false)]) (s2 := [.one (.bool false), .one (.bool false), .one (.map (some g9))]) (bAt_last _ _ hn1) (by rw [hn1]; simp) .here
    replace S := S.famSub (F' := Res.struct (YE76 (ch_0_5 ++ [g8]) ch_0_6) 76) (hF' := one_struct _ _) (fun _ _ _ _ h => struct_sub (YS76_0 ch_0_5 ch_0_6 g8) _ _ _ _ _ h) (.there (.there (.there (.there (.there (.there (.there .here)))))))
    replace S := S.rowSub (YCs_1 ch_0_0 ch_0_4 ch_0_5 ch_0_6 g8) (.there (.there (.there (.there (.there (.there (.there (.there (.there (.there (.there .here)))))))))))
    have hS := S.famAdd (.there .here) (.there (.there (.there (.there (.there (.there (.there (.there .here))))))))
    clear S; obtain ⟨S, hn2⟩ := hS
    replace S := S.cellMid (s1 := [.ints .u8 x2 20, .one (.int .u64 y9), .ints .u64 y10 4, .sl A4 (y11).length cp4 (RdS (Ty.int .u8) A4 y11), .sl A5 (y12).length cp5 (RdS Y82 A5 y12), .ints .u8 x2 20, .one (.int .u64 y9), .ints .u64 y10 4, .sl A4 (y11).length cp4 (RdS (Ty.int .u8) A4 y11), .sl A5 (y12).length cp5 (RdS Y82 A5 y12), .one (.bool false), .rf (.map (some (bAt (ch_0_5 ++ [g8]) x1.2.1.2.2.1.length))) (ltR x1.2.1.2.2.1.length (ch_0_5 ++ [g8])), .one (.bool false), .one (.bool false)]) (s2 := []) (bAt_last _ _ hn2) (by rw [hn2]; simp) .here
    replace S := S.famSub (F' := Res.struct (YE76 (ch_0_5 ++ [g8]) (ch_0_6 ++ [g9])) 76) (hF' := one_struct _ _) (fun _ _ _ _ h => struct_sub (YS76_1 (ch_0_5 ++ [g8]) ch_0_6 g9) _ _ _ _ _ h) (.there (.there (.there (.there (.there (.there .here))))))
    replace S := S.rowSub (YCs_2 ch_0_0 ch_0_4 (ch_0_5 ++ [g8]) ch_0_6 g9) (.there (.there (.there (.there (.there (.there (.there (.there (.there (.there .here))))))))))
    replace S := S.structClose (T := (YE76 (ch_0_5 ++ [g8]) (ch_0_6 ++ [g9]))) (e := ((x2, y9, y10, y11, y12), (x2, y9, y10, y11, y12), false, x1.2.1.2.2.1.length, false, false, x1.2.1.2.2.2.length)) ((((), (), (), (A4, cp4), (A5, cp5)), ((), (), (), (A4, cp4), (A5, cp5)), (), (), (), (), ()) : ((YE76 (ch_0_5 ++ [g8]) (ch_0_6 ++ [g9]))).Ch) rfl .here
    have hS := S.famAdd .here (.there (.there (.there (.there (.there .here)))))
    clear S; obtain ⟨S, hn3⟩ := hS
    replace S := S.mapSub (fun m x v h => vl_pid g10 m x v h) (.there (.there (.there (.there .here))))
    replace S := S.rowSub (YCs_0 ch_0_0 ch_0_4 (ch_0_5 ++ [g8]) (ch_0_6 ++ [g9]) g10) (.there (.there (.there (.there (.there (.there (.there (.there (.there .here)))))))))
    replace S := S.slotPB (u := 57) (i := x1.2.1.2.1.length) (g := g10) (G := (ch_0_4 ++ [g10])) (by rw [hn3]; simp) (bAt_last _ _ hn3) rfl
    replace S := S.slotPB (u := 9) (i := x1.2.1.2.1.length) (g := g10) (G := (ch_0_4 ++ [g10])) (by rw [hn3]; simp) (bAt_last _ _ hn3) rfl
    replace S := S.slotPB (u := 51) (i := x1.2.1.2.1.length) (g := g10) (G := (ch_0_4 ++ [g10])) (by rw [hn3]; simp) (bAt_last _ _ hn3) rfl
    refine s_mapput S (k := x2) (y := (some x1.2.1.2.1.length)) rfl (.there (.there (.there (.there .here)))) rfl (fun h => ⟨(), rfl, h⟩) rfl (fun h => ⟨(), rfl, h, trivial⟩) Try.underlying69 KT31 ?_; clear S; intro w S
    replace hw := CL.again hw S (.cons .here (.cons .here (.cons .here (.cons .here .nil)))) le
    refine h_back ⟨fun _ => hw, ?_⟩
    refine h_done ?_; clear CL hw le
    refine x_thenN ?_
    refine c_region ?_
    refine s_move S rfl rfl ?_; clear S a; intro a S
    refine s_assign S rfl rfl ?_; clear S a; intro a S
    refine c_end ?_
    refine wp_ret ?_
    obtain rfl := Option.some.inj h0
    exact b_ret1 (d := (.rf (ptrV (ch_0_4 ++ [g10]) (some x1.2.1.2.1.length)) (ptrR (ch_0_4 ++ [g10]) (some x1.2.1.2.1.length)))) S rfl rfl fun ok => S.retX (Hx := []) hb _ _ ((ch_0_3, (ch_0_4 ++ [g10]), (ch_0_5 ++ [g8]), (ch_0_6 ++ [g9]), ch_0_7, ch_0_8, ch_0_9, ch_0_10, ch_0_11, ch_0_12, A3, nn1, cp3) : W7) (.cons (.there (.there (.there .here))) (.cons (.there (.there (.there .here))) (.cons (.there (.there (.there .here))) (.cons (.there (.there (.there .here))) (.cons (.there (.there (.there .here))) (.cons (.there (.there (.there .here))) (.cons (.there (.there (.there .here))) (.cons .here .nil)))))))) ok
   refine c_region ?_
   refine s_move S rfl rfl ?_; clear S a; intro a S
   refine s_not S rfl rfl ?_; clear S a; intro a S
   refine c_end ?_
   rcases ite_of h0 with ⟨c2, h1⟩ | ⟨c2, h1⟩ <;> clear h0
   ·refine c_condT S rfl c2 ?_
    refine c_region ?_
    refine s_bldS S (ds := []) (zs := [.ints .u8 [0, 0, 0, 0, 0, 0, 0, 0, 0, 0, 0, 0, 0, 0, 0, 0, 0, 0, 0, 0] 20, .one (.int .u64 0), .ints .u64 [0, 0, 0, 0] 4, .one (.slice none 0 0), .one (.slice none 0 0)]) (s' := [.ints .u8 [0, 0, 0, 0, 0, 0, 0, 0, 0, 0, 0, 0, 0, 0, 0, 0, 0, 0, 0, 0] 20, .one (.int .u64 0), .ints .u64 [0, 0, 0, 0] 4, .one (.slice none 0 0), .one (.slice none 0 0)]) rfl Try.underlying39 P39 Z39 ⟨rfl, rfl, rfl, rfl, rfl, trivial⟩ rfl rfl ?_; clear S a; intro a S
    refine s_store S rfl rfl rfl (s' := [.ints .u8 [0, 0, 0, 0, 0, 0, 0, 0, 0, 0, 0, 0, 0, 0, 0, 0, 0, 0, 0, 0] 20, .one (.int .u64 0), .ints .u64 [0, 0, 0, 0] 4, .one (.slice none 0 0), .one (.slice none 0 0)]) .here T39 rfl rfl ?_; clear S w; intro w S
    refine c_end ?_
    refine c_region ?_
    refine s_move S rfl rfl ?_; clear S a; intro a S
    refine s_nilchk S rfl rfl ?_; clear S a; intro a S
    refine s_fieldAddr S rfl I72_5 T23 (by decide) rfl rfl ?_; clear S a; intro a S
    refine s_load1 S rfl (.there (.there .here)) T23 (v := (.slice ch_0_13 ch_0_14 ch_0_15)) rfl rfl ?_; clear S a; intro a S
    refine s_lenO S rfl (.there (.there (.there (.there (.there (.there (.there (.there (.there .here))))))))) Try.underlying23 rfl ?_; clear S a; intro a S
    refine s_bin S rfl rfl rfl rfl ?_; clear S a; intro a S
    refine c_end ?_
    rcases ite_of h1 with ⟨c3, h2⟩ | ⟨c3, h2⟩ <;> clear h1
    ·refine c_condT S rfl c3 ?_
     refine c_region' ?_
     refine s_move S rfl rfl ?_; clear S a; intro a S
     refine s_loada S rfl (.there .here) T31 (s' := [.ints .u8 x2 20]) rfl rfl ?_; clear S a; intro a S
     refine s_bldSl S (ty' := (Ty.arr .u8 20)) (ds := [(0, (.agg [.ints .u8 x2 20]))]) (z := [0, 0, 0, 0, 0, 0, 0, 0, 0, 0, 0, 0, 0, 0, 0, 0, 0, 0, 0, 0]) (c0 := ()) (ys := [x2]) (cs := [()]) rfl Try.underlying23 J31 Z31 rfl ⟨rfl, trivial⟩ rfl rfl rfl rfl rfl rfl ?_; clear S a w; intro g11 a w S
     refine s_nilchk S rfl rfl ?_; clear S a; intro a S
     refine s_fieldAddr S rfl I72_5 T23 (by decide) rfl rfl ?_; clear S a; intro a S
     refine s_store S rfl rfl rfl (s' := [.rf (.iface 68 (.agg (cellsOf [.sl ch_0_1 (x1.1).length ch_0_2 (RdS Y39 ch_0_1 x1.1)]).toArray)) (IfR [.sl ch_0_1 (x1.1).length ch_0_2 (RdS Y39 ch_0_1 x1.1)]), .one (.map (some ch_0_3)), .one (.int .i64 x1.2.2.1), .one (.slice ch_0_7 ch_0_8 ch_0_9), .one (.slice ch_0_10 ch_0_11 ch_0_12), .one (.slice (some ⟨g11, 0, none⟩) 1 1)]) (.there (.there (.there .here))) T23 rfl rfl ?_; clear S w; intro w S
     refine c_end' ?_
     refine x_thenN ?_
     replace S := S.cellro (s' := [.ints .u8 [0, 0, 0, 0, 0, 0, 0, 0, 0, 0, 0, 0, 0, 0, 0, 0, 0, 0, 0, 0] 20, .one (.int .u64 0), .ints .u64 [0, 0, 0, 0] 4, .sl none (([] : List Int)).length 0 (RdS (Ty.int .u8) none ([] : List Int)), .one (.slice none 0 0)]) (.there .here) rfl (fun h => ⟨h.1, h.2.1, h.2.2.1, ok_nil, h.2.2.2.2.1, trivial⟩)
     replace S := S.cellro (s' := [.ints .u8 [0, 0, 0, 0, 0, 0, 0, 0, 0, 0, 0, 0, 0, 0, 0, 0, 0, 0, 0, 0] 20, .one (.int .u64 0), .ints .u64 [0, 0, 0, 0] 4, .sl none (([] : List Int)).length 0 (RdS (Ty.int .u8) none ([] : List Int)), .sl none (([] : List ((List Int) × (List Int)))).length 0 (RdS Y82 none ([] : List ((List Int) × (List Int))))]) (.there .here) rfl (fun h => ⟨h.1, h.2.1, h.2.2.1, h.2.2.2.1, ok_nil, trivial⟩)
     exact j2 _ g3 g4 (some ⟨g11, 0, none⟩) 1 1 [x2] [0, 0, 0, 0, 0, 0, 0, 0, 0, 0, 0, 0, 0, 0, 0, 0, 0, 0, 0, 0] 0 [0, 0, 0, 0] none 0 ([] : List Int) none 0 ([] : List ((List Int) × (List Int))) a w (S.sub (subR rfl) (.cons .here (.cons .here (.cons .here (.cons .here (.cons .here (.cons .here (.cons .here (.cons .here (.cons .here (.cons .here .nil))))))))))) h2
    ·refine c_condF S rfl c3 ?_
     refine wp_skip ?_
     refine x_thenN ?_
     replace S := S.cellro (s' := [.ints .u8 [0, 0, 0, 0, 0, 0, 0, 0, 0, 0, 0, 0, 0, 0, 0, 0, 0, 0, 0, 0] 20, .one (.int .u64 0), .ints .u64 [0, 0, 0, 0] 4, .sl none (([] : List Int)).length 0 (RdS (Ty.int .u8) none ([] : List Int)), .one (.slice none 0 0)]) .here rfl (fun h => ⟨h.1, h.2.1, h.2.2.1, ok_nil, h.2.2.2.2.1, trivial⟩)
     replace S := S.cellro (s' := [.ints .u8 [0, 0, 0, 0, 0, 0, 0, 0, 0, 0, 0, 0, 0, 0, 0, 0, 0, 0, 0, 0] 20, .one (.int .u64 0), .ints .u64 [0, 0, 0, 0] 4, .sl none (([] : List Int)).length 0 (RdS (Ty.int .u8) none ([] : List Int)), .sl none (([] : List ((List Int) × (List Int)))).length 0 (RdS Y82 none ([] : List ((List Int) × (List Int))))]) .here rfl (fun h => ⟨h.1, h.2.1, h.2.2.1, h.2.2.2.1, ok_nil, trivial⟩)
     exact j2 _ g3 g4 ch_0_13 ch_0_14 ch_0_15 x1.2.2.2.2.2 [0, 0, 0, 0, 0, 0, 0, 0, 0, 0, 0, 0, 0, 0, 0, 0, 0, 0, 0, 0] 0 [0, 0, 0, 0] none 0 ([] : List Int) none 0 ([] : List ((List Int) × (List Int))) a w (S.sub (subR rfl) (.cons (.there (.there (.there (.there (.there (.there (.there (.there (.there .here))))))))) (.cons .here (.cons .here (.cons .here (.cons .here (.cons .here (.cons .here (.cons .here (.cons .here (.cons .here .nil))))))))))) h2
   ·refine c_condF S rfl c2 ?_
    refine wp_skip ?_
    refine x_thenN ?_
    exact j2 _ g3 g4 ch_0_13 ch_0_14 ch_0_15 x1.2.2.2.2.2 y2 y3 y4 A1 cp1 y5 A2 cp2 y6 a w (S.sub (subR rfl) (.cons (.there (.there (.there (.there (.there (.there (.there (.there (.there .here))))))))) (.cons .here (.cons .here (.cons .here (.cons .here (.cons .here (.cons .here (.cons .here (.cons .here (.cons .here .nil))))))))))) h1
  refine c_heldS S (.take 0 (.take 1 (.take 2 (.take 3 (.take 4 (.alts (.run 5 false (.pure 6 (.pure 7 (.pure 8 (.alts (.run 9 false (.alts (.run 10 false (.alts (.run 11 false .done .nil)) .nil)) .nil))))) (.run 9 true (.alts (.run 5 false (.pure 6 (.pure 7 (.pure 8 (.alts (.run 10 false (.alts (.run 11 false .done .nil)) .nil))))) .nil)) .nil)))))))) 5 [Res.cells g1 31 [.ints .u8 x2 20], Res.cells ch_0_0 72 [.rf (.iface 68 (.agg (cellsOf [.sl ch_0_1 (x1.1).length ch_0_2 (RdS Y39 ch_0_1 x1.1)]).toArray)) (IfR [.sl ch_0_1 (x1.1).length ch_0_2 (RdS Y39 ch_0_1 x1.1)]), .one (.map (some ch_0_3)), .one (.int .i64 x1.2.2.1), .one (.slice ch_0_7 ch_0_8 ch_0_9), .one (.slice ch_0_10 ch_0_11 ch_0_12), .one (.slice ch_0_13 ch_0_14 ch_0_15)], Res.row (Ty.arr .u8 20) 31 ch_0_13 ch_0_14 ch_0_15 x1.2.2.2.2.2] (.cons .here (.cons .here (.cons (.there (.there (.there (.there (.there (.there .here)))))) .nil))) ⟨Res.stay_cells, Res.stay_cells, Res.stay_row flat_arr, trivial⟩ [(3, (.v (.pointer (some ⟨g1, 0, none⟩)))), (0, (.v (.pointer (some ⟨ch_0_0, 0, none⟩))))] (subR rfl) (by kernel_rfl) (by kernel_rfl) ?_; clear S; intro w S CL hw le
  refine h_move S CL hw le (subR rfl) rfl rfl rfl trivial ?_; clear S CL a; intro a S CL
  refine h_nilchk S CL hw le (subR rfl) rfl rfl rfl rfl trivial ?_; clear S CL a; intro a S CL
  refine h_fieldAddr S CL hw le (subR rfl) rfl I72_0 T45 (by decide) rfl rfl rfl trivial ?_; clear S CL a; intro a S CL
  refine h_loadM S CL hw le (subR rfl) rfl (.there .here) T45 (v := (.iface 68 (.agg (cellsOf [.sl ch_0_1 (x1.1).length ch_0_2 (RdS Y39 ch_0_1 x1.1)]).toArray))) rfl rfl rfl trivial ?_; clear S CL a; intro a S CL
  refine h_loada S CL hw le (subR rfl) rfl .here T31 (s' := [.ints .u8 x2 20]) rfl rfl rfl trivial ?_; clear S CL a; intro a S CL
  obtain ⟨t1, et1, h2⟩ := bind_of h1; clear h1
  refine h_alts ?_
  refine h_runO S rfl trivial ?_ ?_
  ·refine s_callI S (d0 := (.agg [.sl ch_0_1 (x1.1).length ch_0_2 (RdS Y39 ch_0_1 x1.1)])) (ds' := [(.agg [.ints .u8 x2 20])]) (ds := [(.agg [.ints .u8 x2 20])]) [] [Res.cells g1 31 [.ints .u8 x2 20], Res.cells ch_0_0 72 [.rf (.iface 68 (.agg (cellsOf [.sl ch_0_1 (x1.1).length ch_0_2 (RdS Y39 ch_0_1 x1.1)]).toArray)) (IfR [.sl ch_0_1 (x1.1).length ch_0_2 (RdS Y39 ch_0_1 x1.1)]), .one (.map (some ch_0_3)), .one (.int .i64 x1.2.2.1), .one (.slice ch_0_7 ch_0_8 ch_0_9), .one (.slice ch_0_10 ch_0_11 ch_0_12), .one (.slice ch_0_13 ch_0_14 ch_0_15)], Res.map true (Ty.arr .u8 20) false (Ty.pid ch_0_4) ch_0_3 x1.2.1.1, Res.fam (Res.struct (YE76 ch_0_5 ch_0_6) 76) (one_struct _ _) ch_0_4 [] x1.2.1.2.1, Res.fam (fun g_ kvs_ => Res.map true (Ty.arr .u64 4) true (Ty.arr .u64 4) g_ kvs_) (one_map true (Ty.arr .u64 4) true (Ty.arr .u64 4)) ch_0_5 [] x1.2.1.2.2.1, Res.fam (fun g_ kvs_ => Res.map true (Ty.arr .u64 4) false Ty.bool g_ kvs_) (one_map true (Ty.arr .u64 4) false Ty.bool) ch_0_6 [] x1.2.1.2.2.2, Res.row Y51 51 ch_0_7 ch_0_8 ch_0_9 x1.2.2.2.1, Res.row (YC ch_0_0 ch_0_4 ch_0_5 ch_0_6) 1 ch_0_10 ch_0_11 ch_0_12 x1.2.2.2.2.1, Res.row (Ty.arr .u8 20) 31 ch_0_13 ch_0_14 ch_0_15 x1.2.2.2.2.2] (fun (ch : W5) => ((.tup [(true, (Y39.segs t1.1 ((), (), (), (ch.1, ch.2.1), (ch.2.2.1, ch.2.2.2)))), (false, [.one (.bool t1.2)])]) : D)) (fun (ch : W5) => []) (fun (ch : W5) => [Res.cells g1 31 [.ints .u8 x2 20], Res.cells ch_0_0 72 [.rf (.iface 68 (.agg (cellsOf [.sl ch_0_1 (x1.1).length ch_0_2 (RdS Y39 ch_0_1 x1.1)]).toArray)) (IfR [.sl ch_0_1 (x1.1).length ch_0_2 (RdS Y39 ch_0_1 x1.1)]), .one (.map (some ch_0_3)), .one (.int .i64 x1.2.2.1), .one (.slice ch_0_7 ch_0_8 ch_0_9), .one (.slice ch_0_10 ch_0_11 ch_0_12), .one (.slice ch_0_13 ch_0_14 ch_0_15)], Res.map true (Ty.arr .u8 20) false (Ty.pid ch_0_4) ch_0_3 x1.2.1.1, Res.fam (Res.struct (YE76 ch_0_5 ch_0_6) 76) (one_struct _ _) ch_0_4 [] x1.2.1.2.1, Res.fam (fun g_ kvs_ => Res.map true (Ty.arr .u64 4) true (Ty.arr .u64 4) g_ kvs_) (one_map true (Ty.arr .u64 4) true (Ty.arr .u64 4)) ch_0_5 [] x1.2.1.2.2.1, Res.fam (fun g_ kvs_ => Res.map true (Ty.arr .u64 4) false Ty.bool g_ kvs_) (one_map true (Ty.arr .u64 4) false Ty.bool) ch_0_6 [] x1.2.1.2.2.2, Res.row Y51 51 ch_0_7 ch_0_8 ch_0_9 x1.2.2.2.1, Res.row (YC ch_0_0 ch_0_4 ch_0_5 ch_0_6) 1 ch_0_10 ch_0_11 ch_0_12 x1.2.2.2.2.1, Res.row (Ty.arr .u8 20) 31 ch_0_13 ch_0_14 ch_0_15 x1.2.2.2.2.2]) (fun _ => rfl) N102 M68_Account rfl rfl (fun h => h) rfl rfl (fun ok => ok) (.cons .here (.cons .here (.cons .here (.cons .here (.cons .here (.cons .here (.cons .here (.cons .here (.cons .here .nil))))))))) rfl (state_list_Account.ok k (x1.1) x2 ch_0_1 ch_0_2 t1 et1 _ _) ?_; clear S a; intro ch3 m le1 a w S
   replace le := le.trans le1
   refine h_back ⟨fun h => (nomatch h), ?_⟩
   refine p_move S rfl rfl rfl trivial ?_; clear S a; intro a S
   refine p_extract S rfl rfl rfl rfl rfl trivial ?_; clear S a; intro a S
   refine p_extract S rfl rfl rfl rfl rfl trivial ?_; clear S a; intro a S
   refine h_run' S rfl trivial ?_
   refine s_alloc S Z39 rfl ⟨rfl, rfl, rfl, rfl, rfl, trivial⟩ rfl ?_; clear S a; intro g12 a w S
   refine h_back ⟨fun h => (nomatch h), ?_⟩
   refine h_run' S rfl trivial ?_
   refine s_store S rfl rfl rfl (s' := [.ints .u8 t1.1.1 20, .one (.int .u64 t1.1.2.1), .ints .u64 t1.1.2.2.1 4, .sl ch3.1 (t1.1.2.2.2.1).length ch3.2.1 (RdS (Ty.int .u8) ch3.1 t1.1.2.2.2.1), .sl ch3.2.2.1 (t1.1.2.2.2.2).length ch3.2.2.2 (RdS Y82 ch3.2.2.1 t1.1.2.2.2.2)]) .here T39 rfl rfl ?_; clear S; intro w S
   refine h_back ⟨fun h => (nomatch h), ?_⟩
   refine h_run' S rfl trivial ?_
   refine s_assign S rfl rfl ?_; clear S a; intro a S
   refine h_back ⟨fun h => (nomatch h), ?_⟩
   refine h_done ?_; clear CL hw le
   refine x_thenN ?_
   exact j1 _ t1.2 g12 g1 t1.1.1 t1.1.2.1 t1.1.2.2.1 ch3.1 ch3.2.1 t1.1.2.2.2.1 ch3.2.2.1 ch3.2.2.2 t1.1.2.2.2.2 a w (S.sub (subR rfl) (.cons .here (.cons .here (.cons .here (.cons .here (.cons .here (.cons .here (.cons .here (.cons .here (.cons .here (.cons .here .nil))))))))))) h2
  refine h_runO S rfl trivial ?_ ?_
  ·refine s_alloc S Z39 rfl ⟨rfl, rfl, rfl, rfl, rfl, trivial⟩ rfl ?_; clear S a; intro g12 a w S
   replace hw := CL.again hw S (.cons (.there .here) (.cons (.there .here) (.cons (.there (.there (.there (.there (.there (.there (.there .here))))))) .nil))) le
   refine h_back ⟨fun _ => hw, ?_⟩
   refine h_run' S rfl trivial ?_
   refine s_callI S (d0 := (.agg [.sl ch_0_1 (x1.1).length ch_0_2 (RdS Y39 ch_0_1 x1.1)])) (ds' := [(.agg [.ints .u8 x2 20])]) (ds := [(.agg [.ints .u8 x2 20])]) [] [Res.cells g12 39 [.ints .u8 [0, 0, 0, 0, 0, 0, 0, 0, 0, 0, 0, 0, 0, 0, 0, 0, 0, 0, 0, 0] 20, .one (.int .u64 0), .ints .u64 [0, 0, 0, 0] 4, .one (.slice none 0 0), .one (.slice none 0 0)], Res.cells g1 31 [.ints .u8 x2 20], Res.cells ch_0_0 72 [.rf (.iface 68 (.agg (cellsOf [.sl ch_0_1 (x1.1).length ch_0_2 (RdS Y39 ch_0_1 x1.1)]).toArray)) (IfR [.sl ch_0_1 (x1.1).length ch_0_2 (RdS Y39 ch_0_1 x1.1)]), .one (.map (some ch_0_3)), .one (.int .i64 x1.2.2.1), .one (.slice ch_0_7 ch_0_8 ch_0_9), .one (.slice ch_0_10 ch_0_11 ch_0_12), .one (.slice ch_0_13 ch_0_14 ch_0_15)], Res.map true (Ty.arr .u8 20) false (Ty.pid ch_0_4) ch_0_3 x1.2.1.1, Res.fam (Res.struct (YE76 ch_0_5 ch_0_6) 76) (one_struct _ _) ch_0_4 [] x1.2.1.2.1, Res.fam (fun g_ kvs_ => Res.map true (Ty.arr .u64 4) true (Ty.arr .u64 4) g_ kvs_) (one_map true (Ty.arr .u64 4) true (Ty.arr .u64 4)) ch_0_5 [] x1.2.1.2.2.1, Res.fam (fun g_ kvs_ => Res.map true (Ty.arr .u64 4) false Ty.bool g_ kvs_) (one_map true (Ty.arr .u64 4) false Ty.bool) ch_0_6 [] x1.2.1.2.2.2, Res.row Y51 51 ch_0_7 ch_0_8 ch_0_9 x1.2.2.2.1, Res.row (YC ch_0_0 ch_0_4 ch_0_5 ch_0_6) 1 ch_0_10 ch_0_11 ch_0_12 x1.2.2.2.2.1, Res.row (Ty.arr .u8 20) 31 ch_0_13 ch_0_14 ch_0_15 x1.2.2.2.2.2] (fun (ch : W5) => ((.tup [(true, (Y39.segs t1.1 ((), (), (), (ch.1, ch.2.1), (ch.2.2.1, ch.2.2.2)))), (false, [.one (.bool t1.2)])]) : D)) (fun (ch : W5) => []) (fun (ch : W5) => [Res.cells g12 39 [.ints .u8 [0, 0, 0, 0, 0, 0, 0, 0, 0, 0, 0, 0, 0, 0, 0, 0, 0, 0, 0, 0] 20, .one (.int .u64 0), .ints .u64 [0, 0, 0, 0] 4, .one (.slice none 0 0), .one (.slice none 0 0)], Res.cells g1 31 [.ints .u8 x2 20], Res.cells ch_0_0 72 [.rf (.iface 68 (.agg (cellsOf [.sl ch_0_1 (x1.1).length ch_0_2 (RdS Y39 ch_0_1 x1.1)]).toArray)) (IfR [.sl ch_0_1 (x1.1).length ch_0_2 (RdS Y39 ch_0_1 x1.1)]), .one (.map (some ch_0_3)), .one (.int .i64 x1.2.2.1), .one (.slice ch_0_7 ch_0_8 ch_0_9), .one (.slice ch_0_10 ch_0_11 ch_0_12), .one (.slice ch_0_13 ch_0_14 ch_0_15)], Res.map true (Ty.arr .u8 20) false (Ty.pid ch_0_4) ch_0_3 x1.2.1.1, Res.fam (Res.struct (YE76 ch_0_5 ch_0_6) 76) (one_struct _ _) ch_0_4 [] x1.2.1.2.1, Res.fam (fun g_ kvs_ => Res.map true (Ty.arr .u64 4) true (Ty.arr .u64 4) g_ kvs_) (one_map true (Ty.arr .u64 4) true (Ty.arr .u64 4)) ch_0_5 [] x1.2.1.2.2.1, Res.fam (fun g_ kvs_ => Res.map true (Ty.arr .u64 4) false Ty.bool g_ kvs_) (one_map true (Ty.arr .u64 4) false Ty.bool) ch_0_6 [] x1.2.1.2.2.2, Res.row Y51 51 ch_0_7 ch_0_8 ch_0_9 x1.2.2.2.1, Res.row (YC ch_0_0 ch_0_4 ch_0_5 ch_0_6) 1 ch_0_10 ch_0_11 ch_0_12 x1.2.2.2.2.1, Res.row (Ty.arr .u8 20) 31 ch_0_13 ch_0_14 ch_0_15 x1.2.2.2.2.2]) (fun _ => rfl) N102 M68_Account rfl rfl (fun h => h) rfl rfl (fun ok => ok) (.cons .here (.cons .here (.cons .here (.cons .here (.cons .here (.cons .here (.cons .here (.cons .here (.cons .here (.cons .here .nil)))))))))) rfl (state_list_Account.ok k (x1.1) x2 ch_0_1 ch_0_2 t1 et1 _ _) ?_; clear S a; intro ch3 m le1 a w S
   replace le := le.trans le1
   refine h_back ⟨fun h => (nomatch h), ?_⟩
   refine p_move S rfl rfl rfl trivial ?_; clear S a; intro a S
   refine p_extract S rfl rfl rfl rfl rfl trivial ?_; clear S a; intro a S
   refine p_extract S rfl rfl rfl rfl rfl trivial ?_; clear S a; intro a S
   refine h_run' S rfl trivial ?_
   refine s_store S rfl rfl rfl (s' := [.ints .u8 t1.1.1 20, .one (.int .u64 t1.1.2.1), .ints .u64 t1.1.2.2.1 4, .sl ch3.1 (t1.1.2.2.2.1).length ch3.2.1 (RdS (Ty.int .u8) ch3.1 t1.1.2.2.2.1), .sl ch3.2.2.1 (t1.1.2.2.2.2).length ch3.2.2.2 (RdS Y82 ch3.2.2.1 t1.1.2.2.2.2)]) .here T39 rfl rfl ?_; clear S; intro w S
   refine h_back ⟨fun h => (nomatch h), ?_⟩
   refine h_run' S rfl trivial ?_
   refine s_assign S rfl rfl ?_; clear S a; intro a S
   refine h_back ⟨fun h => (nomatch h), ?_⟩
   refine h_done ?_; clear CL hw le
   refine x_thenN ?_
   exact j1 _ t1.2 g12 g1 t1.1.1 t1.1.2.1 t1.1.2.2.1 ch3.1 ch3.2.1 t1.1.2.2.2.1 ch3.2.2.1 ch3.2.2.2 t1.1.2.2.2.2 a w (S.sub (subR rfl) (.cons .here (.cons .here (.cons .here (.cons .here (.cons .here (.cons .here (.cons .here (.cons .here (.cons .here (.cons .here .nil))))))))))) h2
  exact h_nil
abbrev state_State_done_1clo.Ty : Type := W8 → Clo → Option W10
def state_State_done_1clo.Ctr (s : state_State_done_1clo.Ty) : Prop := ∀ (x1 : W8) (x2 : Clo) (ch_0_0 : Nat) (ch_0_1 : Option Addr) (ch_0_2 : Nat) (ch_0_3 : Nat) (ch_0_4 : List Nat) (ch_0_5 : List Nat) (ch_0_6 : List Nat) (ch_0_7 : Option Addr) (ch_0_8 : Nat) (ch_0_9 : Nat) (ch_0_10 : Option Addr) (ch_0_11 : Nat) (ch_0_12 : Nat) (ch_0_13 : Option Addr) (ch_0_14 : Nat) (ch_0_15 : Nat) (ch_1_0 : List Addr) (r : W10) (h0 : s x1 x2 = some r) (mi : Mem) (w0 : World), okL mi [(.v (.pointer (some ⟨ch_0_0, 0, none⟩))), (.rf (cloV x2 ch_1_0) (cloR ch_0_0 ch_0_4 ch_0_5 ch_0_6 x2 ch_1_0))] → Pre mi [Res.cells ch_0_0 72 [.rf (.iface 68 (.agg (cellsOf [.sl ch_0_1 (x1.1).length ch_0_2 (RdS Y39 ch_0_1 x1.1)]).toArray)) (IfR [.sl ch_0_1 (x1.1).length ch_0_2 (RdS Y39 ch_0_1 x1.1)]), .one (.map (some ch_0_3)), .one (.int .i64 x1.2.2.1), .one (.slice ch_0_7 ch_0_8 ch_0_9), .one (.slice ch_0_10 ch_0_11 ch_0_12), .one (.slice ch_0_13 ch_0_14 ch_0_15)], Res.map true (Ty.arr .u8 20) false (Ty.pid ch_0_4) ch_0_3 x1.2.1.1, Res.fam (Res.struct (YE76 ch_0_5 ch_0_6) 76) (one_struct _ _) ch_0_4 [] x1.2.1.2.1, Res.fam (fun g_ kvs_ => Res.map true (Ty.arr .u64 4) true (Ty.arr .u64 4) g_ kvs_) (one_map true (Ty.arr .u64 4) true (Ty.arr .u64 4)) ch_0_5 [] x1.2.1.2.2.1, Res.fam (fun g_ kvs_ => Res.map true (Ty.arr .u64 4) false Ty.bool g_ kvs_) (one_map true (Ty.arr .u64 4) false Ty.bool) ch_0_6 [] x1.2.1.2.2.2, Res.row Y51 51 ch_0_7 ch_0_8 ch_0_9 x1.2.2.2.1, Res.row (YC ch_0_0 ch_0_4 ch_0_5 ch_0_6) 1 ch_0_10 ch_0_11 ch_0_12 x1.2.2.2.2.1, Res.row (Ty.arr .u8 20) 31 ch_0_13 ch_0_14 ch_0_15 x1.2.2.2.2.2] w0 → Calls Try.prog 29 (([(.v (.pointer (some ⟨ch_0_0, 0, none⟩))), (.rf (cloV x2 ch_1_0) (cloR ch_0_0 ch_0_4 ch_0_5 ch_0_6 x2 ch_1_0))] : List D).map D.val).toArray w0 (RetX mi [Res.cells ch_0_0 72 [.rf (.iface 68 (.agg (cellsOf [.sl ch_0_1 (x1.1).length ch_0_2 (RdS Y39 ch_0_1 x1.1)]).toArray)) (IfR [.sl ch_0_1 (x1.1).length ch_0_2 (RdS Y39 ch_0_1 x1.1)]), .one (.map (some ch_0_3)), .one (.int .i64 x1.2.2.1), .one (.slice ch_0_7 ch_0_8 ch_0_9), .one (.slice ch_0_10 ch_0_11 ch_0_12), .one (.slice ch_0_13 ch_0_14 ch_0_15)], Res.map true (Ty.arr .u8 20) false (Ty.pid ch_0_4) ch_0_3 x1.2.1.1, Res.fam (Res.struct (YE76 ch_0_5 ch_0_6) 76) (one_struct _ _) ch_0_4 [] x1.2.1.2.1, Res.fam (fun g_ kvs_ => Res.map true (Ty.arr .u64 4) true (Ty.arr .u64 4) g_ kvs_) (one_map true (Ty.arr .u64 4) true (Ty.arr .u64 4)) ch_0_5 [] x1.2.1.2.2.1, Res.fam (fun g_ kvs_ => Res.map true (Ty.arr .u64 4) false Ty.bool g_ kvs_) (one_map true (Ty.arr .u64 4) false Ty.bool) ch_0_6 [] x1.2.1.2.2.2, Res.row Y51 51 ch_0_7 ch_0_8 ch_0_9 x1.2.2.2.1, Res.row (YC ch_0_0 ch_0_4 ch_0_5 ch_0_6) 1 ch_0_10 ch_0_11 ch_0_12 x1.2.2.2.2.1, Res.row (Ty.arr .u8 20) 31 ch_0_13 ch_0_14 ch_0_15 x1.2.2.2.2.2] (fun (ch : (Option Addr) × Nat × Nat) => ((.tup []) : D)) (fun (ch : (Option Addr) × Nat × Nat) => [Res.cells ch_0_0 72 [.rf (.iface 68 (.agg (cellsOf [.sl ch_0_1 (x1.1).length ch_0_2 (RdS Y39 ch_0_1 x1.1)]).toArray)) (IfR [.sl ch_0_1 (x1.1).length ch_0_2 (RdS Y39 ch_0_1 x1.1)]), .one (.map (some ch_0_3)), .one (.int .i64 x1.2.2.1), .one (.slice ch_0_7 ch_0_8 ch_0_9), .one (.slice ch.1 ch.2.1 ch.2.2), .one (.slice ch_0_13 ch_0_14 ch_0_15)], Res.map true (Ty.arr .u8 20) false (Ty.pid ch_0_4) ch_0_3 x1.2.1.1, Res.fam (Res.struct (YE76 ch_0_5 ch_0_6) 76) (one_struct _ _) ch_0_4 [] x1.2.1.2.1, Res.fam (fun g_ kvs_ => Res.map true (Ty.arr .u64 4) true (Ty.arr .u64 4) g_ kvs_) (one_map true (Ty.arr .u64 4) true (Ty.arr .u64 4)) ch_0_5 [] x1.2.1.2.2.1, Res.fam (fun g_ kvs_ => Res.map true (Ty.arr .u64 4) false Ty.bool g_ kvs_) (one_map true (Ty.arr .u64 4) false Ty.bool) ch_0_6 [] x1.2.1.2.2.2, Res.row Y51 51 ch_0_7 ch_0_8 ch_0_9 x1.2.2.2.1, Res.row (YC ch_0_0 ch_0_4 ch_0_5 ch_0_6) 1 ch.1 ch.2.1 ch.2.2 r.2.2.2.2.1, Res.row (Ty.arr .u8 20) 31 ch_0_13 ch_0_14 ch_0_15 x1.2.2.2.2.2]) w0)
def state_State_done_1clo.f (x1 : W8) (x2 : Clo) : Option W10 := if ((x1.2.2.2.2.1).length + ([x2]).length) * 8 ≤ 140737488355328 then (some ((), (), (), (), x1.2.2.2.2.1 ++ [x2], ())) else none
theorem state_State_done_1clo.ok : state_State_done_1clo.Ctr (state_State_done_1clo.f) := by
 intro x1 x2 ch_0_0 ch_0_1 ch_0_2 ch_0_3 ch_0_4 ch_0_5 ch_0_6 ch_0_7 ch_0_8 ch_0_9 ch_0_10 ch_0_11 ch_0_12 ch_0_13 ch_0_14 ch_0_15 ch_1_0 r h0 mi w0 ok hm
 delta state_State_done_1clo.f at h0
 refine c_enterX (n := 14) [(.v (.pointer (some ⟨ch_0_0, 0, none⟩))), (.rf (cloV x2 ch_1_0) (cloR ch_0_0 ch_0_4 ch_0_5 ch_0_6 x2 ch_1_0))] (l := [(0, (.v (.pointer (some ⟨ch_0_0, 0, none⟩)))), (1, (.rf (cloV x2 ch_1_0) (cloR ch_0_0 ch_0_4 ch_0_5 ch_0_6 x2 ch_1_0)))]) Try.func29 rfl rfl rfl rfl ok hm ?_
 clear ok hm
 intro b0 hb a S
 refine c_region' ?_
 refine s_move S rfl rfl ?_; clear S a; intro a S
 refine s_move S rfl rfl ?_; clear S a; intro a S
 refine s_nilchk S rfl rfl ?_; clear S a; intro a S
 refine s_fieldAddr S rfl I72_4 T70 (by decide) rfl rfl ?_; clear S a; intro a S
 refine s_load1 S rfl .here T70 (v := (.slice ch_0_10 ch_0_11 ch_0_12)) rfl rfl ?_; clear S a; intro a S
 refine s_move S rfl rfl ?_; clear S a; intro a S
 refine s_bldSl S (ty' := (YC ch_0_0 ch_0_4 ch_0_5 ch_0_6)) (ds := [(0, (.rf (cloV x2 ch_1_0) (cloR ch_0_0 ch_0_4 ch_0_5 ch_0_6 x2 ch_1_0)))]) (z := Clo.nil) (c0 := []) (ys := [x2]) (cs := [ch_1_0]) rfl Try.underlying70 J1 Z1 rfl ⟨⟨rfl, trivial, cloM _ _ _ _ _ _⟩, trivial⟩ rfl rfl rfl rfl rfl rfl ?_; clear S a; intro g1 a w S
 obtain ⟨c1, h1⟩ := chk_of h0; clear h0
 refine s_app S (k2 := 1) (ys := [x2]) rfl (fun _ _ => (.there (.there (.there (.there (.there (.there (.there .here)))))))) rfl rfl (S.holds _ (Pull.mem .here).1).1 (Res.row.src (S.holds _ (Pull.mem .here).1)) Try.underlying70 J1 c1 rfl ?_; clear S a w; intro A1 cp1 a w S
 refine s_nilchk S rfl rfl ?_; clear S a; intro a S
 refine s_fieldAddr S rfl I72_4 T70 (by decide) rfl rfl ?_; clear S a; intro a S
 refine s_store S rfl rfl rfl (s' := [.rf (.iface 68 (.agg (cellsOf [.sl ch_0_1 (x1.1).length ch_0_2 (RdS Y39 ch_0_1 x1.1)]).toArray)) (IfR [.sl ch_0_1 (x1.1).length ch_0_2 (RdS Y39 ch_0_1 x1.1)]), .one (.map (some ch_0_3)), .one (.int .i64 x1.2.2.1), .one (.slice ch_0_7 ch_0_8 ch_0_9), .one (.slice A1 (ch_0_11 + 1) cp1), .one (.slice ch_0_13 ch_0_14 ch_0_15)]) (.there .here) T70 rfl rfl ?_; clear S w; intro w S
 refine c_end' ?_
 refine b_end ?_
 obtain rfl := Option.some.inj h1
 exact b_ret0 S rfl (S.retX (Hx := []) hb _ _ ((A1, ch_0_11 + 1, cp1) : (Option Addr) × Nat × Nat) (.cons (.there .here) (.cons (.there .here) (.cons (.there .here) (.cons (.there .here) (.cons (.there .here) (.cons (.there .here) (.cons (.there .here) (.cons (.there .here) .nil)))))))) trivial)
abbrev state_State_Set.Ty : Type := W8 → (List Int) → (List Int) → (List Int) → Option W11
def state_State_Set.Ctr (s : state_State_Set.Ty) : Prop := ∀ (x1 : W8) (x2 : List Int) (x3 : List Int) (x4 : List Int) (ch_0_0 : Nat) (ch_0_1 : Option Addr) (ch_0_2 : Nat) (ch_0_3 : Nat) (ch_0_4 : List Nat) (ch_0_5 : List Nat) (ch_0_6 : List Nat) (ch_0_7 : Option Addr) (ch_0_8 : Nat) (ch_0_9 : Nat) (ch_0_10 : Option Addr) (ch_0_11 : Nat) (ch_0_12 : Nat) (ch_0_13 : Option Addr) (ch_0_14 : Nat) (ch_0_15 : Nat) (r : W11) (h0 : s x1 x2 x3 x4 = some r) (mi : Mem) (w0 : World), okL mi [(.v (.pointer (some ⟨ch_0_0, 0, none⟩))), (.agg [.ints .u8 x2 20]), (.agg [.ints .u64 x3 4]), (.agg [.ints .u64 x4 4])] → Pre mi [Res.cells ch_0_0 72 [.rf (.iface 68 (.agg (cellsOf [.sl ch_0_1 (x1.1).length ch_0_2 (RdS Y39 ch_0_1 x1.1)]).toArray)) (IfR [.sl ch_0_1 (x1.1).length ch_0_2 (RdS Y39 ch_0_1 x1.1)]), .one (.map (some ch_0_3)), .one (.int .i64 x1.2.2.1), .one (.slice ch_0_7 ch_0_8 ch_0_9), .one (.slice ch_0_10 ch_0_11 ch_0_12), .one (.slice ch_0_13 ch_0_14 ch_0_15)], Res.map true (Ty.arr .u8 20) false (Ty.pid ch_0_4) ch_0_3 x1.2.1.1, Res.fam (Res.struct (YE76 ch_0_5 ch_0_6) 76) (one_struct _ _) ch_0_4 [] x1.2.1.2.1, Res.fam (fun g_ kvs_ => Res.map true (Ty.arr .u64 4) true (Ty.arr .u64 4) g_ kvs_) (one_map true (Ty.arr .u64 4) true (Ty.arr .u64 4)) ch_0_5 [] x1.2.1.2.2.1, Res.fam (fun g_ kvs_ => Res.map true (Ty.arr .u64 4) false Ty.bool g_ kvs_) (one_map true (Ty.arr .u64 4) false Ty.bool) ch_0_6 [] x1.2.1.2.2.2, Res.row Y51 51 ch_0_7 ch_0_8 ch_0_9 x1.2.2.2.1, Res.row (YC ch_0_0 ch_0_4 ch_0_5 ch_0_6) 1 ch_0_10 ch_0_11 ch_0_12 x1.2.2.2.2.1, Res.row (Ty.arr .u8 20) 31 ch_0_13 ch_0_14 ch_0_15 x1.2.2.2.2.2] w0 → Calls Try.prog 15 (([(.v (.pointer (some ⟨ch_0_0, 0, none⟩))), (.agg [.ints .u8 x2 20]), (.agg [.ints .u64 x3 4]), (.agg [.ints .u64 x4 4])] : List D).map D.val).toArray w0 (RetX mi [Res.cells ch_0_0 72 [.rf (.iface 68 (.agg (cellsOf [.sl ch_0_1 (x1.1).length ch_0_2 (RdS Y39 ch_0_1 x1.1)]).toArray)) (IfR [.sl ch_0_1 (x1.1).length ch_0_2 (RdS Y39 ch_0_1 x1.1)]), .one (.map (some ch_0_3)), .one (.int .i64 x1.2.2.1), .one (.slice ch_0_7 ch_0_8 ch_0_9), .one (.slice ch_0_10 ch_0_11 ch_0_12), .one (.slice ch_0_13 ch_0_14 ch_0_15)], Res.map true (Ty.arr .u8 20) false (Ty.pid ch_0_4) ch_0_3 x1.2.1.1, Res.fam (Res.struct (YE76 ch_0_5 ch_0_6) 76) (one_struct _ _) ch_0_4 [] x1.2.1.2.1, Res.fam (fun g_ kvs_ => Res.map true (Ty.arr .u64 4) true (Ty.arr .u64 4) g_ kvs_) (one_map true (Ty.arr .u64 4) true (Ty.arr .u64 4)) ch_0_5 [] x1.2.1.2.2.1, Res.fam (fun g_ kvs_ => Res.map true (Ty.arr .u64 4) false Ty.bool g_ kvs_) (one_map true (Ty.arr .u64 4) false Ty.bool) ch_0_6 [] x1.2.1.2.2.2, Res.row Y51 51 ch_0_7 ch_0_8 ch_0_9 x1.2.2.2.1, Res.row (YC ch_0_0 ch_0_4 ch_0_5 ch_0_6) 1 ch_0_10 ch_0_11 ch_0_12 x1.2.2.2.2.1, Res.row (Ty.arr .u8 20) 31 ch_0_13 ch_0_14 ch_0_15 x1.2.2.2.2.2] (fun (ch : W7) => ((.tup []) : D)) (fun (ch : W7) => [Res.cells ch_0_0 72 [.rf (.iface 68 (.agg (cellsOf [.sl ch_0_1 (x1.1).length ch_0_2 (RdS Y39 ch_0_1 x1.1)]).toArray)) (IfR [.sl ch_0_1 (x1.1).length ch_0_2 (RdS Y39 ch_0_1 x1.1)]), .one (.map (some ch.1)), .one (.int .i64 x1.2.2.1), .one (.slice ch.2.2.2.2.1 ch.2.2.2.2.2.1 ch.2.2.2.2.2.2.1), .one (.slice ch.2.2.2.2.2.2.2.1 ch.2.2.2.2.2.2.2.2.1 ch.2.2.2.2.2.2.2.2.2.1), .one (.slice ch.2.2.2.2.2.2.2.2.2.2.1 ch.2.2.2.2.2.2.2.2.2.2.2.1 ch.2.2.2.2.2.2.2.2.2.2.2.2)], Res.map true (Ty.arr .u8 20) false (Ty.pid ch.2.1) ch.1 r.2.1.1, Res.fam (Res.struct (YE76 ch.2.2.1 ch.2.2.2.1) 76) (one_struct _ _) ch.2.1 [] r.2.1.2.1, Res.fam (fun g_ kvs_ => Res.map true (Ty.arr .u64 4) true (Ty.arr .u64 4) g_ kvs_) (one_map true (Ty.arr .u64 4) true (Ty.arr .u64 4)) ch.2.2.1 [] r.2.1.2.2.1, Res.fam (fun g_ kvs_ => Res.map true (Ty.arr .u64 4) false Ty.bool g_ kvs_) (one_map true (Ty.arr .u64 4) false Ty.bool) ch.2.2.2.1 [] r.2.1.2.2.2, Res.row Y51 51 ch.2.2.2.2.1 ch.2.2.2.2.2.1 ch.2.2.2.2.2.2.1 r.2.2.2.1, Res.row (YC ch_0_0 ch.2.1 ch.2.2.1 ch.2.2.2.1) 1 ch.2.2.2.2.2.2.2.1 ch.2.2.2.2.2.2.2.2.1 ch.2.2.2.2.2.2.2.2.2.1 r.2.2.2.2.1, Res.row (Ty.arr .u8 20) 31 ch.2.2.2.2.2.2.2.2.2.2.1 ch.2.2.2.2.2.2.2.2.2.2.2.1 ch.2.2.2.2.2.2.2.2.2.2.2.2 r.2.2.2.2.2]) w0)
def state_State_Set.f (k : Nat) (x1 : W8) (x2 : List Int) (x3 : List Int) (x4 : List Int) : Option W11 := (state_State_at.f k ((x1.1), x1.2.1, x1.2.2.1, x1.2.2.2.1, x1.2.2.2.2.1, x1.2.2.2.2.2) x2).bind fun t1 => (if t1.1.isSome = true then ((state_State_done_1clo.f ((x1.1), t1.2.2.1, x1.2.2.1, t1.2.2.2.2.1, t1.2.2.2.2.2.1, t1.2.2.2.2.2.2) (Clo.c33 ((lk (aget (atE t1.2.2.1.2.2.1 ((atE t1.2.2.1.2.1 (t1.1.getD 0)).2.2.2.1)) x3) [0, 0, 0, 0]).2) ((lk (aget (atE t1.2.2.1.2.2.1 ((atE t1.2.2.1.2.1 (t1.1.getD 0)).2.2.2.1)) x3) [0, 0, 0, 0]).1) ((atE t1.2.2.1.2.1 (t1.1.getD 0)).2.2.2.1) x3)).bind fun t2 => (some ((), (t1.2.2.1.1, t1.2.2.1.2.1, t1.2.2.1.2.2.1.set ((atE t1.2.2.1.2.1 (t1.1.getD 0)).2.2.2.1) (aput (atE t1.2.2.1.2.2.1 ((atE t1.2.2.1.2.1 (t1.1.getD 0)).2.2.2.1)) x3 x4), t1.2.2.1.2.2.2), (), t1.2.2.2.2.1, t2.2.2.2.2.1, t1.2.2.2.2.2.2))) else none)
theorem state_State_Set.ok (k : Nat) : state_State_Set.Ctr (state_State_Set.f k) := by
 intro x1 x2 x3 x4 ch_0_0 ch_0_1 ch_0_2 ch_0_3 ch_0_4 ch_0_5 ch_0_6 ch_0_7 ch_0_8 ch_0_9 ch_0_10 ch_0_11 ch_0_12 ch_0_13 ch_0_14 ch_0_15 r h0 mi w0 ok hm
 delta state_State_Set.f at h0
 refine c_enterX (n := 31) [(.v (.pointer (some ⟨ch_0_0, 0, none⟩))), (.agg [.ints .u8 x2 20]), (.agg [.ints .u64 x3 4]), (.agg [.ints .u64 x4 4])] (l := [(0, (.v (.pointer (some ⟨ch_0_0, 0, none⟩)))), (1, (.agg [.ints .u8 x2 20])), (2, (.agg [.ints .u64 x3 4])), (3, (.agg [.ints .u64 x4 4]))]) Try.func15 rfl rfl rfl rfl ok hm ?_
 clear ok hm
 intro b0 hb a S
 refine c_region ?_
 refine s_box S rfl rfl rfl ?_; clear S a; intro g1 a w S
 refine s_box S rfl rfl rfl ?_; clear S a w; intro g2 a w S
 refine s_box S rfl rfl rfl ?_; clear S a w; intro g3 a w S
 refine c_end ?_
 refine wp_seq ?_
 refine c_region ?_
 refine s_move S rfl rfl ?_; clear S a; intro a S
 refine s_eqp S (b := false) rfl rfl Try.underlying26 rfl rfl ?_; clear S a; intro a S
 refine c_end ?_
 refine c_condF S rfl rfl ?_
 refine wp_skip ?_
 refine x_thenN ?_
 refine c_region ?_
 refine s_move S rfl rfl ?_; clear S a; intro a S
 refine s_loada S rfl (.there (.there .here)) T31 (s' := [.ints .u8 x2 20]) rfl rfl ?_; clear S a; intro a S
 obtain ⟨t1, et1, h1⟩ := bind_of h0; clear h0
 refine s_callX S (ds' := [(.v (.pointer (some ⟨ch_0_0, 0, none⟩))), (.agg [.ints .u8 x2 20])]) (ds := [(.v (.pointer (some ⟨ch_0_0, 0, none⟩))), (.agg [.ints .u8 x2 20])]) [Res.cells ch_0_0 72 [.rf (.iface 68 (.agg (cellsOf [.sl ch_0_1 (x1.1).length ch_0_2 (RdS Y39 ch_0_1 x1.1)]).toArray)) (IfR [.sl ch_0_1 (x1.1).length ch_0_2 (RdS Y39 ch_0_1 x1.1)]), .one (.map (some ch_0_3)), .one (.int .i64 x1.2.2.1), .one (.slice ch_0_7 ch_0_8 ch_0_9), .one (.slice ch_0_10 ch_0_11 ch_0_12), .one (.slice ch_0_13 ch_0_14 ch_0_15)], Res.map true (Ty.arr .u8 20) false (Ty.pid ch_0_4) ch_0_3 x1.2.1.1, Res.fam (Res.struct (YE76 ch_0_5 ch_0_6) 76) (one_struct _ _) ch_0_4 [] x1.2.1.2.1, Res.fam (fun g_ kvs_ => Res.map true (Ty.arr .u64 4) true (Ty.arr .u64 4) g_ kvs_) (one_map true (Ty.arr .u64 4) true (Ty.arr .u64 4)) ch_0_5 [] x1.2.1.2.2.1, Res.fam (fun g_ kvs_ => Res.map true (Ty.arr .u64 4) false Ty.bool g_ kvs_) (one_map true (Ty.arr .u64 4) false Ty.bool) ch_0_6 [] x1.2.1.2.2.2, Res.row Y51 51 ch_0_7 ch_0_8 ch_0_9 x1.2.2.2.1, Res.row (YC ch_0_0 ch_0_4 ch_0_5 ch_0_6) 1 ch_0_10 ch_0_11 ch_0_12 x1.2.2.2.2.1, Res.row (Ty.arr .u8 20) 31 ch_0_13 ch_0_14 ch_0_15 x1.2.2.2.2.2] [Res.cells g3 35 [.ints .u64 x4 4], Res.cells g2 35 [.ints .u64 x3 4], Res.cells g1 31 [.ints .u8 x2 20]] (fun (ch : W7) => ((.rf (ptrV ch.2.1 t1.1) (ptrR ch.2.1 t1.1)) : D)) (fun (ch : W7) => [Res.cells ch_0_0 72 [.rf (.iface 68 (.agg (cellsOf [.sl ch_0_1 (x1.1).length ch_0_2 (RdS Y39 ch_0_1 x1.1)]).toArray)) (IfR [.sl ch_0_1 (x1.1).length ch_0_2 (RdS Y39 ch_0_1 x1.1)]), .one (.map (some ch.1)), .one (.int .i64 x1.2.2.1), .one (.slice ch.2.2.2.2.1 ch.2.2.2.2.2.1 ch.2.2.2.2.2.2.1), .one (.slice ch.2.2.2.2.2.2.2.1 ch.2.2.2.2.2.2.2.2.1 ch.2.2.2.2.2.2.2.2.2.1), .one (.slice ch.2.2.2.2.2.2.2.2.2.2.1 ch.2.2.2.2.2.2.2.2.2.2.2.1 ch.2.2.2.2.2.2.2.2.2.2.2.2)], Res.map true (Ty.arr .u8 20) false (Ty.pid ch.2.1) ch.1 t1.2.2.1.1, Res.fam (Res.struct (YE76 ch.2.2.1 ch.2.2.2.1) 76) (one_struct _ _) ch.2.1 [] t1.2.2.1.2.1, Res.fam (fun g_ kvs_ => Res.map true (Ty.arr .u64 4) true (Ty.arr .u64 4) g_ kvs_) (one_map true (Ty.arr .u64 4) true (Ty.arr .u64 4)) ch.2.2.1 [] t1.2.2.1.2.2.1, Res.fam (fun g_ kvs_ => Res.map true (Ty.arr .u64 4) false Ty.bool g_ kvs_) (one_map true (Ty.arr .u64 4) false Ty.bool) ch.2.2.2.1 [] t1.2.2.1.2.2.2, Res.row Y51 51 ch.2.2.2.2.1 ch.2.2.2.2.2.1 ch.2.2.2.2.2.2.1 t1.2.2.2.2.1, Res.row (YC ch_0_0 ch.2.1 ch.2.2.1 ch.2.2.2.1) 1 ch.2.2.2.2.2.2.2.1 ch.2.2.2.2.2.2.2.2.1 ch.2.2.2.2.2.2.2.2.2.1 t1.2.2.2.2.2.1, Res.row (Ty.arr .u8 20) 31 ch.2.2.2.2.2.2.2.2.2.2.1 ch.2.2.2.2.2.2.2.2.2.2.2.1 ch.2.2.2.2.2.2.2.2.2.2.2.2 t1.2.2.2.2.2.2]) (fun (ch : W7) => [Res.cells ch_0_0 72 [.rf (.iface 68 (.agg (cellsOf [.sl ch_0_1 (x1.1).length ch_0_2 (RdS Y39 ch_0_1 x1.1)]).toArray)) (IfR [.sl ch_0_1 (x1.1).length ch_0_2 (RdS Y39 ch_0_1 x1.1)]), .one (.map (some ch.1)), .one (.int .i64 x1.2.2.1), .one (.slice ch.2.2.2.2.1 ch.2.2.2.2.2.1 ch.2.2.2.2.2.2.1), .one (.slice ch.2.2.2.2.2.2.2.1 ch.2.2.2.2.2.2.2.2.1 ch.2.2.2.2.2.2.2.2.2.1), .one (.slice ch.2.2.2.2.2.2.2.2.2.2.1 ch.2.2.2.2.2.2.2.2.2.2.2.1 ch.2.2.2.2.2.2.2.2.2.2.2.2)], Res.map true (Ty.arr .u8 20) false (Ty.pid ch.2.1) ch.1 t1.2.2.1.1, Res.fam (Res.struct (YE76 ch.2.2.1 ch.2.2.2.1) 76) (one_struct _ _) ch.2.1 [] t1.2.2.1.2.1, Res.fam (fun g_ kvs_ => Res.map true (Ty.arr .u64 4) true (Ty.arr .u64 4) g_ kvs_) (one_map true (Ty.arr .u64 4) true (Ty.arr .u64 4)) ch.2.2.1 [] t1.2.2.1.2.2.1, Res.fam (fun g_ kvs_ => Res.map true (Ty.arr .u64 4) false Ty.bool g_ kvs_) (one_map true (Ty.arr .u64 4) false Ty.bool) ch.2.2.2.1 [] t1.2.2.1.2.2.2, Res.row Y51 51 ch.2.2.2.2.1 ch.2.2.2.2.2.1 ch.2.2.2.2.2.2.1 t1.2.2.2.2.1, Res.row (YC ch_0_0 ch.2.1 ch.2.2.1 ch.2.2.2.1) 1 ch.2.2.2.2.2.2.2.1 ch.2.2.2.2.2.2.2.2.1 ch.2.2.2.2.2.2.2.2.2.1 t1.2.2.2.2.2.1, Res.row (Ty.arr .u8 20) 31 ch.2.2.2.2.2.2.2.2.2.2.1 ch.2.2.2.2.2.2.2.2.2.2.2.1 ch.2.2.2.2.2.2.2.2.2.2.2.2 t1.2.2.2.2.2.2, Res.cells g3 35 [.ints .u64 x4 4], Res.cells g2 35 [.ints .u64 x3 4], Res.cells g1 31 [.ints .u8 x2 20]]) (fun _ => rfl) N26 rfl rfl (fun ok => ok) (.cons (.there (.there (.there .here))) (.cons (.there (.there (.there .here))) (.cons (.there (.there (.there .here))) (.cons (.there (.there (.there .here))) (.cons (.there (.there (.there .here))) (.cons (.there (.there (.there .here))) (.cons (.there (.there (.there .here))) (.cons (.there (.there (.there .here))) (.cons .here (.cons .here (.cons .here .nil))))))))))) rfl (state_State_at.ok k ((x1.1), x1.2.1, x1.2.2.1, x1.2.2.2.1, x1.2.2.2.2.1, x1.2.2.2.2.2) x2 ch_0_0 ch_0_1 ch_0_2 ch_0_3 ch_0_4 ch_0_5 ch_0_6 ch_0_7 ch_0_8 ch_0_9 ch_0_10 ch_0_11 ch_0_12 ch_0_13 ch_0_14 ch_0_15 t1 et1 _ _) ?_; clear S a w; intro ch1 m le1 a w S
 obtain ⟨c1, h2⟩ := chk_of h1; clear h1
 have hl1 := S.slotPlt (u := 15) c1 rfl
 replace S := S.slotP (u := 15) c1 rfl
 refine s_nilchk S rfl rfl ?_; clear S a; intro a S
 refine s_fieldAddr S rfl I76_3 T73 (by decide) rfl rfl ?_; clear S a; intro a S
 replace S := S.famOpen (i := (t1.1.getD 0)) hl1 (.there (.there .here))
 have hS := S.structOpen (T := (YE76 ch1.2.2.1 ch1.2.2.2.1)) (fun _ => .here) (((), (), (), (none, 0), (none, 0)), ((), (), (), (none, 0), (none, 0)), (), (), (), (), ())
 clear S; obtain ⟨ch2, S⟩ := hS
 refine s_loadM S rfl .here T73 (v := (.map (some (bAt ch1.2.2.1 ((atE t1.2.2.1.2.1 (t1.1.getD 0)).2.2.2.1))))) rfl rfl ?_; clear S a; intro a S
 replace S := S.structClose (T := (YE76 ch1.2.2.1 ch1.2.2.2.1)) (e := atE t1.2.2.1.2.1 (t1.1.getD 0)) ((((), (), (), (ch2.1.2.2.2.1.1, ch2.1.2.2.2.1.2), (ch2.1.2.2.2.2.1, ch2.1.2.2.2.2.2)), ((), (), (), (ch2.2.1.2.2.2.1.1, ch2.2.1.2.2.2.1.2), (ch2.2.1.2.2.2.2.1, ch2.2.1.2.2.2.2.2)), (), (), (), (), ()) : ((YE76 ch1.2.2.1 ch1.2.2.2.1)).Ch) rfl .here
 replace S := S.famShut hl1 .here (.there (.there .here))
 refine s_alloc S Z73 rfl rfl rfl ?_; clear S a w; intro g4 a w S
 refine s_store S rfl rfl rfl (s' := [.rf (.map (some (bAt ch1.2.2.1 ((atE t1.2.2.1.2.1 (t1.1.getD 0)).2.2.2.1)))) (ltR ((atE t1.2.2.1.2.1 (t1.1.getD 0)).2.2.2.1) ch1.2.2.1)]) .here T73 rfl rfl ?_; clear S w; intro w S
 refine c_end ?_
 refine c_region ?_
 refine s_loadM S rfl .here T73 (v := (.map (some (bAt ch1.2.2.1 ((atE t1.2.2.1.2.1 (t1.1.getD 0)).2.2.2.1))))) rfl rfl ?_; clear S a; intro a S
 refine s_loada S rfl (.there (.there (.there (.there (.there (.there (.there (.there (.there (.there .here)))))))))) T35 (s' := [.ints .u64 x3 4]) rfl rfl ?_; clear S a; intro a S
 have hm1 := S.slotLt (u := 20) rfl
 replace S := S.slotMid (u := 20) rfl
 replace S := S.famOpen (i := ((atE t1.2.2.1.2.1 (t1.1.getD 0)).2.2.2.1)) hm1 (.there (.there (.there (.there .here))))
 refine s_lookO S (z := [0, 0, 0, 0]) (k := x3) rfl .here () rfl (fun h => ⟨(), rfl, h⟩) Try.underlying73 KT35 Z35 ⟨rfl, trivial⟩ rfl ?_; clear S a; intro ch3 a S
 replace S := S.famShut hm1 .here (.there (.there (.there (.there .here))))
 replace S := S.slotMidB (u := 20) hm1 rfl
 refine s_move S rfl rfl ?_; clear S a; intro a S
 refine s_extract S rfl rfl rfl rfl ?_; clear S a; intro a S
 refine s_extract S rfl rfl rfl rfl ?_; clear S a; intro a S
 refine s_alloc S Z35 rfl ⟨rfl, trivial⟩ rfl ?_; clear S a w; intro g5 a w S
 refine s_alloc S Z4 rfl rfl rfl ?_; clear S a w; intro g6 a w S
 refine s_store S rfl rfl rfl (s' := [.ints .u64 ((lk (aget (atE t1.2.2.1.2.2.1 ((atE t1.2.2.1.2.1 (t1.1.getD 0)).2.2.2.1)) x3) [0, 0, 0, 0]).1) 4]) (.there .here) T35 rfl rfl ?_; clear S w; intro w S
 refine s_store S rfl rfl rfl (s' := [.one (.bool ((lk (aget (atE t1.2.2.1.2.2.1 ((atE t1.2.2.1.2.1 (t1.1.getD 0)).2.2.2.1)) x3) [0, 0, 0, 0]).2))]) .here T4 rfl rfl ?_; clear S w; intro w S
 refine c_end ?_
 refine c_region ?_
 refine s_move S rfl rfl ?_; clear S a; intro a S
 replace S := S.freeze .here
 obtain ⟨m, le1, S⟩ := S
 replace S := S.freeze (.there .here)
 obtain ⟨m, le1, S⟩ := S
 replace S := S.freeze (.there (.there .here))
 obtain ⟨m, le1, S⟩ := S
 replace S := S.freeze (.there (.there (.there (.there (.there (.there (.there (.there (.there (.there (.there (.there .here))))))))))))
 obtain ⟨m, le1, S⟩ := S
 replace S := S.slotAt (u := 10) (g := g6) (t := 4) (T := Ty.bool) (x := (lk (aget (atE t1.2.2.1.2.2.1 ((atE t1.2.2.1.2.1 (t1.1.getD 0)).2.2.2.1)) x3) [0, 0, 0, 0]).2) (c := (() : (Ty.bool).Ch)) .here rfl rfl
 replace S := S.slotAt (u := 9) (g := g5) (t := 35) (T := (Ty.arr .u64 4)) (x := (lk (aget (atE t1.2.2.1.2.2.1 ((atE t1.2.2.1.2.1 (t1.1.getD 0)).2.2.2.1)) x3) [0, 0, 0, 0]).1) (c := (() : ((Ty.arr .u64 4)).Ch)) (.there .here) rfl rfl
 replace S := S.slotAt (u := 8) (g := g4) (t := 73) (T := (Ty.mid ch1.2.2.1)) (x := (atE t1.2.2.1.2.1 (t1.1.getD 0)).2.2.2.1) (c := (() : ((Ty.mid ch1.2.2.1)).Ch)) (.there (.there .here)) rfl rfl
 replace S := S.slotAt (u := 6) (g := g2) (t := 35) (T := (Ty.arr .u64 4)) (x := x3) (c := (() : ((Ty.arr .u64 4)).Ch)) (.there (.there (.there (.there (.there (.there (.there (.there (.there (.there (.there (.there .here)))))))))))) rfl rfl
 refine s_mkFn S (ds := [(.pt ⟨g6, 0, none⟩ (At Ty.bool ⟨g6, 0, none⟩ ((lk (aget (atE t1.2.2.1.2.2.1 ((atE t1.2.2.1.2.1 (t1.1.getD 0)).2.2.2.1)) x3) [0, 0, 0, 0]).2))), (.pt ⟨g5, 0, none⟩ (At (Ty.arr .u64 4) ⟨g5, 0, none⟩ ((lk (aget (atE t1.2.2.1.2.2.1 ((atE t1.2.2.1.2.1 (t1.1.getD 0)).2.2.2.1)) x3) [0, 0, 0, 0]).1))), (.pt ⟨g4, 0, none⟩ (At (Ty.mid ch1.2.2.1) ⟨g4, 0, none⟩ ((atE t1.2.2.1.2.1 (t1.1.getD 0)).2.2.2.1))), (.pt ⟨g2, 0, none⟩ (At (Ty.arr .u64 4) ⟨g2, 0, none⟩ x3))]) rfl rfl ?_; clear S a; intro a S
 replace S := S.slotFn (u := 26) (V := cloV) (R := cloR ch_0_0 ch1.2.1 ch1.2.2.1 ch1.2.2.2.1) (Clo.c33 ((lk (aget (atE t1.2.2.1.2.2.1 ((atE t1.2.2.1.2.1 (t1.1.getD 0)).2.2.2.1)) x3) [0, 0, 0, 0]).2) ((lk (aget (atE t1.2.2.1.2.2.1 ((atE t1.2.2.1.2.1 (t1.1.getD 0)).2.2.2.1)) x3) [0, 0, 0, 0]).1) ((atE t1.2.2.1.2.1 (t1.1.getD 0)).2.2.2.1) x3) ([⟨g6, 0, none⟩, ⟨g5, 0, none⟩, ⟨g4, 0, none⟩, ⟨g2, 0, none⟩] : List Addr) rfl (fun h => ⟨h.1.1, h.2.1.1, h.2.2.1.1, h.2.2.2.1.1, trivial⟩) (cloM _ _ _ _ _ _) rfl
 replace S := S.slot (u := 10) (d' := .v (.pointer (some ⟨g6, 0, none⟩))) rfl rfl rfl
 replace S := S.slot (u := 9) (d' := .v (.pointer (some ⟨g5, 0, none⟩))) rfl rfl rfl
 replace S := S.slot (u := 8) (d' := .v (.pointer (some ⟨g4, 0, none⟩))) rfl rfl rfl
 replace S := S.slot (u := 6) (d' := .v (.pointer (some ⟨g2, 0, none⟩))) rfl rfl rfl
 obtain ⟨t2, et2, h3⟩ := bind_of h2; clear h2
 refine s_callX S (ds' := [(.v (.pointer (some ⟨ch_0_0, 0, none⟩))), (.rf (cloV (Clo.c33 ((lk (aget (atE t1.2.2.1.2.2.1 ((atE t1.2.2.1.2.1 (t1.1.getD 0)).2.2.2.1)) x3) [0, 0, 0, 0]).2) ((lk (aget (atE t1.2.2.1.2.2.1 ((atE t1.2.2.1.2.1 (t1.1.getD 0)).2.2.2.1)) x3) [0, 0, 0, 0]).1) ((atE t1.2.2.1.2.1 (t1.1.getD 0)).2.2.2.1) x3) [⟨g6, 0, none⟩, ⟨g5, 0, none⟩, ⟨g4, 0, none⟩, ⟨g2, 0, none⟩]) (cloR ch_0_0 ch1.2.1 ch1.2.2.1 ch1.2.2.2.1 (Clo.c33 ((lk (aget (atE t1.2.2.1.2.2.1 ((atE t1.2.2.1.2.1 (t1.1.getD 0)).2.2.2.1)) x3) [0, 0, 0, 0]).2) ((lk (aget (atE t1.2.2.1.2.2.1 ((atE t1.2.2.1.2.1 (t1.1.getD 0)).2.2.2.1)) x3) [0, 0, 0, 0]).1) ((atE t1.2.2.1.2.1 (t1.1.getD 0)).2.2.2.1) x3) [⟨g6, 0, none⟩, ⟨g5, 0, none⟩, ⟨g4, 0, none⟩, ⟨g2, 0, none⟩]))]) (ds := [(.v (.pointer (some ⟨ch_0_0, 0, none⟩))), (.rf (cloV (Clo.c33 ((lk (aget (atE t1.2.2.1.2.2.1 ((atE t1.2.2.1.2.1 (t1.1.getD 0)).2.2.2.1)) x3) [0, 0, 0, 0]).2) ((lk (aget (atE t1.2.2.1.2.2.1 ((atE t1.2.2.1.2.1 (t1.1.getD 0)).2.2.2.1)) x3) [0, 0, 0, 0]).1) ((atE t1.2.2.1.2.1 (t1.1.getD 0)).2.2.2.1) x3) [⟨g6, 0, none⟩, ⟨g5, 0, none⟩, ⟨g4, 0, none⟩, ⟨g2, 0, none⟩]) (cloR ch_0_0 ch1.2.1 ch1.2.2.1 ch1.2.2.2.1 (Clo.c33 ((lk (aget (atE t1.2.2.1.2.2.1 ((atE t1.2.2.1.2.1 (t1.1.getD 0)).2.2.2.1)) x3) [0, 0, 0, 0]).2) ((lk (aget (atE t1.2.2.1.2.2.1 ((atE t1.2.2.1.2.1 (t1.1.getD 0)).2.2.2.1)) x3) [0, 0, 0, 0]).1) ((atE t1.2.2.1.2.1 (t1.1.getD 0)).2.2.2.1) x3) [⟨g6, 0, none⟩, ⟨g5, 0, none⟩, ⟨g4, 0, none⟩, ⟨g2, 0, none⟩]))]) [Res.cells ch_0_0 72 [.rf (.iface 68 (.agg (cellsOf [.sl ch_0_1 (x1.1).length ch_0_2 (RdS Y39 ch_0_1 x1.1)]).toArray)) (IfR [.sl ch_0_1 (x1.1).length ch_0_2 (RdS Y39 ch_0_1 x1.1)]), .one (.map (some ch1.1)), .one (.int .i64 x1.2.2.1), .one (.slice ch1.2.2.2.2.1 ch1.2.2.2.2.2.1 ch1.2.2.2.2.2.2.1), .one (.slice ch1.2.2.2.2.2.2.2.1 ch1.2.2.2.2.2.2.2.2.1 ch1.2.2.2.2.2.2.2.2.2.1), .one (.slice ch1.2.2.2.2.2.2.2.2.2.2.1 ch1.2.2.2.2.2.2.2.2.2.2.2.1 ch1.2.2.2.2.2.2.2.2.2.2.2.2)], Res.map true (Ty.arr .u8 20) false (Ty.pid ch1.2.1) ch1.1 t1.2.2.1.1, Res.fam (Res.struct (YE76 ch1.2.2.1 ch1.2.2.2.1) 76) (one_struct _ _) ch1.2.1 [] t1.2.2.1.2.1, Res.fam (fun g_ kvs_ => Res.map true (Ty.arr .u64 4) true (Ty.arr .u64 4) g_ kvs_) (one_map true (Ty.arr .u64 4) true (Ty.arr .u64 4)) ch1.2.2.1 [] t1.2.2.1.2.2.1, Res.fam (fun g_ kvs_ => Res.map true (Ty.arr .u64 4) false Ty.bool g_ kvs_) (one_map true (Ty.arr .u64 4) false Ty.bool) ch1.2.2.2.1 [] t1.2.2.1.2.2.2, Res.row Y51 51 ch1.2.2.2.2.1 ch1.2.2.2.2.2.1 ch1.2.2.2.2.2.2.1 t1.2.2.2.2.1, Res.row (YC ch_0_0 ch1.2.1 ch1.2.2.1 ch1.2.2.2.1) 1 ch1.2.2.2.2.2.2.2.1 ch1.2.2.2.2.2.2.2.2.1 ch1.2.2.2.2.2.2.2.2.2.1 t1.2.2.2.2.2.1, Res.row (Ty.arr .u8 20) 31 ch1.2.2.2.2.2.2.2.2.2.2.1 ch1.2.2.2.2.2.2.2.2.2.2.2.1 ch1.2.2.2.2.2.2.2.2.2.2.2.2 t1.2.2.2.2.2.2] [Res.fro g6 4 [.one (.bool ((lk (aget (atE t1.2.2.1.2.2.1 ((atE t1.2.2.1.2.1 (t1.1.getD 0)).2.2.2.1)) x3) [0, 0, 0, 0]).2))], Res.fro g5 35 [.ints .u64 ((lk (aget (atE t1.2.2.1.2.2.1 ((atE t1.2.2.1.2.1 (t1.1.getD 0)).2.2.2.1)) x3) [0, 0, 0, 0]).1) 4], Res.fro g4 73 [.rf (.map (some (bAt ch1.2.2.1 ((atE t1.2.2.1.2.1 (t1.1.getD 0)).2.2.2.1)))) (ltR ((atE t1.2.2.1.2.1 (t1.1.getD 0)).2.2.2.1) ch1.2.2.1)], Res.cells g3 35 [.ints .u64 x4 4], Res.fro g2 35 [.ints .u64 x3 4], Res.cells g1 31 [.ints .u8 x2 20]] (fun (ch : (Option Addr) × Nat × Nat) => ((.tup []) : D)) (fun (ch : (Option Addr) × Nat × Nat) => [Res.cells ch_0_0 72 [.rf (.iface 68 (.agg (cellsOf [.sl ch_0_1 (x1.1).length ch_0_2 (RdS Y39 ch_0_1 x1.1)]).toArray)) (IfR [.sl ch_0_1 (x1.1).length ch_0_2 (RdS Y39 ch_0_1 x1.1)]), .one (.map (some ch1.1)), .one (.int .i64 x1.2.2.1), .one (.slice ch1.2.2.2.2.1 ch1.2.2.2.2.2.1 ch1.2.2.2.2.2.2.1), .one (.slice ch.1 ch.2.1 ch.2.2), .one (.slice ch1.2.2.2.2.2.2.2.2.2.2.1 ch1.2.2.2.2.2.2.2.2.2.2.2.1 ch1.2.2.2.2.2.2.2.2.2.2.2.2)], Res.map true (Ty.arr .u8 20) false (Ty.pid ch1.2.1) ch1.1 t1.2.2.1.1, Res.fam (Res.struct (YE76 ch1.2.2.1 ch1.2.2.2.1) 76) (one_struct _ _) ch1.2.1 [] t1.2.2.1.2.1, Res.fam (fun g_ kvs_ => Res.map true (Ty.arr .u64 4) true (Ty.arr .u64 4) g_ kvs_) (one_map true (Ty.arr .u64 4) true (Ty.arr .u64 4)) ch1.2.2.1 [] t1.2.2.1.2.2.1, Res.fam (fun g_ kvs_ => Res.map true (Ty.arr .u64 4) false Ty.bool g_ kvs_) (one_map true (Ty.arr .u64 4) false Ty.bool) ch1.2.2.2.1 [] t1.2.2.1.2.2.2, Res.row Y51 51 ch1.2.2.2.2.1 ch1.2.2.2.2.2.1 ch1.2.2.2.2.2.2.1 t1.2.2.2.2.1, Res.row (YC ch_0_0 ch1.2.1 ch1.2.2.1 ch1.2.2.2.1) 1 ch.1 ch.2.1 ch.2.2 t2.2.2.2.2.1, Res.row (Ty.arr .u8 20) 31 ch1.2.2.2.2.2.2.2.2.2.2.1 ch1.2.2.2.2.2.2.2.2.2.2.2.1 ch1.2.2.2.2.2.2.2.2.2.2.2.2 t1.2.2.2.2.2.2]) (fun (ch : (Option Addr) × Nat × Nat) => [Res.cells ch_0_0 72 [.rf (.iface 68 (.agg (cellsOf [.sl ch_0_1 (x1.1).length ch_0_2 (RdS Y39 ch_0_1 x1.1)]).toArray)) (IfR [.sl ch_0_1 (x1.1).length ch_0_2 (RdS Y39 ch_0_1 x1.1)]), .one (.map (some ch1.1)), .one (.int .i64 x1.2.2.1), .one (.slice ch1.2.2.2.2.1 ch1.2.2.2.2.2.1 ch1.2.2.2.2.2.2.1), .one (.slice ch.1 ch.2.1 ch.2.2), .one (.slice ch1.2.2.2.2.2.2.2.2.2.2.1 ch1.2.2.2.2.2.2.2.2.2.2.2.1 ch1.2.2.2.2.2.2.2.2.2.2.2.2)], Res.map true (Ty.arr .u8 20) false (Ty.pid ch1.2.1) ch1.1 t1.2.2.1.1, Res.fam (Res.struct (YE76 ch1.2.2.1 ch1.2.2.2.1) 76) (one_struct _ _) ch1.2.1 [] t1.2.2.1.2.1, Res.fam (fun g_ kvs_ => Res.map true (Ty.arr .u64 4) true (Ty.arr .u64 4) g_ kvs_) (one_map true (Ty.arr .u64 4) true (Ty.arr .u64 4)) ch1.2.2.1 [] t1.2.2.1.2.2.1, Res.fam (fun g_ kvs_ => Res.map true (Ty.arr .u64 4) false Ty.bool g_ kvs_) (one_map true (Ty.arr .u64 4) false Ty.bool) ch1.2.2.2.1 [] t1.2.2.1.2.2.2, Res.row Y51 51 ch1.2.2.2.2.1 ch1.2.2.2.2.2.1 ch1.2.2.2.2.2.2.1 t1.2.2.2.2.1, Res.row (YC ch_0_0 ch1.2.1 ch1.2.2.1 ch1.2.2.2.1) 1 ch.1 ch.2.1 ch.2.2 t2.2.2.2.2.1, Res.row (Ty.arr .u8 20) 31 ch1.2.2.2.2.2.2.2.2.2.2.1 ch1.2.2.2.2.2.2.2.2.2.2.2.1 ch1.2.2.2.2.2.2.2.2.2.2.2.2 t1.2.2.2.2.2.2, Res.fro g6 4 [.one (.bool ((lk (aget (atE t1.2.2.1.2.2.1 ((atE t1.2.2.1.2.1 (t1.1.getD 0)).2.2.2.1)) x3) [0, 0, 0, 0]).2))], Res.fro g5 35 [.ints .u64 ((lk (aget (atE t1.2.2.1.2.2.1 ((atE t1.2.2.1.2.1 (t1.1.getD 0)).2.2.2.1)) x3) [0, 0, 0, 0]).1) 4], Res.fro g4 73 [.rf (.map (some (bAt ch1.2.2.1 ((atE t1.2.2.1.2.1 (t1.1.getD 0)).2.2.2.1)))) (ltR ((atE t1.2.2.1.2.1 (t1.1.getD 0)).2.2.2.1) ch1.2.2.1)], Res.cells g3 35 [.ints .u64 x4 4], Res.fro g2 35 [.ints .u64 x3 4], Res.cells g1 31 [.ints .u8 x2 20]]) (fun _ => rfl) N29 rfl rfl (fun ok => ok) (.cons (.there (.there (.there .here))) (.cons (.there (.there (.there .here))) (.cons (.there (.there (.there .here))) (.cons (.there (.there (.there .here))) (.cons (.there (.there (.there .here))) (.cons (.there (.there (.there .here))) (.cons (.there (.there (.there .here))) (.cons (.there (.there (.there .here))) (.cons .here (.cons .here (.cons .here (.cons .here (.cons .here (.cons .here .nil)))))))))))))) rfl (state_State_done_1clo.ok ((x1.1), t1.2.2.1, x1.2.2.1, t1.2.2.2.2.1, t1.2.2.2.2.2.1, t1.2.2.2.2.2.2) (Clo.c33 ((lk (aget (atE t1.2.2.1.2.2.1 ((atE t1.2.2.1.2.1 (t1.1.getD 0)).2.2.2.1)) x3) [0, 0, 0, 0]).2) ((lk (aget (atE t1.2.2.1.2.2.1 ((atE t1.2.2.1.2.1 (t1.1.getD 0)).2.2.2.1)) x3) [0, 0, 0, 0]).1) ((atE t1.2.2.1.2.1 (t1.1.getD 0)).2.2.2.1) x3) ch_0_0 ch_0_1 ch_0_2 ch1.1 ch1.2.1 ch1.2.2.1 ch1.2.2.2.1 ch1.2.2.2.2.1 ch1.2.2.2.2.2.1 ch1.2.2.2.2.2.2.1 ch1.2.2.2.2.2.2.2.1 ch1.2.2.2.2.2.2.2.2.1 ch1.2.2.2.2.2.2.2.2.2.1 ch1.2.2.2.2.2.2.2.2.2.2.1 ch1.2.2.2.2.2.2.2.2.2.2.2.1 ch1.2.2.2.2.2.2.2.2.2.2.2.2 [⟨g6, 0, none⟩, ⟨g5, 0, none⟩, ⟨g4, 0, none⟩, ⟨g2, 0, none⟩] t2 et2 _ _) ?_; clear S a w; intro ch4 m le1 a w S
 refine c_end ?_
 refine c_region' ?_
 refine s_loadMF S rfl (.there (.there (.there (.there (.there (.there (.there (.there (.there (.there .here)))))))))) T73 (v := (.map (some (bAt ch1.2.2.1 ((atE t1.2.2.1.2.1 (t1.1.getD 0)).2.2.2.1))))) rfl rfl ?_; clear S a; intro a S
 refine s_loadaF S rfl (.there (.there (.there (.there (.there (.there (.there (.there (.there (.there (.there (.there .here)))))))))))) T35 (s' := [.ints .u64 x3 4]) rfl rfl ?_; clear S a; intro a S
 refine s_loada S rfl (.there (.there (.there (.there (.there (.there (.there (.there (.there (.there (.there .here))))))))))) T35 (s' := [.ints .u64 x4 4]) rfl rfl ?_; clear S a; intro a S
 have hm2 := S.slotLt (u := 28) rfl
 replace S := S.slotMid (u := 28) rfl
 replace S := S.famOpen (i := ((atE t1.2.2.1.2.1 (t1.1.getD 0)).2.2.2.1)) hm2 (.there (.there (.there .here)))
 refine s_mapput S (k := x3) (y := x4) rfl .here rfl (fun h => ⟨(), rfl, h⟩) rfl (fun h => ⟨(), rfl, h⟩) Try.underlying73 KT35 ?_; clear S w; intro w S
 replace S := S.famClose hm2 .here (.there (.there (.there .here)))
 replace S := S.slotMidB (u := 28) hm2 rfl
 refine c_end' ?_
 refine b_end ?_
 obtain rfl := Option.some.inj h3
 exact b_ret0 S rfl (S.retX (Hx := []) hb _ _ ((ch1.1, ch1.2.1, ch1.2.2.1, ch1.2.2.2.1, ch1.2.2.2.2.1, ch1.2.2.2.2.2.1, ch1.2.2.2.2.2.2.1, ch4.1, ch4.2.1, ch4.2.2, ch1.2.2.2.2.2.2.2.2.2.2.1, ch1.2.2.2.2.2.2.2.2.2.2.2.1, ch1.2.2.2.2.2.2.2.2.2.2.2.2) : W7) (.cons .here (.cons .here (.cons .here (.cons .here (.cons .here (.cons .here (.cons .here (.cons .here .nil)))))))) trivial)
abbrev state_State_Mark.Ty : Type := W8 → Option Int
def state_State_Mark.Ctr (s : state_State_Mark.Ty) : Prop := ∀ (x1 : W8) (ch_0_0 : Nat) (ch_0_1 : Option Addr) (ch_0_2 : Nat) (ch_0_3 : Nat) (ch_0_4 : List Nat) (ch_0_5 : List Nat) (ch_0_6 : List Nat) (ch_0_7 : Option Addr) (ch_0_8 : Nat) (ch_0_9 : Nat) (ch_0_10 : Option Addr) (ch_0_11 : Nat) (ch_0_12 : Nat) (ch_0_13 : Option Addr) (ch_0_14 : Nat) (ch_0_15 : Nat) (r : Int) (h0 : s x1 = some r) (mi : Mem) (w0 : World), okL mi [(.v (.pointer (some ⟨ch_0_0, 0, none⟩)))] → Pre mi [Res.cells ch_0_0 72 [.rf (.iface 68 (.agg (cellsOf [.sl ch_0_1 (x1.1).length ch_0_2 (RdS Y39 ch_0_1 x1.1)]).toArray)) (IfR [.sl ch_0_1 (x1.1).length ch_0_2 (RdS Y39 ch_0_1 x1.1)]), .one (.map (some ch_0_3)), .one (.int .i64 x1.2.2.1), .one (.slice ch_0_7 ch_0_8 ch_0_9), .one (.slice ch_0_10 ch_0_11 ch_0_12), .one (.slice ch_0_13 ch_0_14 ch_0_15)], Res.map true (Ty.arr .u8 20) false (Ty.pid ch_0_4) ch_0_3 x1.2.1.1, Res.fam (Res.struct (YE76 ch_0_5 ch_0_6) 76) (one_struct _ _) ch_0_4 [] x1.2.1.2.1, Res.fam (fun g_ kvs_ => Res.map true (Ty.arr .u64 4) true (Ty.arr .u64 4) g_ kvs_) (one_map true (Ty.arr .u64 4) true (Ty.arr .u64 4)) ch_0_5 [] x1.2.1.2.2.1, Res.fam (fun g_ kvs_ => Res.map true (Ty.arr .u64 4) false Ty.bool g_ kvs_) (one_map true (Ty.arr .u64 4) false Ty.bool) ch_0_6 [] x1.2.1.2.2.2, Res.row Y51 51 ch_0_7 ch_0_8 ch_0_9 x1.2.2.2.1, Res.row (YC ch_0_0 ch_0_4 ch_0_5 ch_0_6) 1 ch_0_10 ch_0_11 ch_0_12 x1.2.2.2.2.1, Res.row (Ty.arr .u8 20) 31 ch_0_13 ch_0_14 ch_0_15 x1.2.2.2.2.2] w0 → Calls Try.prog 24 (([(.v (.pointer (some ⟨ch_0_0, 0, none⟩)))] : List D).map D.val).toArray w0 (RetX mi [Res.cells ch_0_0 72 [.rf (.iface 68 (.agg (cellsOf [.sl ch_0_1 (x1.1).length ch_0_2 (RdS Y39 ch_0_1 x1.1)]).toArray)) (IfR [.sl ch_0_1 (x1.1).length ch_0_2 (RdS Y39 ch_0_1 x1.1)]), .one (.map (some ch_0_3)), .one (.int .i64 x1.2.2.1), .one (.slice ch_0_7 ch_0_8 ch_0_9), .one (.slice ch_0_10 ch_0_11 ch_0_12), .one (.slice ch_0_13 ch_0_14 ch_0_15)], Res.map true (Ty.arr .u8 20) false (Ty.pid ch_0_4) ch_0_3 x1.2.1.1, Res.fam (Res.struct (YE76 ch_0_5 ch_0_6) 76) (one_struct _ _) ch_0_4 [] x1.2.1.2.1, Res.fam (fun g_ kvs_ => Res.map true (Ty.arr .u64 4) true (Ty.arr .u64 4) g_ kvs_) (one_map true (Ty.arr .u64 4) true (Ty.arr .u64 4)) ch_0_5 [] x1.2.1.2.2.1, Res.fam (fun g_ kvs_ => Res.map true (Ty.arr .u64 4) false Ty.bool g_ kvs_) (one_map true (Ty.arr .u64 4) false Ty.bool) ch_0_6 [] x1.2.1.2.2.2, Res.row Y51 51 ch_0_7 ch_0_8 ch_0_9 x1.2.2.2.1, Res.row (YC ch_0_0 ch_0_4 ch_0_5 ch_0_6) 1 ch_0_10 ch_0_11 ch_0_12 x1.2.2.2.2.1, Res.row (Ty.arr .u8 20) 31 ch_0_13 ch_0_14 ch_0_15 x1.2.2.2.2.2] (fun (ch : Unit) => ((.v (.int .i64 r)) : D)) (fun (ch : Unit) => [Res.cells ch_0_0 72 [.rf (.iface 68 (.agg (cellsOf [.sl ch_0_1 (x1.1).length ch_0_2 (RdS Y39 ch_0_1 x1.1)]).toArray)) (IfR [.sl ch_0_1 (x1.1).length ch_0_2 (RdS Y39 ch_0_1 x1.1)]), .one (.map (some ch_0_3)), .one (.int .i64 x1.2.2.1), .one (.slice ch_0_7 ch_0_8 ch_0_9), .one (.slice ch_0_10 ch_0_11 ch_0_12), .one (.slice ch_0_13 ch_0_14 ch_0_15)], Res.map true (Ty.arr .u8 20) false (Ty.pid ch_0_4) ch_0_3 x1.2.1.1, Res.fam (Res.struct (YE76 ch_0_5 ch_0_6) 76) (one_struct _ _) ch_0_4 [] x1.2.1.2.1, Res.fam (fun g_ kvs_ => Res.map true (Ty.arr .u64 4) true (Ty.arr .u64 4) g_ kvs_) (one_map true (Ty.arr .u64 4) true (Ty.arr .u64 4)) ch_0_5 [] x1.2.1.2.2.1, Res.fam (fun g_ kvs_ => Res.map true (Ty.arr .u64 4) false Ty.bool g_ kvs_) (one_map true (Ty.arr .u64 4) false Ty.bool) ch_0_6 [] x1.2.1.2.2.2, Res.row Y51 51 ch_0_7 ch_0_8 ch_0_9 x1.2.2.2.1, Res.row (YC ch_0_0 ch_0_4 ch_0_5 ch_0_6) 1 ch_0_10 ch_0_11 ch_0_12 x1.2.2.2.2.1, Res.row (Ty.arr .u8 20) 31 ch_0_13 ch_0_14 ch_0_15 x1.2.2.2.2.2]) w0)
def state_State_Mark.f (x1 : W8) : Option Int := some ((x1.2.2.2.2.1).length : Int)
theorem state_State_Mark.ok : state_State_Mark.Ctr (state_State_Mark.f) := by
 intro x1 ch_0_0 ch_0_1 ch_0_2 ch_0_3 ch_0_4 ch_0_5 ch_0_6 ch_0_7 ch_0_8 ch_0_9 ch_0_10 ch_0_11 ch_0_12 ch_0_13 ch_0_14 ch_0_15 r h0 mi w0 ok hm
 delta state_State_Mark.f at h0
 refine c_enterX (n := 10) [(.v (.pointer (some ⟨ch_0_0, 0, none⟩)))] (l := [(0, (.v (.pointer (some ⟨ch_0_0, 0, none⟩))))]) Try.func24 rfl rfl rfl rfl ok hm ?_
 clear ok hm
 intro b0 hb a S
 refine c_region ?_
 refine s_assign S rfl rfl ?_; clear S a; intro a S
 refine c_end ?_
 refine wp_seq ?_
 refine c_region ?_
 refine s_move S rfl rfl ?_; clear S a; intro a S
 refine s_eqp S (b := false) rfl rfl Try.underlying26 rfl rfl ?_; clear S a; intro a S
 refine c_end ?_
 refine c_condF S rfl rfl ?_
 refine wp_skip ?_
 refine x_thenN ?_
 refine c_region ?_
 refine s_move S rfl rfl ?_; clear S a; intro a S
 refine s_nilchk S rfl rfl ?_; clear S a; intro a S
 refine s_fieldAddr S rfl I72_4 T70 (by decide) rfl rfl ?_; clear S a; intro a S
 refine s_load1 S rfl .here T70 (v := (.slice ch_0_10 ch_0_11 ch_0_12)) rfl rfl ?_; clear S a; intro a S
 refine s_lenO S rfl (.there (.there (.there (.there (.there (.there .here)))))) Try.underlying70 rfl ?_; clear S a; intro a S
 refine s_assign S rfl rfl ?_; clear S a; intro a S
 refine c_end ?_
 refine wp_ret ?_
 obtain rfl := Option.some.inj h0
 exact b_ret1 (d := (.v (.int .i64 ((x1.2.2.2.2.1).length : Int)))) S rfl rfl fun ok => S.retX (Hx := []) hb _ _ (() : Unit) (.cons .here (.cons .here (.cons .here (.cons .here (.cons .here (.cons .here (.cons .here (.cons .here .nil)))))))) ok
abbrev state_State_Set_1.Ty : Type := Bool → (List Int) → Nat → (List Int) → W8 → Option W12
def state_State_Set_1.Ctr (s : state_State_Set_1.Ty) : Prop := ∀ (x1 : Bool) (x2 : List Int) (x3 : Nat) (x4 : List Int) (x5 : W8) (ch_0_0 : Addr) (ch_1_0 : Addr) (ch_2_0 : Addr) (ch_3_0 : Addr) (ch_4_0 : Nat) (ch_4_1 : Option Addr) (ch_4_2 : Nat) (ch_4_3 : Nat) (ch_4_4 : List Nat) (ch_4_5 : List Nat) (ch_4_6 : List Nat) (ch_4_7 : Option Addr) (ch_4_8 : Nat) (ch_4_9 : Nat) (ch_4_10 : Option Addr) (ch_4_11 : Nat) (ch_4_12 : Nat) (ch_4_13 : Option Addr) (ch_4_14 : Nat) (ch_4_15 : Nat) (r : W12) (h0 : s x1 x2 x3 x4 x5 = some r) (mi : Mem) (w0 : World), okL mi [(.pt ch_0_0 (At Ty.bool ch_0_0 x1)), (.pt ch_1_0 (At (Ty.arr .u64 4) ch_1_0 x2)), (.pt ch_2_0 (At (Ty.mid ch_4_5) ch_2_0 x3)), (.pt ch_3_0 (At (Ty.arr .u64 4) ch_3_0 x4))] → Pre mi [Res.cells ch_4_0 72 [.rf (.iface 68 (.agg (cellsOf [.sl ch_4_1 (x5.1).length ch_4_2 (RdS Y39 ch_4_1 x5.1)]).toArray)) (IfR [.sl ch_4_1 (x5.1).length ch_4_2 (RdS Y39 ch_4_1 x5.1)]), .one (.map (some ch_4_3)), .one (.int .i64 x5.2.2.1), .one (.slice ch_4_7 ch_4_8 ch_4_9), .one (.slice ch_4_10 ch_4_11 ch_4_12), .one (.slice ch_4_13 ch_4_14 ch_4_15)], Res.map true (Ty.arr .u8 20) false (Ty.pid ch_4_4) ch_4_3 x5.2.1.1, Res.fam (Res.struct (YE76 ch_4_5 ch_4_6) 76) (one_struct _ _) ch_4_4 [] x5.2.1.2.1, Res.fam (fun g_ kvs_ => Res.map true (Ty.arr .u64 4) true (Ty.arr .u64 4) g_ kvs_) (one_map true (Ty.arr .u64 4) true (Ty.arr .u64 4)) ch_4_5 [] x5.2.1.2.2.1, Res.fam (fun g_ kvs_ => Res.map true (Ty.arr .u64 4) false Ty.bool g_ kvs_) (one_map true (Ty.arr .u64 4) false Ty.bool) ch_4_6 [] x5.2.1.2.2.2, Res.row Y51 51 ch_4_7 ch_4_8 ch_4_9 x5.2.2.2.1, Res.row (YC ch_4_0 ch_4_4 ch_4_5 ch_4_6) 1 ch_4_10 ch_4_11 ch_4_12 x5.2.2.2.2.1, Res.row (Ty.arr .u8 20) 31 ch_4_13 ch_4_14 ch_4_15 x5.2.2.2.2.2] w0 → Calls Try.prog 33 (([(.pt ch_0_0 (At Ty.bool ch_0_0 x1)), (.pt ch_1_0 (At (Ty.arr .u64 4) ch_1_0 x2)), (.pt ch_2_0 (At (Ty.mid ch_4_5) ch_2_0 x3)), (.pt ch_3_0 (At (Ty.arr .u64 4) ch_3_0 x4))] : List D).map D.val).toArray w0 (RetX mi [Res.cells ch_4_0 72 [.rf (.iface 68 (.agg (cellsOf [.sl ch_4_1 (x5.1).length ch_4_2 (RdS Y39 ch_4_1 x5.1)]).toArray)) (IfR [.sl ch_4_1 (x5.1).length ch_4_2 (RdS Y39 ch_4_1 x5.1)]), .one (.map (some ch_4_3)), .one (.int .i64 x5.2.2.1), .one (.slice ch_4_7 ch_4_8 ch_4_9), .one (.slice ch_4_10 ch_4_11 ch_4_12), .one (.slice ch_4_13 ch_4_14 ch_4_15)], Res.map true (Ty.arr .u8 20) false (Ty.pid ch_4_4) ch_4_3 x5.2.1.1, Res.fam (Res.struct (YE76 ch_4_5 ch_4_6) 76) (one_struct _ _) ch_4_4 [] x5.2.1.2.1, Res.fam (fun g_ kvs_ => Res.map true (Ty.arr .u64 4) true (Ty.arr .u64 4) g_ kvs_) (one_map true (Ty.arr .u64 4) true (Ty.arr .u64 4)) ch_4_5 [] x5.2.1.2.2.1, Res.fam (fun g_ kvs_ => Res.map true (Ty.arr .u64 4) false Ty.bool g_ kvs_) (one_map true (Ty.arr .u64 4) false Ty.bool) ch_4_6 [] x5.2.1.2.2.2, Res.row Y51 51 ch_4_7 ch_4_8 ch_4_9 x5.2.2.2.1, Res.row (YC ch_4_0 ch_4_4 ch_4_5 ch_4_6) 1 ch_4_10 ch_4_11 ch_4_12 x5.2.2.2.2.1, Res.row (Ty.arr .u8 20) 31 ch_4_13 ch_4_14 ch_4_15 x5.2.2.2.2.2] (fun (ch : W13) => ((.tup []) : D)) (fun (ch : W13) => [Res.cells ch_4_0 72 [.rf (.iface 68 (.agg (cellsOf [.sl ch_4_1 (x5.1).length ch_4_2 (RdS Y39 ch_4_1 x5.1)]).toArray)) (IfR [.sl ch_4_1 (x5.1).length ch_4_2 (RdS Y39 ch_4_1 x5.1)]), .one (.map (some ch.1)), .one (.int .i64 x5.2.2.1), .one (.slice ch_4_7 ch_4_8 ch_4_9), .one (.slice ch_4_10 ch_4_11 ch_4_12), .one (.slice ch_4_13 ch_4_14 ch_4_15)], Res.map true (Ty.arr .u8 20) false (Ty.pid ch.2.1) ch.1 r.2.1.1, Res.fam (Res.struct (YE76 ch.2.2.1 ch.2.2.2) 76) (one_struct _ _) ch.2.1 [] r.2.1.2.1, Res.fam (fun g_ kvs_ => Res.map true (Ty.arr .u64 4) true (Ty.arr .u64 4) g_ kvs_) (one_map true (Ty.arr .u64 4) true (Ty.arr .u64 4)) ch.2.2.1 [] r.2.1.2.2.1, Res.fam (fun g_ kvs_ => Res.map true (Ty.arr .u64 4) false Ty.bool g_ kvs_) (one_map true (Ty.arr .u64 4) false Ty.bool) ch.2.2.2 [] r.2.1.2.2.2, Res.row Y51 51 ch_4_7 ch_4_8 ch_4_9 x5.2.2.2.1, Res.row (YC ch_4_0 ch.2.1 ch.2.2.1 ch.2.2.2) 1 ch_4_10 ch_4_11 ch_4_12 x5.2.2.2.2.1, Res.row (Ty.arr .u8 20) 31 ch_4_13 ch_4_14 ch_4_15 x5.2.2.2.2.2]) w0)
def state_State_Set_1.f (x1 : Bool) (x2 : List Int) (x3 : Nat) (x4 : List Int) (x5 : W8) : Option W12 := if x1 = true then (some ((), (x5.2.1.1, x5.2.1.2.1, x5.2.1.2.2.1.set x3 (aput (atE x5.2.1.2.2.1 x3) x4 x2), x5.2.1.2.2.2), (), (), (), ())) else (some ((), (x5.2.1.1, x5.2.1.2.1, x5.2.1.2.2.1.set x3 (adel (atE x5.2.1.2.2.1 x3) x4), x5.2.1.2.2.2), (), (), (), ()))
theorem state_State_Set_1.ok : state_State_Set_1.Ctr (state_State_Set_1.f) := by
 intro x1 x2 x3 x4 x5 ch_0_0 ch_1_0 ch_2_0 ch_3_0 ch_4_0 ch_4_1 ch_4_2 ch_4_3 ch_4_4 ch_4_5 ch_4_6 ch_4_7 ch_4_8 ch_4_9 ch_4_10 ch_4_11 ch_4_12 ch_4_13 ch_4_14 ch_4_15 r h0 mi w0 ok hm
 delta state_State_Set_1.f at h0
 refine c_enterX (n := 10) [(.pt ch_0_0 (At Ty.bool ch_0_0 x1)), (.pt ch_1_0 (At (Ty.arr .u64 4) ch_1_0 x2)), (.pt ch_2_0 (At (Ty.mid ch_4_5) ch_2_0 x3)), (.pt ch_3_0 (At (Ty.arr .u64 4) ch_3_0 x4))] (l := [(0, (.pt ch_0_0 (At Ty.bool ch_0_0 x1))), (1, (.pt ch_1_0 (At (Ty.arr .u64 4) ch_1_0 x2))), (2, (.pt ch_2_0 (At (Ty.mid ch_4_5) ch_2_0 x3))), (3, (.pt ch_3_0 (At (Ty.arr .u64 4) ch_3_0 x4)))]) Try.func33 rfl rfl rfl rfl ok hm ?_
 clear ok hm
 intro b0 hb a S
 refine c_region ?_
 refine s_ld1 S (v := (.bool x1)) rfl T4 (fun _ => rfl) rfl ?_; clear S a; intro a S
 refine c_end ?_
 rcases ite_of h0 with ⟨c1, h1⟩ | ⟨c1, h1⟩ <;> clear h0
 ·refine c_condT S rfl c1 ?_
  refine c_region' ?_
  refine s_ldF S (fun _ => .map (some (bAt ch_4_5 x3))) (fun _ => ltR x3 ch_4_5) rfl T73 (fun _ => rfl) rfl ?_; clear S a; intro _ a S
  refine s_ldA S (fun (c : Unit) => [.ints .u64 x4 4]) rfl T35 (fun _ => rfl) rfl ?_; clear S a; intro ch1 a S
  refine s_ldA S (fun (c : Unit) => [.ints .u64 x2 4]) rfl T35 (fun _ => rfl) rfl ?_; clear S a; intro ch2 a S
  have hm1 := S.slotLt (u := 5) rfl
  replace S := S.slotMid (u := 5) rfl
  replace S := S.famOpen (i := x3) hm1 (.there (.there (.there .here)))
  refine s_mapput S (k := x4) (y := x2) rfl .here rfl (fun h => ⟨(), rfl, h⟩) rfl (fun h => ⟨(), rfl, h⟩) Try.underlying73 KT35 ?_; clear S; intro w S
  replace S := S.famClose hm1 .here (.there (.there (.there .here)))
  replace S := S.slotMidB (u := 5) hm1 rfl
  refine c_end' ?_
  refine b_end ?_
  obtain rfl := Option.some.inj h1
  exact b_ret0 S rfl (S.retX (Hx := []) hb _ _ ((ch_4_3, ch_4_4, ch_4_5, ch_4_6) : W13) (.cons .here (.cons .here (.cons .here (.cons .here (.cons .here (.cons .here (.cons .here (.cons .here .nil)))))))) trivial)
 ·refine c_condF S rfl c1 ?_
  refine c_region' ?_
  refine s_ldF S (fun _ => .map (some (bAt ch_4_5 x3))) (fun _ => ltR x3 ch_4_5) rfl T73 (fun _ => rfl) rfl ?_; clear S a; intro _ a S
  refine s_ldA S (fun (c : Unit) => [.ints .u64 x4 4]) rfl T35 (fun _ => rfl) rfl ?_; clear S a; intro ch3 a S
  have hm2 := S.slotLt (u := 8) rfl
  replace S := S.slotMid (u := 8) rfl
  replace S := S.famOpen (i := x3) hm2 (.there (.there (.there .here)))
  refine s_delOn S (k := x4) rfl .here rfl (fun h => ⟨(), rfl, h⟩) Try.underlying73 KT35 ?_; clear S; intro w S
  replace S := S.famClose hm2 .here (.there (.there (.there .here)))
  replace S := S.slotMidB (u := 8) hm2 rfl
  refine c_end' ?_
  refine b_end ?_
  obtain rfl := Option.some.inj h1
  exact b_ret0 S rfl (S.retX (Hx := []) hb _ _ ((ch_4_3, ch_4_4, ch_4_5, ch_4_6) : W13) (.cons .here (.cons .here (.cons .here (.cons .here (.cons .here (.cons .here (.cons .here (.cons .here .nil)))))))) trivial)
def clo_call1.f : Clo → W8 → Option W2
  | .nil, _ => none
  | .c33 x0_ x1_ x2_ x3_, x1 => (state_State_Set_1.f x0_ x1_ x2_ x3_ x1).bind fun r => some ((x1.1), r.2.1, x1.2.2.1, x1.2.2.2.1, x1.2.2.2.2.1, x1.2.2.2.2.2)
theorem clo_call1.ok : ∀ (c : Clo) (cc : List Addr) (x1 : ((List L39)) × ((List ((List Int) × Option Nat)) × (List L76) × (List (List ((List Int) × (List Int)))) × (List (List ((List Int) × Bool)))) × Int × (List L51) × (List Clo) × (List (List Int))) (ch_0_0 : Nat) (ch_0_1 : Option Addr) (ch_0_2 : Nat) (ch_0_3 : Nat) (ch_0_4 : List Nat) (ch_0_5 : List Nat) (ch_0_6 : List Nat) (ch_0_7 : Option Addr) (ch_0_8 : Nat) (ch_0_9 : Nat) (ch_0_10 : Option Addr) (ch_0_11 : Nat) (ch_0_12 : Nat) (ch_0_13 : Option Addr) (ch_0_14 : Nat) (ch_0_15 : Nat) (r : W2) (h0 : clo_call1.f c x1 = some r) (mi : Mem) (w0 : World), cloR ch_0_0 ch_0_4 ch_0_5 ch_0_6 c cc mi → Pre mi [Res.cells ch_0_0 72 [.rf (.iface 68 (.agg (cellsOf [.sl ch_0_1 (x1.1).length ch_0_2 (RdS Y39 ch_0_1 x1.1)]).toArray)) (IfR [.sl ch_0_1 (x1.1).length ch_0_2 (RdS Y39 ch_0_1 x1.1)]), .one (.map (some ch_0_3)), .one (.int .i64 x1.2.2.1), .one (.slice ch_0_7 ch_0_8 ch_0_9), .one (.slice ch_0_10 ch_0_11 ch_0_12), .one (.slice ch_0_13 ch_0_14 ch_0_15)], Res.map true (Ty.arr .u8 20) false (Ty.pid ch_0_4) ch_0_3 x1.2.1.1, Res.fam (Res.struct (YE76 ch_0_5 ch_0_6) 76) (one_struct _ _) ch_0_4 [] x1.2.1.2.1, Res.fam (fun g_ kvs_ => Res.map true (Ty.arr .u64 4) true (Ty.arr .u64 4) g_ kvs_) (one_map true (Ty.arr .u64 4) true (Ty.arr .u64 4)) ch_0_5 [] x1.2.1.2.2.1, Res.fam (fun g_ kvs_ => Res.map true (Ty.arr .u64 4) false Ty.bool g_ kvs_) (one_map true (Ty.arr .u64 4) false Ty.bool) ch_0_6 [] x1.2.1.2.2.2, Res.row Y51 51 ch_0_7 ch_0_8 ch_0_9 x1.2.2.2.1, Res.row (YC ch_0_0 ch_0_4 ch_0_5 ch_0_6) 1 ch_0_10 ch_0_11 ch_0_12 x1.2.2.2.2.1, Res.row (Ty.arr .u8 20) 31 ch_0_13 ch_0_14 ch_0_15 x1.2.2.2.2.2] w0 → CallsV Try.prog (cloV c cc) w0 (RetX mi [Res.cells ch_0_0 72 [.rf (.iface 68 (.agg (cellsOf [.sl ch_0_1 (x1.1).length ch_0_2 (RdS Y39 ch_0_1 x1.1)]).toArray)) (IfR [.sl ch_0_1 (x1.1).length ch_0_2 (RdS Y39 ch_0_1 x1.1)]), .one (.map (some ch_0_3)), .one (.int .i64 x1.2.2.1), .one (.slice ch_0_7 ch_0_8 ch_0_9), .one (.slice ch_0_10 ch_0_11 ch_0_12), .one (.slice ch_0_13 ch_0_14 ch_0_15)], Res.map true (Ty.arr .u8 20) false (Ty.pid ch_0_4) ch_0_3 x1.2.1.1, Res.fam (Res.struct (YE76 ch_0_5 ch_0_6) 76) (one_struct _ _) ch_0_4 [] x1.2.1.2.1, Res.fam (fun g_ kvs_ => Res.map true (Ty.arr .u64 4) true (Ty.arr .u64 4) g_ kvs_) (one_map true (Ty.arr .u64 4) true (Ty.arr .u64 4)) ch_0_5 [] x1.2.1.2.2.1, Res.fam (fun g_ kvs_ => Res.map true (Ty.arr .u64 4) false Ty.bool g_ kvs_) (one_map true (Ty.arr .u64 4) false Ty.bool) ch_0_6 [] x1.2.1.2.2.2, Res.row Y51 51 ch_0_7 ch_0_8 ch_0_9 x1.2.2.2.1, Res.row (YC ch_0_0 ch_0_4 ch_0_5 ch_0_6) 1 ch_0_10 ch_0_11 ch_0_12 x1.2.2.2.2.1, Res.row (Ty.arr .u8 20) 31 ch_0_13 ch_0_14 ch_0_15 x1.2.2.2.2.2] (fun (_ : W14) => (.tup [] : D)) (fun (ch : W14) => [Res.cells ch_0_0 72 [.rf (.iface 68 (.agg (cellsOf [.sl ch.1 (r.1).length ch.2.1 (RdS Y39 ch.1 r.1)]).toArray)) (IfR [.sl ch.1 (r.1).length ch.2.1 (RdS Y39 ch.1 r.1)]), .one (.map (some ch.2.2.1)), .one (.int .i64 r.2.2.1), .one (.slice ch.2.2.2.2.2.2.1 ch.2.2.2.2.2.2.2.1 ch.2.2.2.2.2.2.2.2.1), .one (.slice ch.2.2.2.2.2.2.2.2.2.1 ch.2.2.2.2.2.2.2.2.2.2.1 ch.2.2.2.2.2.2.2.2.2.2.2.1), .one (.slice ch.2.2.2.2.2.2.2.2.2.2.2.2.1 ch.2.2.2.2.2.2.2.2.2.2.2.2.2.1 ch.2.2.2.2.2.2.2.2.2.2.2.2.2.2)], Res.map true (Ty.arr .u8 20) false (Ty.pid ch.2.2.2.1) ch.2.2.1 r.2.1.1, Res.fam (Res.struct (YE76 ch.2.2.2.2.1 ch.2.2.2.2.2.1) 76) (one_struct _ _) ch.2.2.2.1 [] r.2.1.2.1, Res.fam (fun g_ kvs_ => Res.map true (Ty.arr .u64 4) true (Ty.arr .u64 4) g_ kvs_) (one_map true (Ty.arr .u64 4) true (Ty.arr .u64 4)) ch.2.2.2.2.1 [] r.2.1.2.2.1, Res.fam (fun g_ kvs_ => Res.map true (Ty.arr .u64 4) false Ty.bool g_ kvs_) (one_map true (Ty.arr .u64 4) false Ty.bool) ch.2.2.2.2.2.1 [] r.2.1.2.2.2, Res.row Y51 51 ch.2.2.2.2.2.2.1 ch.2.2.2.2.2.2.2.1 ch.2.2.2.2.2.2.2.2.1 r.2.2.2.1, Res.row (YC ch_0_0 ch.2.2.2.1 ch.2.2.2.2.1 ch.2.2.2.2.2.1) 1 ch.2.2.2.2.2.2.2.2.2.1 ch.2.2.2.2.2.2.2.2.2.2.1 ch.2.2.2.2.2.2.2.2.2.2.2.1 r.2.2.2.2.1, Res.row (Ty.arr .u8 20) 31 ch.2.2.2.2.2.2.2.2.2.2.2.2.1 ch.2.2.2.2.2.2.2.2.2.2.2.2.2.1 ch.2.2.2.2.2.2.2.2.2.2.2.2.2.2 r.2.2.2.2.2]) w0)
  | .nil, _, _, _, _, _, _, _, _, _, _, _, _, _, _, _, _, _, _, _, h0, _, _, _, _ => (nomatch h0)
  | .c33 x0_ x1_ x2_ x3_, cc, x1, ch_0_0, ch_0_1, ch_0_2, ch_0_3, ch_0_4, ch_0_5, ch_0_6, ch_0_7, ch_0_8, ch_0_9, ch_0_10, ch_0_11, ch_0_12, ch_0_13, ch_0_14, ch_0_15, r, h0, mi, w0, hR, hm => by
    delta clo_call1.f at h0; obtain ⟨r1, e1, h1⟩ := bind_of h0
    obtain rfl := Option.some.inj h1
    exact ⟨33, [.pt (cA cc 0) (At Ty.bool (cA cc 0) x0_), .pt (cA cc 1) (At (Ty.arr .u64 4) (cA cc 1) x1_), .pt (cA cc 2) (At (Ty.mid ch_0_5) (cA cc 2) x2_), .pt (cA cc 3) (At (Ty.arr .u64 4) (cA cc 3) x3_)], rfl, N33, (state_State_Set_1.ok x0_ x1_ x2_ x3_ x1 (cA cc 0) (cA cc 1) (cA cc 2) (cA cc 3) ch_0_0 ch_0_1 ch_0_2 ch_0_3 ch_0_4 ch_0_5 ch_0_6 ch_0_7 ch_0_8 ch_0_9 ch_0_10 ch_0_11 ch_0_12 ch_0_13 ch_0_14 ch_0_15 r1 e1 mi w0 ⟨⟨hR.1, At.mono _ _ _⟩, ⟨hR.2.1, At.mono _ _ _⟩, ⟨hR.2.2.1, At.mono _ _ _⟩, ⟨hR.2.2.2.1, At.mono _ _ _⟩, trivial⟩ hm).mono fun e w' h => h.conv fun ch => ⟨((ch_0_1, ch_0_2, ch.1, ch.2.1, ch.2.2.1, ch.2.2.2, ch_0_7, ch_0_8, ch_0_9, ch_0_10, ch_0_11, ch_0_12, ch_0_13, ch_0_14, ch_0_15) : W14), rfl, rfl⟩⟩
abbrev state_State_Back.Ty : Type := W8 → Int → Option W2
def state_State_Back.Ctr (s : state_State_Back.Ty) : Prop := ∀ (x1 : W8) (x2 : Int) (ch_0_0 : Nat) (ch_0_1 : Option Addr) (ch_0_2 : Nat) (ch_0_3 : Nat) (ch_0_4 : List Nat) (ch_0_5 : List Nat) (ch_0_6 : List Nat) (ch_0_7 : Option Addr) (ch_0_8 : Nat) (ch_0_9 : Nat) (ch_0_10 : Option Addr) (ch_0_11 : Nat) (ch_0_12 : Nat) (ch_0_13 : Option Addr) (ch_0_14 : Nat) (ch_0_15 : Nat) (r : W2) (h0 : s x1 x2 = some r) (mi : Mem) (w0 : World), okL mi [(.v (.pointer (some ⟨ch_0_0, 0, none⟩))), (.v (.int .i64 x2))] → Pre mi [Res.cells ch_0_0 72 [.rf (.iface 68 (.agg (cellsOf [.sl ch_0_1 (x1.1).length ch_0_2 (RdS Y39 ch_0_1 x1.1)]).toArray)) (IfR [.sl ch_0_1 (x1.1).length ch_0_2 (RdS Y39 ch_0_1 x1.1)]), .one (.map (some ch_0_3)), .one (.int .i64 x1.2.2.1), .one (.slice ch_0_7 ch_0_8 ch_0_9), .one (.slice ch_0_10 ch_0_11 ch_0_12), .one (.slice ch_0_13 ch_0_14 ch_0_15)], Res.map true (Ty.arr .u8 20) false (Ty.pid ch_0_4) ch_0_3 x1.2.1.1, Res.fam (Res.struct (YE76 ch_0_5 ch_0_6) 76) (one_struct _ _) ch_0_4 [] x1.2.1.2.1, Res.fam (fun g_ kvs_ => Res.map true (Ty.arr .u64 4) true (Ty.arr .u64 4) g_ kvs_) (one_map true (Ty.arr .u64 4) true (Ty.arr .u64 4)) ch_0_5 [] x1.2.1.2.2.1, Res.fam (fun g_ kvs_ => Res.map true (Ty.arr .u64 4) false Ty.bool g_ kvs_) (one_map true (Ty.arr .u64 4) false Ty.bool) ch_0_6 [] x1.2.1.2.2.2, Res.row Y51 51 ch_0_7 ch_0_8 ch_0_9 x1.2.2.2.1, Res.row (YC ch_0_0 ch_0_4 ch_0_5 ch_0_6) 1 ch_0_10 ch_0_11 ch_0_12 x1.2.2.2.2.1, Res.row (Ty.arr .u8 20) 31 ch_0_13 ch_0_14 ch_0_15 x1.2.2.2.2.2] w0 → Calls Try.prog 25 (([(.v (.pointer (some ⟨ch_0_0, 0, none⟩))), (.v (.int .i64 x2))] : List D).map D.val).toArray w0 (RetX mi [Res.cells ch_0_0 72 [.rf (.iface 68 (.agg (cellsOf [.sl ch_0_1 (x1.1).length ch_0_2 (RdS Y39 ch_0_1 x1.1)]).toArray)) (IfR [.sl ch_0_1 (x1.1).length ch_0_2 (RdS Y39 ch_0_1 x1.1)]), .one (.map (some ch_0_3)), .one (.int .i64 x1.2.2.1), .one (.slice ch_0_7 ch_0_8 ch_0_9), .one (.slice ch_0_10 ch_0_11 ch_0_12), .one (.slice ch_0_13 ch_0_14 ch_0_15)], Res.map true (Ty.arr .u8 20) false (Ty.pid ch_0_4) ch_0_3 x1.2.1.1, Res.fam (Res.struct (YE76 ch_0_5 ch_0_6) 76) (one_struct _ _) ch_0_4 [] x1.2.1.2.1, Res.fam (fun g_ kvs_ => Res.map true (Ty.arr .u64 4) true (Ty.arr .u64 4) g_ kvs_) (one_map true (Ty.arr .u64 4) true (Ty.arr .u64 4)) ch_0_5 [] x1.2.1.2.2.1, Res.fam (fun g_ kvs_ => Res.map true (Ty.arr .u64 4) false Ty.bool g_ kvs_) (one_map true (Ty.arr .u64 4) false Ty.bool) ch_0_6 [] x1.2.1.2.2.2, Res.row Y51 51 ch_0_7 ch_0_8 ch_0_9 x1.2.2.2.1, Res.row (YC ch_0_0 ch_0_4 ch_0_5 ch_0_6) 1 ch_0_10 ch_0_11 ch_0_12 x1.2.2.2.2.1, Res.row (Ty.arr .u8 20) 31 ch_0_13 ch_0_14 ch_0_15 x1.2.2.2.2.2] (fun (ch : W14) => ((.tup []) : D)) (fun (ch : W14) => [Res.cells ch_0_0 72 [.rf (.iface 68 (.agg (cellsOf [.sl ch.1 (r.1).length ch.2.1 (RdS Y39 ch.1 r.1)]).toArray)) (IfR [.sl ch.1 (r.1).length ch.2.1 (RdS Y39 ch.1 r.1)]), .one (.map (some ch.2.2.1)), .one (.int .i64 r.2.2.1), .one (.slice ch.2.2.2.2.2.2.1 ch.2.2.2.2.2.2.2.1 ch.2.2.2.2.2.2.2.2.1), .one (.slice ch.2.2.2.2.2.2.2.2.2.1 ch.2.2.2.2.2.2.2.2.2.2.1 ch.2.2.2.2.2.2.2.2.2.2.2.1), .one (.slice ch.2.2.2.2.2.2.2.2.2.2.2.2.1 ch.2.2.2.2.2.2.2.2.2.2.2.2.2.1 ch.2.2.2.2.2.2.2.2.2.2.2.2.2.2)], Res.map true (Ty.arr .u8 20) false (Ty.pid ch.2.2.2.1) ch.2.2.1 r.2.1.1, Res.fam (Res.struct (YE76 ch.2.2.2.2.1 ch.2.2.2.2.2.1) 76) (one_struct _ _) ch.2.2.2.1 [] r.2.1.2.1, Res.fam (fun g_ kvs_ => Res.map true (Ty.arr .u64 4) true (Ty.arr .u64 4) g_ kvs_) (one_map true (Ty.arr .u64 4) true (Ty.arr .u64 4)) ch.2.2.2.2.1 [] r.2.1.2.2.1, Res.fam (fun g_ kvs_ => Res.map true (Ty.arr .u64 4) false Ty.bool g_ kvs_) (one_map true (Ty.arr .u64 4) false Ty.bool) ch.2.2.2.2.2.1 [] r.2.1.2.2.2, Res.row Y51 51 ch.2.2.2.2.2.2.1 ch.2.2.2.2.2.2.2.1 ch.2.2.2.2.2.2.2.2.1 r.2.2.2.1, Res.row (YC ch_0_0 ch.2.2.2.1 ch.2.2.2.2.1 ch.2.2.2.2.2.1) 1 ch.2.2.2.2.2.2.2.2.2.1 ch.2.2.2.2.2.2.2.2.2.2.1 ch.2.2.2.2.2.2.2.2.2.2.2.1 r.2.2.2.2.1, Res.row (Ty.arr .u8 20) 31 ch.2.2.2.2.2.2.2.2.2.2.2.2.1 ch.2.2.2.2.2.2.2.2.2.2.2.2.2.1 ch.2.2.2.2.2.2.2.2.2.2.2.2.2.2 r.2.2.2.2.2]) w0)
def state_State_Back.b1 (x2 : Int) (rec1 : Int → (List L39) → W15 → (List L76) → W16 → W17 → Int → (List L51) → (List Clo) → (List (List Int)) → Option W2) (y1 : Int) (y2 : List L39) (y3 : W15) (y4 : List L76) (y5 : W16) (y6 : W17) (y7 : Int) (y8 : List L51) (y9 : List Clo) (y10 : List (List Int)) : Option W2 := if (decide (x2 < y1)) = true then (if (0 : Int) ≤ (wr .i64 (y1 - 1)) ∧ (wr .i64 (y1 - 1)) < ((y9).length : Int) then ((clo_call1.f (gt y9 (wr .i64 (y1 - 1))) ((y2), (y3, y4, y5, y6), y7, y8, y9, y10)).bind fun t4 => (if (0 : Int) ≤ (wr .i64 (y1 - 1)) ∧ (wr .i64 (y1 - 1)) ≤ ((t4.2.2.2.2.1).length : Int) then (rec1 (wr .i64 (y1 - 1)) t4.1 t4.2.1.1 t4.2.1.2.1 t4.2.1.2.2.1 t4.2.1.2.2.2 t4.2.2.1 t4.2.2.2.1 (t4.2.2.2.2.1.take (Int.toNat (wr .i64 (y1 - 1)))) t4.2.2.2.2.2) else none)) else none) else (some ((y2), (y3, y4, y5, y6), y7, y8, y9, y10))
def state_State_Back.l1 (x2 : Int) : Nat → Int → (List L39) → W15 → (List L76) → W16 → W17 → Int → (List L51) → (List Clo) → (List (List Int)) → Option W2
  | 0, _, _, _, _, _, _, _, _, _, _ => none
  | q + 1, y1, y2, y3, y4, y5, y6, y7, y8, y9, y10 => state_State_Back.b1 x2 (state_State_Back.l1 x2 q) y1 y2 y3 y4 y5 y6 y7 y8 y9 y10
def state_State_Back.f (k : Nat) (x1 : W8) (x2 : Int) : Option W2 := if (decide (x2 < 0)) = true then (some ((x1.1), x1.2.1, x1.2.2.1, x1.2.2.2.1, x1.2.2.2.2.1, x1.2.2.2.2.2)) else ((state_State_Mark.f ((x1.1), x1.2.1, x1.2.2.1, x1.2.2.2.1, x1.2.2.2.2.1, x1.2.2.2.2.2)).bind fun t1 => (state_State_Back.l1 x2 k t1 x1.1 x1.2.1.1 x1.2.1.2.1 x1.2.1.2.2.1 x1.2.1.2.2.2 x1.2.2.1 x1.2.2.2.1 x1.2.2.2.2.1 x1.2.2.2.2.2))
theorem state_State_Back.ok (k : Nat) : state_State_Back.Ctr (state_State_Back.f k) := by
 intro x1 x2 ch_0_0 ch_0_1 ch_0_2 ch_0_3 ch_0_4 ch_0_5 ch_0_6 ch_0_7 ch_0_8 ch_0_9 ch_0_10 ch_0_11 ch_0_12 ch_0_13 ch_0_14 ch_0_15 r h0 mi w0 ok hm
 delta state_State_Back.f at h0
 refine c_enterX (n := 33) [(.v (.pointer (some ⟨ch_0_0, 0, none⟩))), (.v (.int .i64 x2))] (l := [(0, (.v (.pointer (some ⟨ch_0_0, 0, none⟩)))), (1, (.v (.int .i64 x2)))]) Try.func25 rfl rfl rfl rfl ok hm ?_
 clear ok hm
 intro b0 hb a S
 refine wp_seq ?_
 refine c_region ?_
 refine s_move S rfl rfl ?_; clear S a; intro a S
 refine s_bin S rfl rfl rfl rfl ?_; clear S a; intro a S
 refine c_end ?_
 rcases ite_of h0 with ⟨c1, h1⟩ | ⟨c1, h1⟩ <;> clear h0
 ·refine c_condT S rfl c1 ?_
  refine wp_ret ?_
  refine x_thenR ?_
  obtain rfl := Option.some.inj h1
  exact b_ret0 S rfl (S.retX (Hx := []) hb _ _ ((ch_0_1, ch_0_2, ch_0_3, ch_0_4, ch_0_5, ch_0_6, ch_0_7, ch_0_8, ch_0_9, ch_0_10, ch_0_11, ch_0_12, ch_0_13, ch_0_14, ch_0_15) : W14) (.cons .here (.cons .here (.cons .here (.cons .here (.cons .here (.cons .here (.cons .here (.cons .here .nil)))))))) trivial)
 ·refine c_condF S rfl c1 ?_
  refine wp_skip ?_
  refine x_thenN ?_
  refine c_region ?_
  refine s_move S rfl rfl ?_; clear S a; intro a S
  obtain ⟨t1, et1, h2⟩ := bind_of h1; clear h1
  refine s_callX S (ds' := [(.v (.pointer (some ⟨ch_0_0, 0, none⟩)))]) (ds := [(.v (.pointer (some ⟨ch_0_0, 0, none⟩)))]) [Res.cells ch_0_0 72 [.rf (.iface 68 (.agg (cellsOf [.sl ch_0_1 (x1.1).length ch_0_2 (RdS Y39 ch_0_1 x1.1)]).toArray)) (IfR [.sl ch_0_1 (x1.1).length ch_0_2 (RdS Y39 ch_0_1 x1.1)]), .one (.map (some ch_0_3)), .one (.int .i64 x1.2.2.1), .one (.slice ch_0_7 ch_0_8 ch_0_9), .one (.slice ch_0_10 ch_0_11 ch_0_12), .one (.slice ch_0_13 ch_0_14 ch_0_15)], Res.map true (Ty.arr .u8 20) false (Ty.pid ch_0_4) ch_0_3 x1.2.1.1, Res.fam (Res.struct (YE76 ch_0_5 ch_0_6) 76) (one_struct _ _) ch_0_4 [] x1.2.1.2.1, Res.fam (fun g_ kvs_ => Res.map true (Ty.arr .u64 4) true (Ty.arr .u64 4) g_ kvs_) (one_map true (Ty.arr .u64 4) true (Ty.arr .u64 4)) ch_0_5 [] x1.2.1.2.2.1, Res.fam (fun g_ kvs_ => Res.map true (Ty.arr .u64 4) false Ty.bool g_ kvs_) (one_map true (Ty.arr .u64 4) false Ty.bool) ch_0_6 [] x1.2.1.2.2.2, Res.row Y51 51 ch_0_7 ch_0_8 ch_0_9 x1.2.2.2.1, Res.row (YC ch_0_0 ch_0_4 ch_0_5 ch_0_6) 1 ch_0_10 ch_0_11 ch_0_12 x1.2.2.2.2.1, Res.row (Ty.arr .u8 20) 31 ch_0_13 ch_0_14 ch_0_15 x1.2.2.2.2.2] [] (fun (ch : Unit) => ((.v (.int .i64 t1)) : D)) (fun (ch : Unit) => [Res.cells ch_0_0 72 [.rf (.iface 68 (.agg (cellsOf [.sl ch_0_1 (x1.1).length ch_0_2 (RdS Y39 ch_0_1 x1.1)]).toArray)) (IfR [.sl ch_0_1 (x1.1).length ch_0_2 (RdS Y39 ch_0_1 x1.1)]), .one (.map (some ch_0_3)), .one (.int .i64 x1.2.2.1), .one (.slice ch_0_7 ch_0_8 ch_0_9), .one (.slice ch_0_10 ch_0_11 ch_0_12), .one (.slice ch_0_13 ch_0_14 ch_0_15)], Res.map true (Ty.arr .u8 20) false (Ty.pid ch_0_4) ch_0_3 x1.2.1.1, Res.fam (Res.struct (YE76 ch_0_5 ch_0_6) 76) (one_struct _ _) ch_0_4 [] x1.2.1.2.1, Res.fam (fun g_ kvs_ => Res.map true (Ty.arr .u64 4) true (Ty.arr .u64 4) g_ kvs_) (one_map true (Ty.arr .u64 4) true (Ty.arr .u64 4)) ch_0_5 [] x1.2.1.2.2.1, Res.fam (fun g_ kvs_ => Res.map true (Ty.arr .u64 4) false Ty.bool g_ kvs_) (one_map true (Ty.arr .u64 4) false Ty.bool) ch_0_6 [] x1.2.1.2.2.2, Res.row Y51 51 ch_0_7 ch_0_8 ch_0_9 x1.2.2.2.1, Res.row (YC ch_0_0 ch_0_4 ch_0_5 ch_0_6) 1 ch_0_10 ch_0_11 ch_0_12 x1.2.2.2.2.1, Res.row (Ty.arr .u8 20) 31 ch_0_13 ch_0_14 ch_0_15 x1.2.2.2.2.2]) (fun (ch : Unit) => [Res.cells ch_0_0 72 [.rf (.iface 68 (.agg (cellsOf [.sl ch_0_1 (x1.1).length ch_0_2 (RdS Y39 ch_0_1 x1.1)]).toArray)) (IfR [.sl ch_0_1 (x1.1).length ch_0_2 (RdS Y39 ch_0_1 x1.1)]), .one (.map (some ch_0_3)), .one (.int .i64 x1.2.2.1), .one (.slice ch_0_7 ch_0_8 ch_0_9), .one (.slice ch_0_10 ch_0_11 ch_0_12), .one (.slice ch_0_13 ch_0_14 ch_0_15)], Res.map true (Ty.arr .u8 20) false (Ty.pid ch_0_4) ch_0_3 x1.2.1.1, Res.fam (Res.struct (YE76 ch_0_5 ch_0_6) 76) (one_struct _ _) ch_0_4 [] x1.2.1.2.1, Res.fam (fun g_ kvs_ => Res.map true (Ty.arr .u64 4) true (Ty.arr .u64 4) g_ kvs_) (one_map true (Ty.arr .u64 4) true (Ty.arr .u64 4)) ch_0_5 [] x1.2.1.2.2.1, Res.fam (fun g_ kvs_ => Res.map true (Ty.arr .u64 4) false Ty.bool g_ kvs_) (one_map true (Ty.arr .u64 4) false Ty.bool) ch_0_6 [] x1.2.1.2.2.2, Res.row Y51 51 ch_0_7 ch_0_8 ch_0_9 x1.2.2.2.1, Res.row (YC ch_0_0 ch_0_4 ch_0_5 ch_0_6) 1 ch_0_10 ch_0_11 ch_0_12 x1.2.2.2.2.1, Res.row (Ty.arr .u8 20) 31 ch_0_13 ch_0_14 ch_0_15 x1.2.2.2.2.2]) (fun _ => rfl) N24 rfl rfl (fun ok => ok) (.cons .here (.cons .here (.cons .here (.cons .here (.cons .here (.cons .here (.cons .here (.cons .here .nil)))))))) rfl (state_State_Mark.ok ((x1.1), x1.2.1, x1.2.2.1, x1.2.2.2.1, x1.2.2.2.2.1, x1.2.2.2.2.2) ch_0_0 ch_0_1 ch_0_2 ch_0_3 ch_0_4 ch_0_5 ch_0_6 ch_0_7 ch_0_8 ch_0_9 ch_0_10 ch_0_11 ch_0_12 ch_0_13 ch_0_14 ch_0_15 t1 et1 _ _) ?_; clear S a; intro ch1 m le1 a w S
  refine s_assign S rfl rfl ?_; clear S a; intro a S
  refine c_end ?_
  refine wp_block ?_
  refine c_loop (fun q1 a w => ∃ (m : Mem) (y1 : Int) (A1 : Option Addr) (cp1 : Nat) (y2 : List L39) (g1 : Nat) (y3 : List ((List Int) × Option Nat)) (G1 : List Nat) (G2 : List Nat) (G3 : List Nat) (y4 : List L76) (y5 : List (List ((List Int) × (List Int)))) (y6 : List (List ((List Int) × Bool))) (y7 : Int) (A2 : Option Addr) (nn1 : Nat) (cp2 : Nat) (y8 : List L51) (A3 : Option Addr) (nn2 : Nat) (cp3 : Nat) (y9 : List Clo) (A4 : Option Addr) (nn3 : Nat) (cp4 : Nat) (y10 : List (List Int)), St 33 m b0 [(4, (.v (.int .i64 y1))), (0, (.v (.pointer (some ⟨ch_0_0, 0, none⟩)))), (1, (.v (.int .i64 x2)))] [Res.cells ch_0_0 72 [.rf (.iface 68 (.agg (cellsOf [.sl A1 (y2).length cp1 (RdS Y39 A1 y2)]).toArray)) (IfR [.sl A1 (y2).length cp1 (RdS Y39 A1 y2)]), .one (.map (some g1)), .one (.int .i64 y7), .one (.slice A2 nn1 cp2), .one (.slice A3 nn2 cp3), .one (.slice A4 nn3 cp4)], Res.map true (Ty.arr .u8 20) false (Ty.pid G1) g1 y3, Res.fam (Res.struct (YE76 G2 G3) 76) (one_struct _ _) G1 [] y4, Res.fam (fun g_ kvs_ => Res.map true (Ty.arr .u64 4) true (Ty.arr .u64 4) g_ kvs_) (one_map true (Ty.arr .u64 4) true (Ty.arr .u64 4)) G2 [] y5, Res.fam (fun g_ kvs_ => Res.map true (Ty.arr .u64 4) false Ty.bool g_ kvs_) (one_map true (Ty.arr .u64 4) false Ty.bool) G3 [] y6, Res.row Y51 51 A2 nn1 cp2 y8, Res.row (YC ch_0_0 G1 G2 G3) 1 A3 nn2 cp3 y9, Res.row (Ty.arr .u8 20) 31 A4 nn3 cp4 y10] a w ∧ state_State_Back.l1 x2 q1 y1 y2 y3 y4 y5 y6 y7 y8 y9 y10 = some r) ?_ ?_ (k := k) ⟨_, t1, ch_0_1, ch_0_2, x1.1, ch_0_3, x1.2.1.1, ch_0_4, ch_0_5, ch_0_6, x1.2.1.2.1, x1.2.1.2.2.1, x1.2.1.2.2.2, x1.2.2.1, ch_0_7, ch_0_8, ch_0_9, x1.2.2.2.1, ch_0_10, ch_0_11, ch_0_12, x1.2.2.2.2.1, ch_0_13, ch_0_14, ch_0_15, x1.2.2.2.2.2, (S.sub (subR rfl) (.cons .here (.cons .here (.cons .here (.cons .here (.cons .here (.cons .here (.cons .here (.cons .here .nil))))))))), h2⟩
  ·rintro a w ⟨m, y1, A1, cp1, y2, g1, y3, G1, G2, G3, y4, y5, y6, y7, A2, nn1, cp2, y8, A3, nn2, cp3, y9, A4, nn3, cp4, y10, S, h0⟩
   exact (nomatch (show (none : Option W2) = some r from h0))
  ·clear S h2
   rintro q1 a w ⟨m, y1, A1, cp1, y2, g1, y3, G1, G2, G3, y4, y5, y6, y7, A2, nn1, cp2, y8, A3, nn2, cp3, y9, A4, nn3, cp4, y10, S, h0⟩
   replace h0 : state_State_Back.b1 x2 (state_State_Back.l1 x2 q1) y1 y2 y3 y4 y5 y6 y7 y8 y9 y10 = some r := h0
   delta state_State_Back.b1 at h0
   refine wp_seq ?_
   refine c_region ?_
   refine s_move S rfl rfl ?_; clear S a; intro a S
   refine s_move S rfl rfl ?_; clear S a; intro a S
   refine s_bin S rfl rfl rfl rfl ?_; clear S a; intro a S
   refine c_end ?_
   rcases ite_of h0 with ⟨c2, h1⟩ | ⟨c2, h1⟩ <;> clear h0
   ·refine c_condT S rfl c2 ?_
    refine wp_skip ?_
    refine x_thenN ?_
    refine wp_seq ?_
    refine wp_block ?_
    refine c_region ?_
    refine s_move S rfl rfl ?_; clear S a; intro a S
    refine s_nilchk S rfl rfl ?_; clear S a; intro a S
    refine s_fieldAddr S rfl I72_4 T70 (by decide) rfl rfl ?_; clear S a; intro a S
    refine s_load1 S rfl .here T70 (v := (.slice A3 nn2 cp3)) rfl rfl ?_; clear S a; intro a S
    refine s_move S rfl rfl ?_; clear S a; intro a S
    refine s_bin S rfl rfl rfl rfl ?_; clear S a; intro a S
    obtain ⟨c3, h2⟩ := chk_of h1; clear h1
    refine s_iaddrO S (ty' := (YC ch_0_0 G1 G2 G3)) rfl (.there (.there (.there (.there (.there (.there .here)))))) rfl Try.underlying70 T1 c3.1 c3.2 rfl ?_; clear S a; intro g2 a hA1 S
    refine s_ldRF S (ty' := (YC ch_0_0 G1 G2 G3)) (i := (wr .i64 (y1 - 1))) (off := 0) (fun (c : List Addr) => cloV (gt y9 (wr .i64 (y1 - 1))) c) (fun (c : List Addr) => cloR ch_0_0 G1 G2 G3 (gt y9 (wr .i64 (y1 - 1))) c) rfl hA1 (.there (.there (.there (.there (.there (.there .here)))))) T1 c3.1 c3.2 rfl (fun _ => rfl) rfl ?_; clear S a; intro ch6 a S
    obtain ⟨t4, et4, h3⟩ := bind_of h2; clear h2
    refine s_callV S [Res.cells ch_0_0 72 [.rf (.iface 68 (.agg (cellsOf [.sl A1 (y2).length cp1 (RdS Y39 A1 y2)]).toArray)) (IfR [.sl A1 (y2).length cp1 (RdS Y39 A1 y2)]), .one (.map (some g1)), .one (.int .i64 y7), .one (.slice A2 nn1 cp2), .one (.slice A3 nn2 cp3), .one (.slice A4 nn3 cp4)], Res.map true (Ty.arr .u8 20) false (Ty.pid G1) g1 y3, Res.fam (Res.struct (YE76 G2 G3) 76) (one_struct _ _) G1 [] y4, Res.fam (fun g_ kvs_ => Res.map true (Ty.arr .u64 4) true (Ty.arr .u64 4) g_ kvs_) (one_map true (Ty.arr .u64 4) true (Ty.arr .u64 4)) G2 [] y5, Res.fam (fun g_ kvs_ => Res.map true (Ty.arr .u64 4) false Ty.bool g_ kvs_) (one_map true (Ty.arr .u64 4) false Ty.bool) G3 [] y6, Res.row Y51 51 A2 nn1 cp2 y8, Res.row (YC ch_0_0 G1 G2 G3) 1 A3 nn2 cp3 y9, Res.row (Ty.arr .u8 20) 31 A4 nn3 cp4 y10] [] (fun (ch : W14) => [Res.cells ch_0_0 72 [.rf (.iface 68 (.agg (cellsOf [.sl ch.1 (t4.1).length ch.2.1 (RdS Y39 ch.1 t4.1)]).toArray)) (IfR [.sl ch.1 (t4.1).length ch.2.1 (RdS Y39 ch.1 t4.1)]), .one (.map (some ch.2.2.1)), .one (.int .i64 t4.2.2.1), .one (.slice ch.2.2.2.2.2.2.1 ch.2.2.2.2.2.2.2.1 ch.2.2.2.2.2.2.2.2.1), .one (.slice ch.2.2.2.2.2.2.2.2.2.1 ch.2.2.2.2.2.2.2.2.2.2.1 ch.2.2.2.2.2.2.2.2.2.2.2.1), .one (.slice ch.2.2.2.2.2.2.2.2.2.2.2.2.1 ch.2.2.2.2.2.2.2.2.2.2.2.2.2.1 ch.2.2.2.2.2.2.2.2.2.2.2.2.2.2)], Res.map true (Ty.arr .u8 20) false (Ty.pid ch.2.2.2.1) ch.2.2.1 t4.2.1.1, Res.fam (Res.struct (YE76 ch.2.2.2.2.1 ch.2.2.2.2.2.1) 76) (one_struct _ _) ch.2.2.2.1 [] t4.2.1.2.1, Res.fam (fun g_ kvs_ => Res.map true (Ty.arr .u64 4) true (Ty.arr .u64 4) g_ kvs_) (one_map true (Ty.arr .u64 4) true (Ty.arr .u64 4)) ch.2.2.2.2.1 [] t4.2.1.2.2.1, Res.fam (fun g_ kvs_ => Res.map true (Ty.arr .u64 4) false Ty.bool g_ kvs_) (one_map true (Ty.arr .u64 4) false Ty.bool) ch.2.2.2.2.2.1 [] t4.2.1.2.2.2, Res.row Y51 51 ch.2.2.2.2.2.2.1 ch.2.2.2.2.2.2.2.1 ch.2.2.2.2.2.2.2.2.1 t4.2.2.2.1, Res.row (YC ch_0_0 ch.2.2.2.1 ch.2.2.2.2.1 ch.2.2.2.2.2.1) 1 ch.2.2.2.2.2.2.2.2.2.1 ch.2.2.2.2.2.2.2.2.2.2.1 ch.2.2.2.2.2.2.2.2.2.2.2.1 t4.2.2.2.2.1, Res.row (Ty.arr .u8 20) 31 ch.2.2.2.2.2.2.2.2.2.2.2.2.1 ch.2.2.2.2.2.2.2.2.2.2.2.2.2.1 ch.2.2.2.2.2.2.2.2.2.2.2.2.2.2 t4.2.2.2.2.2]) (fun (ch : W14) => [Res.cells ch_0_0 72 [.rf (.iface 68 (.agg (cellsOf [.sl ch.1 (t4.1).length ch.2.1 (RdS Y39 ch.1 t4.1)]).toArray)) (IfR [.sl ch.1 (t4.1).length ch.2.1 (RdS Y39 ch.1 t4.1)]), .one (.map (some ch.2.2.1)), .one (.int .i64 t4.2.2.1), .one (.slice ch.2.2.2.2.2.2.1 ch.2.2.2.2.2.2.2.1 ch.2.2.2.2.2.2.2.2.1), .one (.slice ch.2.2.2.2.2.2.2.2.2.1 ch.2.2.2.2.2.2.2.2.2.2.1 ch.2.2.2.2.2.2.2.2.2.2.2.1), .one (.slice ch.2.2.2.2.2.2.2.2.2.2.2.2.1 ch.2.2.2.2.2.2.2.2.2.2.2.2.2.1 ch.2.2.2.2.2.2.2.2.2.2.2.2.2.2)], Res.map true (Ty.arr .u8 20) false (Ty.pid ch.2.2.2.1) ch.2.2.1 t4.2.1.1, Res.fam (Res.struct (YE76 ch.2.2.2.2.1 ch.2.2.2.2.2.1) 76) (one_struct _ _) ch.2.2.2.1 [] t4.2.1.2.1, Res.fam (fun g_ kvs_ => Res.map true (Ty.arr .u64 4) true (Ty.arr .u64 4) g_ kvs_) (one_map true (Ty.arr .u64 4) true (Ty.arr .u64 4)) ch.2.2.2.2.1 [] t4.2.1.2.2.1, Res.fam (fun g_ kvs_ => Res.map true (Ty.arr .u64 4) false Ty.bool g_ kvs_) (one_map true (Ty.arr .u64 4) false Ty.bool) ch.2.2.2.2.2.1 [] t4.2.1.2.2.2, Res.row Y51 51 ch.2.2.2.2.2.2.1 ch.2.2.2.2.2.2.2.1 ch.2.2.2.2.2.2.2.2.1 t4.2.2.2.1, Res.row (YC ch_0_0 ch.2.2.2.1 ch.2.2.2.2.1 ch.2.2.2.2.2.1) 1 ch.2.2.2.2.2.2.2.2.2.1 ch.2.2.2.2.2.2.2.2.2.2.1 ch.2.2.2.2.2.2.2.2.2.2.2.1 t4.2.2.2.2.1, Res.row (Ty.arr .u8 20) 31 ch.2.2.2.2.2.2.2.2.2.2.2.2.1 ch.2.2.2.2.2.2.2.2.2.2.2.2.2.1 ch.2.2.2.2.2.2.2.2.2.2.2.2.2.2 t4.2.2.2.2.2]) (fun _ => rfl) rfl (.cons .here (.cons .here (.cons .here (.cons .here (.cons .here (.cons .here (.cons .here (.cons .here .nil)))))))) rfl (clo_call1.ok (gt y9 (wr .i64 (y1 - 1))) ch6 ((y2), (y3, y4, y5, y6), y7, y8, y9, y10) ch_0_0 A1 cp1 g1 G1 G2 G3 A2 nn1 cp2 A3 nn2 cp3 A4 nn3 cp4 t4 et4 _ _) ?_; clear S a w; intro ch7 m le1 a w S
    refine c_end ?_
    refine c_region' ?_
    refine s_move S rfl rfl ?_; clear S a; intro a S
    refine s_move S rfl rfl ?_; clear S a; intro a S
    refine s_nilchk S rfl rfl ?_; clear S a; intro a S
    refine s_fieldAddr S rfl I72_4 T70 (by decide) rfl rfl ?_; clear S a; intro a S
    refine s_load1 S rfl .here T70 (v := (.slice ch7.2.2.2.2.2.2.2.2.2.1 ch7.2.2.2.2.2.2.2.2.2.2.1 ch7.2.2.2.2.2.2.2.2.2.2.2.1)) rfl rfl ?_; clear S a; intro a S
    refine s_move S rfl rfl ?_; clear S a; intro a S
    refine s_bin S rfl rfl rfl rfl ?_; clear S a; intro a S
    obtain ⟨c4, h4⟩ := chk_of h3; clear h3
    refine s_cutO S (j := (wr .i64 (y1 - 1))) rfl (.there (.there (.there (.there (.there (.there .here)))))) Try.underlying70 T1 (.inl rfl) rfl c4.1 c4.2 rfl ?_; clear S a; intro a S
    refine s_nilchk S rfl rfl ?_; clear S a; intro a S
    refine s_fieldAddr S rfl I72_4 T70 (by decide) rfl rfl ?_; clear S a; intro a S
    refine s_store S rfl rfl rfl (s' := [.rf (.iface 68 (.agg (cellsOf [.sl ch7.1 (t4.1).length ch7.2.1 (RdS Y39 ch7.1 t4.1)]).toArray)) (IfR [.sl ch7.1 (t4.1).length ch7.2.1 (RdS Y39 ch7.1 t4.1)]), .one (.map (some ch7.2.2.1)), .one (.int .i64 t4.2.2.1), .one (.slice ch7.2.2.2.2.2.2.1 ch7.2.2.2.2.2.2.2.1 ch7.2.2.2.2.2.2.2.2.1), .one (.slice ch7.2.2.2.2.2.2.2.2.2.1 (Int.toNat (wr .i64 (y1 - 1))) ch7.2.2.2.2.2.2.2.2.2.2.2.1), .one (.slice ch7.2.2.2.2.2.2.2.2.2.2.2.2.1 ch7.2.2.2.2.2.2.2.2.2.2.2.2.2.1 ch7.2.2.2.2.2.2.2.2.2.2.2.2.2.2)]) .here T70 rfl rfl ?_; clear S w; intro w S
    refine c_end' ?_
    refine x_blockN ?_
    refine x_thenN ?_
    refine c_region' ?_
    refine s_move S rfl rfl ?_; clear S a; intro a S
    refine s_bin S rfl rfl rfl rfl ?_; clear S a; intro a S
    refine s_assign S rfl rfl ?_; clear S a; intro a S
    refine c_end' ?_
    refine x_thenN ?_
    exact ⟨_, (wr .i64 (y1 - 1)), ch7.1, ch7.2.1, t4.1, ch7.2.2.1, t4.2.1.1, ch7.2.2.2.1, ch7.2.2.2.2.1, ch7.2.2.2.2.2.1, t4.2.1.2.1, t4.2.1.2.2.1, t4.2.1.2.2.2, t4.2.2.1, ch7.2.2.2.2.2.2.1, ch7.2.2.2.2.2.2.2.1, ch7.2.2.2.2.2.2.2.2.1, t4.2.2.2.1, ch7.2.2.2.2.2.2.2.2.2.1, (Int.toNat (wr .i64 (y1 - 1))), ch7.2.2.2.2.2.2.2.2.2.2.2.1, (t4.2.2.2.2.1.take (Int.toNat (wr .i64 (y1 - 1)))), ch7.2.2.2.2.2.2.2.2.2.2.2.2.1, ch7.2.2.2.2.2.2.2.2.2.2.2.2.2.1, ch7.2.2.2.2.2.2.2.2.2.2.2.2.2.2, t4.2.2.2.2.2, (S.sub (subR rfl) (.cons .here (.cons .here (.cons .here (.cons .here (.cons .here (.cons .here (.cons .here (.cons .here .nil))))))))), h4⟩
   ·refine c_condF S rfl c2 ?_
    refine wp_exit ?_
    refine x_thenX ?_
    refine x_thenX ?_
    refine x_blockX ?_
    refine b_end ?_
    obtain rfl := Option.some.inj h1
    exact b_ret0 S rfl (S.retX (Hx := []) hb _ _ ((A1, cp1, g1, G1, G2, G3, A2, nn1, cp2, A3, nn2, cp3, A4, nn3, cp4) : W14) (.cons .here (.cons .here (.cons .here (.cons .here (.cons .here (.cons .here (.cons .here (.cons .here .nil)))))))) trivial)
abbrev word_Compare.Ty : Type := (List Int) → (List Int) → Option Int
def word_Compare.Ctr (s : word_Compare.Ty) : Prop := ∀ (x1 : List Int) (x2 : List Int) (r : Int) (h0 : s x1 x2 = some r) (mi : Mem) (w0 : World), okL mi [(.agg [.ints .u64 x1 4]), (.agg [.ints .u64 x2 4])] → Pre mi [] w0 → Calls Try.prog 44 (([(.agg [.ints .u64 x1 4]), (.agg [.ints .u64 x2 4])] : List D).map D.val).toArray w0 (RetX mi [] (fun (ch : Unit) => ((.v (.int .i64 r)) : D)) (fun (ch : Unit) => []) w0)
def word_Compare.j1 (x1 : List Int) (x2 : List Int) (y1 : Int) : Option Int := if (0 : Int) ≤ y1 ∧ y1 < 4 then (if (decide ((rd x1 y1) < (rd x2 y1))) = true then (some (-1)) else (some 1)) else none
def word_Compare.b1 (x1 : List Int) (x2 : List Int) (rec1 : Int → Option Int) (y3 : Int) : Option Int := if (0 : Int) ≤ y3 ∧ y3 < 4 then (if ((rd x1 y3) == (rd x2 y3)) = true then (rec1 (wr .i64 (y3 - 1))) else (word_Compare.j1 x1 x2 y3)) else none
def word_Compare.l1 (x1 : List Int) (x2 : List Int) : Nat → Int → Option Int
  | 0, _ => none
  | q + 1, y3 => word_Compare.b1 x1 x2 (word_Compare.l1 x1 x2 q) y3
def word_Compare.f (k : Nat) (x1 : List Int) (x2 : List Int) : Option Int := if (decide (x1 = x2)) = true then (some 0) else (word_Compare.l1 x1 x2 k 3)
theorem word_Compare.ok (k : Nat) : word_Compare.Ctr (word_Compare.f k) := by
 intro x1 x2 r h0 mi w0 ok hm
 delta word_Compare.f at h0
 refine c_enterX (n := 25) [(.agg [.ints .u64 x1 4]), (.agg [.ints .u64 x2 4])] (l := [(0, (.agg [.ints .u64 x1 4])), (1, (.agg [.ints .u64 x2 4]))]) Try.func44 rfl rfl rfl rfl ok hm ?_
 clear ok hm
 intro b0 hb a S
 refine c_region ?_
 refine s_box S rfl rfl rfl ?_; clear S a; intro g1 a w S
 refine s_box S rfl rfl rfl ?_; clear S a w; intro g2 a w S
 refine s_assign S rfl rfl ?_; clear S a; intro a S
 refine c_end ?_
 refine wp_seq ?_
 refine c_region ?_
 refine s_loada S rfl (.there .here) T35 (s' := [.ints .u64 x1 4]) rfl rfl ?_; clear S a; intro a S
 refine s_loada S rfl .here T35 (s' := [.ints .u64 x2 4]) rfl rfl ?_; clear S a; intro a S
 refine s_eqa S rfl rfl Try.underlying35 Try.underlying32 T32 Q35 rfl ?_; clear S a; intro a S
 refine c_end ?_
 rcases ite_of h0 with ⟨c1, h1⟩ | ⟨c1, h1⟩ <;> clear h0
 ·refine c_condT S rfl c1 ?_
  refine c_region ?_
  refine s_assign S rfl rfl ?_; clear S a; intro a S
  refine c_end ?_
  refine wp_ret ?_
  refine x_thenR ?_
  obtain rfl := Option.some.inj h1
  exact b_ret1 (d := (.v (.int .i64 0))) S rfl rfl fun ok => S.retX (Hx := []) hb _ _ (() : Unit) .nil ok
 ·refine c_condF S rfl c1 ?_
  refine wp_skip ?_
  refine x_thenN ?_
  refine c_region ?_
  refine s_assign S rfl rfl ?_; clear S a; intro a S
  refine c_end ?_
  refine wp_seq_k ?_
  intro K1 hK1
  have j1 : ∀ (m : Mem) (y1 : Int) (g9 : Nat) (g10 : Nat) (a : Act) (w : World), St 25 m b0 [(5, (.v (.int .i64 y1))), (3, (.v (.pointer (some ⟨g9, 0, none⟩)))), (2, (.v (.pointer (some ⟨g10, 0, none⟩))))] [Res.cells g9 35 [.ints .u64 x2 4], Res.cells g10 35 [.ints .u64 x1 4]] a w → word_Compare.j1 x1 x2 y1 = some r → K1 a w := by
   intro m y1 g9 g10 a w S h0
   delta word_Compare.j1 at h0
   refine hK1 a w ?_
   refine wp_seq ?_
   refine wp_seq (c_heldS S (.take 0 (.take 1 (.take 2 (.take 3 (.take 4 (.take 5 (.take 6 .done))))))) 7 [Res.cells g9 35 [.ints .u64 x2 4], Res.cells g10 35 [.ints .u64 x1 4]] (.cons .here (.cons .here .nil)) ⟨Res.stay_cells, Res.stay_cells, trivial⟩ [(5, (.v (.int .i64 y1))), (3, (.v (.pointer (some ⟨g9, 0, none⟩)))), (2, (.v (.pointer (some ⟨g10, 0, none⟩))))] (subR rfl) (by kernel_rfl) (by kernel_rfl) ?_); clear S; intro w S CL hw le
   refine h_move S CL hw le (subR rfl) rfl rfl rfl trivial ?_; clear S CL a; intro a S CL
   obtain ⟨c2, h1⟩ := chk_of h0; clear h0
   refine h_iaddr S CL hw le (subR rfl) rfl rfl Try.underlying35 T32 c2.1 c2.2 (mul1 _ _) rfl rfl trivial ?_; clear S CL a; intro a S CL
   refine h_loadi S CL hw le (subR rfl) (i := y1) rfl (.there .here) T32 .here rfl c2.1 c2.2 rfl rfl trivial ?_; clear S CL a; intro a S CL
   refine h_move S CL hw le (subR rfl) rfl rfl rfl trivial ?_; clear S CL a; intro a S CL
   refine h_iaddr S CL hw le (subR rfl) rfl rfl Try.underlying35 T32 c2.1 c2.2 (mul1 _ _) rfl rfl trivial ?_; clear S CL a; intro a S CL
   refine h_loadi S CL hw le (subR rfl) (i := y1) rfl .here T32 .here rfl c2.1 c2.2 rfl rfl trivial ?_; clear S CL a; intro a S CL
   refine h_bin S CL hw le (subR rfl) rfl rfl rfl rfl rfl trivial ?_; clear S CL a; intro a S CL
   refine h_done ?_; clear CL hw le
   refine x_thenN ?_
   rcases ite_of h1 with ⟨c3, h2⟩ | ⟨c3, h2⟩ <;> clear h1
   ·refine c_condT S rfl c3 ?_
    refine c_region ?_
    refine s_assign S rfl rfl ?_; clear S a; intro a S
    refine c_end ?_
    refine wp_ret ?_
    refine x_thenR ?_
    obtain rfl := Option.some.inj h2
    exact b_ret1 (d := (.v (.int .i64 (-1)))) S rfl rfl fun ok => S.retX (Hx := []) hb _ _ (() : Unit) .nil ok
   ·refine c_condF S rfl c3 ?_
    refine wp_skip ?_
    refine x_thenN ?_
    refine c_region ?_
    refine s_assign S rfl rfl ?_; clear S a; intro a S
    refine c_end ?_
    refine wp_ret ?_
    obtain rfl := Option.some.inj h2
    exact b_ret1 (d := (.v (.int .i64 1))) S rfl rfl fun ok => S.retX (Hx := []) hb _ _ (() : Unit) .nil ok
  refine wp_block ?_
  refine c_loop (fun q1 a w => ∃ (m : Mem) (y3 : Int) (g15 : Nat) (g16 : Nat), St 25 m b0 [(5, (.v (.int .i64 y3))), (3, (.v (.pointer (some ⟨g15, 0, none⟩)))), (2, (.v (.pointer (some ⟨g16, 0, none⟩))))] [Res.cells g15 35 [.ints .u64 x2 4], Res.cells g16 35 [.ints .u64 x1 4]] a w ∧ word_Compare.l1 x1 x2 q1 y3 = some r) ?_ ?_ (k := k) ⟨_, 3, g2, g1, (S.sub (subR rfl) (.cons .here (.cons .here .nil))), h1⟩
  ·rintro a w ⟨m, y3, g15, g16, S, h0⟩
   exact (nomatch (show (none : Option Int) = some r from h0))
  ·clear S h1
   rintro q1 a w ⟨m, y3, g15, g16, S, h0⟩
   replace h0 : word_Compare.b1 x1 x2 (word_Compare.l1 x1 x2 q1) y3 = some r := h0
   delta word_Compare.b1 at h0
   refine wp_seq ?_
   refine wp_seq (c_heldS S (.take 0 (.take 1 (.take 2 (.take 3 (.take 4 (.take 5 (.take 6 .done))))))) 7 [Res.cells g15 35 [.ints .u64 x2 4], Res.cells g16 35 [.ints .u64 x1 4]] (.cons .here (.cons .here .nil)) ⟨Res.stay_cells, Res.stay_cells, trivial⟩ [(5, (.v (.int .i64 y3))), (3, (.v (.pointer (some ⟨g15, 0, none⟩)))), (2, (.v (.pointer (some ⟨g16, 0, none⟩))))] (subR rfl) (by kernel_rfl) (by kernel_rfl) ?_); clear S; intro w S CL hw le
   refine h_move S CL hw le (subR rfl) rfl rfl rfl trivial ?_; clear S CL a; intro a S CL
   obtain ⟨c4, h1⟩ := chk_of h0; clear h0
   refine h_iaddr S CL hw le (subR rfl) rfl rfl Try.underlying35 T32 c4.1 c4.2 (mul1 _ _) rfl rfl trivial ?_; clear S CL a; intro a S CL
   refine h_loadi S CL hw le (subR rfl) (i := y3) rfl (.there .here) T32 .here rfl c4.1 c4.2 rfl rfl trivial ?_; clear S CL a; intro a S CL
   refine h_move S CL hw le (subR rfl) rfl rfl rfl trivial ?_; clear S CL a; intro a S CL
   refine h_iaddr S CL hw le (subR rfl) rfl rfl Try.underlying35 T32 c4.1 c4.2 (mul1 _ _) rfl rfl trivial ?_; clear S CL a; intro a S CL
   refine h_loadi S CL hw le (subR rfl) (i := y3) rfl .here T32 .here rfl c4.1 c4.2 rfl rfl trivial ?_; clear S CL a; intro a S CL
   refine h_bin S CL hw le (subR rfl) rfl rfl rfl rfl rfl trivial ?_; clear S CL a; intro a S CL
   refine h_done ?_; clear CL hw le
   refine x_thenN ?_
   rcases ite_of h1 with ⟨c5, h2⟩ | ⟨c5, h2⟩ <;> clear h1
   ·refine c_condT S rfl c5 ?_
    refine wp_skip ?_
    refine x_thenN ?_
    refine wp_block ?_
    refine c_region' ?_
    refine s_move S rfl rfl ?_; clear S a; intro a S
    refine s_bin S rfl rfl rfl rfl ?_; clear S a; intro a S
    refine s_assign S rfl rfl ?_; clear S a; intro a S
    refine c_end' ?_
    refine x_blockN ?_
    refine x_thenN ?_
    exact ⟨_, (wr .i64 (y3 - 1)), g15, g16, (S.sub (subR rfl) (.cons .here (.cons .here .nil))), h2⟩
   ·refine c_condF S rfl c5 ?_
    refine wp_exit ?_
    refine x_thenX ?_
    refine x_thenX ?_
    refine x_blockX ?_
    refine x_thenN ?_
    exact j1 _ y3 g15 g16 a w (S.sub (subR rfl) (.cons .here (.cons .here .nil))) h2
abbrev state_stored_1.Ty : Type := ((List Int) × (List Int)) → (List Int) → Option Int
def state_stored_1.Ctr (s : state_stored_1.Ty) : Prop := ∀ (x1 : (List Int) × (List Int)) (x2 : List Int) (r : Int) (h0 : s x1 x2 = some r) (mi : Mem) (w0 : World), okL mi [(.agg [.ints .u64 x1.1 4, .ints .u64 x1.2 4]), (.agg [.ints .u64 x2 4])] → Pre mi [] w0 → Calls Try.prog 66 (([(.agg [.ints .u64 x1.1 4, .ints .u64 x1.2 4]), (.agg [.ints .u64 x2 4])] : List D).map D.val).toArray w0 (RetX mi [] (fun (ch : Unit) => ((.v (.int .i64 r)) : D)) (fun (ch : Unit) => []) w0)
def state_stored_1.f (k : Nat) (x1 : (List Int) × (List Int)) (x2 : List Int) : Option Int := (word_Compare.f k x1.1 x2).bind fun t1 => (some t1)
theorem state_stored_1.ok (k : Nat) : state_stored_1.Ctr (state_stored_1.f k) := by
 intro x1 x2 r h0 mi w0 ok hm
 delta state_stored_1.f at h0
 refine c_enterX (n := 9) [(.agg [.ints .u64 x1.1 4, .ints .u64 x1.2 4]), (.agg [.ints .u64 x2 4])] (l := [(0, (.agg [.ints .u64 x1.1 4, .ints .u64 x1.2 4])), (1, (.agg [.ints .u64 x2 4]))]) Try.func66 rfl rfl rfl rfl ok hm ?_
 clear ok hm
 intro b0 hb a S
 refine c_region ?_
 refine s_box S rfl rfl rfl ?_; clear S a; intro g1 a w S
 refine s_box S rfl rfl rfl ?_; clear S a w; intro g2 a w S
 refine s_assign S rfl rfl ?_; clear S a; intro a S
 refine c_end ?_
 refine c_region ?_
 refine s_fieldAddr S rfl I82_0 T35 (by decide) rfl rfl ?_; clear S a; intro a S
 refine s_loada S rfl (.there .here) T35 (s' := [.ints .u64 x1.1 4]) rfl rfl ?_; clear S a; intro a S
 refine s_loada S rfl .here T35 (s' := [.ints .u64 x2 4]) rfl rfl ?_; clear S a; intro a S
 obtain ⟨t1, et1, h1⟩ := bind_of h0; clear h0
 refine s_callP S (fun (ch : Unit) => ((.v (.int .i64 t1)) : D)) N44 rfl rfl (word_Compare.ok k x1.1 x2 t1 et1 _ _) ?_; clear S a w; intro ch1 m le1 a w S
 refine s_assign S rfl rfl ?_; clear S a; intro a S
 refine c_end ?_
 refine wp_ret ?_
 obtain rfl := Option.some.inj h1
 exact b_ret1 (d := (.v (.int .i64 t1))) S rfl rfl fun ok => S.retX (Hx := []) hb _ _ (() : Unit) .nil ok
abbrev api_Word_n65_2f66.Ty : Type := W9 → (List Int) → Option (Int × Bool)
def api_Word_n65_2f66.Ctr (s : api_Word_n65_2f66.Ty) : Prop := ∀ (x1 : W9) (x2 : List Int) (ch_0_0 : Option Addr) (ch_0_1 : Nat) (r : Int × Bool) (h0 : s x1 x2 = some r) (mi : Mem) (w0 : World), okL mi [(.sl ch_0_0 (x1).length ch_0_1 (RdS Y82 ch_0_0 x1)), (.agg [.ints .u64 x2 4]), (.v (.func (.func 66) #[] #[]))] → Pre mi [] w0 → Calls Try.prog 65 (([(.sl ch_0_0 (x1).length ch_0_1 (RdS Y82 ch_0_0 x1)), (.agg [.ints .u64 x2 4]), (.v (.func (.func 66) #[] #[]))] : List D).map D.val).toArray w0 (RetX mi [] (fun (ch : Unit) => ((.tup [(false, [.one (.int .i64 r.1)]), (false, [.one (.bool r.2)])]) : D)) (fun (ch : Unit) => []) w0)
def api_Word_n65_2f66.j1 (k : Nat) (x1 : W9) (x2 : List Int) (y1 : Int) : Option (Int × Bool) := if (decide (y1 < ((x1).length : Int))) = true then (if (0 : Int) ≤ y1 ∧ y1 < ((x1).length : Int) then ((state_stored_1.f k (gt x1 y1) x2).bind fun t1 => (some (y1, t1 == 0))) else none) else (some (y1, false))
def api_Word_n65_2f66.b1 (k : Nat) (x1 : W9) (x2 : List Int) (rec1 : Int → Int → Option (Int × Bool)) (y4 : Int) (y5 : Int) : Option (Int × Bool) := if (decide (y5 < y4)) = true then (if (0 : Int) ≤ (wr .i64 (shr (wr .u64 (wr .i64 (y5 + y4))) 1)) ∧ (wr .i64 (shr (wr .u64 (wr .i64 (y5 + y4))) 1)) < ((x1).length : Int) then ((state_stored_1.f k (gt x1 (wr .i64 (shr (wr .u64 (wr .i64 (y5 + y4))) 1))) x2).bind fun t4 => (if (decide (t4 < 0)) = true then (rec1 y4 (wr .i64 ((wr .i64 (shr (wr .u64 (wr .i64 (y5 + y4))) 1)) + 1))) else (rec1 (wr .i64 (shr (wr .u64 (wr .i64 (y5 + y4))) 1)) y5))) else none) else (api_Word_n65_2f66.j1 k x1 x2 y5)
def api_Word_n65_2f66.l1 (k : Nat) (x1 : W9) (x2 : List Int) : Nat → Int → Int → Option (Int × Bool)
  | 0, _, _ => none
  | q + 1, y4, y5 => api_Word_n65_2f66.b1 k x1 x2 (api_Word_n65_2f66.l1 k x1 x2 q) y4 y5
def api_Word_n65_2f66.f (k : Nat) (x1 : W9) (x2 : List Int) : Option (Int × Bool) := api_Word_n65_2f66.l1 k x1 x2 k ((x1).length : Int) 0
theorem api_Word_n65_2f66.ok (k : Nat) : api_Word_n65_2f66.Ctr (api_Word_n65_2f66.f k) := by
 intro x1 x2 ch_0_0 ch_0_1 r h0 mi w0 ok hm
 delta api_Word_n65_2f66.f at h0
 refine c_enterX (n := 49) [(.sl ch_0_0 (x1).length ch_0_1 (RdS Y82 ch_0_0 x1)), (.agg [.ints .u64 x2 4]), (.v (.func (.func 66) #[] #[]))] (l := [(0, (.sl ch_0_0 (x1).length ch_0_1 (RdS Y82 ch_0_0 x1))), (1, (.agg [.ints .u64 x2 4])), (2, (.v (.func (.func 66) #[] #[])))]) Try.func65 rfl rfl rfl rfl ok hm ?_
 clear ok hm
 intro b0 hb a S
 refine c_region ?_
 refine s_box S rfl rfl rfl ?_; clear S a; intro g1 a w S
 refine s_assign S rfl rfl ?_; clear S a; intro a S
 refine s_assign S rfl rfl ?_; clear S a; intro a S
 refine c_end ?_
 refine c_region ?_
 refine s_move S rfl rfl ?_; clear S a; intro a S
 refine s_lenS S rfl Try.underlying37 rfl ?_; clear S a; intro a S
 refine s_assign S rfl rfl ?_; clear S a; intro a S
 refine c_end ?_
 refine c_region ?_
 refine s_move S rfl rfl ?_; clear S a; intro a S
 refine s_assign S rfl rfl ?_; clear S a; intro a S
 refine s_assign S rfl rfl ?_; clear S a; intro a S
 refine c_end ?_
 refine wp_seq_k ?_
 intro K1 hK1
 have j1 : ∀ (m : Mem) (y1 : Int) (g5 : Nat) (a : Act) (w : World), St 49 m b0 [(9, (.v (.int .i64 y1))), (8, (.v (.int .i64 ((x1).length : Int)))), (4, (.v (.pointer (some ⟨g5, 0, none⟩)))), (0, (.sl ch_0_0 (x1).length ch_0_1 (RdS Y82 ch_0_0 x1))), (2, (.v (.func (.func 66) #[] #[])))] [Res.cells g5 35 [.ints .u64 x2 4]] a w → api_Word_n65_2f66.j1 k x1 x2 y1 = some r → K1 a w := by
  intro m y1 g5 a w S h0
  delta api_Word_n65_2f66.j1 at h0
  refine hK1 a w ?_
  refine wp_seq (c_heldS S (.take 0 (.take 1 (.take 2 (.take 3 (.take 4 (.take 5 (.take 6 (.take 7 (.take 8 (.take 9 (.take 10 (.alts (.run 11 true (.take 12 (.take 13 (.take 14 (.take 15 .done)))) .nil))))))))))))) 16 [Res.cells g5 35 [.ints .u64 x2 4]] (.cons .here .nil) ⟨Res.stay_cells, trivial⟩ [(9, (.v (.int .i64 y1))), (8, (.v (.int .i64 ((x1).length : Int)))), (4, (.v (.pointer (some ⟨g5, 0, none⟩)))), (0, (.sl ch_0_0 (x1).length ch_0_1 (RdS Y82 ch_0_0 x1))), (2, (.v (.func (.func 66) #[] #[])))] (subR rfl) (by kernel_rfl) (by kernel_rfl) ?_); clear S; intro w S CL hw le
  refine h_move S CL hw le (subR rfl) rfl rfl rfl trivial ?_; clear S CL a; intro a S CL
  refine h_move S CL hw le (subR rfl) rfl rfl rfl trivial ?_; clear S CL a; intro a S CL
  refine h_move S CL hw le (subR rfl) rfl rfl rfl trivial ?_; clear S CL a; intro a S CL
  refine h_bin S CL hw le (subR rfl) rfl rfl rfl rfl rfl trivial ?_; clear S CL a; intro a S CL
  refine h_move S CL hw le (subR rfl) rfl rfl rfl trivial ?_; clear S CL a; intro a S CL
  rcases ite_of h0 with ⟨c1, h1⟩ | ⟨c1, h1⟩ <;> clear h0
  ·refine h_move S CL hw le (subR rfl) rfl rfl rfl ⟨_, _, rfl, rfl, c1⟩ ?_; clear S CL a; intro a S CL
   refine h_move S CL hw le (subR rfl) rfl rfl rfl ⟨_, _, rfl, rfl, c1⟩ ?_; clear S CL a; intro a S CL
   refine h_move S CL hw le (subR rfl) rfl rfl rfl ⟨_, _, rfl, rfl, c1⟩ ?_; clear S CL a; intro a S CL
   obtain ⟨c2, h2⟩ := chk_of h1; clear h1
   refine h_iaddrS S CL hw le (subR rfl) rfl rfl rfl Try.underlying37 T82 c2.1 c2.2 rfl rfl ⟨_, _, rfl, rfl, c1⟩ ?_; clear S CL a; intro p1 a S CL
   refine h_ldA S CL hw le (subR rfl) (fun (c : Unit × Unit) => [.ints .u64 ((gt x1 y1).1) 4, .ints .u64 ((gt x1 y1).2) 4]) rfl T82 (fun _ => rfl) rfl rfl ⟨_, _, rfl, rfl, c1⟩ ?_; clear S CL a; intro ch1 a S CL
   refine h_loada S CL hw le (subR rfl) rfl .here T35 (s' := [.ints .u64 x2 4]) rfl rfl rfl ⟨_, _, rfl, rfl, c1⟩ ?_; clear S CL a; intro a S CL
   refine h_run' S rfl ⟨_, _, rfl, rfl, c1⟩ ?_
   obtain ⟨t1, et1, h3⟩ := bind_of h2; clear h2
   refine s_callP S (fun (ch : Unit) => ((.v (.int .i64 t1)) : D)) N66 rfl rfl (state_stored_1.ok k (gt x1 y1) x2 t1 et1 _ _) ?_; clear S a; intro ch2 m le1 a w S
   replace le := le.trans le1
   replace hw := CL.again hw S (.cons .here .nil) le
   refine h_back ⟨fun _ => hw, ?_⟩
   replace CL := CL.add (t := 46) (d := (.v (.int .i64 t1))) S rfl rfl
   refine h_bin S CL hw le (subR rfl) rfl rfl rfl rfl rfl ⟨_, _, rfl, rfl, c1⟩ ?_; clear S CL a; intro a S CL
   refine h_pick S CL hw le (subR rfl) (b := true) (hc_of rfl c1) rfl rfl rfl trivial ?_; clear S CL a; intro a S CL
   refine h_assign S CL hw le (subR rfl) rfl rfl rfl trivial ?_; clear S CL a; intro a S CL
   refine h_assign S CL hw le (subR rfl) rfl rfl rfl trivial ?_; clear S CL a; intro a S CL
   refine h_done ?_; clear CL hw le
   refine x_thenN ?_
   refine wp_ret ?_
   obtain rfl := Option.some.inj h3
   exact b_ret2 (d1 := (.v (.int .i64 y1))) (d2 := (.v (.bool (t1 == 0)))) S rfl rfl rfl fun ok1 ok2 => S.retX (Hx := []) hb _ _ (() : Unit) .nil ⟨⟨ok1, trivial⟩, ⟨ok2, trivial⟩, trivial⟩
  ·refine h_skip S CL rfl rfl rfl (ne_bool c1) rfl ?_; clear S CL a; intro a S CL
   refine h_skip S CL rfl rfl rfl (ne_bool c1) rfl ?_; clear S CL a; intro a S CL
   refine h_skip S CL rfl rfl rfl (ne_bool c1) rfl ?_; clear S CL a; intro a S CL
   refine h_skip S CL rfl rfl rfl (ne_bool c1) rfl ?_; clear S CL a; intro a S CL
   refine h_skip S CL rfl rfl rfl (ne_bool c1) rfl ?_; clear S CL a; intro a S CL
   refine h_skip S CL rfl rfl rfl (ne_bool c1) rfl ?_; clear S CL a; intro a S CL
   refine h_skipRt S rfl rfl rfl (ne_bool c1) rfl ?_; clear S a; intro a S
   replace hw := CL.again hw S (.cons .here .nil) le
   refine h_back ⟨fun _ => hw, ?_⟩
   replace CL := CL.add (t := 46) (d := .u) S rfl rfl
   refine h_skip S CL rfl rfl rfl (ne_bool c1) rfl ?_; clear S CL a; intro a S CL
   refine h_pick S CL hw le (subR rfl) (b := false) (hc_of rfl c1) rfl rfl rfl trivial ?_; clear S CL a; intro a S CL
   refine h_assign S CL hw le (subR rfl) rfl rfl rfl trivial ?_; clear S CL a; intro a S CL
   refine h_assign S CL hw le (subR rfl) rfl rfl rfl trivial ?_; clear S CL a; intro a S CL
   refine h_done ?_; clear CL hw le
   refine x_thenN ?_
   refine wp_ret ?_
   obtain rfl := Option.some.inj h1
   exact b_ret2 (d1 := (.v (.int .i64 y1))) (d2 := (.v (.bool false))) S rfl rfl rfl fun ok1 ok2 => S.retX (Hx := []) hb _ _ (() : Unit) .nil ⟨⟨ok1, trivial⟩, ⟨ok2, trivial⟩, trivial⟩
 refine wp_block ?_
 refine c_loop (fun q1 a w => ∃ (m : Mem) (y4 : Int) (y5 : Int) (g8 : Nat), St 49 m b0 [(10, (.v (.int .i64 y4))), (9, (.v (.int .i64 y5))), (8, (.v (.int .i64 ((x1).length : Int)))), (4, (.v (.pointer (some ⟨g8, 0, none⟩)))), (0, (.sl ch_0_0 (x1).length ch_0_1 (RdS Y82 ch_0_0 x1))), (2, (.v (.func (.func 66) #[] #[])))] [Res.cells g8 35 [.ints .u64 x2 4]] a w ∧ api_Word_n65_2f66.l1 k x1 x2 q1 y4 y5 = some r) ?_ ?_ (k := k) ⟨_, ((x1).length : Int), 0, g1, (S.sub (subR rfl) (.cons .here .nil)), h0⟩
 ·rintro a w ⟨m, y4, y5, g8, S, h0⟩
  exact (nomatch (show (none : Option (Int × Bool)) = some r from h0))
 ·clear S h0
  rintro q1 a w ⟨m, y4, y5, g8, S, h0⟩
  replace h0 : api_Word_n65_2f66.b1 k x1 x2 (api_Word_n65_2f66.l1 k x1 x2 q1) y4 y5 = some r := h0
  delta api_Word_n65_2f66.b1 at h0
  refine wp_seq ?_
  refine c_region ?_
  refine s_move S rfl rfl ?_; clear S a; intro a S
  refine s_move S rfl rfl ?_; clear S a; intro a S
  refine s_bin S rfl rfl rfl rfl ?_; clear S a; intro a S
  refine c_end ?_
  rcases ite_of h0 with ⟨c3, h1⟩ | ⟨c3, h1⟩ <;> clear h0
  ·refine c_condT S rfl c3 ?_
   refine wp_skip ?_
   refine x_thenN ?_
   refine wp_block ?_
   refine c_region ?_
   refine s_move S rfl rfl ?_; clear S a; intro a S
   refine s_move S rfl rfl ?_; clear S a; intro a S
   refine s_bin S rfl rfl rfl rfl ?_; clear S a; intro a S
   refine s_conv S rfl rfl Try.underlying100 rfl ?_; clear S a; intro a S
   refine s_shr S (e := 1) rfl rfl (by decide) rfl rfl ?_; clear S a; intro a S
   refine s_conv S rfl rfl Try.underlying3 rfl ?_; clear S a; intro a S
   refine s_assign S rfl rfl ?_; clear S a; intro a S
   refine c_end ?_
   refine wp_seq (c_heldS S (.take 0 (.take 1 (.take 2 (.take 3 (.take 4 (.take 5 (.alts (.run 6 true (.take 7 .done) .nil)))))))) 8 [Res.cells g8 35 [.ints .u64 x2 4]] (.cons .here .nil) ⟨Res.stay_cells, trivial⟩ [(11, (.v (.int .i64 (wr .i64 (shr (wr .u64 (wr .i64 (y5 + y4))) 1))))), (4, (.v (.pointer (some ⟨g8, 0, none⟩)))), (0, (.sl ch_0_0 (x1).length ch_0_1 (RdS Y82 ch_0_0 x1))), (2, (.v (.func (.func 66) #[] #[])))] (subR rfl) (by kernel_rfl) (by kernel_rfl) ?_); clear S; intro w S CL hw le
   refine h_move S CL hw le (subR rfl) rfl rfl rfl trivial ?_; clear S CL a; intro a S CL
   refine h_move S CL hw le (subR rfl) rfl rfl rfl trivial ?_; clear S CL a; intro a S CL
   refine h_move S CL hw le (subR rfl) rfl rfl rfl trivial ?_; clear S CL a; intro a S CL
   obtain ⟨c4, h2⟩ := chk_of h1; clear h1
   refine h_iaddrS S CL hw le (subR rfl) rfl rfl rfl Try.underlying37 T82 c4.1 c4.2 rfl rfl trivial ?_; clear S CL a; intro p4 a S CL
   refine h_ldA S CL hw le (subR rfl) (fun (c : Unit × Unit) => [.ints .u64 ((gt x1 (wr .i64 (shr (wr .u64 (wr .i64 (y5 + y4))) 1))).1) 4, .ints .u64 ((gt x1 (wr .i64 (shr (wr .u64 (wr .i64 (y5 + y4))) 1))).2) 4]) rfl T82 (fun _ => rfl) rfl rfl trivial ?_; clear S CL a; intro ch3 a S CL
   refine h_loada S CL hw le (subR rfl) rfl .here T35 (s' := [.ints .u64 x2 4]) rfl rfl rfl trivial ?_; clear S CL a; intro a S CL
   refine h_run' S rfl trivial ?_
   obtain ⟨t4, et4, h3⟩ := bind_of h2; clear h2
   refine s_callP S (fun (ch : Unit) => ((.v (.int .i64 t4)) : D)) N66 rfl rfl (state_stored_1.ok k (gt x1 (wr .i64 (shr (wr .u64 (wr .i64 (y5 + y4))) 1))) x2 t4 et4 _ _) ?_; clear S a; intro ch4 m le1 a w S
   replace le := le.trans le1
   replace hw := CL.again hw S (.cons .here .nil) le
   refine h_back ⟨fun _ => hw, ?_⟩
   replace CL := CL.add (t := 30) (d := (.v (.int .i64 t4))) S rfl rfl
   refine h_bin S CL hw le (subR rfl) rfl rfl rfl rfl rfl trivial ?_; clear S CL a; intro a S CL
   refine h_done ?_; clear CL hw le
   refine x_thenN ?_
   rcases ite_of h3 with ⟨c5, h4⟩ | ⟨c5, h4⟩ <;> clear h3
   ·refine c_condT S rfl c5 ?_
    refine c_region' ?_
    refine s_move S rfl rfl ?_; clear S a; intro a S
    refine s_bin S rfl rfl rfl rfl ?_; clear S a; intro a S
    refine s_assign S rfl rfl ?_; clear S a; intro a S
    refine c_end' ?_
    refine x_blockN ?_
    refine x_thenN ?_
    exact ⟨_, y4, (wr .i64 ((wr .i64 (shr (wr .u64 (wr .i64 (y5 + y4))) 1)) + 1)), g8, (S.sub (subR rfl) (.cons .here .nil)), h4⟩
   ·refine c_condF S rfl c5 ?_
    refine c_region' ?_
    refine s_move S rfl rfl ?_; clear S a; intro a S
    refine s_assign S rfl rfl ?_; clear S a; intro a S
    refine c_end' ?_
    refine x_blockN ?_
    refine x_thenN ?_
    exact ⟨_, (wr .i64 (shr (wr .u64 (wr .i64 (y5 + y4))) 1)), y5, g8, (S.sub (subR rfl) (.cons .here .nil)), h4⟩
  ·refine c_condF S rfl c3 ?_
   refine wp_exit ?_
   refine x_thenX ?_
   refine x_thenX ?_
   refine x_blockX ?_
   refine x_thenN ?_
   exact j1 _ y5 g8 a w (S.sub (subR rfl) (.cons .here .nil)) h1
end
end GW
