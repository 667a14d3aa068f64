import Derived.Test.YtdajnflppnlhiaaGreatProg
import Derived.Test.YtdajnflppnlhiaaGreatGWRowx
set_option linter.unusedVariables false
set_option linter.unusedSimpArgs false
set_option maxRecDepth 10000
set_option maxHeartbeats 4000000
namespace GW
open Go Go.RowKit Go.Proofs
noncomputable section
theorem I46_5 : fieldI Tryz.prog 46 5 = some (30, 44) := by kernel_rfl
theorem T44 : tyI Tryz.prog 44 = some (false, 1) := by kernel_rfl
abbrev Y83 : Ty ((List Int) × (List Int)) := (Ty.prod (Ty.arr .u64 4) (Ty.arr .u64 4))
abbrev L71 : Type := (List Int) × Int × (List Int) × (List Int) × (List ((List Int) × (List Int)))
abbrev Y71 : Ty L71 := (Ty.prod (Ty.arr .u8 20) (Ty.prod (Ty.int .u64) (Ty.prod (Ty.arr .u64 4) (Ty.prod (Ty.slice (Ty.int .u8)) (Ty.slice Y83)))))
theorem P75 : ∀ w : World, ((match Tryz.prog.underlying 75 with | some (.struct fs) => fs | _ => (#[] : Array Field)).mapM fun (f : Field) => (do pure (f.offset, ← Go.sizeOf f.type) : Sem (Nat × Nat))).run Tryz.prog w = .ok #[(0, 1)] w := fun _ => by kernel_rfl
theorem Z75 : zeroI Tryz.prog 75 = some (D.val (.agg [.one (.slice none 0 0)])) := by kernel_rfl
abbrev L110 : Type := L71 × L71 × Bool × Nat × Bool × Bool × Nat
abbrev YE110 (M1 M2 : List Nat) : Ty (L110) := (Ty.prod Y71 (Ty.prod Y71 (Ty.prod Ty.bool (Ty.prod (Ty.mid M1) (Ty.prod Ty.bool (Ty.prod Ty.bool (Ty.mid M2)))))))
theorem YS110_0 (M1 M2 : List Nat) (g : Nat) : SubT (YE110 M1 M2) (YE110 (M1 ++ [g]) M2) := (subT_prod (SubT.refl _) (subT_prod (SubT.refl _) (subT_prod (SubT.refl _) (subT_prod (subT_mid M1 g) (subT_prod (SubT.refl _) (subT_prod (SubT.refl _) (SubT.refl _)))))))
theorem YS110_1 (M1 M2 : List Nat) (g : Nat) : SubT (YE110 M1 M2) (YE110 M1 (M2 ++ [g])) := (subT_prod (SubT.refl _) (subT_prod (SubT.refl _) (subT_prod (SubT.refl _) (subT_prod (SubT.refl _) (subT_prod (SubT.refl _) (subT_prod (SubT.refl _) (subT_mid M2 g)))))))
abbrev L100 : Type := (List Int) × (List (List Int)) × (List Int)
abbrev Y100 : Ty L100 := (Ty.prod (Ty.arr .u8 20) (Ty.prod (Ty.slice (Ty.arr .u64 4)) (Ty.slice (Ty.int .u8))))
inductive Clo where
  | nil
  | c69 (x0 : Option Nat)
  | c70 (x0 : Option Nat) (x1 : List Int)
  | c72 (x0 : Bool) (x1 : List Int) (x2 : Nat) (x3 : List Int)
  | c73 (x0 : Int) (x1 : Option Nat)
  | c75 (x0 : List Int) (x1 : Option Nat)
  | c76 (x0 : List Int) (x1 : Option Nat)
  | c77 (x0 : Bool) (x1 : Nat) (x2 : Option Nat)
  | c83 (x0 : Int) (x1 : Unit)
  | c84 (x0 : Unit) (x1 : Int)
  | c85 (x0 : Bool) (x1 : Option Nat)
instance : Inhabited Clo := ⟨.nil⟩
def cA (c : List Addr) (i : Nat) : Addr := c.getD i ⟨0, 0, none⟩
def cloV : Clo → List Addr → Value
  | .nil, _ => .nilFunc
  | .c69 _, c => .func (.func 69) #[] #[.pointer (some (cA c 0))]
  | .c70 _ _, c => .func (.func 70) #[] #[.pointer (some (cA c 0)), .pointer (some (cA c 1))]
  | .c72 _ _ _ _, c => .func (.func 72) #[] #[.pointer (some (cA c 0)), .pointer (some (cA c 1)), .pointer (some (cA c 2)), .pointer (some (cA c 3))]
  | .c73 _ _, c => .func (.func 73) #[] #[.pointer (some (cA c 0)), .pointer (some (cA c 1))]
  | .c75 _ _, c => .func (.func 75) #[] #[.pointer (some (cA c 0)), .pointer (some (cA c 1))]
  | .c76 _ _, c => .func (.func 76) #[] #[.pointer (some (cA c 0)), .pointer (some (cA c 1))]
  | .c77 _ _ _, c => .func (.func 77) #[] #[.pointer (some (cA c 0)), .pointer (some (cA c 1)), .pointer (some (cA c 2))]
  | .c83 _ _, c => .func (.func 83) #[] #[.pointer (some (cA c 0)), .pointer (some (cA c 1))]
  | .c84 _ _, c => .func (.func 84) #[] #[.pointer (some (cA c 0)), .pointer (some (cA c 1))]
  | .c85 _ _, c => .func (.func 85) #[] #[.pointer (some (cA c 0)), .pointer (some (cA c 1))]
def cloR (gs : Nat) (G M1 M2 : List Nat) : Clo → List Addr → Mem → Prop
  | .nil, _ => fun _ => True
  | .c69 x0, c => fun m => At (Ty.pid G) (cA c 0) x0 m ∧ True
  | .c70 x0 x1, c => fun m => At (Ty.pid G) (cA c 0) x0 m ∧ At (Ty.arr .u64 4) (cA c 1) x1 m ∧ True
  | .c72 x0 x1 x2 x3, c => fun m => At Ty.bool (cA c 0) x0 m ∧ At (Ty.arr .u64 4) (cA c 1) x1 m ∧ At (Ty.mid M1) (cA c 2) x2 m ∧ At (Ty.arr .u64 4) (cA c 3) x3 m ∧ True
  | .c73 x0 x1, c => fun m => At (Ty.int .u64) (cA c 0) x0 m ∧ At (Ty.pid G) (cA c 1) x1 m ∧ True
  | .c75 x0 x1, c => fun m => At (Ty.arr .u64 4) (cA c 0) x0 m ∧ At (Ty.pid G) (cA c 1) x1 m ∧ True
  | .c76 x0 x1, c => fun m => At (Ty.slice (Ty.int .u8)) (cA c 0) x0 m ∧ At (Ty.pid G) (cA c 1) x1 m ∧ True
  | .c77 x0 x1 x2, c => fun m => At Ty.bool (cA c 0) x0 m ∧ At (Ty.mid M1) (cA c 1) x1 m ∧ At (Ty.pid G) (cA c 2) x2 m ∧ True
  | .c83 x0 x1, c => fun m => At (Ty.int .i64) (cA c 0) x0 m ∧ At (Ty.own gs) (cA c 1) x1 m ∧ True
  | .c84 x0 x1, c => fun m => At (Ty.own gs) (cA c 0) x0 m ∧ At (Ty.int .i64) (cA c 1) x1 m ∧ True
  | .c85 x0 x1, c => fun m => At Ty.bool (cA c 0) x0 m ∧ At (Ty.pid G) (cA c 1) x1 m ∧ True
theorem cloM (gs : Nat) (G M1 M2 : List Nat) : ∀ (x : Clo) (c : List Addr), Mono (cloR gs G M1 M2 x c)
  | .nil, _ => fun _ _ _ _ => trivial
  | .c69 _, c => fun m m' hm h => ⟨At.mono _ _ _ m m' hm h.1, trivial⟩
  | .c70 _ _, c => fun m m' hm h => ⟨At.mono _ _ _ m m' hm h.1, At.mono _ _ _ m m' hm h.2.1, trivial⟩
  | .c72 _ _ _ _, c => fun m m' hm h => ⟨At.mono _ _ _ m m' hm h.1, At.mono _ _ _ m m' hm h.2.1, At.mono _ _ _ m m' hm h.2.2.1, At.mono _ _ _ m m' hm h.2.2.2.1, trivial⟩
  | .c73 _ _, c => fun m m' hm h => ⟨At.mono _ _ _ m m' hm h.1, At.mono _ _ _ m m' hm h.2.1, trivial⟩
  | .c75 _ _, c => fun m m' hm h => ⟨At.mono _ _ _ m m' hm h.1, At.mono _ _ _ m m' hm h.2.1, trivial⟩
  | .c76 _ _, c => fun m m' hm h => ⟨At.mono _ _ _ m m' hm h.1, At.mono _ _ _ m m' hm h.2.1, trivial⟩
  | .c77 _ _ _, c => fun m m' hm h => ⟨At.mono _ _ _ m m' hm h.1, At.mono _ _ _ m m' hm h.2.1, At.mono _ _ _ m m' hm h.2.2.1, trivial⟩
  | .c83 _ _, c => fun m m' hm h => ⟨At.mono _ _ _ m m' hm h.1, At.mono _ _ _ m m' hm h.2.1, trivial⟩
  | .c84 _ _, c => fun m m' hm h => ⟨At.mono _ _ _ m m' hm h.1, At.mono _ _ _ m m' hm h.2.1, trivial⟩
  | .c85 _ _, c => fun m m' hm h => ⟨At.mono _ _ _ m m' hm h.1, At.mono _ _ _ m m' hm h.2.1, trivial⟩
abbrev YC (gs : Nat) (G M1 M2 : List Nat) : Ty Clo := Ty.fnc cloV (cloR gs G M1 M2)
theorem cloS_0 (gs : Nat) (G M1 M2 : List Nat) (g : Nat) : ∀ (x : Clo) (c : List Addr) (m : Mem), cloR gs G M1 M2 x c m → cloR gs (G ++ [g]) M1 M2 x c m
  | .nil, _, _, _ => trivial
  | .c69 _, c, m, h => ⟨(at_sub (subT_pid _ g) h.1), trivial⟩
  | .c70 _ _, c, m, h => ⟨(at_sub (subT_pid _ g) h.1), h.2.1, trivial⟩
  | .c72 _ _ _ _, c, m, h => ⟨h.1, h.2.1, h.2.2.1, h.2.2.2.1, trivial⟩
  | .c73 _ _, c, m, h => ⟨h.1, (at_sub (subT_pid _ g) h.2.1), trivial⟩
  | .c75 _ _, c, m, h => ⟨h.1, (at_sub (subT_pid _ g) h.2.1), trivial⟩
  | .c76 _ _, c, m, h => ⟨h.1, (at_sub (subT_pid _ g) h.2.1), trivial⟩
  | .c77 _ _ _, c, m, h => ⟨h.1, h.2.1, (at_sub (subT_pid _ g) h.2.2.1), trivial⟩
  | .c83 _ _, c, m, h => ⟨h.1, h.2.1, trivial⟩
  | .c84 _ _, c, m, h => ⟨h.1, h.2.1, trivial⟩
  | .c85 _ _, c, m, h => ⟨h.1, (at_sub (subT_pid _ g) h.2.1), trivial⟩
theorem YCs_0 (gs : Nat) (G M1 M2 : List Nat) (g : Nat) : SubT (YC gs G M1 M2) (YC gs (G ++ [g]) M1 M2) := subT_fnc (cloS_0 gs G M1 M2 g) (cloM _ _ _ _)
theorem cloS_1 (gs : Nat) (G M1 M2 : List Nat) (g : Nat) : ∀ (x : Clo) (c : List Addr) (m : Mem), cloR gs G M1 M2 x c m → cloR gs G (M1 ++ [g]) M2 x c m
  | .nil, _, _, _ => trivial
  | .c69 _, c, m, h => ⟨h.1, trivial⟩
  | .c70 _ _, c, m, h => ⟨h.1, h.2.1, trivial⟩
  | .c72 _ _ _ _, c, m, h => ⟨h.1, h.2.1, (at_sub (subT_mid _ g) h.2.2.1), h.2.2.2.1, trivial⟩
  | .c73 _ _, c, m, h => ⟨h.1, h.2.1, trivial⟩
  | .c75 _ _, c, m, h => ⟨h.1, h.2.1, trivial⟩
  | .c76 _ _, c, m, h => ⟨h.1, h.2.1, trivial⟩
  | .c77 _ _ _, c, m, h => ⟨h.1, (at_sub (subT_mid _ g) h.2.1), h.2.2.1, trivial⟩
  | .c83 _ _, c, m, h => ⟨h.1, h.2.1, trivial⟩
  | .c84 _ _, c, m, h => ⟨h.1, h.2.1, trivial⟩
  | .c85 _ _, c, m, h => ⟨h.1, h.2.1, trivial⟩
theorem YCs_1 (gs : Nat) (G M1 M2 : List Nat) (g : Nat) : SubT (YC gs G M1 M2) (YC gs G (M1 ++ [g]) M2) := subT_fnc (cloS_1 gs G M1 M2 g) (cloM _ _ _ _)
theorem cloS_2 (gs : Nat) (G M1 M2 : List Nat) (g : Nat) : ∀ (x : Clo) (c : List Addr) (m : Mem), cloR gs G M1 M2 x c m → cloR gs G M1 (M2 ++ [g]) x c m
  | .nil, _, _, _ => trivial
  | .c69 _, c, m, h => ⟨h.1, trivial⟩
  | .c70 _ _, c, m, h => ⟨h.1, h.2.1, trivial⟩
  | .c72 _ _ _ _, c, m, h => ⟨h.1, h.2.1, h.2.2.1, h.2.2.2.1, trivial⟩
  | .c73 _ _, c, m, h => ⟨h.1, h.2.1, trivial⟩
  | .c75 _ _, c, m, h => ⟨h.1, h.2.1, trivial⟩
  | .c76 _ _, c, m, h => ⟨h.1, h.2.1, trivial⟩
  | .c77 _ _ _, c, m, h => ⟨h.1, h.2.1, h.2.2.1, trivial⟩
  | .c83 _ _, c, m, h => ⟨h.1, h.2.1, trivial⟩
  | .c84 _ _, c, m, h => ⟨h.1, h.2.1, trivial⟩
  | .c85 _ _, c, m, h => ⟨h.1, h.2.1, trivial⟩
theorem YCs_2 (gs : Nat) (G M1 M2 : List Nat) (g : Nat) : SubT (YC gs G M1 M2) (YC gs G M1 (M2 ++ [g])) := subT_fnc (cloS_2 gs G M1 M2 g) (cloM _ _ _ _)
theorem P79 : ∀ w : World, ((match Tryz.prog.underlying 79 with | some (.struct fs) => fs | _ => (#[] : Array Field)).mapM fun (f : Field) => (do pure (f.offset, ← Go.sizeOf f.type) : Sem (Nat × Nat))).run Tryz.prog w = .ok #[(0, 1), (1, 1), (2, 1), (3, 1), (4, 1), (5, 1)] w := fun _ => by kernel_rfl
theorem Z79 : zeroI Tryz.prog 79 = some (D.val (.agg [.one .nilIface, .one (.map none), .one (.int .i64 0), .one (.slice none 0 0), .one (.slice none 0 0), .one (.slice none 0 0)])) := by kernel_rfl
abbrev W1 : Type := ((List L71)) × ((List ((List Int) × Option Nat)) × (List L110) × (List (List ((List Int) × (List Int)))) × (List (List ((List Int) × Bool)))) × Int × (List L100) × (List Clo) × (List (List Int))
abbrev W2 : Type := Nat × (Option Addr) × Nat × Nat × (List Nat) × (List Nat) × (List Nat) × (Option Addr) × Nat × Nat × (Option Addr) × Nat × Nat × (Option Addr) × Nat × Nat
theorem N9 : Fn_ Tryz.prog 9 := ⟨_, Tryz.func9, rfl, by decide⟩
theorem T40 : tyI Tryz.prog 40 = some (true, 20) := by kernel_rfl
theorem I79_1 : fieldI Tryz.prog 79 1 = some (1, 76) := by kernel_rfl
theorem T76 : tyI Tryz.prog 76 = some (false, 1) := by kernel_rfl
theorem T5 : tyI Tryz.prog 5 = some (false, 1) := by kernel_rfl
theorem KT40 : KeyT Tryz.prog 40 true (Ty.arr .u8 20) := keyT_arr Tryz.underlying40 Tryz.underlying5 T5 T40
theorem Z111 : zeroI Tryz.prog 111 = some (D.val (.v (.pointer none))) := by kernel_rfl
theorem I79_0 : fieldI Tryz.prog 79 0 = some (0, 29) := by kernel_rfl
theorem T29 : tyI Tryz.prog 29 = some (false, 1) := by kernel_rfl
theorem Z71 : zeroI Tryz.prog 71 = some (D.val (.agg [.ints .u8 [0, 0, 0, 0, 0, 0, 0, 0, 0, 0, 0, 0, 0, 0, 0, 0, 0, 0, 0, 0] 20, .one (.int .u64 0), .ints .u64 [0, 0, 0, 0] 4, .one (.slice none 0 0), .one (.slice none 0 0)])) := by kernel_rfl
theorem I75_0 : fieldI Tryz.prog 75 0 = some (0, 22) := by kernel_rfl
theorem T22 : tyI Tryz.prog 22 = some (false, 1) := by kernel_rfl
theorem T71 : tyI Tryz.prog 71 = some (true, 27) := by kernel_rfl
theorem I71_0 : fieldI Tryz.prog 71 0 = some (0, 40) := by kernel_rfl
theorem Q40 : Tryz.prog.eqGuardType Tryz.prog.depth 40 = false := by kernel_rfl
theorem P71 : ∀ w : World, ((match Tryz.prog.underlying 71 with | some (.struct fs) => fs | _ => (#[] : Array Field)).mapM fun (f : Field) => (do pure (f.offset, ← Go.sizeOf f.type) : Sem (Nat × Nat))).run Tryz.prog w = .ok #[(0, 20), (20, 1), (21, 4), (25, 1), (26, 1)] w := fun _ => by kernel_rfl
abbrev W3 : Type := ((List Int) × Int × (List Int) × (List Int) × (List ((List Int) × (List Int)))) × Bool
abbrev W4 : Type := (Option Addr) × Nat × (Option Addr) × Nat
theorem N146 : Fn_ Tryz.prog 146 := ⟨_, Tryz.func146, rfl, by decide⟩
theorem M75_Account : methI Tryz.prog 75 "Account" = some 146 := by kernel_rfl
theorem I79_5 : fieldI Tryz.prog 79 5 = some (5, 32) := by kernel_rfl
theorem T32 : tyI Tryz.prog 32 = some (false, 1) := by kernel_rfl
theorem J40 : appI Tryz.prog 40 = some (20, 20) := by kernel_rfl
theorem Z40 : zeroI Tryz.prog 40 = some (D.val (.agg [.ints .u8 [0, 0, 0, 0, 0, 0, 0, 0, 0, 0, 0, 0, 0, 0, 0, 0, 0, 0, 0, 0] 20])) := by kernel_rfl
theorem P110 : ∀ w : World, ((match Tryz.prog.underlying 110 with | some (.struct fs) => fs | _ => (#[] : Array Field)).mapM fun (f : Field) => (do pure (f.offset, ← Go.sizeOf f.type) : Sem (Nat × Nat))).run Tryz.prog w = .ok #[(0, 27), (27, 27), (54, 1), (55, 1), (56, 1), (57, 1), (58, 1)] w := fun _ => by kernel_rfl
theorem Z110 : zeroI Tryz.prog 110 = some (D.val (.agg [.ints .u8 [0, 0, 0, 0, 0, 0, 0, 0, 0, 0, 0, 0, 0, 0, 0, 0, 0, 0, 0, 0] 20, .one (.int .u64 0), .ints .u64 [0, 0, 0, 0] 4, .one (.slice none 0 0), .one (.slice none 0 0), .ints .u8 [0, 0, 0, 0, 0, 0, 0, 0, 0, 0, 0, 0, 0, 0, 0, 0, 0, 0, 0, 0] 20, .one (.int .u64 0), .ints .u64 [0, 0, 0, 0] 4, .one (.slice none 0 0), .one (.slice none 0 0), .one (.bool false), .one (.map none), .one (.bool false), .one (.bool false), .one (.map none)])) := by kernel_rfl
abbrev W5 : Type := (Option Nat) × (Unit × ((List ((List Int) × Option Nat)) × (List L110) × (List (List ((List Int) × (List Int)))) × (List (List ((List Int) × Bool)))) × Unit × (List L100) × (List Clo) × (List (List Int)))
abbrev W6 : Type := Nat × (List Nat) × (List Nat) × (List Nat) × (Option Addr) × Nat × Nat × (Option Addr) × Nat × Nat × (Option Addr) × Nat × Nat
abbrev W7 : Type := List ((List Int) × (List Int))
theorem N56 : Fn_ Tryz.prog 56 := ⟨_, Tryz.func56, rfl, by decide⟩
theorem I110_3 : fieldI Tryz.prog 110 3 = some (55, 107) := by kernel_rfl
theorem T107 : tyI Tryz.prog 107 = some (false, 1) := by kernel_rfl
theorem Z107 : zeroI Tryz.prog 107 = some (D.val (.v (.map none))) := by kernel_rfl
theorem T43 : tyI Tryz.prog 43 = some (true, 4) := by kernel_rfl
theorem T41 : tyI Tryz.prog 41 = some (false, 1) := by kernel_rfl
theorem KT43 : KeyT Tryz.prog 43 true (Ty.arr .u64 4) := keyT_arr Tryz.underlying43 Tryz.underlying41 T41 T43
theorem Z43 : zeroI Tryz.prog 43 = some (D.val (.agg [.ints .u64 [0, 0, 0, 0] 4])) := by kernel_rfl
theorem Z4 : zeroI Tryz.prog 4 = some (D.val (.v (.bool false))) := by kernel_rfl
theorem T4 : tyI Tryz.prog 4 = some (false, 1) := by kernel_rfl
theorem I79_4 : fieldI Tryz.prog 79 4 = some (4, 77) := by kernel_rfl
theorem T77 : tyI Tryz.prog 77 = some (false, 1) := by kernel_rfl
theorem J1 : appI Tryz.prog 1 = some (1, 8) := by kernel_rfl
theorem Z1 : zeroI Tryz.prog 1 = some (D.val (.v .nilFunc)) := by kernel_rfl
abbrev W8 : Type := Unit × Unit × Unit × Unit × (List Clo) × Unit
theorem N68 : Fn_ Tryz.prog 68 := ⟨_, Tryz.func68, rfl, by decide⟩
abbrev W9 : Type := Unit × ((List ((List Int) × Option Nat)) × (List L110) × (List (List ((List Int) × (List Int)))) × (List (List ((List Int) × Bool)))) × Unit × (List L100) × (List Clo) × (List (List Int))
theorem N32 : Fn_ Tryz.prog 32 := ⟨_, Tryz.func32, rfl, by decide⟩
theorem N13 : Fn_ Tryz.prog 13 := ⟨_, Tryz.func13, rfl, by decide⟩
theorem T1 : tyI Tryz.prog 1 = some (false, 1) := by kernel_rfl
theorem T111 : tyI Tryz.prog 111 = some (false, 1) := by kernel_rfl
theorem I110_5 : fieldI Tryz.prog 110 5 = some (57, 4) := by kernel_rfl
abbrev W10 : Type := Unit × ((List ((List Int) × Option Nat)) × (List L110) × (List (List ((List Int) × (List Int)))) × (List (List ((List Int) × Bool)))) × Unit × Unit × Unit × Unit
abbrev W11 : Type := Nat × (List Nat) × (List Nat) × (List Nat)
theorem I110_6 : fieldI Tryz.prog 110 6 = some (58, 108) := by kernel_rfl
theorem T108 : tyI Tryz.prog 108 = some (false, 1) := by kernel_rfl
theorem I110_1 : fieldI Tryz.prog 110 1 = some (27, 71) := by kernel_rfl
theorem I71_1 : fieldI Tryz.prog 71 1 = some (20, 41) := by kernel_rfl
theorem I71_2 : fieldI Tryz.prog 71 2 = some (21, 43) := by kernel_rfl
theorem I71_3 : fieldI Tryz.prog 71 3 = some (25, 44) := by kernel_rfl
theorem I110_2 : fieldI Tryz.prog 110 2 = some (54, 4) := by kernel_rfl
theorem T26 : tyI Tryz.prog 26 = some (false, 1) := by kernel_rfl
theorem T2 : tyI Tryz.prog 2 = some (false, 1) := by kernel_rfl
theorem I79_2 : fieldI Tryz.prog 79 2 = some (2, 2) := by kernel_rfl
abbrev W12 : Type := Unit × Unit × Int × Unit × Unit × Unit
theorem I79_3 : fieldI Tryz.prog 79 3 = some (3, 34) := by kernel_rfl
theorem T34 : tyI Tryz.prog 34 = some (false, 1) := by kernel_rfl
theorem T3 : tyI Tryz.prog 3 = some (false, 1) := by kernel_rfl
theorem T100 : tyI Tryz.prog 100 = some (true, 22) := by kernel_rfl
abbrev W13 : Type := Unit × Unit × Unit × (List L100) × Unit × Unit
theorem I110_4 : fieldI Tryz.prog 110 4 = some (56, 4) := by kernel_rfl
abbrev W14 : Type := (Option Addr) × Nat × Nat × (List Nat) × (List Nat) × (List Nat) × (Option Addr) × Nat × Nat × (Option Addr) × Nat × Nat × (Option Addr) × Nat × Nat
theorem N69 : Fn_ Tryz.prog 69 := ⟨_, Tryz.func69, rfl, by decide⟩
theorem N70 : Fn_ Tryz.prog 70 := ⟨_, Tryz.func70, rfl, by decide⟩
theorem N72 : Fn_ Tryz.prog 72 := ⟨_, Tryz.func72, rfl, by decide⟩
theorem N73 : Fn_ Tryz.prog 73 := ⟨_, Tryz.func73, rfl, by decide⟩
theorem N75 : Fn_ Tryz.prog 75 := ⟨_, Tryz.func75, rfl, by decide⟩
theorem N76 : Fn_ Tryz.prog 76 := ⟨_, Tryz.func76, rfl, by decide⟩
theorem N77 : Fn_ Tryz.prog 77 := ⟨_, Tryz.func77, rfl, by decide⟩
theorem N83 : Fn_ Tryz.prog 83 := ⟨_, Tryz.func83, rfl, by decide⟩
theorem N84 : Fn_ Tryz.prog 84 := ⟨_, Tryz.func84, rfl, by decide⟩
theorem N85 : Fn_ Tryz.prog 85 := ⟨_, Tryz.func85, rfl, by decide⟩
abbrev W15 : Type := List ((List Int) × Option Nat)
abbrev W16 : Type := List (List ((List Int) × (List Int)))
abbrev W17 : Type := List (List ((List Int) × Bool))
theorem N14 : Fn_ Tryz.prog 14 := ⟨_, Tryz.func14, rfl, by decide⟩
theorem I110_0 : fieldI Tryz.prog 110 0 = some (0, 71) := by kernel_rfl
theorem I71_4 : fieldI Tryz.prog 71 4 = some (26, 69) := by kernel_rfl
theorem T69 : tyI Tryz.prog 69 = some (false, 1) := by kernel_rfl
theorem T83 : tyI Tryz.prog 83 = some (true, 8) := by kernel_rfl
theorem I83_0 : fieldI Tryz.prog 83 0 = some (0, 43) := by kernel_rfl
theorem Q43 : Tryz.prog.eqGuardType Tryz.prog.depth 43 = false := by kernel_rfl
theorem N91 : Fn_ Tryz.prog 91 := ⟨_, Tryz.func91, rfl, by decide⟩
theorem N90 : Fn_ Tryz.prog 90 := ⟨_, Tryz.func90, rfl, by decide⟩
theorem N89 : Fn_ Tryz.prog 89 := ⟨_, Tryz.func89, rfl, by decide⟩
theorem I83_1 : fieldI Tryz.prog 83 1 = some (4, 43) := by kernel_rfl
abbrev W18 : Type := (List Int) × Int × (List Int) × (List Int) × (List ((List Int) × (List Int)))
theorem N57 : Fn_ Tryz.prog 57 := ⟨_, Tryz.func57, rfl, by decide⟩
abbrev W19 : Type := (List Int) × (Unit × ((List ((List Int) × Option Nat)) × (List L110) × (List (List ((List Int) × (List Int)))) × (List (List ((List Int) × Bool)))) × Unit × (List L100) × (List Clo) × (List (List Int)))
theorem N22 : Fn_ Tryz.prog 22 := ⟨_, Tryz.func22, rfl, by decide⟩
theorem N21 : Fn_ Tryz.prog 21 := ⟨_, Tryz.func21, rfl, by decide⟩
abbrev L46 : Type := Int × (List Int) × (List Int) × (List Int) × Int × (List Int)
abbrev Y46 : Ty L46 := (Ty.prod (Ty.int .i64) (Ty.prod (Ty.arr .u8 20) (Ty.prod (Ty.arr .u64 4) (Ty.prod (Ty.arr .u64 4) (Ty.prod (Ty.int .u64) (Ty.slice (Ty.int .u8)))))))
theorem N8 : Fn_ Tryz.prog 8 := ⟨_, Tryz.func8, rfl, by decide⟩
abbrev Y122 : Ty (L71 × Bool × Bool) := (Ty.prod Y71 (Ty.prod Ty.bool Ty.bool))
abbrev Y133 : Ty ((List Int) × (List Int)) := (Ty.prod (Ty.arr .u8 20) (Ty.arr .u64 4))
inductive ST37 where
  | mk (u : (List ((List Int) × Int × (List Int) × (List Int) × (List ((List Int) × (List Int))))) × (List (((List Int) × Int × (List Int) × (List Int) × (List ((List Int) × (List Int)))) × Bool × Bool)) × (List (List Int)) × (List ((List Int) × (List Int))) × Int × (List ((List Int) × (List (List Int)) × (List Int))) × Bool × (List ST37))
def ST37.un : ST37 → (List ((List Int) × Int × (List Int) × (List Int) × (List ((List Int) × (List Int))))) × (List (((List Int) × Int × (List Int) × (List Int) × (List ((List Int) × (List Int)))) × Bool × Bool)) × (List (List Int)) × (List ((List Int) × (List Int))) × Int × (List ((List Int) × (List (List Int)) × (List Int))) × Bool × (List ST37)
  | .mk u => u
instance : Inhabited ST37 := ⟨.mk default⟩
abbrev SU37 (T : Ty (List ST37)) : Ty ((List ((List Int) × Int × (List Int) × (List Int) × (List ((List Int) × (List Int))))) × (List (((List Int) × Int × (List Int) × (List Int) × (List ((List Int) × (List Int)))) × Bool × Bool)) × (List (List Int)) × (List ((List Int) × (List Int))) × Int × (List ((List Int) × (List (List Int)) × (List Int))) × Bool × (List ST37)) := (Ty.prod (Ty.slice (Ty.prod (Ty.arr .u8 20) (Ty.prod (Ty.int .u64) (Ty.prod (Ty.arr .u64 4) (Ty.prod (Ty.slice (Ty.int .u8)) (Ty.slice (Ty.prod (Ty.arr .u64 4) (Ty.arr .u64 4)))))))) (Ty.prod (Ty.slice (Ty.prod (Ty.prod (Ty.arr .u8 20) (Ty.prod (Ty.int .u64) (Ty.prod (Ty.arr .u64 4) (Ty.prod (Ty.slice (Ty.int .u8)) (Ty.slice (Ty.prod (Ty.arr .u64 4) (Ty.arr .u64 4))))))) (Ty.prod Ty.bool Ty.bool))) (Ty.prod (Ty.slice (Ty.arr .u8 20)) (Ty.prod (Ty.slice (Ty.prod (Ty.arr .u8 20) (Ty.arr .u64 4))) (Ty.prod (Ty.int .i64) (Ty.prod (Ty.slice (Ty.prod (Ty.arr .u8 20) (Ty.prod (Ty.slice (Ty.arr .u64 4)) (Ty.slice (Ty.int .u8))))) (Ty.prod Ty.bool T)))))))
theorem SH37 : ∀ T T' : Ty (List ST37), SubT T T' → SubT (SU37 T) (SU37 T') := fun _ _ h => (subT_prod (SubT.refl _) (subT_prod (SubT.refl _) (subT_prod (SubT.refl _) (subT_prod (SubT.refl _) (subT_prod (SubT.refl _) (subT_prod (SubT.refl _) (subT_prod (SubT.refl _) h)))))))
def SR37 : Option Addr → List ST37 → Mem → Prop := RS ST37.un SU37
abbrev SY37 : Ty ST37 := Ty.iso ST37.un (SU37 (Ty.slR SR37))
theorem SE37 (A : Option Addr) (xs : List ST37) : SR37 A xs = RdS SY37 A xs := congrFun (congrFun (RS.eq SH37) A) xs
theorem SM37 (A : Option Addr) (xs : List ST37) : Mono (SR37 A xs) := RS.mono _ _ _ _
theorem SD37 {A : Option Addr} {xs : List ST37} {m : Mem} (h : SR37 A xs m) : RdS SY37 A xs m := (congrFun (SE37 A xs) m).mp h
theorem SN37 {m : Mem} : Seg.ok m (Seg.sl none ([] : List ST37).length 0 (SR37 none ([] : List ST37))) := ⟨Nat.le_refl _, Nat.zero_le _, by rw [SE37]; exact RdS.nil _ _ _, SM37 _ _⟩
theorem P37 : ∀ w : World, ((match Tryz.prog.underlying 37 with | some (.struct fs) => fs | _ => (#[] : Array Field)).mapM fun (f : Field) => (do pure (f.offset, ← Go.sizeOf f.type) : Sem (Nat × Nat))).run Tryz.prog w = .ok #[(0, 1), (1, 1), (2, 1), (3, 1), (4, 1), (5, 1), (6, 1), (7, 1)] w := fun _ => by kernel_rfl
theorem Z37 : zeroI Tryz.prog 37 = some (D.val (.agg [.one (.slice none 0 0), .one (.slice none 0 0), .one (.slice none 0 0), .one (.slice none 0 0), .one (.int .i64 0), .one (.slice none 0 0), .one (.bool false), .one (.slice none 0 0)])) := by kernel_rfl
theorem T46 : tyI Tryz.prog 46 = some (true, 31) := by kernel_rfl
theorem I46_0 : fieldI Tryz.prog 46 0 = some (0, 3) := by kernel_rfl
theorem I46_1 : fieldI Tryz.prog 46 1 = some (1, 40) := by kernel_rfl
theorem I46_4 : fieldI Tryz.prog 46 4 = some (29, 41) := by kernel_rfl
theorem N35 : Fn_ Tryz.prog 35 := ⟨_, Tryz.func35, rfl, by decide⟩
theorem T37 : tyI Tryz.prog 37 = some (true, 8) := by kernel_rfl
theorem Z122 : zeroI Tryz.prog 122 = some (D.val (.agg [.ints .u8 [0, 0, 0, 0, 0, 0, 0, 0, 0, 0, 0, 0, 0, 0, 0, 0, 0, 0, 0, 0] 20, .one (.int .u64 0), .ints .u64 [0, 0, 0, 0] 4, .one (.slice none 0 0), .one (.slice none 0 0), .one (.bool false), .one (.bool false)])) := by kernel_rfl
theorem I37_1 : fieldI Tryz.prog 37 1 = some (1, 31) := by kernel_rfl
theorem T31 : tyI Tryz.prog 31 = some (false, 1) := by kernel_rfl
theorem T122 : tyI Tryz.prog 122 = some (true, 29) := by kernel_rfl
theorem I122_0 : fieldI Tryz.prog 122 0 = some (0, 71) := by kernel_rfl
theorem I37_0 : fieldI Tryz.prog 37 0 = some (0, 22) := by kernel_rfl
theorem N87 : Fn_ Tryz.prog 87 := ⟨_, Tryz.func87, rfl, by decide⟩
theorem P122 : ∀ w : World, ((match Tryz.prog.underlying 122 with | some (.struct fs) => fs | _ => (#[] : Array Field)).mapM fun (f : Field) => (do pure (f.offset, ← Go.sizeOf f.type) : Sem (Nat × Nat))).run Tryz.prog w = .ok #[(0, 27), (27, 1), (28, 1)] w := fun _ => by kernel_rfl
abbrev W20 : Type := ((List Int) × Int × (List Int) × (List Int) × (List ((List Int) × (List Int)))) × Bool × Bool
theorem N64 : Fn_ Tryz.prog 64 := ⟨_, Tryz.func64, rfl, by decide⟩
theorem I37_6 : fieldI Tryz.prog 37 6 = some (6, 4) := by kernel_rfl
theorem J37 : appI Tryz.prog 37 = some (8, 160) := by kernel_rfl
theorem I37_7 : fieldI Tryz.prog 37 7 = some (7, 35) := by kernel_rfl
theorem T35 : tyI Tryz.prog 35 = some (false, 1) := by kernel_rfl
abbrev W21 : Type := (Option Addr × Nat) × (Option Addr × Nat) × (Option Addr × Nat) × (Option Addr × Nat) × Unit × (Option Addr × Nat) × Unit × (Option Addr × Nat)
theorem N81 : Fn_ Tryz.prog 81 := ⟨_, Tryz.func81, rfl, by decide⟩
theorem J122 : appI Tryz.prog 122 = some (29, 120) := by kernel_rfl
theorem N74 : Fn_ Tryz.prog 74 := ⟨_, Tryz.func74, rfl, by decide⟩
theorem N36 : Fn_ Tryz.prog 36 := ⟨_, Tryz.func36, rfl, by decide⟩
theorem I46_3 : fieldI Tryz.prog 46 3 = some (25, 43) := by kernel_rfl
theorem N37 : Fn_ Tryz.prog 37 := ⟨_, Tryz.func37, rfl, by decide⟩
theorem N38 : Fn_ Tryz.prog 38 := ⟨_, Tryz.func38, rfl, by decide⟩
theorem N39 : Fn_ Tryz.prog 39 := ⟨_, Tryz.func39, rfl, by decide⟩
theorem J5 : appI Tryz.prog 5 = some (1, 1) := by kernel_rfl
theorem Z5 : zeroI Tryz.prog 5 = some (D.val (.v (.int .u8 0))) := by kernel_rfl
theorem N40 : Fn_ Tryz.prog 40 := ⟨_, Tryz.func40, rfl, by decide⟩
theorem N41 : Fn_ Tryz.prog 41 := ⟨_, Tryz.func41, rfl, by decide⟩
theorem I122_1 : fieldI Tryz.prog 122 1 = some (27, 4) := by kernel_rfl
theorem J83 : appI Tryz.prog 83 = some (8, 64) := by kernel_rfl
theorem Z83 : zeroI Tryz.prog 83 = some (D.val (.agg [.ints .u64 [0, 0, 0, 0] 4, .ints .u64 [0, 0, 0, 0] 4])) := by kernel_rfl
theorem N42 : Fn_ Tryz.prog 42 := ⟨_, Tryz.func42, rfl, by decide⟩
theorem I46_2 : fieldI Tryz.prog 46 2 = some (21, 43) := by kernel_rfl
theorem Z129 : zeroI Tryz.prog 129 = some (D.val (.agg [.ints .i64 [0, 0, 0, 0, 0, 0, 0, 0, 0, 0, 0, 0, 0, 0, 0, 0, 0, 0, 0, 0, 0, 0, 0, 0, 0, 0, 0, 0, 0, 0, 0, 0] 32])) := by kernel_rfl
theorem T129 : tyI Tryz.prog 129 = some (true, 32) := by kernel_rfl
theorem N79 : Fn_ Tryz.prog 79 := ⟨_, Tryz.func79, rfl, by decide⟩
theorem N78 : Fn_ Tryz.prog 78 := ⟨_, Tryz.func78, rfl, by decide⟩
theorem P83 : ∀ w : World, ((match Tryz.prog.underlying 83 with | some (.struct fs) => fs | _ => (#[] : Array Field)).mapM fun (f : Field) => (do pure (f.offset, ← Go.sizeOf f.type) : Sem (Nat × Nat))).run Tryz.prog w = .ok #[(0, 4), (4, 4)] w := fun _ => by kernel_rfl
theorem N43 : Fn_ Tryz.prog 43 := ⟨_, Tryz.func43, rfl, by decide⟩
theorem I37_2 : fieldI Tryz.prog 37 2 = some (2, 32) := by kernel_rfl
theorem N80 : Fn_ Tryz.prog 80 := ⟨_, Tryz.func80, rfl, by decide⟩
theorem N44 : Fn_ Tryz.prog 44 := ⟨_, Tryz.func44, rfl, by decide⟩
theorem N28 : Fn_ Tryz.prog 28 := ⟨_, Tryz.func28, rfl, by decide⟩
theorem I37_3 : fieldI Tryz.prog 37 3 = some (3, 33) := by kernel_rfl
theorem T33 : tyI Tryz.prog 33 = some (false, 1) := by kernel_rfl
theorem T133 : tyI Tryz.prog 133 = some (true, 24) := by kernel_rfl
theorem I133_0 : fieldI Tryz.prog 133 0 = some (0, 40) := by kernel_rfl
theorem I133_1 : fieldI Tryz.prog 133 1 = some (20, 43) := by kernel_rfl
theorem N82 : Fn_ Tryz.prog 82 := ⟨_, Tryz.func82, rfl, by decide⟩
theorem J133 : appI Tryz.prog 133 = some (24, 56) := by kernel_rfl
theorem Z133 : zeroI Tryz.prog 133 = some (D.val (.agg [.ints .u8 [0, 0, 0, 0, 0, 0, 0, 0, 0, 0, 0, 0, 0, 0, 0, 0, 0, 0, 0, 0] 20, .ints .u64 [0, 0, 0, 0] 4])) := by kernel_rfl
theorem P133 : ∀ w : World, ((match Tryz.prog.underlying 133 with | some (.struct fs) => fs | _ => (#[] : Array Field)).mapM fun (f : Field) => (do pure (f.offset, ← Go.sizeOf f.type) : Sem (Nat × Nat))).run Tryz.prog w = .ok #[(0, 20), (20, 4)] w := fun _ => by kernel_rfl
theorem N45 : Fn_ Tryz.prog 45 := ⟨_, Tryz.func45, rfl, by decide⟩
theorem N29 : Fn_ Tryz.prog 29 := ⟨_, Tryz.func29, rfl, by decide⟩
theorem N46 : Fn_ Tryz.prog 46 := ⟨_, Tryz.func46, rfl, by decide⟩
theorem I37_4 : fieldI Tryz.prog 37 4 = some (4, 2) := by kernel_rfl
theorem N47 : Fn_ Tryz.prog 47 := ⟨_, Tryz.func47, rfl, by decide⟩
theorem J43 : appI Tryz.prog 43 = some (4, 32) := by kernel_rfl
theorem P100 : ∀ w : World, ((match Tryz.prog.underlying 100 with | some (.struct fs) => fs | _ => (#[] : Array Field)).mapM fun (f : Field) => (do pure (f.offset, ← Go.sizeOf f.type) : Sem (Nat × Nat))).run Tryz.prog w = .ok #[(0, 20), (20, 1), (21, 1)] w := fun _ => by kernel_rfl
theorem Z100 : zeroI Tryz.prog 100 = some (D.val (.agg [.ints .u8 [0, 0, 0, 0, 0, 0, 0, 0, 0, 0, 0, 0, 0, 0, 0, 0, 0, 0, 0, 0] 20, .one (.slice none 0 0), .one (.slice none 0 0)])) := by kernel_rfl
abbrev W22 : Type := (List Int) × (List (List Int)) × (List Int)
theorem N48 : Fn_ Tryz.prog 48 := ⟨_, Tryz.func48, rfl, by decide⟩
theorem J100 : appI Tryz.prog 100 = some (22, 72) := by kernel_rfl
theorem I37_5 : fieldI Tryz.prog 37 5 = some (5, 34) := by kernel_rfl
theorem N49 : Fn_ Tryz.prog 49 := ⟨_, Tryz.func49, rfl, by decide⟩
theorem N50 : Fn_ Tryz.prog 50 := ⟨_, Tryz.func50, rfl, by decide⟩
theorem I122_2 : fieldI Tryz.prog 122 2 = some (28, 4) := by kernel_rfl
theorem N51 : Fn_ Tryz.prog 51 := ⟨_, Tryz.func51, rfl, by decide⟩
theorem J103 : appI Tryz.prog 103 = some (2, 16) := by kernel_rfl
theorem Z103 : zeroI Tryz.prog 103 = some (D.val (.agg [.ints .i64 [0, 0] 2])) := by kernel_rfl
theorem T103 : tyI Tryz.prog 103 = some (true, 2) := by kernel_rfl
theorem N52 : Fn_ Tryz.prog 52 := ⟨_, Tryz.func52, rfl, by decide⟩
abbrev W23 : Type := Bool × ST37 × (List (List Int))
abbrev W24 : Type := ((Option Addr × Nat) × (Option Addr × Nat) × (Option Addr × Nat) × (Option Addr × Nat) × Unit × (Option Addr × Nat) × Unit × (Option Addr × Nat)) × (Option Addr) × Nat × Nat
abbrev W25 : Type := Int × (List Int) × (List Int) × (List Int) × Int × (List Int)
theorem N12 : Fn_ Tryz.prog 12 := ⟨_, Tryz.func12, rfl, by decide⟩
theorem N16 : Fn_ Tryz.prog 16 := ⟨_, Tryz.func16, rfl, by decide⟩
theorem N17 : Fn_ Tryz.prog 17 := ⟨_, Tryz.func17, rfl, by decide⟩
theorem N18 : Fn_ Tryz.prog 18 := ⟨_, Tryz.func18, rfl, by decide⟩
theorem N19 : Fn_ Tryz.prog 19 := ⟨_, Tryz.func19, rfl, by decide⟩
theorem N20 : Fn_ Tryz.prog 20 := ⟨_, Tryz.func20, rfl, by decide⟩
theorem N23 : Fn_ Tryz.prog 23 := ⟨_, Tryz.func23, rfl, by decide⟩
theorem N24 : Fn_ Tryz.prog 24 := ⟨_, Tryz.func24, rfl, by decide⟩
theorem N25 : Fn_ Tryz.prog 25 := ⟨_, Tryz.func25, rfl, by decide⟩
theorem N26 : Fn_ Tryz.prog 26 := ⟨_, Tryz.func26, rfl, by decide⟩
def Gd3 : Int → Prop := fun x => inK .i64 x
def Gd40 : (List Int) → Prop := fun xs => xs.length = 20 ∧ ∀ y ∈ xs, inK .u8 y
def Gd43 : (List Int) → Prop := fun xs => xs.length = 4 ∧ ∀ y ∈ xs, inK .u64 y
def Gd41 : Int → Prop := fun x => inK .u64 x
def Gd5 : Int → Prop := fun x => inK .u8 x
def Gd44 : (List Int) → Prop := fun xs => (∀ y ∈ xs, Gd5 y) ∧ xs.length ≤ maxLen
def Gd46 : L46 → Prop := fun y => Gd3 y.1 ∧ (Gd40 y.2.1 ∧ (Gd43 y.2.2.1 ∧ (Gd43 y.2.2.2.1 ∧ (Gd41 y.2.2.2.2.1 ∧ (Gd44 y.2.2.2.2.2)))))
abbrev state_New_0nil.Ty : Type := Option W1
def state_New_0nil.Ctr (s : state_New_0nil.Ty) : Prop := ∀ (r : W1) (h0 : s = some r) (mi : Mem) (w0 : World), okL mi [(.v .nilIface)] → Pre mi [] w0 → Calls Tryz.prog 9 (([(.v .nilIface)] : List D).map D.val).toArray w0 (RetX mi [] (fun (ch : W2) => ((.v (.pointer (some ⟨ch.1, 0, none⟩))) : D)) (fun (ch : W2) => [Res.cells ch.1 79 [.rf (.iface 75 (.agg (cellsOf [.sl ch.2.1 (r.1).length ch.2.2.1 (RdS Y71 ch.2.1 r.1)]).toArray)) (IfR [.sl ch.2.1 (r.1).length ch.2.2.1 (RdS Y71 ch.2.1 r.1)]), .one (.map (some ch.2.2.2.1)), .one (.int .i64 r.2.2.1), .one (.slice ch.2.2.2.2.2.2.2.1 ch.2.2.2.2.2.2.2.2.1 ch.2.2.2.2.2.2.2.2.2.1), .one (.slice ch.2.2.2.2.2.2.2.2.2.2.1 ch.2.2.2.2.2.2.2.2.2.2.2.1 ch.2.2.2.2.2.2.2.2.2.2.2.2.1), .one (.slice ch.2.2.2.2.2.2.2.2.2.2.2.2.2.1 ch.2.2.2.2.2.2.2.2.2.2.2.2.2.2.1 ch.2.2.2.2.2.2.2.2.2.2.2.2.2.2.2)], Res.map true (Ty.arr .u8 20) false (Ty.pid ch.2.2.2.2.1) ch.2.2.2.1 r.2.1.1, Res.fam (Res.struct (YE110 ch.2.2.2.2.2.1 ch.2.2.2.2.2.2.1) 110) (one_struct _ _) ch.2.2.2.2.1 [] r.2.1.2.1, Res.fam (fun g_ kvs_ => Res.map true (Ty.arr .u64 4) true (Ty.arr .u64 4) g_ kvs_) (one_map true (Ty.arr .u64 4) true (Ty.arr .u64 4)) ch.2.2.2.2.2.1 [] r.2.1.2.2.1, Res.fam (fun g_ kvs_ => Res.map true (Ty.arr .u64 4) false Ty.bool g_ kvs_) (one_map true (Ty.arr .u64 4) false Ty.bool) ch.2.2.2.2.2.2.1 [] r.2.1.2.2.2, Res.row Y100 100 ch.2.2.2.2.2.2.2.1 ch.2.2.2.2.2.2.2.2.1 ch.2.2.2.2.2.2.2.2.2.1 r.2.2.2.1, Res.row (YC ch.1 ch.2.2.2.2.1 ch.2.2.2.2.2.1 ch.2.2.2.2.2.2.1) 1 ch.2.2.2.2.2.2.2.2.2.2.1 ch.2.2.2.2.2.2.2.2.2.2.2.1 ch.2.2.2.2.2.2.2.2.2.2.2.2.1 r.2.2.2.2.1, Res.row (Ty.arr .u8 20) 40 ch.2.2.2.2.2.2.2.2.2.2.2.2.2.1 ch.2.2.2.2.2.2.2.2.2.2.2.2.2.2.1 ch.2.2.2.2.2.2.2.2.2.2.2.2.2.2.2 r.2.2.2.2.2]) w0)
def state_New_0nil.f : Option W1 := some ((([] : List L71)), (([] : List ((List Int) × Option Nat)), ([] : List L110), ([] : List (List ((List Int) × (List Int)))), ([] : List (List ((List Int) × Bool)))), 0, ([] : List L100), ([] : List Clo), ([] : List (List Int)))
theorem state_New_0nil.ok : state_New_0nil.Ctr (state_New_0nil.f) := by
 intro r h0 mi w0 ok hm
 delta state_New_0nil.f at h0
 refine c_enterX (n := 11) [(.v .nilIface)] (l := [(0, (.v .nilIface))]) Tryz.func9 rfl rfl rfl rfl ok hm ?_
 clear ok hm
 intro b0 hb a S
 refine c_region ?_
 refine s_assign S rfl rfl ?_; clear S a; intro a S
 refine c_end ?_
 refine wp_seq ?_
 refine c_region ?_
 refine s_move S rfl rfl ?_; clear S a; intro a S
 refine s_eqNN S rfl Tryz.underlying29 rfl ?_; clear S a; intro a S
 refine c_end ?_
 refine c_condT S rfl rfl ?_
 refine c_region' ?_
 refine s_bldS S (ds := []) (zs := [.one (.slice none 0 0)]) (s' := [.one (.slice none 0 0)]) rfl Tryz.underlying75 P75 Z75 ⟨rfl, trivial⟩ rfl rfl ?_; clear S a; intro a S
 replace S := S.slot (u := 5) (d' := (.agg [.sl none (([] : List L71)).length 0 (RdS Y71 none ([] : List L71))])) rfl rfl (by have h := (S.get 5 (.agg [.one (.slice none 0 0)]) rfl).2; exact ⟨ok_nil, trivial⟩)
 refine s_mkI S (s := [.sl none (([] : List L71)).length 0 (RdS Y71 none ([] : List L71))]) (v := (.agg (cellsOf [.sl none (([] : List L71)).length 0 (RdS Y71 none ([] : List L71))]).toArray)) rfl rfl rfl (by kernel_rfl) rfl ?_; clear S a; intro a S
 refine s_assign S rfl rfl ?_; clear S a; intro a S
 refine c_end' ?_
 refine x_thenN ?_
 refine c_region ?_
 refine s_move S rfl rfl ?_; clear S a; intro a S
 refine s_makeMap (α := List Int) (β := Option Nat) S true (Ty.arr .u8 20) false (Ty.pid ([] : List Nat)) rfl ?_; clear S a; intro g1 a w S
 replace S := S.fam0 (fun g_ kvs_ => Res.map true (Ty.arr .u64 4) false Ty.bool g_ kvs_) (one_map true (Ty.arr .u64 4) false Ty.bool)
 replace S := S.fam0 (fun g_ kvs_ => Res.map true (Ty.arr .u64 4) true (Ty.arr .u64 4) g_ kvs_) (one_map true (Ty.arr .u64 4) true (Ty.arr .u64 4))
 replace S := S.fam0 (Res.struct (YE110 ([] : List Nat) ([] : List Nat)) 110) (one_struct _ _)
 refine s_bldS S (ds := [(0, (.rf (.iface 75 (.agg (cellsOf [.sl none (([] : List L71)).length 0 (RdS Y71 none ([] : List L71))]).toArray)) (IfR [.sl none (([] : List L71)).length 0 (RdS Y71 none ([] : List L71))]))), (1, (.v (.map (some g1))))]) (zs := [.one .nilIface, .one (.map none), .one (.int .i64 0), .one (.slice none 0 0), .one (.slice none 0 0), .one (.slice none 0 0)]) (s' := [.rf (.iface 75 (.agg (cellsOf [.sl none (([] : List L71)).length 0 (RdS Y71 none ([] : List L71))]).toArray)) (IfR [.sl none (([] : List L71)).length 0 (RdS Y71 none ([] : List L71))]), .one (.map (some g1)), .one (.int .i64 0), .one (.slice none 0 0), .one (.slice none 0 0), .one (.slice none 0 0)]) rfl Tryz.underlying79 P79 Z79 ⟨rfl, rfl, rfl, rfl, rfl, rfl, trivial⟩ rfl rfl ?_; clear S a; intro a S
 refine s_box S rfl rfl rfl ?_; clear S a w; intro g2 a w S
 refine s_assign S rfl rfl ?_; clear S a; intro a S
 refine c_end ?_
 refine wp_ret ?_
 replace S := S.nilrow Y100 100
 replace S := S.nilrow (YC g2 ([] : List Nat) ([] : List Nat) ([] : List Nat)) 1
 replace S := S.nilrow (Ty.arr .u8 20) 40
 obtain rfl := Option.some.inj h0
 exact b_ret1 (d := (.v (.pointer (some ⟨g2, 0, none⟩)))) S rfl rfl fun ok => S.retX (Hx := []) hb _ _ ((g2, none, 0, g1, ([] : List Nat), ([] : List Nat), ([] : List Nat), none, 0, 0, none, 0, 0, none, 0, 0) : W2) (.cons (.there (.there (.there .here))) (.cons (.there (.there (.there (.there (.there (.there .here)))))) (.cons (.there (.there (.there .here))) (.cons (.there (.there (.there .here))) (.cons (.there (.there (.there .here))) (.cons (.there (.there .here)) (.cons (.there .here) (.cons .here .nil)))))))) ok
abbrev state_list_Account.Ty : Type := (List L71) → (List Int) → Option W3
def state_list_Account.Ctr (s : state_list_Account.Ty) : Prop := ∀ (x1 : List L71) (x2 : List Int) (ch_0_0 : Option Addr) (ch_0_1 : Nat) (r : W3) (h0 : s x1 x2 = some r) (mi : Mem) (w0 : World), okL mi [(.agg [.sl ch_0_0 (x1).length ch_0_1 (RdS Y71 ch_0_0 x1)]), (.agg [.ints .u8 x2 20])] → Pre mi [] w0 → Calls Tryz.prog 146 (([(.agg [.sl ch_0_0 (x1).length ch_0_1 (RdS Y71 ch_0_0 x1)]), (.agg [.ints .u8 x2 20])] : List D).map D.val).toArray w0 (RetX mi [] (fun (ch : W4) => ((.tup [(true, (Y71.segs r.1 ((), (), (), (ch.1, ch.2.1), (ch.2.2.1, ch.2.2.2)))), (false, [.one (.bool r.2)])]) : D)) (fun (ch : W4) => []) w0)
def state_list_Account.j1 (x2 : List Int) : Option W3 := some ((x2, 0, [0, 0, 0, 0], ([] : List Int), ([] : List ((List Int) × (List Int)))), true)
def state_list_Account.b1 (x1 : List L71) (x2 : List Int) (rec1 : Int → Option W3) (y1 : Int) : Option W3 := if (decide (y1 < ((x1).length : Int))) = true then (if (0 : Int) ≤ y1 ∧ y1 < ((x1).length : Int) then (if (decide ((gt x1 y1).1 = x2)) = true then (some (gt x1 y1, true)) else (rec1 (wr .i64 (y1 + 1)))) else none) else (state_list_Account.j1 x2)
def state_list_Account.l1 (x1 : List L71) (x2 : List Int) : Nat → Int → Option W3
  | 0, _ => none
  | q + 1, y1 => state_list_Account.b1 x1 x2 (state_list_Account.l1 x1 x2 q) y1
def state_list_Account.f (k : Nat) (x1 : List L71) (x2 : List Int) : Option W3 := state_list_Account.l1 x1 x2 k 0
theorem state_list_Account.ok (k : Nat) : state_list_Account.Ctr (state_list_Account.f k) := by
 intro x1 x2 ch_0_0 ch_0_1 r h0 mi w0 ok hm
 delta state_list_Account.f at h0
 refine c_enterX (n := 23) [(.agg [.sl ch_0_0 (x1).length ch_0_1 (RdS Y71 ch_0_0 x1)]), (.agg [.ints .u8 x2 20])] (l := [(0, (.agg [.sl ch_0_0 (x1).length ch_0_1 (RdS Y71 ch_0_0 x1)])), (1, (.agg [.ints .u8 x2 20]))]) Tryz.func146 rfl rfl rfl rfl ok hm ?_
 clear ok hm
 intro b0 hb a S
 refine c_region ?_
 refine s_box S rfl rfl rfl ?_; clear S a; intro g1 a w S
 refine s_box S rfl rfl rfl ?_; clear S a w; intro g2 a w S
 refine s_alloc S Z71 rfl ⟨rfl, rfl, rfl, rfl, rfl, trivial⟩ rfl ?_; clear S a w; intro g3 a w S
 refine s_assign S rfl rfl ?_; clear S a; intro a S
 refine c_end ?_
 refine wp_seq_k ?_
 intro K1 hK1
 have j1 : ∀ (m : Mem) (g12 : Nat) (g13 : Nat) (a : Act) (w : World), St 23 m b0 [(4, (.v (.pointer (some ⟨g12, 0, none⟩)))), (3, (.v (.pointer (some ⟨g13, 0, none⟩))))] [Res.cells g12 71 [.ints .u8 [0, 0, 0, 0, 0, 0, 0, 0, 0, 0, 0, 0, 0, 0, 0, 0, 0, 0, 0, 0] 20, .one (.int .u64 0), .ints .u64 [0, 0, 0, 0] 4, .one (.slice none 0 0), .one (.slice none 0 0)], Res.cells g13 40 [.ints .u8 x2 20]] a w → state_list_Account.j1 x2 = some r → K1 a w := by
  intro m g12 g13 a w S h0
  delta state_list_Account.j1 at h0
  refine hK1 a w ?_
  refine c_region ?_
  refine s_loada S rfl (.there .here) T40 (s' := [.ints .u8 x2 20]) rfl rfl ?_; clear S a; intro a S
  refine s_bldS S (ds := [(0, (.agg [.ints .u8 x2 20]))]) (zs := [.ints .u8 [0, 0, 0, 0, 0, 0, 0, 0, 0, 0, 0, 0, 0, 0, 0, 0, 0, 0, 0, 0] 20, .one (.int .u64 0), .ints .u64 [0, 0, 0, 0] 4, .one (.slice none 0 0), .one (.slice none 0 0)]) (s' := [.ints .u8 x2 20, .one (.int .u64 0), .ints .u64 [0, 0, 0, 0] 4, .one (.slice none 0 0), .one (.slice none 0 0)]) rfl Tryz.underlying71 P71 Z71 ⟨rfl, rfl, rfl, rfl, rfl, trivial⟩ rfl rfl ?_; clear S a; intro a S
  refine s_store S rfl rfl rfl (s' := [.ints .u8 x2 20, .one (.int .u64 0), .ints .u64 [0, 0, 0, 0] 4, .one (.slice none 0 0), .one (.slice none 0 0)]) .here T71 rfl rfl ?_; clear S w; intro w S
  refine s_assign S rfl rfl ?_; clear S a; intro a S
  refine c_end ?_
  refine wp_ret ?_
  replace S := S.cellro (s' := [.ints .u8 x2 20, .one (.int .u64 0), .ints .u64 [0, 0, 0, 0] 4, .sl none (([] : List Int)).length 0 (RdS (Ty.int .u8) none ([] : List Int)), .one (.slice none 0 0)]) .here rfl (fun h => ⟨h.1, h.2.1, h.2.2.1, ok_nil, h.2.2.2.2.1, trivial⟩)
  replace S := S.cellro (s' := [.ints .u8 x2 20, .one (.int .u64 0), .ints .u64 [0, 0, 0, 0] 4, .sl none (([] : List Int)).length 0 (RdS (Ty.int .u8) none ([] : List Int)), .sl none (([] : List ((List Int) × (List Int)))).length 0 (RdS Y83 none ([] : List ((List Int) × (List Int))))]) .here rfl (fun h => ⟨h.1, h.2.1, h.2.2.1, h.2.2.2.1, ok_nil, trivial⟩)
  obtain rfl := Option.some.inj h0
  exact b_ret2 (d1 := (.agg [.ints .u8 x2 20, .one (.int .u64 0), .ints .u64 [0, 0, 0, 0] 4, .sl none (([] : List Int)).length 0 (RdS (Ty.int .u8) none ([] : List Int)), .sl none (([] : List ((List Int) × (List Int)))).length 0 (RdS Y83 none ([] : List ((List Int) × (List Int))))])) (d2 := (.v (.bool true))) S rfl (resD_cell rfl .here T71 rfl rfl) rfl fun ok1 ok2 => S.retX (Hx := []) hb _ _ ((none, 0, none, 0) : W4) .nil ⟨ok1, ⟨ok2, trivial⟩, trivial⟩
 refine c_region ?_
 refine s_fieldAddr S rfl I75_0 T22 (by decide) rfl rfl ?_; clear S a; intro a S
 refine s_loadSl S rfl (.there (.there .here)) T22 (A := ch_0_0) (len := (x1).length) (cap := ch_0_1) rfl rfl ?_; clear S a; intro a S
 refine s_lenS S rfl Tryz.underlying22 rfl ?_; clear S a; intro a S
 refine s_move S rfl rfl ?_; clear S a; intro a S
 refine c_end ?_
 refine wp_block ?_
 refine c_loop (fun q1 a w => ∃ (m : Mem) (y1 : Int) (g20 : Nat) (g21 : Nat), St 23 m b0 [(11, (.v (.int .i64 y1))), (10, (.v (.int .i64 ((x1).length : Int)))), (9, (.sl ch_0_0 (x1).length ch_0_1 (RdS Y71 ch_0_0 x1))), (4, (.v (.pointer (some ⟨g20, 0, none⟩)))), (3, (.v (.pointer (some ⟨g21, 0, none⟩))))] [Res.cells g20 71 [.ints .u8 [0, 0, 0, 0, 0, 0, 0, 0, 0, 0, 0, 0, 0, 0, 0, 0, 0, 0, 0, 0] 20, .one (.int .u64 0), .ints .u64 [0, 0, 0, 0] 4, .one (.slice none 0 0), .one (.slice none 0 0)], Res.cells g21 40 [.ints .u8 x2 20]] a w ∧ state_list_Account.l1 x1 x2 q1 y1 = some r) ?_ ?_ (k := k) ⟨_, 0, g3, g2, (S.sub (subR rfl) (.cons .here (.cons .here .nil))), h0⟩
 ·rintro a w ⟨m, y1, g20, g21, S, h0⟩
  exact (nomatch (show (none : Option W3) = some r from h0))
 ·clear S h0
  rintro q1 a w ⟨m, y1, g20, g21, S, h0⟩
  replace h0 : state_list_Account.b1 x1 x2 (state_list_Account.l1 x1 x2 q1) y1 = some r := h0
  delta state_list_Account.b1 at h0
  refine c_region ?_
  refine s_bin S rfl rfl rfl rfl ?_; clear S a; intro a S
  refine c_end ?_
  refine wp_seq ?_
  rcases ite_of h0 with ⟨c1, h1⟩ | ⟨c1, h1⟩ <;> clear h0
  ·refine c_condT S rfl c1 ?_
   refine wp_skip ?_
   refine x_thenN ?_
   refine wp_seq ?_
   refine wp_block ?_
   refine c_region ?_
   obtain ⟨c2, h2⟩ := chk_of h1; clear h1
   refine s_iaddrS S rfl rfl rfl Tryz.underlying22 T71 c2.1 c2.2 rfl ?_; clear S a; intro p1 a S
   refine s_ldA S (fun (c : Unit × Unit × Unit × (Option Addr × Nat) × (Option Addr × Nat)) => (Y71.segs (gt x1 y1) c)) rfl T71 (fun _ => rfl) rfl ?_; clear S a; intro ch1 a S
   refine s_alloc S Z71 rfl ⟨rfl, rfl, rfl, rfl, rfl, trivial⟩ rfl ?_; clear S a w; intro g22 a w S
   refine s_store S rfl rfl rfl (s' := [.ints .u8 ((gt x1 y1).1) 20, .one (.int .u64 ((gt x1 y1).2.1)), .ints .u64 ((gt x1 y1).2.2.1) 4, .sl ch1.2.2.2.1.1 ((gt x1 y1).2.2.2.1).length ch1.2.2.2.1.2 (RdS (Ty.int .u8) ch1.2.2.2.1.1 ((gt x1 y1).2.2.2.1)), .sl ch1.2.2.2.2.1 ((gt x1 y1).2.2.2.2).length ch1.2.2.2.2.2 (RdS Y83 ch1.2.2.2.2.1 ((gt x1 y1).2.2.2.2))]) .here T71 rfl rfl ?_; clear S w; intro w S
   refine c_end ?_
   refine c_region ?_
   refine s_fieldAddr S rfl I71_0 T40 (by decide) rfl rfl ?_; clear S a; intro a S
   refine s_loada S rfl .here T40 (s' := [.ints .u8 ((gt x1 y1).1) 20]) rfl rfl ?_; clear S a; intro a S
   refine s_loada S rfl (.there (.there .here)) T40 (s' := [.ints .u8 x2 20]) rfl rfl ?_; clear S a; intro a S
   refine s_eqa S rfl rfl Tryz.underlying40 Tryz.underlying5 T5 Q40 rfl ?_; clear S a; intro a S
   refine c_end ?_
   rcases ite_of h2 with ⟨c3, h3⟩ | ⟨c3, h3⟩ <;> clear h2
   ·refine c_condT S rfl c3 ?_
    refine c_region ?_
    refine s_loada S rfl .here T71 (s' := (Y71.segs (gt x1 y1) ch1)) rfl rfl ?_; clear S a; intro a S
    refine s_store S rfl rfl rfl (s' := [.ints .u8 ((gt x1 y1).1) 20, .one (.int .u64 ((gt x1 y1).2.1)), .ints .u64 ((gt x1 y1).2.2.1) 4, .sl ch1.2.2.2.1.1 ((gt x1 y1).2.2.2.1).length ch1.2.2.2.1.2 (RdS (Ty.int .u8) ch1.2.2.2.1.1 ((gt x1 y1).2.2.2.1)), .sl ch1.2.2.2.2.1 ((gt x1 y1).2.2.2.2).length ch1.2.2.2.2.2 (RdS Y83 ch1.2.2.2.2.1 ((gt x1 y1).2.2.2.2))]) (.there .here) T71 rfl rfl ?_; clear S w; intro w S
    refine s_assign S rfl rfl ?_; clear S a; intro a S
    refine c_end ?_
    refine wp_ret ?_
    refine x_blockR ?_
    refine x_thenR ?_
    refine x_thenR ?_
    refine x_blockR ?_
    refine x_thenR ?_
    obtain rfl := Option.some.inj h3
    exact b_ret2 (d1 := (.agg (Y71.segs (gt x1 y1) ch1))) (d2 := (.v (.bool true))) S rfl (resD_cell rfl (.there .here) T71 rfl rfl) rfl fun ok1 ok2 => S.retX (Hx := []) hb _ _ ((ch1.2.2.2.1.1, ch1.2.2.2.1.2, ch1.2.2.2.2.1, ch1.2.2.2.2.2) : W4) .nil ⟨ok1, ⟨ok2, trivial⟩, trivial⟩
   ·refine c_condF S rfl c3 ?_
    refine wp_skip ?_
    refine x_blockN ?_
    refine x_thenN ?_
    refine c_region' ?_
    refine s_bin S rfl rfl rfl rfl ?_; clear S a; intro a S
    refine s_move S rfl rfl ?_; clear S a; intro a S
    refine c_end' ?_
    refine x_thenN ?_
    exact ⟨_, (wr .i64 (y1 + 1)), g20, g21, (S.sub (subR rfl) (.cons (.there .here) (.cons (.there .here) .nil))), h3⟩
  ·refine c_condF S rfl c1 ?_
   refine wp_exit ?_
   refine x_thenX ?_
   refine x_thenX ?_
   refine x_blockX ?_
   refine x_thenN ?_
   exact j1 _ g20 g21 a w (S.sub (subR rfl) (.cons .here (.cons .here .nil))) h1
abbrev state_State_at.Ty : Type := W1 → (List Int) → Option W5
def state_State_at.Ctr (s : state_State_at.Ty) : Prop := ∀ (x1 : W1) (x2 : List Int) (ch_0_0 : Nat) (ch_0_1 : Option Addr) (ch_0_2 : Nat) (ch_0_3 : Nat) (ch_0_4 : List Nat) (ch_0_5 : List Nat) (ch_0_6 : List Nat) (ch_0_7 : Option Addr) (ch_0_8 : Nat) (ch_0_9 : Nat) (ch_0_10 : Option Addr) (ch_0_11 : Nat) (ch_0_12 : Nat) (ch_0_13 : Option Addr) (ch_0_14 : Nat) (ch_0_15 : Nat) (r : W5) (h0 : s x1 x2 = some r) (mi : Mem) (w0 : World), okL mi [(.v (.pointer (some ⟨ch_0_0, 0, none⟩))), (.agg [.ints .u8 x2 20])] → Pre mi [Res.cells ch_0_0 79 [.rf (.iface 75 (.agg (cellsOf [.sl ch_0_1 (x1.1).length ch_0_2 (RdS Y71 ch_0_1 x1.1)]).toArray)) (IfR [.sl ch_0_1 (x1.1).length ch_0_2 (RdS Y71 ch_0_1 x1.1)]), .one (.map (some ch_0_3)), .one (.int .i64 x1.2.2.1), .one (.slice ch_0_7 ch_0_8 ch_0_9), .one (.slice ch_0_10 ch_0_11 ch_0_12), .one (.slice ch_0_13 ch_0_14 ch_0_15)], Res.map true (Ty.arr .u8 20) false (Ty.pid ch_0_4) ch_0_3 x1.2.1.1, Res.fam (Res.struct (YE110 ch_0_5 ch_0_6) 110) (one_struct _ _) ch_0_4 [] x1.2.1.2.1, Res.fam (fun g_ kvs_ => Res.map true (Ty.arr .u64 4) true (Ty.arr .u64 4) g_ kvs_) (one_map true (Ty.arr .u64 4) true (Ty.arr .u64 4)) ch_0_5 [] x1.2.1.2.2.1, Res.fam (fun g_ kvs_ => Res.map true (Ty.arr .u64 4) false Ty.bool g_ kvs_) (one_map true (Ty.arr .u64 4) false Ty.bool) ch_0_6 [] x1.2.1.2.2.2, Res.row Y100 100 ch_0_7 ch_0_8 ch_0_9 x1.2.2.2.1, Res.row (YC ch_0_0 ch_0_4 ch_0_5 ch_0_6) 1 ch_0_10 ch_0_11 ch_0_12 x1.2.2.2.2.1, Res.row (Ty.arr .u8 20) 40 ch_0_13 ch_0_14 ch_0_15 x1.2.2.2.2.2] w0 → Calls Tryz.prog 56 (([(.v (.pointer (some ⟨ch_0_0, 0, none⟩))), (.agg [.ints .u8 x2 20])] : List D).map D.val).toArray w0 (RetX mi [Res.cells ch_0_0 79 [.rf (.iface 75 (.agg (cellsOf [.sl ch_0_1 (x1.1).length ch_0_2 (RdS Y71 ch_0_1 x1.1)]).toArray)) (IfR [.sl ch_0_1 (x1.1).length ch_0_2 (RdS Y71 ch_0_1 x1.1)]), .one (.map (some ch_0_3)), .one (.int .i64 x1.2.2.1), .one (.slice ch_0_7 ch_0_8 ch_0_9), .one (.slice ch_0_10 ch_0_11 ch_0_12), .one (.slice ch_0_13 ch_0_14 ch_0_15)], Res.map true (Ty.arr .u8 20) false (Ty.pid ch_0_4) ch_0_3 x1.2.1.1, Res.fam (Res.struct (YE110 ch_0_5 ch_0_6) 110) (one_struct _ _) ch_0_4 [] x1.2.1.2.1, Res.fam (fun g_ kvs_ => Res.map true (Ty.arr .u64 4) true (Ty.arr .u64 4) g_ kvs_) (one_map true (Ty.arr .u64 4) true (Ty.arr .u64 4)) ch_0_5 [] x1.2.1.2.2.1, Res.fam (fun g_ kvs_ => Res.map true (Ty.arr .u64 4) false Ty.bool g_ kvs_) (one_map true (Ty.arr .u64 4) false Ty.bool) ch_0_6 [] x1.2.1.2.2.2, Res.row Y100 100 ch_0_7 ch_0_8 ch_0_9 x1.2.2.2.1, Res.row (YC ch_0_0 ch_0_4 ch_0_5 ch_0_6) 1 ch_0_10 ch_0_11 ch_0_12 x1.2.2.2.2.1, Res.row (Ty.arr .u8 20) 40 ch_0_13 ch_0_14 ch_0_15 x1.2.2.2.2.2] (fun (ch : W6) => ((.rf (ptrV ch.2.1 r.1) (ptrR ch.2.1 r.1)) : D)) (fun (ch : W6) => [Res.cells ch_0_0 79 [.rf (.iface 75 (.agg (cellsOf [.sl ch_0_1 (x1.1).length ch_0_2 (RdS Y71 ch_0_1 x1.1)]).toArray)) (IfR [.sl ch_0_1 (x1.1).length ch_0_2 (RdS Y71 ch_0_1 x1.1)]), .one (.map (some ch.1)), .one (.int .i64 x1.2.2.1), .one (.slice ch.2.2.2.2.1 ch.2.2.2.2.2.1 ch.2.2.2.2.2.2.1), .one (.slice ch.2.2.2.2.2.2.2.1 ch.2.2.2.2.2.2.2.2.1 ch.2.2.2.2.2.2.2.2.2.1), .one (.slice ch.2.2.2.2.2.2.2.2.2.2.1 ch.2.2.2.2.2.2.2.2.2.2.2.1 ch.2.2.2.2.2.2.2.2.2.2.2.2)], Res.map true (Ty.arr .u8 20) false (Ty.pid ch.2.1) ch.1 r.2.2.1.1, Res.fam (Res.struct (YE110 ch.2.2.1 ch.2.2.2.1) 110) (one_struct _ _) ch.2.1 [] r.2.2.1.2.1, Res.fam (fun g_ kvs_ => Res.map true (Ty.arr .u64 4) true (Ty.arr .u64 4) g_ kvs_) (one_map true (Ty.arr .u64 4) true (Ty.arr .u64 4)) ch.2.2.1 [] r.2.2.1.2.2.1, Res.fam (fun g_ kvs_ => Res.map true (Ty.arr .u64 4) false Ty.bool g_ kvs_) (one_map true (Ty.arr .u64 4) false Ty.bool) ch.2.2.2.1 [] r.2.2.1.2.2.2, Res.row Y100 100 ch.2.2.2.2.1 ch.2.2.2.2.2.1 ch.2.2.2.2.2.2.1 r.2.2.2.2.1, Res.row (YC ch_0_0 ch.2.1 ch.2.2.1 ch.2.2.2.1) 1 ch.2.2.2.2.2.2.2.1 ch.2.2.2.2.2.2.2.2.1 ch.2.2.2.2.2.2.2.2.2.1 r.2.2.2.2.2.1, Res.row (Ty.arr .u8 20) 40 ch.2.2.2.2.2.2.2.2.2.2.1 ch.2.2.2.2.2.2.2.2.2.2.2.1 ch.2.2.2.2.2.2.2.2.2.2.2.2 r.2.2.2.2.2.2]) w0)
def state_State_at.j2 (x1 : W1) (x2 : List Int) (y7 : List (List Int)) (y8 : List Int) (y9 : Int) (y10 : List Int) (y11 : List Int) (y12 : W7) : Option W5 := some ((some x1.2.1.2.1.length), ((), (aput x1.2.1.1 x2 (some x1.2.1.2.1.length), x1.2.1.2.1 ++ [((x2, y9, y10, y11, y12), (x2, y9, y10, y11, y12), false, x1.2.1.2.2.1.length, false, false, x1.2.1.2.2.2.length)], x1.2.1.2.2.1 ++ [([] : List ((List Int) × (List Int)))], x1.2.1.2.2.2 ++ [([] : List ((List Int) × Bool))]), (), x1.2.2.2.1, x1.2.2.2.2.1, y7))
def state_State_at.j1 (x1 : W1) (x2 : List Int) (y1 : Bool) (y2 : List Int) (y3 : Int) (y4 : List Int) (y5 : List Int) (y6 : W7) : Option W5 := if (!y1) = true then (if (((x1.2.2.2.2.2).length : Int) == 0) = true then (state_State_at.j2 x1 x2 [x2] [0, 0, 0, 0, 0, 0, 0, 0, 0, 0, 0, 0, 0, 0, 0, 0, 0, 0, 0, 0] 0 [0, 0, 0, 0] ([] : List Int) ([] : List ((List Int) × (List Int)))) else (state_State_at.j2 x1 x2 x1.2.2.2.2.2 [0, 0, 0, 0, 0, 0, 0, 0, 0, 0, 0, 0, 0, 0, 0, 0, 0, 0, 0, 0] 0 [0, 0, 0, 0] ([] : List Int) ([] : List ((List Int) × (List Int))))) else (state_State_at.j2 x1 x2 x1.2.2.2.2.2 y2 y3 y4 y5 y6)
def state_State_at.f (k : Nat) (x1 : W1) (x2 : List Int) : Option W5 := if ((lk (aget x1.2.1.1 x2) none).2) = true then (some ((lk (aget x1.2.1.1 x2) none).1, ((), x1.2.1, (), x1.2.2.2.1, x1.2.2.2.2.1, x1.2.2.2.2.2))) else ((state_list_Account.f k (x1.1) x2).bind fun t1 => (state_State_at.j1 x1 x2 t1.2 t1.1.1 t1.1.2.1 t1.1.2.2.1 t1.1.2.2.2.1 t1.1.2.2.2.2))
theorem state_State_at.ok (k : Nat) : state_State_at.Ctr (state_State_at.f k) := by
 intro x1 x2 ch_0_0 ch_0_1 ch_0_2 ch_0_3 ch_0_4 ch_0_5 ch_0_6 ch_0_7 ch_0_8 ch_0_9 ch_0_10 ch_0_11 ch_0_12 ch_0_13 ch_0_14 ch_0_15 r h0 mi w0 ok hm
 delta state_State_at.f at h0
 refine c_enterX (n := 59) [(.v (.pointer (some ⟨ch_0_0, 0, none⟩))), (.agg [.ints .u8 x2 20])] (l := [(0, (.v (.pointer (some ⟨ch_0_0, 0, none⟩)))), (1, (.agg [.ints .u8 x2 20]))]) Tryz.func56 rfl rfl rfl rfl ok hm ?_
 clear ok hm
 intro b0 hb a S
 refine c_region ?_
 refine s_box S rfl rfl rfl ?_; clear S a; intro g1 a w S
 refine s_assign S rfl rfl ?_; clear S a; intro a S
 refine c_end ?_
 refine wp_seq ?_
 refine wp_seq (c_heldS S (.take 0 (.take 1 (.take 2 (.take 3 (.take 4 (.alts (.run 5 true (.pure 6 (.pure 7 (.pure 8 (.alts (.run 9 true (.alts (.run 10 true .done .nil)) .nil))))) .nil))))))) 11 [Res.cells g1 40 [.ints .u8 x2 20], Res.cells ch_0_0 79 [.rf (.iface 75 (.agg (cellsOf [.sl ch_0_1 (x1.1).length ch_0_2 (RdS Y71 ch_0_1 x1.1)]).toArray)) (IfR [.sl ch_0_1 (x1.1).length ch_0_2 (RdS Y71 ch_0_1 x1.1)]), .one (.map (some ch_0_3)), .one (.int .i64 x1.2.2.1), .one (.slice ch_0_7 ch_0_8 ch_0_9), .one (.slice ch_0_10 ch_0_11 ch_0_12), .one (.slice ch_0_13 ch_0_14 ch_0_15)], Res.row (Ty.arr .u8 20) 40 ch_0_13 ch_0_14 ch_0_15 x1.2.2.2.2.2] (.cons .here (.cons .here (.cons (.there (.there (.there (.there (.there (.there .here)))))) .nil))) ⟨Res.stay_cells, Res.stay_cells, Res.stay_row flat_arr, trivial⟩ [(3, (.v (.pointer (some ⟨g1, 0, none⟩)))), (0, (.v (.pointer (some ⟨ch_0_0, 0, none⟩))))] (subR rfl) (by kernel_rfl) (by kernel_rfl) ?_); clear S; intro w S CL hw le
 refine h_move S CL hw le (subR rfl) rfl rfl rfl trivial ?_; clear S CL a; intro a S CL
 refine h_nilchk S CL hw le (subR rfl) rfl rfl rfl rfl trivial ?_; clear S CL a; intro a S CL
 refine h_fieldAddr S CL hw le (subR rfl) rfl I79_1 T76 (by decide) rfl rfl rfl trivial ?_; clear S CL a; intro a S CL
 refine h_load1 S CL hw le (subR rfl) rfl (.there .here) T76 (v := (.map (some ch_0_3))) rfl rfl rfl trivial ?_; clear S CL a; intro a S CL
 refine h_loada S CL hw le (subR rfl) rfl .here T40 (s' := [.ints .u8 x2 20]) rfl rfl rfl trivial ?_; clear S CL a; intro a S CL
 refine h_run' S rfl trivial ?_
 refine s_lookO S (z := none) (k := x2) rfl (.there (.there .here)) () rfl (fun h => ⟨(), rfl, h⟩) Tryz.underlying76 KT40 Z111 ⟨⟨rfl, (fun _ h => by cases h), ptrR.mono _ _⟩, trivial⟩ rfl ?_; clear S a; intro ch1 a S
 replace hw := CL.again hw S (.cons .here (.cons .here (.cons (.there (.there (.there (.there (.there (.there .here)))))) .nil))) le
 refine h_back ⟨fun _ => hw, ?_⟩
 refine p_move S rfl rfl rfl trivial ?_; clear S a; intro a S
 refine p_extract S rfl rfl rfl rfl rfl trivial ?_; clear S a; intro a S
 refine p_extract S rfl rfl rfl rfl rfl trivial ?_; clear S a; intro a S
 refine h_run' S rfl trivial ?_
 refine s_assign S rfl rfl ?_; clear S a; intro a S
 replace hw := CL.again hw S (.cons .here (.cons .here (.cons (.there (.there (.there (.there (.there (.there .here)))))) .nil))) le
 refine h_back ⟨fun _ => hw, ?_⟩
 refine h_run' S rfl trivial ?_
 refine s_assign S rfl rfl ?_; clear S a; intro a S
 replace hw := CL.again hw S (.cons .here (.cons .here (.cons (.there (.there (.there (.there (.there (.there .here)))))) .nil))) le
 refine h_back ⟨fun _ => hw, ?_⟩
 refine h_done ?_; clear CL hw le
 refine x_thenN ?_
 refine c_region ?_
 refine s_move S rfl rfl ?_; clear S a; intro a S
 refine c_end ?_
 rcases ite_of h0 with ⟨c1, h1⟩ | ⟨c1, h1⟩ <;> clear h0
 ·refine c_condT S rfl c1 ?_
  refine c_region ?_
  refine s_move S rfl rfl ?_; clear S a; intro a S
  refine s_assign S rfl rfl ?_; clear S a; intro a S
  refine c_end ?_
  refine wp_ret ?_
  refine x_thenR ?_
  obtain rfl := Option.some.inj h1
  exact b_ret1 (d := (.rf (ptrV ch_0_4 ((lk (aget x1.2.1.1 x2) none).1)) (ptrR ch_0_4 ((lk (aget x1.2.1.1 x2) none).1)))) S rfl rfl fun ok => S.retX (Hx := []) hb _ _ ((ch_0_3, ch_0_4, ch_0_5, ch_0_6, ch_0_7, ch_0_8, ch_0_9, ch_0_10, ch_0_11, ch_0_12, ch_0_13, ch_0_14, ch_0_15) : W6) (.cons (.there .here) (.cons (.there .here) (.cons (.there .here) (.cons (.there .here) (.cons (.there .here) (.cons (.there .here) (.cons (.there .here) (.cons (.there .here) .nil)))))))) ok
 ·refine c_condF S rfl c1 ?_
  refine wp_skip ?_
  refine x_thenN ?_
  refine wp_seq_k ?_
  intro K1 hK1
  have j1 : ∀ (m : Mem) (y1 : Bool) (g3 : Nat) (g4 : Nat) (y2 : List Int) (y3 : Int) (y4 : List Int) (A1 : Option Addr) (cp1 : Nat) (y5 : List Int) (A2 : Option Addr) (cp2 : Nat) (y6 : List ((List Int) × (List Int))) (a : Act) (w : World), St 59 m b0 [(8, (.v (.bool y1))), (7, (.v (.pointer (some ⟨g3, 0, none⟩)))), (3, (.v (.pointer (some ⟨g4, 0, none⟩)))), (0, (.v (.pointer (some ⟨ch_0_0, 0, none⟩))))] [Res.cells g3 71 [.ints .u8 y2 20, .one (.int .u64 y3), .ints .u64 y4 4, .sl A1 (y5).length cp1 (RdS (Ty.int .u8) A1 y5), .sl A2 (y6).length cp2 (RdS Y83 A2 y6)], Res.cells g4 40 [.ints .u8 x2 20], Res.cells ch_0_0 79 [.rf (.iface 75 (.agg (cellsOf [.sl ch_0_1 (x1.1).length ch_0_2 (RdS Y71 ch_0_1 x1.1)]).toArray)) (IfR [.sl ch_0_1 (x1.1).length ch_0_2 (RdS Y71 ch_0_1 x1.1)]), .one (.map (some ch_0_3)), .one (.int .i64 x1.2.2.1), .one (.slice ch_0_7 ch_0_8 ch_0_9), .one (.slice ch_0_10 ch_0_11 ch_0_12), .one (.slice ch_0_13 ch_0_14 ch_0_15)], Res.map true (Ty.arr .u8 20) false (Ty.pid ch_0_4) ch_0_3 x1.2.1.1, Res.fam (Res.struct (YE110 ch_0_5 ch_0_6) 110) (one_struct _ _) ch_0_4 [] x1.2.1.2.1, Res.fam (fun g_ kvs_ => Res.map true (Ty.arr .u64 4) true (Ty.arr .u64 4) g_ kvs_) (one_map true (Ty.arr .u64 4) true (Ty.arr .u64 4)) ch_0_5 [] x1.2.1.2.2.1, Res.fam (fun g_ kvs_ => Res.map true (Ty.arr .u64 4) false Ty.bool g_ kvs_) (one_map true (Ty.arr .u64 4) false Ty.bool) ch_0_6 [] x1.2.1.2.2.2, Res.row Y100 100 ch_0_7 ch_0_8 ch_0_9 x1.2.2.2.1, Res.row (YC ch_0_0 ch_0_4 ch_0_5 ch_0_6) 1 ch_0_10 ch_0_11 ch_0_12 x1.2.2.2.2.1, Res.row (Ty.arr .u8 20) 40 ch_0_13 ch_0_14 ch_0_15 x1.2.2.2.2.2] a w → state_State_at.j1 x1 x2 y1 y2 y3 y4 y5 y6 = some r → K1 a w := by
   intro m y1 g3 g4 y2 y3 y4 A1 cp1 y5 A2 cp2 y6 a w S h0
   delta state_State_at.j1 at h0
   refine hK1 a w ?_
   refine wp_seq_k ?_
   intro K2 hK2
   have j2 : ∀ (m : Mem) (g6 : Nat) (g7 : Nat) (A3 : Option Addr) (nn1 : Nat) (cp3 : Nat) (y7 : List (List Int)) (y8 : List Int) (y9 : Int) (y10 : List Int) (A4 : Option Addr) (cp4 : Nat) (y11 : List Int) (A5 : Option Addr) (cp5 : Nat) (y12 : List ((List Int) × (List Int))) (a : Act) (w : World), St 59 m b0 [(7, (.v (.pointer (some ⟨g6, 0, none⟩)))), (3, (.v (.pointer (some ⟨g7, 0, none⟩)))), (0, (.v (.pointer (some ⟨ch_0_0, 0, none⟩))))] [Res.row (Ty.arr .u8 20) 40 A3 nn1 cp3 y7, Res.cells g6 71 [.ints .u8 y8 20, .one (.int .u64 y9), .ints .u64 y10 4, .sl A4 (y11).length cp4 (RdS (Ty.int .u8) A4 y11), .sl A5 (y12).length cp5 (RdS Y83 A5 y12)], Res.cells g7 40 [.ints .u8 x2 20], Res.cells ch_0_0 79 [.rf (.iface 75 (.agg (cellsOf [.sl ch_0_1 (x1.1).length ch_0_2 (RdS Y71 ch_0_1 x1.1)]).toArray)) (IfR [.sl ch_0_1 (x1.1).length ch_0_2 (RdS Y71 ch_0_1 x1.1)]), .one (.map (some ch_0_3)), .one (.int .i64 x1.2.2.1), .one (.slice ch_0_7 ch_0_8 ch_0_9), .one (.slice ch_0_10 ch_0_11 ch_0_12), .one (.slice A3 nn1 cp3)], Res.map true (Ty.arr .u8 20) false (Ty.pid ch_0_4) ch_0_3 x1.2.1.1, Res.fam (Res.struct (YE110 ch_0_5 ch_0_6) 110) (one_struct _ _) ch_0_4 [] x1.2.1.2.1, Res.fam (fun g_ kvs_ => Res.map true (Ty.arr .u64 4) true (Ty.arr .u64 4) g_ kvs_) (one_map true (Ty.arr .u64 4) true (Ty.arr .u64 4)) ch_0_5 [] x1.2.1.2.2.1, Res.fam (fun g_ kvs_ => Res.map true (Ty.arr .u64 4) false Ty.bool g_ kvs_) (one_map true (Ty.arr .u64 4) false Ty.bool) ch_0_6 [] x1.2.1.2.2.2, Res.row Y100 100 ch_0_7 ch_0_8 ch_0_9 x1.2.2.2.1, Res.row (YC ch_0_0 ch_0_4 ch_0_5 ch_0_6) 1 ch_0_10 ch_0_11 ch_0_12 x1.2.2.2.2.1] a w → state_State_at.j2 x1 x2 y7 y8 y9 y10 y11 y12 = some r → K2 a w := by
    intro m g6 g7 A3 nn1 cp3 y7 y8 y9 y10 A4 cp4 y11 A5 cp5 y12 a w S h0
    delta state_State_at.j2 at h0
    refine hK2 a w ?_
    refine c_region ?_
    refine s_loada S rfl (.there (.there .here)) T40 (s' := [.ints .u8 x2 20]) rfl rfl ?_; clear S a; intro a S
    refine s_fieldAddr S rfl I71_0 T40 (by decide) rfl rfl ?_; clear S a; intro a S
    refine s_store S rfl rfl rfl (s' := [.ints .u8 x2 20, .one (.int .u64 y9), .ints .u64 y10 4, .sl A4 (y11).length cp4 (RdS (Ty.int .u8) A4 y11), .sl A5 (y12).length cp5 (RdS Y83 A5 y12)]) (.there .here) T40 rfl rfl ?_; clear S w; intro w S
    refine c_end ?_
    refine c_region ?_
    refine s_loada S rfl (.there .here) T71 (s' := [.ints .u8 x2 20, .one (.int .u64 y9), .ints .u64 y10 4, .sl A4 (y11).length cp4 (RdS (Ty.int .u8) A4 y11), .sl A5 (y12).length cp5 (RdS Y83 A5 y12)]) rfl rfl ?_; clear S a; intro a S
    refine s_loada S rfl (.there .here) T71 (s' := [.ints .u8 x2 20, .one (.int .u64 y9), .ints .u64 y10 4, .sl A4 (y11).length cp4 (RdS (Ty.int .u8) A4 y11), .sl A5 (y12).length cp5 (RdS Y83 A5 y12)]) rfl rfl ?_; clear S a; intro a S
    refine s_makeMap S true (Ty.arr .u64 4) true (Ty.arr .u64 4) rfl ?_; clear S a w; intro g8 a w S
    refine s_makeMap S true (Ty.arr .u64 4) false Ty.bool rfl ?_; clear S a w; intro g9 a w S
    refine s_bldS S (ds := [(0, (.agg [.ints .u8 x2 20, .one (.int .u64 y9), .ints .u64 y10 4, .sl A4 (y11).length cp4 (RdS (Ty.int .u8) A4 y11), .sl A5 (y12).length cp5 (RdS Y83 A5 y12)])), (1, (.agg [.ints .u8 x2 20, .one (.int .u64 y9), .ints .u64 y10 4, .sl A4 (y11).length cp4 (RdS (Ty.int .u8) A4 y11), .sl A5 (y12).length cp5 (RdS Y83 A5 y12)])), (3, (.v (.map (some g8)))), (6, (.v (.map (some g9))))]) (zs := [.ints .u8 [0, 0, 0, 0, 0, 0, 0, 0, 0, 0, 0, 0, 0, 0, 0, 0, 0, 0, 0, 0] 20, .one (.int .u64 0), .ints .u64 [0, 0, 0, 0] 4, .one (.slice none 0 0), .one (.slice none 0 0), .ints .u8 [0, 0, 0, 0, 0, 0, 0, 0, 0, 0, 0, 0, 0, 0, 0, 0, 0, 0, 0, 0] 20, .one (.int .u64 0), .ints .u64 [0, 0, 0, 0] 4, .one (.slice none 0 0), .one (.slice none 0 0), .one (.bool false), .one (.map none), .one (.bool false), .one (.bool false), .one (.map none)]) (s' := [.ints .u8 x2 20, .one (.int .u64 y9), .ints .u64 y10 4, .sl A4 (y11).length cp4 (RdS (Ty.int .u8) A4 y11), .sl A5 (y12).length cp5 (RdS Y83 A5 y12), .ints .u8 x2 20, .one (.int .u64 y9), .ints .u64 y10 4, .sl A4 (y11).length cp4 (RdS (Ty.int .u8) A4 y11), .sl A5 (y12).length cp5 (RdS Y83 A5 y12), .one (.bool false), .one (.map (some g8)), .one (.bool false), .one (.bool false), .one (.map (some g9))]) rfl Tryz.underlying110 P110 Z110 ⟨rfl, rfl, rfl, rfl, rfl, rfl, rfl, rfl, rfl, rfl, rfl, rfl, rfl, rfl, rfl, trivial⟩ rfl rfl ?_; clear S a; intro a S
    refine s_box S rfl rfl rfl ?_; clear S a w; intro g10 a w S
    refine s_assign S rfl rfl ?_; clear S a; intro a S
    refine c_end ?_
    refine wp_seq (c_heldS S (.take 0 (.take 1 (.take 2 (.take 3 (.take 4 (.take 5 (.alts (.run 6 true .done .nil)))))))) 7 [Res.row (Ty.arr .u8 20) 40 A3 nn1 cp3 y7, Res.cells g6 71 [.ints .u8 x2 20, .one (.int .u64 y9), .ints .u64 y10 4, .sl A4 (y11).length cp4 (RdS (Ty.int .u8) A4 y11), .sl A5 (y12).length cp5 (RdS Y83 A5 y12)], Res.cells g7 40 [.ints .u8 x2 20], Res.cells ch_0_0 79 [.rf (.iface 75 (.agg (cellsOf [.sl ch_0_1 (x1.1).length ch_0_2 (RdS Y71 ch_0_1 x1.1)]).toArray)) (IfR [.sl ch_0_1 (x1.1).length ch_0_2 (RdS Y71 ch_0_1 x1.1)]), .one (.map (some ch_0_3)), .one (.int .i64 x1.2.2.1), .one (.slice ch_0_7 ch_0_8 ch_0_9), .one (.slice ch_0_10 ch_0_11 ch_0_12), .one (.slice A3 nn1 cp3)]] (.cons (.there (.there (.there .here))) (.cons (.there (.there (.there .here))) (.cons (.there (.there (.there .here))) (.cons (.there (.there (.there .here))) .nil)))) ⟨Res.stay_row flat_arr, Res.stay_cells, Res.stay_cells, Res.stay_cells, trivial⟩ [(9, (.v (.pointer (some ⟨g10, 0, none⟩)))), (3, (.v (.pointer (some ⟨g7, 0, none⟩)))), (0, (.v (.pointer (some ⟨ch_0_0, 0, none⟩))))] (subR rfl) (by kernel_rfl) (by kernel_rfl) ?_); clear S; intro w S CL hw le
    refine h_move S CL hw le (subR rfl) rfl rfl rfl trivial ?_; clear S CL a; intro a S CL
    refine h_nilchk S CL hw le (subR rfl) rfl rfl rfl rfl trivial ?_; clear S CL a; intro a S CL
    refine h_fieldAddr S CL hw le (subR rfl) rfl I79_1 T76 (by decide) rfl rfl rfl trivial ?_; clear S CL a; intro a S CL
    refine h_load1 S CL hw le (subR rfl) rfl (.there (.there (.there .here))) T76 (v := (.map (some ch_0_3))) rfl rfl rfl trivial ?_; clear S CL a; intro a S CL
    refine h_loada S CL hw le (subR rfl) rfl (.there (.there .here)) T40 (s' := [.ints .u8 x2 20]) rfl rfl rfl trivial ?_; clear S CL a; intro a S CL
    refine h_move S CL hw le (subR rfl) rfl rfl rfl trivial ?_; clear S CL a; intro a S CL
    refine h_run' S rfl trivial ?_
    have hS := S.famAdd (.there (.there .here)) (.there (.there (.there (.there (.there (.there (.there (.there .here))))))))
    clear S; obtain ⟨S, hn1⟩ := hS
    replace S := S.cellMid (s1 := [.ints .u8 x2 20, .one (.int .u64 y9), .ints .u64 y10 4, .sl A4 (y11).length cp4 (RdS (Ty.int .u8) A4 y11), .sl A5 (y12).length cp5 (RdS Y83 A5 y12), .ints .u8 x2 20, .one (.int .u64 y9), .ints .u64 y10 4, .sl A4 (y11).length cp4 (RdS (Ty.int .u8) A4 y11), .sl A5 (y12).length cp5 (RdS Y83 A5 y12), .one (.bool false)]) (s2 := [.one (.bool false), .one (.bool false), .one (.map (some g9))]) (bAt_last _ _ hn1) (by rw [hn1]; simp) .here
    replace S := S.famSub (F' := Res.struct (YE110 (ch_0_5 ++ [g8]) ch_0_6) 110) (hF' := one_struct _ _) (fun _ _ _ _ h => struct_sub (YS110_0 ch_0_5 ch_0_6 g8) _ _ _ _ _ h) (.there (.there (.there (.there (.there (.there (.there .here)))))))
    replace S := S.rowSub (YCs_1 ch_0_0 ch_0_4 ch_0_5 ch_0_6 g8) (.there (.there (.there (.there (.there (.there (.there (.there (.there (.there (.there .here)))))))))))
    have hS := S.famAdd (.there .here) (.there (.there (.there (.there (.there (.there (.there (.there .here))))))))
    clear S; obtain ⟨S, hn2⟩ := hS
    replace S := S.cellMid (s1 := [.ints .u8 x2 20, .one (.int .u64 y9), .ints .u64 y10 4, .sl A4 (y11).length cp4 (RdS (Ty.int .u8) A4 y11), .sl A5 (y12).length cp5 (RdS Y83 A5 y12), .ints .u8 x2 20, .one (.int .u64 y9), .ints .u64 y10 4, .sl A4 (y11).length cp4 (RdS (Ty.int .u8) A4 y11), .sl A5 (y12).length cp5 (RdS Y83 A5 y12), .one (.bool false), .rf (.map (some (bAt (ch_0_5 ++ [g8]) x1.2.1.2.2.1.length))) (ltR x1.2.1.2.2.1.length (ch_0_5 ++ [g8])), .one (.bool false), .one (.bool false)]) (s2 := []) (bAt_last _ _ hn2) (by rw [hn2]; simp) .here
    replace S := S.famSub (F' := Res.struct (YE110 (ch_0_5 ++ [g8]) (ch_0_6 ++ [g9])) 110) (hF' := one_struct _ _) (fun _ _ _ _ h => struct_sub (YS110_1 (ch_0_5 ++ [g8]) ch_0_6 g9) _ _ _ _ _ h) (.there (.there (.there (.there (.there (.there .here))))))
    replace S := S.rowSub (YCs_2 ch_0_0 ch_0_4 (ch_0_5 ++ [g8]) ch_0_6 g9) (.there (.there (.there (.there (.there (.there (.there (.there (.there (.there .here))))))))))
    replace S := S.structClose (T := (YE110 (ch_0_5 ++ [g8]) (ch_0_6 ++ [g9]))) (e := ((x2, y9, y10, y11, y12), (x2, y9, y10, y11, y12), false, x1.2.1.2.2.1.length, false, false, x1.2.1.2.2.2.length)) ((((), (), (), (A4, cp4), (A5, cp5)), ((), (), (), (A4, cp4), (A5, cp5)), (), (), (), (), ()) : ((YE110 (ch_0_5 ++ [g8]) (ch_0_6 ++ [g9]))).Ch) rfl .here
    have hS := S.famAdd .here (.there (.there (.there (.there (.there .here)))))
    clear S; obtain ⟨S, hn3⟩ := hS
    replace S := S.mapSub (fun m x v h => vl_pid g10 m x v h) (.there (.there (.there (.there .here))))
    replace S := S.rowSub (YCs_0 ch_0_0 ch_0_4 (ch_0_5 ++ [g8]) (ch_0_6 ++ [g9]) g10) (.there (.there (.there (.there (.there (.there (.there (.there (.there .here)))))))))
    replace S := S.slotPB (u := 57) (i := x1.2.1.2.1.length) (g := g10) (G := (ch_0_4 ++ [g10])) (by rw [hn3]; simp) (bAt_last _ _ hn3) rfl
    replace S := S.slotPB (u := 9) (i := x1.2.1.2.1.length) (g := g10) (G := (ch_0_4 ++ [g10])) (by rw [hn3]; simp) (bAt_last _ _ hn3) rfl
    replace S := S.slotPB (u := 51) (i := x1.2.1.2.1.length) (g := g10) (G := (ch_0_4 ++ [g10])) (by rw [hn3]; simp) (bAt_last _ _ hn3) rfl
    refine s_mapput S (k := x2) (y := (some x1.2.1.2.1.length)) rfl (.there (.there (.there (.there .here)))) rfl (fun h => ⟨(), rfl, h⟩) rfl (fun h => ⟨(), rfl, h, trivial⟩) Tryz.underlying76 KT40 ?_; clear S; intro w S
    replace hw := CL.again hw S (.cons .here (.cons .here (.cons .here (.cons .here .nil)))) le
    refine h_back ⟨fun _ => hw, ?_⟩
    refine h_done ?_; clear CL hw le
    refine x_thenN ?_
    refine c_region ?_
    refine s_move S rfl rfl ?_; clear S a; intro a S
    refine s_assign S rfl rfl ?_; clear S a; intro a S
    refine c_end ?_
    refine wp_ret ?_
    obtain rfl := Option.some.inj h0
    exact b_ret1 (d := (.rf (ptrV (ch_0_4 ++ [g10]) (some x1.2.1.2.1.length)) (ptrR (ch_0_4 ++ [g10]) (some x1.2.1.2.1.length)))) S rfl rfl fun ok => S.retX (Hx := []) hb _ _ ((ch_0_3, (ch_0_4 ++ [g10]), (ch_0_5 ++ [g8]), (ch_0_6 ++ [g9]), ch_0_7, ch_0_8, ch_0_9, ch_0_10, ch_0_11, ch_0_12, A3, nn1, cp3) : W6) (.cons (.there (.there (.there .here))) (.cons (.there (.there (.there .here))) (.cons (.there (.there (.there .here))) (.cons (.there (.there (.there .here))) (.cons (.there (.there (.there .here))) (.cons (.there (.there (.there .here))) (.cons (.there (.there (.there .here))) (.cons .here .nil)))))))) ok
   refine c_region ?_
   refine s_move S rfl rfl ?_; clear S a; intro a S
   refine s_not S rfl rfl ?_; clear S a; intro a S
   refine c_end ?_
   rcases ite_of h0 with ⟨c2, h1⟩ | ⟨c2, h1⟩ <;> clear h0
   ·refine c_condT S rfl c2 ?_
    refine c_region ?_
    refine s_bldS S (ds := []) (zs := [.ints .u8 [0, 0, 0, 0, 0, 0, 0, 0, 0, 0, 0, 0, 0, 0, 0, 0, 0, 0, 0, 0] 20, .one (.int .u64 0), .ints .u64 [0, 0, 0, 0] 4, .one (.slice none 0 0), .one (.slice none 0 0)]) (s' := [.ints .u8 [0, 0, 0, 0, 0, 0, 0, 0, 0, 0, 0, 0, 0, 0, 0, 0, 0, 0, 0, 0] 20, .one (.int .u64 0), .ints .u64 [0, 0, 0, 0] 4, .one (.slice none 0 0), .one (.slice none 0 0)]) rfl Tryz.underlying71 P71 Z71 ⟨rfl, rfl, rfl, rfl, rfl, trivial⟩ rfl rfl ?_; clear S a; intro a S
    refine s_store S rfl rfl rfl (s' := [.ints .u8 [0, 0, 0, 0, 0, 0, 0, 0, 0, 0, 0, 0, 0, 0, 0, 0, 0, 0, 0, 0] 20, .one (.int .u64 0), .ints .u64 [0, 0, 0, 0] 4, .one (.slice none 0 0), .one (.slice none 0 0)]) .here T71 rfl rfl ?_; clear S w; intro w S
    refine c_end ?_
    refine c_region ?_
    refine s_move S rfl rfl ?_; clear S a; intro a S
    refine s_nilchk S rfl rfl ?_; clear S a; intro a S
    refine s_fieldAddr S rfl I79_5 T32 (by decide) rfl rfl ?_; clear S a; intro a S
    refine s_load1 S rfl (.there (.there .here)) T32 (v := (.slice ch_0_13 ch_0_14 ch_0_15)) rfl rfl ?_; clear S a; intro a S
    refine s_lenO S rfl (.there (.there (.there (.there (.there (.there (.there (.there (.there .here))))))))) Tryz.underlying32 rfl ?_; clear S a; intro a S
    refine s_bin S rfl rfl rfl rfl ?_; clear S a; intro a S
    refine c_end ?_
    rcases ite_of h1 with ⟨c3, h2⟩ | ⟨c3, h2⟩ <;> clear h1
    ·refine c_condT S rfl c3 ?_
     refine c_region' ?_
     refine s_move S rfl rfl ?_; clear S a; intro a S
     refine s_loada S rfl (.there .here) T40 (s' := [.ints .u8 x2 20]) rfl rfl ?_; clear S a; intro a S
     refine s_bldSl S (ty' := (Ty.arr .u8 20)) (ds := [(0, (.agg [.ints .u8 x2 20]))]) (z := [0, 0, 0, 0, 0, 0, 0, 0, 0, 0, 0, 0, 0, 0, 0, 0, 0, 0, 0, 0]) (c0 := ()) (ys := [x2]) (cs := [()]) rfl Tryz.underlying32 J40 Z40 rfl ⟨rfl, trivial⟩ rfl rfl rfl rfl rfl rfl ?_; clear S a w; intro g11 a w S
     refine s_nilchk S rfl rfl ?_; clear S a; intro a S
     refine s_fieldAddr S rfl I79_5 T32 (by decide) rfl rfl ?_; clear S a; intro a S
     refine s_store S rfl rfl rfl (s' := [.rf (.iface 75 (.agg (cellsOf [.sl ch_0_1 (x1.1).length ch_0_2 (RdS Y71 ch_0_1 x1.1)]).toArray)) (IfR [.sl ch_0_1 (x1.1).length ch_0_2 (RdS Y71 ch_0_1 x1.1)]), .one (.map (some ch_0_3)), .one (.int .i64 x1.2.2.1), .one (.slice ch_0_7 ch_0_8 ch_0_9), .one (.slice ch_0_10 ch_0_11 ch_0_12), .one (.slice (some ⟨g11, 0, none⟩) 1 1)]) (.there (.there (.there .here))) T32 rfl rfl ?_; clear S w; intro w S
     refine c_end' ?_
     refine x_thenN ?_
     replace S := S.cellro (s' := [.ints .u8 [0, 0, 0, 0, 0, 0, 0, 0, 0, 0, 0, 0, 0, 0, 0, 0, 0, 0, 0, 0] 20, .one (.int .u64 0), .ints .u64 [0, 0, 0, 0] 4, .sl none (([] : List Int)).length 0 (RdS (Ty.int .u8) none ([] : List Int)), .one (.slice none 0 0)]) (.there .here) rfl (fun h => ⟨h.1, h.2.1, h.2.2.1, ok_nil, h.2.2.2.2.1, trivial⟩)
     replace S := S.cellro (s' := [.ints .u8 [0, 0, 0, 0, 0, 0, 0, 0, 0, 0, 0, 0, 0, 0, 0, 0, 0, 0, 0, 0] 20, .one (.int .u64 0), .ints .u64 [0, 0, 0, 0] 4, .sl none (([] : List Int)).length 0 (RdS (Ty.int .u8) none ([] : List Int)), .sl none (([] : List ((List Int) × (List Int)))).length 0 (RdS Y83 none ([] : List ((List Int) × (List Int))))]) (.there .here) rfl (fun h => ⟨h.1, h.2.1, h.2.2.1, h.2.2.2.1, ok_nil, trivial⟩)
     exact j2 _ g3 g4 (some ⟨g11, 0, none⟩) 1 1 [x2] [0, 0, 0, 0, 0, 0, 0, 0, 0, 0, 0, 0, 0, 0, 0, 0, 0, 0, 0, 0] 0 [0, 0, 0, 0] none 0 ([] : List Int) none 0 ([] : List ((List Int) × (List Int))) a w (S.sub (subR rfl) (.cons .here (.cons .here (.cons .here (.cons .here (.cons .here (.cons .here (.cons .here (.cons .here (.cons .here (.cons .here .nil))))))))))) h2
    ·refine c_condF S rfl c3 ?_
     refine wp_skip ?_
     refine x_thenN ?_
     replace S := S.cellro (s' := [.ints .u8 [0, 0, 0, 0, 0, 0, 0, 0, 0, 0, 0, 0, 0, 0, 0, 0, 0, 0, 0, 0] 20, .one (.int .u64 0), .ints .u64 [0, 0, 0, 0] 4, .sl none (([] : List Int)).length 0 (RdS (Ty.int .u8) none ([] : List Int)), .one (.slice none 0 0)]) .here rfl (fun h => ⟨h.1, h.2.1, h.2.2.1, ok_nil, h.2.2.2.2.1, trivial⟩)
     replace S := S.cellro (s' := [.ints .u8 [0, 0, 0, 0, 0, 0, 0, 0, 0, 0, 0, 0, 0, 0, 0, 0, 0, 0, 0, 0] 20, .one (.int .u64 0), .ints .u64 [0, 0, 0, 0] 4, .sl none (([] : List Int)).length 0 (RdS (Ty.int .u8) none ([] : List Int)), .sl none (([] : List ((List Int) × (List Int)))).length 0 (RdS Y83 none ([] : List ((List Int) × (List Int))))]) .here rfl (fun h => ⟨h.1, h.2.1, h.2.2.1, h.2.2.2.1, ok_nil, trivial⟩)
     exact j2 _ g3 g4 ch_0_13 ch_0_14 ch_0_15 x1.2.2.2.2.2 [0, 0, 0, 0, 0, 0, 0, 0, 0, 0, 0, 0, 0, 0, 0, 0, 0, 0, 0, 0] 0 [0, 0, 0, 0] none 0 ([] : List Int) none 0 ([] : List ((List Int) × (List Int))) a w (S.sub (subR rfl) (.cons (.there (.there (.there (.there (.there (.there (.there (.there (.there .here))))))))) (.cons .here (.cons .here (.cons .here (.cons .here (.cons .here (.cons .here (.cons .here (.cons .here (.cons .here .nil))))))))))) h2
   ·refine c_condF S rfl c2 ?_
    refine wp_skip ?_
    refine x_thenN ?_
    exact j2 _ g3 g4 ch_0_13 ch_0_14 ch_0_15 x1.2.2.2.2.2 y2 y3 y4 A1 cp1 y5 A2 cp2 y6 a w (S.sub (subR rfl) (.cons (.there (.there (.there (.there (.there (.there (.there (.there (.there .here))))))))) (.cons .here (.cons .here (.cons .here (.cons .here (.cons .here (.cons .here (.cons .here (.cons .here (.cons .here .nil))))))))))) h1
  refine c_heldS S (.take 0 (.take 1 (.take 2 (.take 3 (.take 4 (.alts (.run 5 false (.pure 6 (.pure 7 (.pure 8 (.alts (.run 9 false (.alts (.run 10 false (.alts (.run 11 false .done .nil)) .nil)) .nil))))) (.run 9 true (.alts (.run 5 false (.pure 6 (.pure 7 (.pure 8 (.alts (.run 10 false (.alts (.run 11 false .done .nil)) .nil))))) .nil)) .nil)))))))) 5 [Res.cells g1 40 [.ints .u8 x2 20], Res.cells ch_0_0 79 [.rf (.iface 75 (.agg (cellsOf [.sl ch_0_1 (x1.1).length ch_0_2 (RdS Y71 ch_0_1 x1.1)]).toArray)) (IfR [.sl ch_0_1 (x1.1).length ch_0_2 (RdS Y71 ch_0_1 x1.1)]), .one (.map (some ch_0_3)), .one (.int .i64 x1.2.2.1), .one (.slice ch_0_7 ch_0_8 ch_0_9), .one (.slice ch_0_10 ch_0_11 ch_0_12), .one (.slice ch_0_13 ch_0_14 ch_0_15)], Res.row (Ty.arr .u8 20) 40 ch_0_13 ch_0_14 ch_0_15 x1.2.2.2.2.2] (.cons .here (.cons .here (.cons (.there (.there (.there (.there (.there (.there .here)))))) .nil))) ⟨Res.stay_cells, Res.stay_cells, Res.stay_row flat_arr, trivial⟩ [(3, (.v (.pointer (some ⟨g1, 0, none⟩)))), (0, (.v (.pointer (some ⟨ch_0_0, 0, none⟩))))] (subR rfl) (by kernel_rfl) (by kernel_rfl) ?_; clear S; intro w S CL hw le
  refine h_move S CL hw le (subR rfl) rfl rfl rfl trivial ?_; clear S CL a; intro a S CL
  refine h_nilchk S CL hw le (subR rfl) rfl rfl rfl rfl trivial ?_; clear S CL a; intro a S CL
  refine h_fieldAddr S CL hw le (subR rfl) rfl I79_0 T29 (by decide) rfl rfl rfl trivial ?_; clear S CL a; intro a S CL
  refine h_loadM S CL hw le (subR rfl) rfl (.there .here) T29 (v := (.iface 75 (.agg (cellsOf [.sl ch_0_1 (x1.1).length ch_0_2 (RdS Y71 ch_0_1 x1.1)]).toArray))) rfl rfl rfl trivial ?_; clear S CL a; intro a S CL
  refine h_loada S CL hw le (subR rfl) rfl .here T40 (s' := [.ints .u8 x2 20]) rfl rfl rfl trivial ?_; clear S CL a; intro a S CL
  obtain ⟨t1, et1, h2⟩ := bind_of h1; clear h1
  refine h_alts ?_
  refine h_runO S rfl trivial ?_ ?_
  ·refine s_callI S (d0 := (.agg [.sl ch_0_1 (x1.1).length ch_0_2 (RdS Y71 ch_0_1 x1.1)])) (ds' := [(.agg [.ints .u8 x2 20])]) (ds := [(.agg [.ints .u8 x2 20])]) [] [Res.cells g1 40 [.ints .u8 x2 20], Res.cells ch_0_0 79 [.rf (.iface 75 (.agg (cellsOf [.sl ch_0_1 (x1.1).length ch_0_2 (RdS Y71 ch_0_1 x1.1)]).toArray)) (IfR [.sl ch_0_1 (x1.1).length ch_0_2 (RdS Y71 ch_0_1 x1.1)]), .one (.map (some ch_0_3)), .one (.int .i64 x1.2.2.1), .one (.slice ch_0_7 ch_0_8 ch_0_9), .one (.slice ch_0_10 ch_0_11 ch_0_12), .one (.slice ch_0_13 ch_0_14 ch_0_15)], Res.map true (Ty.arr .u8 20) false (Ty.pid ch_0_4) ch_0_3 x1.2.1.1, Res.fam (Res.struct (YE110 ch_0_5 ch_0_6) 110) (one_struct _ _) ch_0_4 [] x1.2.1.2.1, Res.fam (fun g_ kvs_ => Res.map true (Ty.arr .u64 4) true (Ty.arr .u64 4) g_ kvs_) (one_map true (Ty.arr .u64 4) true (Ty.arr .u64 4)) ch_0_5 [] x1.2.1.2.2.1, Res.fam (fun g_ kvs_ => Res.map true (Ty.arr .u64 4) false Ty.bool g_ kvs_) (one_map true (Ty.arr .u64 4) false Ty.bool) ch_0_6 [] x1.2.1.2.2.2, Res.row Y100 100 ch_0_7 ch_0_8 ch_0_9 x1.2.2.2.1, Res.row (YC ch_0_0 ch_0_4 ch_0_5 ch_0_6) 1 ch_0_10 ch_0_11 ch_0_12 x1.2.2.2.2.1, Res.row (Ty.arr .u8 20) 40 ch_0_13 ch_0_14 ch_0_15 x1.2.2.2.2.2] (fun (ch : W4) => ((.tup [(true, (Y71.segs t1.1 ((), (), (), (ch.1, ch.2.1), (ch.2.2.1, ch.2.2.2)))), (false, [.one (.bool t1.2)])]) : D)) (fun (ch : W4) => []) (fun (ch : W4) => [Res.cells g1 40 [.ints .u8 x2 20], Res.cells ch_0_0 79 [.rf (.iface 75 (.agg (cellsOf [.sl ch_0_1 (x1.1).length ch_0_2 (RdS Y71 ch_0_1 x1.1)]).toArray)) (IfR [.sl ch_0_1 (x1.1).length ch_0_2 (RdS Y71 ch_0_1 x1.1)]), .one (.map (some ch_0_3)), .one (.int .i64 x1.2.2.1), .one (.slice ch_0_7 ch_0_8 ch_0_9), .one (.slice ch_0_10 ch_0_11 ch_0_12), .one (.slice ch_0_13 ch_0_14 ch_0_15)], Res.map true (Ty.arr .u8 20) false (Ty.pid ch_0_4) ch_0_3 x1.2.1.1, Res.fam (Res.struct (YE110 ch_0_5 ch_0_6) 110) (one_struct _ _) ch_0_4 [] x1.2.1.2.1, Res.fam (fun g_ kvs_ => Res.map true (Ty.arr .u64 4) true (Ty.arr .u64 4) g_ kvs_) (one_map true (Ty.arr .u64 4) true (Ty.arr .u64 4)) ch_0_5 [] x1.2.1.2.2.1, Res.fam (fun g_ kvs_ => Res.map true (Ty.arr .u64 4) false Ty.bool g_ kvs_) (one_map true (Ty.arr .u64 4) false Ty.bool) ch_0_6 [] x1.2.1.2.2.2, Res.row Y100 100 ch_0_7 ch_0_8 ch_0_9 x1.2.2.2.1, Res.row (YC ch_0_0 ch_0_4 ch_0_5 ch_0_6) 1 ch_0_10 ch_0_11 ch_0_12 x1.2.2.2.2.1, Res.row (Ty.arr .u8 20) 40 ch_0_13 ch_0_14 ch_0_15 x1.2.2.2.2.2]) (fun _ => rfl) N146 M75_Account rfl rfl (fun h => h) rfl rfl (fun ok => ok) (.cons .here (.cons .here (.cons .here (.cons .here (.cons .here (.cons .here (.cons .here (.cons .here (.cons .here .nil))))))))) rfl (state_list_Account.ok k (x1.1) x2 ch_0_1 ch_0_2 t1 et1 _ _) ?_; clear S a; intro ch3 m le1 a w S
   replace le := le.trans le1
   refine h_back ⟨fun h => (nomatch h), ?_⟩
   refine p_move S rfl rfl rfl trivial ?_; clear S a; intro a S
   refine p_extract S rfl rfl rfl rfl rfl trivial ?_; clear S a; intro a S
   refine p_extract S rfl rfl rfl rfl rfl trivial ?_; clear S a; intro a S
   refine h_run' S rfl trivial ?_
   refine s_alloc S Z71 rfl ⟨rfl, rfl, rfl, rfl, rfl, trivial⟩ rfl ?_; clear S a; intro g12 a w S
   refine h_back ⟨fun h => (nomatch h), ?_⟩
   refine h_run' S rfl trivial ?_
   refine s_store S rfl rfl rfl (s' := [.ints .u8 t1.1.1 20, .one (.int .u64 t1.1.2.1), .ints .u64 t1.1.2.2.1 4, .sl ch3.1 (t1.1.2.2.2.1).length ch3.2.1 (RdS (Ty.int .u8) ch3.1 t1.1.2.2.2.1), .sl ch3.2.2.1 (t1.1.2.2.2.2).length ch3.2.2.2 (RdS Y83 ch3.2.2.1 t1.1.2.2.2.2)]) .here T71 rfl rfl ?_; clear S; intro w S
   refine h_back ⟨fun h => (nomatch h), ?_⟩
   refine h_run' S rfl trivial ?_
   refine s_assign S rfl rfl ?_; clear S a; intro a S
   refine h_back ⟨fun h => (nomatch h), ?_⟩
   refine h_done ?_; clear CL hw le
   refine x_thenN ?_
   exact j1 _ t1.2 g12 g1 t1.1.1 t1.1.2.1 t1.1.2.2.1 ch3.1 ch3.2.1 t1.1.2.2.2.1 ch3.2.2.1 ch3.2.2.2 t1.1.2.2.2.2 a w (S.sub (subR rfl) (.cons .here (.cons .here (.cons .here (.cons .here (.cons .here (.cons .here (.cons .here (.cons .here (.cons .here (.cons .here .nil))))))))))) h2
  refine h_runO S rfl trivial ?_ ?_
  ·refine s_alloc S Z71 rfl ⟨rfl, rfl, rfl, rfl, rfl, trivial⟩ rfl ?_; clear S a; intro g12 a w S
   replace hw := CL.again hw S (.cons (.there .here) (.cons (.there .here) (.cons (.there (.there (.there (.there (.there (.there (.there .here))))))) .nil))) le
   refine h_back ⟨fun _ => hw, ?_⟩
   refine h_run' S rfl trivial ?_
   refine s_callI S (d0 := (.agg [.sl ch_0_1 (x1.1).length ch_0_2 (RdS Y71 ch_0_1 x1.1)])) (ds' := [(.agg [.ints .u8 x2 20])]) (ds := [(.agg [.ints .u8 x2 20])]) [] [Res.cells g12 71 [.ints .u8 [0, 0, 0, 0, 0, 0, 0, 0, 0, 0, 0, 0, 0, 0, 0, 0, 0, 0, 0, 0] 20, .one (.int .u64 0), .ints .u64 [0, 0, 0, 0] 4, .one (.slice none 0 0), .one (.slice none 0 0)], Res.cells g1 40 [.ints .u8 x2 20], Res.cells ch_0_0 79 [.rf (.iface 75 (.agg (cellsOf [.sl ch_0_1 (x1.1).length ch_0_2 (RdS Y71 ch_0_1 x1.1)]).toArray)) (IfR [.sl ch_0_1 (x1.1).length ch_0_2 (RdS Y71 ch_0_1 x1.1)]), .one (.map (some ch_0_3)), .one (.int .i64 x1.2.2.1), .one (.slice ch_0_7 ch_0_8 ch_0_9), .one (.slice ch_0_10 ch_0_11 ch_0_12), .one (.slice ch_0_13 ch_0_14 ch_0_15)], Res.map true (Ty.arr .u8 20) false (Ty.pid ch_0_4) ch_0_3 x1.2.1.1, Res.fam (Res.struct (YE110 ch_0_5 ch_0_6) 110) (one_struct _ _) ch_0_4 [] x1.2.1.2.1, Res.fam (fun g_ kvs_ => Res.map true (Ty.arr .u64 4) true (Ty.arr .u64 4) g_ kvs_) (one_map true (Ty.arr .u64 4) true (Ty.arr .u64 4)) ch_0_5 [] x1.2.1.2.2.1, Res.fam (fun g_ kvs_ => Res.map true (Ty.arr .u64 4) false Ty.bool g_ kvs_) (one_map true (Ty.arr .u64 4) false Ty.bool) ch_0_6 [] x1.2.1.2.2.2, Res.row Y100 100 ch_0_7 ch_0_8 ch_0_9 x1.2.2.2.1, Res.row (YC ch_0_0 ch_0_4 ch_0_5 ch_0_6) 1 ch_0_10 ch_0_11 ch_0_12 x1.2.2.2.2.1, Res.row (Ty.arr .u8 20) 40 ch_0_13 ch_0_14 ch_0_15 x1.2.2.2.2.2] (fun (ch : W4) => ((.tup [(true, (Y71.segs t1.1 ((), (), (), (ch.1, ch.2.1), (ch.2.2.1, ch.2.2.2)))), (false, [.one (.bool t1.2)])]) : D)) (fun (ch : W4) => []) (fun (ch : W4) => [Res.cells g12 71 [.ints .u8 [0, 0, 0, 0, 0, 0, 0, 0, 0, 0, 0, 0, 0, 0, 0, 0, 0, 0, 0, 0] 20, .one (.int .u64 0), .ints .u64 [0, 0, 0, 0] 4, .one (.slice none 0 0), .one (.slice none 0 0)], Res.cells g1 40 [.ints .u8 x2 20], Res.cells ch_0_0 79 [.rf (.iface 75 (.agg (cellsOf [.sl ch_0_1 (x1.1).length ch_0_2 (RdS Y71 ch_0_1 x1.1)]).toArray)) (IfR [.sl ch_0_1 (x1.1).length ch_0_2 (RdS Y71 ch_0_1 x1.1)]), .one (.map (some ch_0_3)), .one (.int .i64 x1.2.2.1), .one (.slice ch_0_7 ch_0_8 ch_0_9), .one (.slice ch_0_10 ch_0_11 ch_0_12), .one (.slice ch_0_13 ch_0_14 ch_0_15)], Res.map true (Ty.arr .u8 20) false (Ty.pid ch_0_4) ch_0_3 x1.2.1.1, Res.fam (Res.struct (YE110 ch_0_5 ch_0_6) 110) (one_struct _ _) ch_0_4 [] x1.2.1.2.1, Res.fam (fun g_ kvs_ => Res.map true (Ty.arr .u64 4) true (Ty.arr .u64 4) g_ kvs_) (one_map true (Ty.arr .u64 4) true (Ty.arr .u64 4)) ch_0_5 [] x1.2.1.2.2.1, Res.fam (fun g_ kvs_ => Res.map true (Ty.arr .u64 4) false Ty.bool g_ kvs_) (one_map true (Ty.arr .u64 4) false Ty.bool) ch_0_6 [] x1.2.1.2.2.2, Res.row Y100 100 ch_0_7 ch_0_8 ch_0_9 x1.2.2.2.1, Res.row (YC ch_0_0 ch_0_4 ch_0_5 ch_0_6) 1 ch_0_10 ch_0_11 ch_0_12 x1.2.2.2.2.1, Res.row (Ty.arr .u8 20) 40 ch_0_13 ch_0_14 ch_0_15 x1.2.2.2.2.2]) (fun _ => rfl) N146 M75_Account rfl rfl (fun h => h) rfl rfl (fun ok => ok) (.cons .here (.cons .here (.cons .here (.cons .here (.cons .here (.cons .here (.cons .here (.cons .here (.cons .here (.cons .here .nil)))))))))) rfl (state_list_Account.ok k (x1.1) x2 ch_0_1 ch_0_2 t1 et1 _ _) ?_; clear S a; intro ch3 m le1 a w S
   replace le := le.trans le1
   refine h_back ⟨fun h => (nomatch h), ?_⟩
   refine p_move S rfl rfl rfl trivial ?_; clear S a; intro a S
   refine p_extract S rfl rfl rfl rfl rfl trivial ?_; clear S a; intro a S
   refine p_extract S rfl rfl rfl rfl rfl trivial ?_; clear S a; intro a S
   refine h_run' S rfl trivial ?_
   refine s_store S rfl rfl rfl (s' := [.ints .u8 t1.1.1 20, .one (.int .u64 t1.1.2.1), .ints .u64 t1.1.2.2.1 4, .sl ch3.1 (t1.1.2.2.2.1).length ch3.2.1 (RdS (Ty.int .u8) ch3.1 t1.1.2.2.2.1), .sl ch3.2.2.1 (t1.1.2.2.2.2).length ch3.2.2.2 (RdS Y83 ch3.2.2.1 t1.1.2.2.2.2)]) .here T71 rfl rfl ?_; clear S; intro w S
   refine h_back ⟨fun h => (nomatch h), ?_⟩
   refine h_run' S rfl trivial ?_
   refine s_assign S rfl rfl ?_; clear S a; intro a S
   refine h_back ⟨fun h => (nomatch h), ?_⟩
   refine h_done ?_; clear CL hw le
   refine x_thenN ?_
   exact j1 _ t1.2 g12 g1 t1.1.1 t1.1.2.1 t1.1.2.2.1 ch3.1 ch3.2.1 t1.1.2.2.2.1 ch3.2.2.1 ch3.2.2.2 t1.1.2.2.2.2 a w (S.sub (subR rfl) (.cons .here (.cons .here (.cons .here (.cons .here (.cons .here (.cons .here (.cons .here (.cons .here (.cons .here (.cons .here .nil))))))))))) h2
  exact h_nil
abbrev state_State_done_1clo.Ty : Type := W1 → Clo → Option W8
def state_State_done_1clo.Ctr (s : state_State_done_1clo.Ty) : Prop := ∀ (x1 : W1) (x2 : Clo) (ch_0_0 : Nat) (ch_0_1 : Option Addr) (ch_0_2 : Nat) (ch_0_3 : Nat) (ch_0_4 : List Nat) (ch_0_5 : List Nat) (ch_0_6 : List Nat) (ch_0_7 : Option Addr) (ch_0_8 : Nat) (ch_0_9 : Nat) (ch_0_10 : Option Addr) (ch_0_11 : Nat) (ch_0_12 : Nat) (ch_0_13 : Option Addr) (ch_0_14 : Nat) (ch_0_15 : Nat) (ch_1_0 : List Addr) (r : W8) (h0 : s x1 x2 = some r) (mi : Mem) (w0 : World), okL mi [(.v (.pointer (some ⟨ch_0_0, 0, none⟩))), (.rf (cloV x2 ch_1_0) (cloR ch_0_0 ch_0_4 ch_0_5 ch_0_6 x2 ch_1_0))] → Pre mi [Res.cells ch_0_0 79 [.rf (.iface 75 (.agg (cellsOf [.sl ch_0_1 (x1.1).length ch_0_2 (RdS Y71 ch_0_1 x1.1)]).toArray)) (IfR [.sl ch_0_1 (x1.1).length ch_0_2 (RdS Y71 ch_0_1 x1.1)]), .one (.map (some ch_0_3)), .one (.int .i64 x1.2.2.1), .one (.slice ch_0_7 ch_0_8 ch_0_9), .one (.slice ch_0_10 ch_0_11 ch_0_12), .one (.slice ch_0_13 ch_0_14 ch_0_15)], Res.map true (Ty.arr .u8 20) false (Ty.pid ch_0_4) ch_0_3 x1.2.1.1, Res.fam (Res.struct (YE110 ch_0_5 ch_0_6) 110) (one_struct _ _) ch_0_4 [] x1.2.1.2.1, Res.fam (fun g_ kvs_ => Res.map true (Ty.arr .u64 4) true (Ty.arr .u64 4) g_ kvs_) (one_map true (Ty.arr .u64 4) true (Ty.arr .u64 4)) ch_0_5 [] x1.2.1.2.2.1, Res.fam (fun g_ kvs_ => Res.map true (Ty.arr .u64 4) false Ty.bool g_ kvs_) (one_map true (Ty.arr .u64 4) false Ty.bool) ch_0_6 [] x1.2.1.2.2.2, Res.row Y100 100 ch_0_7 ch_0_8 ch_0_9 x1.2.2.2.1, Res.row (YC ch_0_0 ch_0_4 ch_0_5 ch_0_6) 1 ch_0_10 ch_0_11 ch_0_12 x1.2.2.2.2.1, Res.row (Ty.arr .u8 20) 40 ch_0_13 ch_0_14 ch_0_15 x1.2.2.2.2.2] w0 → Calls Tryz.prog 68 (([(.v (.pointer (some ⟨ch_0_0, 0, none⟩))), (.rf (cloV x2 ch_1_0) (cloR ch_0_0 ch_0_4 ch_0_5 ch_0_6 x2 ch_1_0))] : List D).map D.val).toArray w0 (RetX mi [Res.cells ch_0_0 79 [.rf (.iface 75 (.agg (cellsOf [.sl ch_0_1 (x1.1).length ch_0_2 (RdS Y71 ch_0_1 x1.1)]).toArray)) (IfR [.sl ch_0_1 (x1.1).length ch_0_2 (RdS Y71 ch_0_1 x1.1)]), .one (.map (some ch_0_3)), .one (.int .i64 x1.2.2.1), .one (.slice ch_0_7 ch_0_8 ch_0_9), .one (.slice ch_0_10 ch_0_11 ch_0_12), .one (.slice ch_0_13 ch_0_14 ch_0_15)], Res.map true (Ty.arr .u8 20) false (Ty.pid ch_0_4) ch_0_3 x1.2.1.1, Res.fam (Res.struct (YE110 ch_0_5 ch_0_6) 110) (one_struct _ _) ch_0_4 [] x1.2.1.2.1, Res.fam (fun g_ kvs_ => Res.map true (Ty.arr .u64 4) true (Ty.arr .u64 4) g_ kvs_) (one_map true (Ty.arr .u64 4) true (Ty.arr .u64 4)) ch_0_5 [] x1.2.1.2.2.1, Res.fam (fun g_ kvs_ => Res.map true (Ty.arr .u64 4) false Ty.bool g_ kvs_) (one_map true (Ty.arr .u64 4) false Ty.bool) ch_0_6 [] x1.2.1.2.2.2, Res.row Y100 100 ch_0_7 ch_0_8 ch_0_9 x1.2.2.2.1, Res.row (YC ch_0_0 ch_0_4 ch_0_5 ch_0_6) 1 ch_0_10 ch_0_11 ch_0_12 x1.2.2.2.2.1, Res.row (Ty.arr .u8 20) 40 ch_0_13 ch_0_14 ch_0_15 x1.2.2.2.2.2] (fun (ch : (Option Addr) × Nat × Nat) => ((.tup []) : D)) (fun (ch : (Option Addr) × Nat × Nat) => [Res.cells ch_0_0 79 [.rf (.iface 75 (.agg (cellsOf [.sl ch_0_1 (x1.1).length ch_0_2 (RdS Y71 ch_0_1 x1.1)]).toArray)) (IfR [.sl ch_0_1 (x1.1).length ch_0_2 (RdS Y71 ch_0_1 x1.1)]), .one (.map (some ch_0_3)), .one (.int .i64 x1.2.2.1), .one (.slice ch_0_7 ch_0_8 ch_0_9), .one (.slice ch.1 ch.2.1 ch.2.2), .one (.slice ch_0_13 ch_0_14 ch_0_15)], Res.map true (Ty.arr .u8 20) false (Ty.pid ch_0_4) ch_0_3 x1.2.1.1, Res.fam (Res.struct (YE110 ch_0_5 ch_0_6) 110) (one_struct _ _) ch_0_4 [] x1.2.1.2.1, Res.fam (fun g_ kvs_ => Res.map true (Ty.arr .u64 4) true (Ty.arr .u64 4) g_ kvs_) (one_map true (Ty.arr .u64 4) true (Ty.arr .u64 4)) ch_0_5 [] x1.2.1.2.2.1, Res.fam (fun g_ kvs_ => Res.map true (Ty.arr .u64 4) false Ty.bool g_ kvs_) (one_map true (Ty.arr .u64 4) false Ty.bool) ch_0_6 [] x1.2.1.2.2.2, Res.row Y100 100 ch_0_7 ch_0_8 ch_0_9 x1.2.2.2.1, Res.row (YC ch_0_0 ch_0_4 ch_0_5 ch_0_6) 1 ch.1 ch.2.1 ch.2.2 r.2.2.2.2.1, Res.row (Ty.arr .u8 20) 40 ch_0_13 ch_0_14 ch_0_15 x1.2.2.2.2.2]) w0)
def state_State_done_1clo.f (x1 : W1) (x2 : Clo) : Option W8 := if ((x1.2.2.2.2.1).length + ([x2]).length) * 8 ≤ 140737488355328 then (some ((), (), (), (), x1.2.2.2.2.1 ++ [x2], ())) else none
theorem state_State_done_1clo.ok : state_State_done_1clo.Ctr (state_State_done_1clo.f) := by
 intro x1 x2 ch_0_0 ch_0_1 ch_0_2 ch_0_3 ch_0_4 ch_0_5 ch_0_6 ch_0_7 ch_0_8 ch_0_9 ch_0_10 ch_0_11 ch_0_12 ch_0_13 ch_0_14 ch_0_15 ch_1_0 r h0 mi w0 ok hm
 delta state_State_done_1clo.f at h0
 refine c_enterX (n := 14) [(.v (.pointer (some ⟨ch_0_0, 0, none⟩))), (.rf (cloV x2 ch_1_0) (cloR ch_0_0 ch_0_4 ch_0_5 ch_0_6 x2 ch_1_0))] (l := [(0, (.v (.pointer (some ⟨ch_0_0, 0, none⟩)))), (1, (.rf (cloV x2 ch_1_0) (cloR ch_0_0 ch_0_4 ch_0_5 ch_0_6 x2 ch_1_0)))]) Tryz.func68 rfl rfl rfl rfl ok hm ?_
 clear ok hm
 intro b0 hb a S
 refine c_region' ?_
 refine s_move S rfl rfl ?_; clear S a; intro a S
 refine s_move S rfl rfl ?_; clear S a; intro a S
 refine s_nilchk S rfl rfl ?_; clear S a; intro a S
 refine s_fieldAddr S rfl I79_4 T77 (by decide) rfl rfl ?_; clear S a; intro a S
 refine s_load1 S rfl .here T77 (v := (.slice ch_0_10 ch_0_11 ch_0_12)) rfl rfl ?_; clear S a; intro a S
 refine s_move S rfl rfl ?_; clear S a; intro a S
 refine s_bldSl S (ty' := (YC ch_0_0 ch_0_4 ch_0_5 ch_0_6)) (ds := [(0, (.rf (cloV x2 ch_1_0) (cloR ch_0_0 ch_0_4 ch_0_5 ch_0_6 x2 ch_1_0)))]) (z := Clo.nil) (c0 := []) (ys := [x2]) (cs := [ch_1_0]) rfl Tryz.underlying77 J1 Z1 rfl ⟨⟨rfl, trivial, cloM _ _ _ _ _ _⟩, trivial⟩ rfl rfl rfl rfl rfl rfl ?_; clear S a; intro g1 a w S
 obtain ⟨c1, h1⟩ := chk_of h0; clear h0
 refine s_app S (k2 := 1) (ys := [x2]) rfl (fun _ _ => (.there (.there (.there (.there (.there (.there (.there .here)))))))) rfl rfl (S.holds _ (Pull.mem .here).1).1 (Res.row.src (S.holds _ (Pull.mem .here).1)) Tryz.underlying77 J1 c1 rfl ?_; clear S a w; intro A1 cp1 a w S
 refine s_nilchk S rfl rfl ?_; clear S a; intro a S
 refine s_fieldAddr S rfl I79_4 T77 (by decide) rfl rfl ?_; clear S a; intro a S
 refine s_store S rfl rfl rfl (s' := [.rf (.iface 75 (.agg (cellsOf [.sl ch_0_1 (x1.1).length ch_0_2 (RdS Y71 ch_0_1 x1.1)]).toArray)) (IfR [.sl ch_0_1 (x1.1).length ch_0_2 (RdS Y71 ch_0_1 x1.1)]), .one (.map (some ch_0_3)), .one (.int .i64 x1.2.2.1), .one (.slice ch_0_7 ch_0_8 ch_0_9), .one (.slice A1 (ch_0_11 + 1) cp1), .one (.slice ch_0_13 ch_0_14 ch_0_15)]) (.there .here) T77 rfl rfl ?_; clear S w; intro w S
 refine c_end' ?_
 refine b_end ?_
 obtain rfl := Option.some.inj h1
 exact b_ret0 S rfl (S.retX (Hx := []) hb _ _ ((A1, ch_0_11 + 1, cp1) : (Option Addr) × Nat × Nat) (.cons (.there .here) (.cons (.there .here) (.cons (.there .here) (.cons (.there .here) (.cons (.there .here) (.cons (.there .here) (.cons (.there .here) (.cons (.there .here) .nil)))))))) trivial)
abbrev state_State_Set.Ty : Type := W1 → (List Int) → (List Int) → (List Int) → Option W9
def state_State_Set.Ctr (s : state_State_Set.Ty) : Prop := ∀ (x1 : W1) (x2 : List Int) (x3 : List Int) (x4 : List Int) (ch_0_0 : Nat) (ch_0_1 : Option Addr) (ch_0_2 : Nat) (ch_0_3 : Nat) (ch_0_4 : List Nat) (ch_0_5 : List Nat) (ch_0_6 : List Nat) (ch_0_7 : Option Addr) (ch_0_8 : Nat) (ch_0_9 : Nat) (ch_0_10 : Option Addr) (ch_0_11 : Nat) (ch_0_12 : Nat) (ch_0_13 : Option Addr) (ch_0_14 : Nat) (ch_0_15 : Nat) (r : W9) (h0 : s x1 x2 x3 x4 = some r) (mi : Mem) (w0 : World), okL mi [(.v (.pointer (some ⟨ch_0_0, 0, none⟩))), (.agg [.ints .u8 x2 20]), (.agg [.ints .u64 x3 4]), (.agg [.ints .u64 x4 4])] → Pre mi [Res.cells ch_0_0 79 [.rf (.iface 75 (.agg (cellsOf [.sl ch_0_1 (x1.1).length ch_0_2 (RdS Y71 ch_0_1 x1.1)]).toArray)) (IfR [.sl ch_0_1 (x1.1).length ch_0_2 (RdS Y71 ch_0_1 x1.1)]), .one (.map (some ch_0_3)), .one (.int .i64 x1.2.2.1), .one (.slice ch_0_7 ch_0_8 ch_0_9), .one (.slice ch_0_10 ch_0_11 ch_0_12), .one (.slice ch_0_13 ch_0_14 ch_0_15)], Res.map true (Ty.arr .u8 20) false (Ty.pid ch_0_4) ch_0_3 x1.2.1.1, Res.fam (Res.struct (YE110 ch_0_5 ch_0_6) 110) (one_struct _ _) ch_0_4 [] x1.2.1.2.1, Res.fam (fun g_ kvs_ => Res.map true (Ty.arr .u64 4) true (Ty.arr .u64 4) g_ kvs_) (one_map true (Ty.arr .u64 4) true (Ty.arr .u64 4)) ch_0_5 [] x1.2.1.2.2.1, Res.fam (fun g_ kvs_ => Res.map true (Ty.arr .u64 4) false Ty.bool g_ kvs_) (one_map true (Ty.arr .u64 4) false Ty.bool) ch_0_6 [] x1.2.1.2.2.2, Res.row Y100 100 ch_0_7 ch_0_8 ch_0_9 x1.2.2.2.1, Res.row (YC ch_0_0 ch_0_4 ch_0_5 ch_0_6) 1 ch_0_10 ch_0_11 ch_0_12 x1.2.2.2.2.1, Res.row (Ty.arr .u8 20) 40 ch_0_13 ch_0_14 ch_0_15 x1.2.2.2.2.2] w0 → Calls Tryz.prog 32 (([(.v (.pointer (some ⟨ch_0_0, 0, none⟩))), (.agg [.ints .u8 x2 20]), (.agg [.ints .u64 x3 4]), (.agg [.ints .u64 x4 4])] : List D).map D.val).toArray w0 (RetX mi [Res.cells ch_0_0 79 [.rf (.iface 75 (.agg (cellsOf [.sl ch_0_1 (x1.1).length ch_0_2 (RdS Y71 ch_0_1 x1.1)]).toArray)) (IfR [.sl ch_0_1 (x1.1).length ch_0_2 (RdS Y71 ch_0_1 x1.1)]), .one (.map (some ch_0_3)), .one (.int .i64 x1.2.2.1), .one (.slice ch_0_7 ch_0_8 ch_0_9), .one (.slice ch_0_10 ch_0_11 ch_0_12), .one (.slice ch_0_13 ch_0_14 ch_0_15)], Res.map true (Ty.arr .u8 20) false (Ty.pid ch_0_4) ch_0_3 x1.2.1.1, Res.fam (Res.struct (YE110 ch_0_5 ch_0_6) 110) (one_struct _ _) ch_0_4 [] x1.2.1.2.1, Res.fam (fun g_ kvs_ => Res.map true (Ty.arr .u64 4) true (Ty.arr .u64 4) g_ kvs_) (one_map true (Ty.arr .u64 4) true (Ty.arr .u64 4)) ch_0_5 [] x1.2.1.2.2.1, Res.fam (fun g_ kvs_ => Res.map true (Ty.arr .u64 4) false Ty.bool g_ kvs_) (one_map true (Ty.arr .u64 4) false Ty.bool) ch_0_6 [] x1.2.1.2.2.2, Res.row Y100 100 ch_0_7 ch_0_8 ch_0_9 x1.2.2.2.1, Res.row (YC ch_0_0 ch_0_4 ch_0_5 ch_0_6) 1 ch_0_10 ch_0_11 ch_0_12 x1.2.2.2.2.1, Res.row (Ty.arr .u8 20) 40 ch_0_13 ch_0_14 ch_0_15 x1.2.2.2.2.2] (fun (ch : W6) => ((.tup []) : D)) (fun (ch : W6) => [Res.cells ch_0_0 79 [.rf (.iface 75 (.agg (cellsOf [.sl ch_0_1 (x1.1).length ch_0_2 (RdS Y71 ch_0_1 x1.1)]).toArray)) (IfR [.sl ch_0_1 (x1.1).length ch_0_2 (RdS Y71 ch_0_1 x1.1)]), .one (.map (some ch.1)), .one (.int .i64 x1.2.2.1), .one (.slice ch.2.2.2.2.1 ch.2.2.2.2.2.1 ch.2.2.2.2.2.2.1), .one (.slice ch.2.2.2.2.2.2.2.1 ch.2.2.2.2.2.2.2.2.1 ch.2.2.2.2.2.2.2.2.2.1), .one (.slice ch.2.2.2.2.2.2.2.2.2.2.1 ch.2.2.2.2.2.2.2.2.2.2.2.1 ch.2.2.2.2.2.2.2.2.2.2.2.2)], Res.map true (Ty.arr .u8 20) false (Ty.pid ch.2.1) ch.1 r.2.1.1, Res.fam (Res.struct (YE110 ch.2.2.1 ch.2.2.2.1) 110) (one_struct _ _) ch.2.1 [] r.2.1.2.1, Res.fam (fun g_ kvs_ => Res.map true (Ty.arr .u64 4) true (Ty.arr .u64 4) g_ kvs_) (one_map true (Ty.arr .u64 4) true (Ty.arr .u64 4)) ch.2.2.1 [] r.2.1.2.2.1, Res.fam (fun g_ kvs_ => Res.map true (Ty.arr .u64 4) false Ty.bool g_ kvs_) (one_map true (Ty.arr .u64 4) false Ty.bool) ch.2.2.2.1 [] r.2.1.2.2.2, Res.row Y100 100 ch.2.2.2.2.1 ch.2.2.2.2.2.1 ch.2.2.2.2.2.2.1 r.2.2.2.1, Res.row (YC ch_0_0 ch.2.1 ch.2.2.1 ch.2.2.2.1) 1 ch.2.2.2.2.2.2.2.1 ch.2.2.2.2.2.2.2.2.1 ch.2.2.2.2.2.2.2.2.2.1 r.2.2.2.2.1, Res.row (Ty.arr .u8 20) 40 ch.2.2.2.2.2.2.2.2.2.2.1 ch.2.2.2.2.2.2.2.2.2.2.2.1 ch.2.2.2.2.2.2.2.2.2.2.2.2 r.2.2.2.2.2]) w0)
def state_State_Set.f (k : Nat) (x1 : W1) (x2 : List Int) (x3 : List Int) (x4 : List Int) : Option W9 := (state_State_at.f k ((x1.1), x1.2.1, x1.2.2.1, x1.2.2.2.1, x1.2.2.2.2.1, x1.2.2.2.2.2) x2).bind fun t1 => (if t1.1.isSome = true then ((state_State_done_1clo.f ((x1.1), t1.2.2.1, x1.2.2.1, t1.2.2.2.2.1, t1.2.2.2.2.2.1, t1.2.2.2.2.2.2) (Clo.c72 ((lk (aget (atE t1.2.2.1.2.2.1 ((atE t1.2.2.1.2.1 (t1.1.getD 0)).2.2.2.1)) x3) [0, 0, 0, 0]).2) ((lk (aget (atE t1.2.2.1.2.2.1 ((atE t1.2.2.1.2.1 (t1.1.getD 0)).2.2.2.1)) x3) [0, 0, 0, 0]).1) ((atE t1.2.2.1.2.1 (t1.1.getD 0)).2.2.2.1) x3)).bind fun t2 => (some ((), (t1.2.2.1.1, t1.2.2.1.2.1, t1.2.2.1.2.2.1.set ((atE t1.2.2.1.2.1 (t1.1.getD 0)).2.2.2.1) (aput (atE t1.2.2.1.2.2.1 ((atE t1.2.2.1.2.1 (t1.1.getD 0)).2.2.2.1)) x3 x4), t1.2.2.1.2.2.2), (), t1.2.2.2.2.1, t2.2.2.2.2.1, t1.2.2.2.2.2.2))) else none)
theorem state_State_Set.ok (k : Nat) : state_State_Set.Ctr (state_State_Set.f k) := by
 intro x1 x2 x3 x4 ch_0_0 ch_0_1 ch_0_2 ch_0_3 ch_0_4 ch_0_5 ch_0_6 ch_0_7 ch_0_8 ch_0_9 ch_0_10 ch_0_11 ch_0_12 ch_0_13 ch_0_14 ch_0_15 r h0 mi w0 ok hm
 delta state_State_Set.f at h0
 refine c_enterX (n := 31) [(.v (.pointer (some ⟨ch_0_0, 0, none⟩))), (.agg [.ints .u8 x2 20]), (.agg [.ints .u64 x3 4]), (.agg [.ints .u64 x4 4])] (l := [(0, (.v (.pointer (some ⟨ch_0_0, 0, none⟩)))), (1, (.agg [.ints .u8 x2 20])), (2, (.agg [.ints .u64 x3 4])), (3, (.agg [.ints .u64 x4 4]))]) Tryz.func32 rfl rfl rfl rfl ok hm ?_
 clear ok hm
 intro b0 hb a S
 refine c_region ?_
 refine s_box S rfl rfl rfl ?_; clear S a; intro g1 a w S
 refine s_box S rfl rfl rfl ?_; clear S a w; intro g2 a w S
 refine s_box S rfl rfl rfl ?_; clear S a w; intro g3 a w S
 refine c_end ?_
 refine wp_seq ?_
 refine c_region ?_
 refine s_move S rfl rfl ?_; clear S a; intro a S
 refine s_eqp S (b := false) rfl rfl Tryz.underlying26 rfl rfl ?_; clear S a; intro a S
 refine c_end ?_
 refine c_condF S rfl rfl ?_
 refine wp_skip ?_
 refine x_thenN ?_
 refine c_region ?_
 refine s_move S rfl rfl ?_; clear S a; intro a S
 refine s_loada S rfl (.there (.there .here)) T40 (s' := [.ints .u8 x2 20]) rfl rfl ?_; clear S a; intro a S
 obtain ⟨t1, et1, h1⟩ := bind_of h0; clear h0
 refine s_callX S (ds' := [(.v (.pointer (some ⟨ch_0_0, 0, none⟩))), (.agg [.ints .u8 x2 20])]) (ds := [(.v (.pointer (some ⟨ch_0_0, 0, none⟩))), (.agg [.ints .u8 x2 20])]) [Res.cells ch_0_0 79 [.rf (.iface 75 (.agg (cellsOf [.sl ch_0_1 (x1.1).length ch_0_2 (RdS Y71 ch_0_1 x1.1)]).toArray)) (IfR [.sl ch_0_1 (x1.1).length ch_0_2 (RdS Y71 ch_0_1 x1.1)]), .one (.map (some ch_0_3)), .one (.int .i64 x1.2.2.1), .one (.slice ch_0_7 ch_0_8 ch_0_9), .one (.slice ch_0_10 ch_0_11 ch_0_12), .one (.slice ch_0_13 ch_0_14 ch_0_15)], Res.map true (Ty.arr .u8 20) false (Ty.pid ch_0_4) ch_0_3 x1.2.1.1, Res.fam (Res.struct (YE110 ch_0_5 ch_0_6) 110) (one_struct _ _) ch_0_4 [] x1.2.1.2.1, Res.fam (fun g_ kvs_ => Res.map true (Ty.arr .u64 4) true (Ty.arr .u64 4) g_ kvs_) (one_map true (Ty.arr .u64 4) true (Ty.arr .u64 4)) ch_0_5 [] x1.2.1.2.2.1, Res.fam (fun g_ kvs_ => Res.map true (Ty.arr .u64 4) false Ty.bool g_ kvs_) (one_map true (Ty.arr .u64 4) false Ty.bool) ch_0_6 [] x1.2.1.2.2.2, Res.row Y100 100 ch_0_7 ch_0_8 ch_0_9 x1.2.2.2.1, Res.row (YC ch_0_0 ch_0_4 ch_0_5 ch_0_6) 1 ch_0_10 ch_0_11 ch_0_12 x1.2.2.2.2.1, Res.row (Ty.arr .u8 20) 40 ch_0_13 ch_0_14 ch_0_15 x1.2.2.2.2.2] [Res.cells g3 43 [.ints .u64 x4 4], Res.cells g2 43 [.ints .u64 x3 4], Res.cells g1 40 [.ints .u8 x2 20]] (fun (ch : W6) => ((.rf (ptrV ch.2.1 t1.1) (ptrR ch.2.1 t1.1)) : D)) (fun (ch : W6) => [Res.cells ch_0_0 79 [.rf (.iface 75 (.agg (cellsOf [.sl ch_0_1 (x1.1).length ch_0_2 (RdS Y71 ch_0_1 x1.1)]).toArray)) (IfR [.sl ch_0_1 (x1.1).length ch_0_2 (RdS Y71 ch_0_1 x1.1)]), .one (.map (some ch.1)), .one (.int .i64 x1.2.2.1), .one (.slice ch.2.2.2.2.1 ch.2.2.2.2.2.1 ch.2.2.2.2.2.2.1), .one (.slice ch.2.2.2.2.2.2.2.1 ch.2.2.2.2.2.2.2.2.1 ch.2.2.2.2.2.2.2.2.2.1), .one (.slice ch.2.2.2.2.2.2.2.2.2.2.1 ch.2.2.2.2.2.2.2.2.2.2.2.1 ch.2.2.2.2.2.2.2.2.2.2.2.2)], Res.map true (Ty.arr .u8 20) false (Ty.pid ch.2.1) ch.1 t1.2.2.1.1, Res.fam (Res.struct (YE110 ch.2.2.1 ch.2.2.2.1) 110) (one_struct _ _) ch.2.1 [] t1.2.2.1.2.1, Res.fam (fun g_ kvs_ => Res.map true (Ty.arr .u64 4) true (Ty.arr .u64 4) g_ kvs_) (one_map true (Ty.arr .u64 4) true (Ty.arr .u64 4)) ch.2.2.1 [] t1.2.2.1.2.2.1, Res.fam (fun g_ kvs_ => Res.map true (Ty.arr .u64 4) false Ty.bool g_ kvs_) (one_map true (Ty.arr .u64 4) false Ty.bool) ch.2.2.2.1 [] t1.2.2.1.2.2.2, Res.row Y100 100 ch.2.2.2.2.1 ch.2.2.2.2.2.1 ch.2.2.2.2.2.2.1 t1.2.2.2.2.1, Res.row (YC ch_0_0 ch.2.1 ch.2.2.1 ch.2.2.2.1) 1 ch.2.2.2.2.2.2.2.1 ch.2.2.2.2.2.2.2.2.1 ch.2.2.2.2.2.2.2.2.2.1 t1.2.2.2.2.2.1, Res.row (Ty.arr .u8 20) 40 ch.2.2.2.2.2.2.2.2.2.2.1 ch.2.2.2.2.2.2.2.2.2.2.2.1 ch.2.2.2.2.2.2.2.2.2.2.2.2 t1.2.2.2.2.2.2]) (fun (ch : W6) => [Res.cells ch_0_0 79 [.rf (.iface 75 (.agg (cellsOf [.sl ch_0_1 (x1.1).length ch_0_2 (RdS Y71 ch_0_1 x1.1)]).toArray)) (IfR [.sl ch_0_1 (x1.1).length ch_0_2 (RdS Y71 ch_0_1 x1.1)]), .one (.map (some ch.1)), .one (.int .i64 x1.2.2.1), .one (.slice ch.2.2.2.2.1 ch.2.2.2.2.2.1 ch.2.2.2.2.2.2.1), .one (.slice ch.2.2.2.2.2.2.2.1 ch.2.2.2.2.2.2.2.2.1 ch.2.2.2.2.2.2.2.2.2.1), .one (.slice ch.2.2.2.2.2.2.2.2.2.2.1 ch.2.2.2.2.2.2.2.2.2.2.2.1 ch.2.2.2.2.2.2.2.2.2.2.2.2)], Res.map true (Ty.arr .u8 20) false (Ty.pid ch.2.1) ch.1 t1.2.2.1.1, Res.fam (Res.struct (YE110 ch.2.2.1 ch.2.2.2.1) 110) (one_struct _ _) ch.2.1 [] t1.2.2.1.2.1, Res.fam (fun g_ kvs_ => Res.map true (Ty.arr .u64 4) true (Ty.arr .u64 4) g_ kvs_) (one_map true (Ty.arr .u64 4) true (Ty.arr .u64 4)) ch.2.2.1 [] t1.2.2.1.2.2.1, Res.fam (fun g_ kvs_ => Res.map true (Ty.arr .u64 4) false Ty.bool g_ kvs_) (one_map true (Ty.arr .u64 4) false Ty.bool) ch.2.2.2.1 [] t1.2.2.1.2.2.2, Res.row Y100 100 ch.2.2.2.2.1 ch.2.2.2.2.2.1 ch.2.2.2.2.2.2.1 t1.2.2.2.2.1, Res.row (YC ch_0_0 ch.2.1 ch.2.2.1 ch.2.2.2.1) 1 ch.2.2.2.2.2.2.2.1 ch.2.2.2.2.2.2.2.2.1 ch.2.2.2.2.2.2.2.2.2.1 t1.2.2.2.2.2.1, Res.row (Ty.arr .u8 20) 40 ch.2.2.2.2.2.2.2.2.2.2.1 ch.2.2.2.2.2.2.2.2.2.2.2.1 ch.2.2.2.2.2.2.2.2.2.2.2.2 t1.2.2.2.2.2.2, Res.cells g3 43 [.ints .u64 x4 4], Res.cells g2 43 [.ints .u64 x3 4], Res.cells g1 40 [.ints .u8 x2 20]]) (fun _ => rfl) N56 rfl rfl (fun ok => ok) (.cons (.there (.there (.there .here))) (.cons (.there (.there (.there .here))) (.cons (.there (.there (.there .here))) (.cons (.there (.there (.there .here))) (.cons (.there (.there (.there .here))) (.cons (.there (.there (.there .here))) (.cons (.there (.there (.there .here))) (.cons (.there (.there (.there .here))) (.cons .here (.cons .here (.cons .here .nil))))))))))) rfl (state_State_at.ok k ((x1.1), x1.2.1, x1.2.2.1, x1.2.2.2.1, x1.2.2.2.2.1, x1.2.2.2.2.2) x2 ch_0_0 ch_0_1 ch_0_2 ch_0_3 ch_0_4 ch_0_5 ch_0_6 ch_0_7 ch_0_8 ch_0_9 ch_0_10 ch_0_11 ch_0_12 ch_0_13 ch_0_14 ch_0_15 t1 et1 _ _) ?_; clear S a w; intro ch1 m le1 a w S
 obtain ⟨c1, h2⟩ := chk_of h1; clear h1
 have hl1 := S.slotPlt (u := 15) c1 rfl
 replace S := S.slotP (u := 15) c1 rfl
 refine s_nilchk S rfl rfl ?_; clear S a; intro a S
 refine s_fieldAddr S rfl I110_3 T107 (by decide) rfl rfl ?_; clear S a; intro a S
 replace S := S.famOpen (i := (t1.1.getD 0)) hl1 (.there (.there .here))
 have hS := S.structOpen (T := (YE110 ch1.2.2.1 ch1.2.2.2.1)) (fun _ => .here) (((), (), (), (none, 0), (none, 0)), ((), (), (), (none, 0), (none, 0)), (), (), (), (), ())
 clear S; obtain ⟨ch2, S⟩ := hS
 refine s_loadM S rfl .here T107 (v := (.map (some (bAt ch1.2.2.1 ((atE t1.2.2.1.2.1 (t1.1.getD 0)).2.2.2.1))))) rfl rfl ?_; clear S a; intro a S
 replace S := S.structClose (T := (YE110 ch1.2.2.1 ch1.2.2.2.1)) (e := atE t1.2.2.1.2.1 (t1.1.getD 0)) ((((), (), (), (ch2.1.2.2.2.1.1, ch2.1.2.2.2.1.2), (ch2.1.2.2.2.2.1, ch2.1.2.2.2.2.2)), ((), (), (), (ch2.2.1.2.2.2.1.1, ch2.2.1.2.2.2.1.2), (ch2.2.1.2.2.2.2.1, ch2.2.1.2.2.2.2.2)), (), (), (), (), ()) : ((YE110 ch1.2.2.1 ch1.2.2.2.1)).Ch) rfl .here
 replace S := S.famShut hl1 .here (.there (.there .here))
 refine s_alloc S Z107 rfl rfl rfl ?_; clear S a w; intro g4 a w S
 refine s_store S rfl rfl rfl (s' := [.rf (.map (some (bAt ch1.2.2.1 ((atE t1.2.2.1.2.1 (t1.1.getD 0)).2.2.2.1)))) (ltR ((atE t1.2.2.1.2.1 (t1.1.getD 0)).2.2.2.1) ch1.2.2.1)]) .here T107 rfl rfl ?_; clear S w; intro w S
 refine c_end ?_
 refine c_region ?_
 refine s_loadM S rfl .here T107 (v := (.map (some (bAt ch1.2.2.1 ((atE t1.2.2.1.2.1 (t1.1.getD 0)).2.2.2.1))))) rfl rfl ?_; clear S a; intro a S
 refine s_loada S rfl (.there (.there (.there (.there (.there (.there (.there (.there (.there (.there .here)))))))))) T43 (s' := [.ints .u64 x3 4]) rfl rfl ?_; clear S a; intro a S
 have hm1 := S.slotLt (u := 20) rfl
 replace S := S.slotMid (u := 20) rfl
 replace S := S.famOpen (i := ((atE t1.2.2.1.2.1 (t1.1.getD 0)).2.2.2.1)) hm1 (.there (.there (.there (.there .here))))
 refine s_lookO S (z := [0, 0, 0, 0]) (k := x3) rfl .here () rfl (fun h => ⟨(), rfl, h⟩) Tryz.underlying107 KT43 Z43 ⟨rfl, trivial⟩ rfl ?_; clear S a; intro ch3 a S
 replace S := S.famShut hm1 .here (.there (.there (.there (.there .here))))
 replace S := S.slotMidB (u := 20) hm1 rfl
 refine s_move S rfl rfl ?_; clear S a; intro a S
 refine s_extract S rfl rfl rfl rfl ?_; clear S a; intro a S
 refine s_extract S rfl rfl rfl rfl ?_; clear S a; intro a S
 refine s_alloc S Z43 rfl ⟨rfl, trivial⟩ rfl ?_; clear S a w; intro g5 a w S
 refine s_alloc S Z4 rfl rfl rfl ?_; clear S a w; intro g6 a w S
 refine s_store S rfl rfl rfl (s' := [.ints .u64 ((lk (aget (atE t1.2.2.1.2.2.1 ((atE t1.2.2.1.2.1 (t1.1.getD 0)).2.2.2.1)) x3) [0, 0, 0, 0]).1) 4]) (.there .here) T43 rfl rfl ?_; clear S w; intro w S
 refine s_store S rfl rfl rfl (s' := [.one (.bool ((lk (aget (atE t1.2.2.1.2.2.1 ((atE t1.2.2.1.2.1 (t1.1.getD 0)).2.2.2.1)) x3) [0, 0, 0, 0]).2))]) .here T4 rfl rfl ?_; clear S w; intro w S
 refine c_end ?_
 refine c_region ?_
 refine s_move S rfl rfl ?_; clear S a; intro a S
 replace S := S.freeze .here
 obtain ⟨m, le1, S⟩ := S
 replace S := S.freeze (.there .here)
 obtain ⟨m, le1, S⟩ := S
 replace S := S.freeze (.there (.there .here))
 obtain ⟨m, le1, S⟩ := S
 replace S := S.freeze (.there (.there (.there (.there (.there (.there (.there (.there (.there (.there (.there (.there .here))))))))))))
 obtain ⟨m, le1, S⟩ := S
 replace S := S.slotAt (u := 10) (g := g6) (t := 4) (T := Ty.bool) (x := (lk (aget (atE t1.2.2.1.2.2.1 ((atE t1.2.2.1.2.1 (t1.1.getD 0)).2.2.2.1)) x3) [0, 0, 0, 0]).2) (c := (() : (Ty.bool).Ch)) .here rfl rfl
 replace S := S.slotAt (u := 9) (g := g5) (t := 43) (T := (Ty.arr .u64 4)) (x := (lk (aget (atE t1.2.2.1.2.2.1 ((atE t1.2.2.1.2.1 (t1.1.getD 0)).2.2.2.1)) x3) [0, 0, 0, 0]).1) (c := (() : ((Ty.arr .u64 4)).Ch)) (.there .here) rfl rfl
 replace S := S.slotAt (u := 8) (g := g4) (t := 107) (T := (Ty.mid ch1.2.2.1)) (x := (atE t1.2.2.1.2.1 (t1.1.getD 0)).2.2.2.1) (c := (() : ((Ty.mid ch1.2.2.1)).Ch)) (.there (.there .here)) rfl rfl
 replace S := S.slotAt (u := 6) (g := g2) (t := 43) (T := (Ty.arr .u64 4)) (x := x3) (c := (() : ((Ty.arr .u64 4)).Ch)) (.there (.there (.there (.there (.there (.there (.there (.there (.there (.there (.there (.there .here)))))))))))) rfl rfl
 refine s_mkFn S (ds := [(.pt ⟨g6, 0, none⟩ (At Ty.bool ⟨g6, 0, none⟩ ((lk (aget (atE t1.2.2.1.2.2.1 ((atE t1.2.2.1.2.1 (t1.1.getD 0)).2.2.2.1)) x3) [0, 0, 0, 0]).2))), (.pt ⟨g5, 0, none⟩ (At (Ty.arr .u64 4) ⟨g5, 0, none⟩ ((lk (aget (atE t1.2.2.1.2.2.1 ((atE t1.2.2.1.2.1 (t1.1.getD 0)).2.2.2.1)) x3) [0, 0, 0, 0]).1))), (.pt ⟨g4, 0, none⟩ (At (Ty.mid ch1.2.2.1) ⟨g4, 0, none⟩ ((atE t1.2.2.1.2.1 (t1.1.getD 0)).2.2.2.1))), (.pt ⟨g2, 0, none⟩ (At (Ty.arr .u64 4) ⟨g2, 0, none⟩ x3))]) rfl rfl ?_; clear S a; intro a S
 replace S := S.slotFn (u := 26) (V := cloV) (R := cloR ch_0_0 ch1.2.1 ch1.2.2.1 ch1.2.2.2.1) (Clo.c72 ((lk (aget (atE t1.2.2.1.2.2.1 ((atE t1.2.2.1.2.1 (t1.1.getD 0)).2.2.2.1)) x3) [0, 0, 0, 0]).2) ((lk (aget (atE t1.2.2.1.2.2.1 ((atE t1.2.2.1.2.1 (t1.1.getD 0)).2.2.2.1)) x3) [0, 0, 0, 0]).1) ((atE t1.2.2.1.2.1 (t1.1.getD 0)).2.2.2.1) x3) ([⟨g6, 0, none⟩, ⟨g5, 0, none⟩, ⟨g4, 0, none⟩, ⟨g2, 0, none⟩] : List Addr) rfl (fun h => ⟨h.1.1, h.2.1.1, h.2.2.1.1, h.2.2.2.1.1, trivial⟩) (cloM _ _ _ _ _ _) rfl
 replace S := S.slot (u := 10) (d' := .v (.pointer (some ⟨g6, 0, none⟩))) rfl rfl rfl
 replace S := S.slot (u := 9) (d' := .v (.pointer (some ⟨g5, 0, none⟩))) rfl rfl rfl
 replace S := S.slot (u := 8) (d' := .v (.pointer (some ⟨g4, 0, none⟩))) rfl rfl rfl
 replace S := S.slot (u := 6) (d' := .v (.pointer (some ⟨g2, 0, none⟩))) rfl rfl rfl
 obtain ⟨t2, et2, h3⟩ := bind_of h2; clear h2
 refine s_callX S (ds' := [(.v (.pointer (some ⟨ch_0_0, 0, none⟩))), (.rf (cloV (Clo.c72 ((lk (aget (atE t1.2.2.1.2.2.1 ((atE t1.2.2.1.2.1 (t1.1.getD 0)).2.2.2.1)) x3) [0, 0, 0, 0]).2) ((lk (aget (atE t1.2.2.1.2.2.1 ((atE t1.2.2.1.2.1 (t1.1.getD 0)).2.2.2.1)) x3) [0, 0, 0, 0]).1) ((atE t1.2.2.1.2.1 (t1.1.getD 0)).2.2.2.1) x3) [⟨g6, 0, none⟩, ⟨g5, 0, none⟩, ⟨g4, 0, none⟩, ⟨g2, 0, none⟩]) (cloR ch_0_0 ch1.2.1 ch1.2.2.1 ch1.2.2.2.1 (Clo.c72 ((lk (aget (atE t1.2.2.1.2.2.1 ((atE t1.2.2.1.2.1 (t1.1.getD 0)).2.2.2.1)) x3) [0, 0, 0, 0]).2) ((lk (aget (atE t1.2.2.1.2.2.1 ((atE t1.2.2.1.2.1 (t1.1.getD 0)).2.2.2.1)) x3) [0, 0, 0, 0]).1) ((atE t1.2.2.1.2.1 (t1.1.getD 0)).2.2.2.1) x3) [⟨g6, 0, none⟩, ⟨g5, 0, none⟩, ⟨g4, 0, none⟩, ⟨g2, 0, none⟩]))]) (ds := [(.v (.pointer (some ⟨ch_0_0, 0, none⟩))), (.rf (cloV (Clo.c72 ((lk (aget (atE t1.2.2.1.2.2.1 ((atE t1.2.2.1.2.1 (t1.1.getD 0)).2.2.2.1)) x3) [0, 0, 0, 0]).2) ((lk (aget (atE t1.2.2.1.2.2.1 ((atE t1.2.2.1.2.1 (t1.1.getD 0)).2.2.2.1)) x3) [0, 0, 0, 0]).1) ((atE t1.2.2.1.2.1 (t1.1.getD 0)).2.2.2.1) x3) [⟨g6, 0, none⟩, ⟨g5, 0, none⟩, ⟨g4, 0, none⟩, ⟨g2, 0, none⟩]) (cloR ch_0_0 ch1.2.1 ch1.2.2.1 ch1.2.2.2.1 (Clo.c72 ((lk (aget (atE t1.2.2.1.2.2.1 ((atE t1.2.2.1.2.1 (t1.1.getD 0)).2.2.2.1)) x3) [0, 0, 0, 0]).2) ((lk (aget (atE t1.2.2.1.2.2.1 ((atE t1.2.2.1.2.1 (t1.1.getD 0)).2.2.2.1)) x3) [0, 0, 0, 0]).1) ((atE t1.2.2.1.2.1 (t1.1.getD 0)).2.2.2.1) x3) [⟨g6, 0, none⟩, ⟨g5, 0, none⟩, ⟨g4, 0, none⟩, ⟨g2, 0, none⟩]))]) [Res.cells ch_0_0 79 [.rf (.iface 75 (.agg (cellsOf [.sl ch_0_1 (x1.1).length ch_0_2 (RdS Y71 ch_0_1 x1.1)]).toArray)) (IfR [.sl ch_0_1 (x1.1).length ch_0_2 (RdS Y71 ch_0_1 x1.1)]), .one (.map (some ch1.1)), .one (.int .i64 x1.2.2.1), .one (.slice ch1.2.2.2.2.1 ch1.2.2.2.2.2.1 ch1.2.2.2.2.2.2.1), .one (.slice ch1.2.2.2.2.2.2.2.1 ch1.2.2.2.2.2.2.2.2.1 ch1.2.2.2.2.2.2.2.2.2.1), .one (.slice ch1.2.2.2.2.2.2.2.2.2.2.1 ch1.2.2.2.2.2.2.2.2.2.2.2.1 ch1.2.2.2.2.2.2.2.2.2.2.2.2)], Res.map true (Ty.arr .u8 20) false (Ty.pid ch1.2.1) ch1.1 t1.2.2.1.1, Res.fam (Res.struct (YE110 ch1.2.2.1 ch1.2.2.2.1) 110) (one_struct _ _) ch1.2.1 [] t1.2.2.1.2.1, Res.fam (fun g_ kvs_ => Res.map true (Ty.arr .u64 4) true (Ty.arr .u64 4) g_ kvs_) (one_map true (Ty.arr .u64 4) true (Ty.arr .u64 4)) ch1.2.2.1 [] t1.2.2.1.2.2.1, Res.fam (fun g_ kvs_ => Res.map true (Ty.arr .u64 4) false Ty.bool g_ kvs_) (one_map true (Ty.arr .u64 4) false Ty.bool) ch1.2.2.2.1 [] t1.2.2.1.2.2.2, Res.row Y100 100 ch1.2.2.2.2.1 ch1.2.2.2.2.2.1 ch1.2.2.2.2.2.2.1 t1.2.2.2.2.1, Res.row (YC ch_0_0 ch1.2.1 ch1.2.2.1 ch1.2.2.2.1) 1 ch1.2.2.2.2.2.2.2.1 ch1.2.2.2.2.2.2.2.2.1 ch1.2.2.2.2.2.2.2.2.2.1 t1.2.2.2.2.2.1, Res.row (Ty.arr .u8 20) 40 ch1.2.2.2.2.2.2.2.2.2.2.1 ch1.2.2.2.2.2.2.2.2.2.2.2.1 ch1.2.2.2.2.2.2.2.2.2.2.2.2 t1.2.2.2.2.2.2] [Res.fro g6 4 [.one (.bool ((lk (aget (atE t1.2.2.1.2.2.1 ((atE t1.2.2.1.2.1 (t1.1.getD 0)).2.2.2.1)) x3) [0, 0, 0, 0]).2))], Res.fro g5 43 [.ints .u64 ((lk (aget (atE t1.2.2.1.2.2.1 ((atE t1.2.2.1.2.1 (t1.1.getD 0)).2.2.2.1)) x3) [0, 0, 0, 0]).1) 4], Res.fro g4 107 [.rf (.map (some (bAt ch1.2.2.1 ((atE t1.2.2.1.2.1 (t1.1.getD 0)).2.2.2.1)))) (ltR ((atE t1.2.2.1.2.1 (t1.1.getD 0)).2.2.2.1) ch1.2.2.1)], Res.cells g3 43 [.ints .u64 x4 4], Res.fro g2 43 [.ints .u64 x3 4], Res.cells g1 40 [.ints .u8 x2 20]] (fun (ch : (Option Addr) × Nat × Nat) => ((.tup []) : D)) (fun (ch : (Option Addr) × Nat × Nat) => [Res.cells ch_0_0 79 [.rf (.iface 75 (.agg (cellsOf [.sl ch_0_1 (x1.1).length ch_0_2 (RdS Y71 ch_0_1 x1.1)]).toArray)) (IfR [.sl ch_0_1 (x1.1).length ch_0_2 (RdS Y71 ch_0_1 x1.1)]), .one (.map (some ch1.1)), .one (.int .i64 x1.2.2.1), .one (.slice ch1.2.2.2.2.1 ch1.2.2.2.2.2.1 ch1.2.2.2.2.2.2.1), .one (.slice ch.1 ch.2.1 ch.2.2), .one (.slice ch1.2.2.2.2.2.2.2.2.2.2.1 ch1.2.2.2.2.2.2.2.2.2.2.2.1 ch1.2.2.2.2.2.2.2.2.2.2.2.2)], Res.map true (Ty.arr .u8 20) false (Ty.pid ch1.2.1) ch1.1 t1.2.2.1.1, Res.fam (Res.struct (YE110 ch1.2.2.1 ch1.2.2.2.1) 110) (one_struct _ _) ch1.2.1 [] t1.2.2.1.2.1, Res.fam (fun g_ kvs_ => Res.map true (Ty.arr .u64 4) true (Ty.arr .u64 4) g_ kvs_) (one_map true (Ty.arr .u64 4) true (Ty.arr .u64 4)) ch1.2.2.1 [] t1.2.2.1.2.2.1, Res.fam (fun g_ kvs_ => Res.map true (Ty.arr .u64 4) false Ty.bool g_ kvs_) (one_map true (Ty.arr .u64 4) false Ty.bool) ch1.2.2.2.1 [] t1.2.2.1.2.2.2, Res.row Y100 100 ch1.2.2.2.2.1 ch1.2.2.2.2.2.1 ch1.2.2.2.2.2.2.1 t1.2.2.2.2.1, Res.row (YC ch_0_0 ch1.2.1 ch1.2.2.1 ch1.2.2.2.1) 1 ch.1 ch.2.1 ch.2.2 t2.2.2.2.2.1, Res.row (Ty.arr .u8 20) 40 ch1.2.2.2.2.2.2.2.2.2.2.1 ch1.2.2.2.2.2.2.2.2.2.2.2.1 ch1.2.2.2.2.2.2.2.2.2.2.2.2 t1.2.2.2.2.2.2]) (fun (ch : (Option Addr) × Nat × Nat) => [Res.cells ch_0_0 79 [.rf (.iface 75 (.agg (cellsOf [.sl ch_0_1 (x1.1).length ch_0_2 (RdS Y71 ch_0_1 x1.1)]).toArray)) (IfR [.sl ch_0_1 (x1.1).length ch_0_2 (RdS Y71 ch_0_1 x1.1)]), .one (.map (some ch1.1)), .one (.int .i64 x1.2.2.1), .one (.slice ch1.2.2.2.2.1 ch1.2.2.2.2.2.1 ch1.2.2.2.2.2.2.1), .one (.slice ch.1 ch.2.1 ch.2.2), .one (.slice ch1.2.2.2.2.2.2.2.2.2.2.1 ch1.2.2.2.2.2.2.2.2.2.2.2.1 ch1.2.2.2.2.2.2.2.2.2.2.2.2)], Res.map true (Ty.arr .u8 20) false (Ty.pid ch1.2.1) ch1.1 t1.2.2.1.1, Res.fam (Res.struct (YE110 ch1.2.2.1 ch1.2.2.2.1) 110) (one_struct _ _) ch1.2.1 [] t1.2.2.1.2.1, Res.fam (fun g_ kvs_ => Res.map true (Ty.arr .u64 4) true (Ty.arr .u64 4) g_ kvs_) (one_map true (Ty.arr .u64 4) true (Ty.arr .u64 4)) ch1.2.2.1 [] t1.2.2.1.2.2.1, Res.fam (fun g_ kvs_ => Res.map true (Ty.arr .u64 4) false Ty.bool g_ kvs_) (one_map true (Ty.arr .u64 4) false Ty.bool) ch1.2.2.2.1 [] t1.2.2.1.2.2.2, Res.row Y100 100 ch1.2.2.2.2.1 ch1.2.2.2.2.2.1 ch1.2.2.2.2.2.2.1 t1.2.2.2.2.1, Res.row (YC ch_0_0 ch1.2.1 ch1.2.2.1 ch1.2.2.2.1) 1 ch.1 ch.2.1 ch.2.2 t2.2.2.2.2.1, Res.row (Ty.arr .u8 20) 40 ch1.2.2.2.2.2.2.2.2.2.2.1 ch1.2.2.2.2.2.2.2.2.2.2.2.1 ch1.2.2.2.2.2.2.2.2.2.2.2.2 t1.2.2.2.2.2.2, Res.fro g6 4 [.one (.bool ((lk (aget (atE t1.2.2.1.2.2.1 ((atE t1.2.2.1.2.1 (t1.1.getD 0)).2.2.2.1)) x3) [0, 0, 0, 0]).2))], Res.fro g5 43 [.ints .u64 ((lk (aget (atE t1.2.2.1.2.2.1 ((atE t1.2.2.1.2.1 (t1.1.getD 0)).2.2.2.1)) x3) [0, 0, 0, 0]).1) 4], Res.fro g4 107 [.rf (.map (some (bAt ch1.2.2.1 ((atE t1.2.2.1.2.1 (t1.1.getD 0)).2.2.2.1)))) (ltR ((atE t1.2.2.1.2.1 (t1.1.getD 0)).2.2.2.1) ch1.2.2.1)], Res.cells g3 43 [.ints .u64 x4 4], Res.fro g2 43 [.ints .u64 x3 4], Res.cells g1 40 [.ints .u8 x2 20]]) (fun _ => rfl) N68 rfl rfl (fun ok => ok) (.cons (.there (.there (.there .here))) (.cons (.there (.there (.there .here))) (.cons (.there (.there (.there .here))) (.cons (.there (.there (.there .here))) (.cons (.there (.there (.there .here))) (.cons (.there (.there (.there .here))) (.cons (.there (.there (.there .here))) (.cons (.there (.there (.there .here))) (.cons .here (.cons .here (.cons .here (.cons .here (.cons .here (.cons .here .nil)))))))))))))) rfl (state_State_done_1clo.ok ((x1.1), t1.2.2.1, x1.2.2.1, t1.2.2.2.2.1, t1.2.2.2.2.2.1, t1.2.2.2.2.2.2) (Clo.c72 ((lk (aget (atE t1.2.2.1.2.2.1 ((atE t1.2.2.1.2.1 (t1.1.getD 0)).2.2.2.1)) x3) [0, 0, 0, 0]).2) ((lk (aget (atE t1.2.2.1.2.2.1 ((atE t1.2.2.1.2.1 (t1.1.getD 0)).2.2.2.1)) x3) [0, 0, 0, 0]).1) ((atE t1.2.2.1.2.1 (t1.1.getD 0)).2.2.2.1) x3) ch_0_0 ch_0_1 ch_0_2 ch1.1 ch1.2.1 ch1.2.2.1 ch1.2.2.2.1 ch1.2.2.2.2.1 ch1.2.2.2.2.2.1 ch1.2.2.2.2.2.2.1 ch1.2.2.2.2.2.2.2.1 ch1.2.2.2.2.2.2.2.2.1 ch1.2.2.2.2.2.2.2.2.2.1 ch1.2.2.2.2.2.2.2.2.2.2.1 ch1.2.2.2.2.2.2.2.2.2.2.2.1 ch1.2.2.2.2.2.2.2.2.2.2.2.2 [⟨g6, 0, none⟩, ⟨g5, 0, none⟩, ⟨g4, 0, none⟩, ⟨g2, 0, none⟩] t2 et2 _ _) ?_; clear S a w; intro ch4 m le1 a w S
 refine c_end ?_
 refine c_region' ?_
 refine s_loadMF S rfl (.there (.there (.there (.there (.there (.there (.there (.there (.there (.there .here)))))))))) T107 (v := (.map (some (bAt ch1.2.2.1 ((atE t1.2.2.1.2.1 (t1.1.getD 0)).2.2.2.1))))) rfl rfl ?_; clear S a; intro a S
 refine s_loadaF S rfl (.there (.there (.there (.there (.there (.there (.there (.there (.there (.there (.there (.there .here)))))))))))) T43 (s' := [.ints .u64 x3 4]) rfl rfl ?_; clear S a; intro a S
 refine s_loada S rfl (.there (.there (.there (.there (.there (.there (.there (.there (.there (.there (.there .here))))))))))) T43 (s' := [.ints .u64 x4 4]) rfl rfl ?_; clear S a; intro a S
 have hm2 := S.slotLt (u := 28) rfl
 replace S := S.slotMid (u := 28) rfl
 replace S := S.famOpen (i := ((atE t1.2.2.1.2.1 (t1.1.getD 0)).2.2.2.1)) hm2 (.there (.there (.there .here)))
 refine s_mapput S (k := x3) (y := x4) rfl .here rfl (fun h => ⟨(), rfl, h⟩) rfl (fun h => ⟨(), rfl, h⟩) Tryz.underlying107 KT43 ?_; clear S w; intro w S
 replace S := S.famClose hm2 .here (.there (.there (.there .here)))
 replace S := S.slotMidB (u := 28) hm2 rfl
 refine c_end' ?_
 refine b_end ?_
 obtain rfl := Option.some.inj h3
 exact b_ret0 S rfl (S.retX (Hx := []) hb _ _ ((ch1.1, ch1.2.1, ch1.2.2.1, ch1.2.2.2.1, ch1.2.2.2.2.1, ch1.2.2.2.2.2.1, ch1.2.2.2.2.2.2.1, ch4.1, ch4.2.1, ch4.2.2, ch1.2.2.2.2.2.2.2.2.2.2.1, ch1.2.2.2.2.2.2.2.2.2.2.2.1, ch1.2.2.2.2.2.2.2.2.2.2.2.2) : W6) (.cons .here (.cons .here (.cons .here (.cons .here (.cons .here (.cons .here (.cons .here (.cons .here .nil)))))))) trivial)
abbrev state_State_Mark.Ty : Type := W1 → Option Int
def state_State_Mark.Ctr (s : state_State_Mark.Ty) : Prop := ∀ (x1 : W1) (ch_0_0 : Nat) (ch_0_1 : Option Addr) (ch_0_2 : Nat) (ch_0_3 : Nat) (ch_0_4 : List Nat) (ch_0_5 : List Nat) (ch_0_6 : List Nat) (ch_0_7 : Option Addr) (ch_0_8 : Nat) (ch_0_9 : Nat) (ch_0_10 : Option Addr) (ch_0_11 : Nat) (ch_0_12 : Nat) (ch_0_13 : Option Addr) (ch_0_14 : Nat) (ch_0_15 : Nat) (r : Int) (h0 : s x1 = some r) (mi : Mem) (w0 : World), okL mi [(.v (.pointer (some ⟨ch_0_0, 0, none⟩)))] → Pre mi [Res.cells ch_0_0 79 [.rf (.iface 75 (.agg (cellsOf [.sl ch_0_1 (x1.1).length ch_0_2 (RdS Y71 ch_0_1 x1.1)]).toArray)) (IfR [.sl ch_0_1 (x1.1).length ch_0_2 (RdS Y71 ch_0_1 x1.1)]), .one (.map (some ch_0_3)), .one (.int .i64 x1.2.2.1), .one (.slice ch_0_7 ch_0_8 ch_0_9), .one (.slice ch_0_10 ch_0_11 ch_0_12), .one (.slice ch_0_13 ch_0_14 ch_0_15)], Res.map true (Ty.arr .u8 20) false (Ty.pid ch_0_4) ch_0_3 x1.2.1.1, Res.fam (Res.struct (YE110 ch_0_5 ch_0_6) 110) (one_struct _ _) ch_0_4 [] x1.2.1.2.1, Res.fam (fun g_ kvs_ => Res.map true (Ty.arr .u64 4) true (Ty.arr .u64 4) g_ kvs_) (one_map true (Ty.arr .u64 4) true (Ty.arr .u64 4)) ch_0_5 [] x1.2.1.2.2.1, Res.fam (fun g_ kvs_ => Res.map true (Ty.arr .u64 4) false Ty.bool g_ kvs_) (one_map true (Ty.arr .u64 4) false Ty.bool) ch_0_6 [] x1.2.1.2.2.2, Res.row Y100 100 ch_0_7 ch_0_8 ch_0_9 x1.2.2.2.1, Res.row (YC ch_0_0 ch_0_4 ch_0_5 ch_0_6) 1 ch_0_10 ch_0_11 ch_0_12 x1.2.2.2.2.1, Res.row (Ty.arr .u8 20) 40 ch_0_13 ch_0_14 ch_0_15 x1.2.2.2.2.2] w0 → Calls Tryz.prog 13 (([(.v (.pointer (some ⟨ch_0_0, 0, none⟩)))] : List D).map D.val).toArray w0 (RetX mi [Res.cells ch_0_0 79 [.rf (.iface 75 (.agg (cellsOf [.sl ch_0_1 (x1.1).length ch_0_2 (RdS Y71 ch_0_1 x1.1)]).toArray)) (IfR [.sl ch_0_1 (x1.1).length ch_0_2 (RdS Y71 ch_0_1 x1.1)]), .one (.map (some ch_0_3)), .one (.int .i64 x1.2.2.1), .one (.slice ch_0_7 ch_0_8 ch_0_9), .one (.slice ch_0_10 ch_0_11 ch_0_12), .one (.slice ch_0_13 ch_0_14 ch_0_15)], Res.map true (Ty.arr .u8 20) false (Ty.pid ch_0_4) ch_0_3 x1.2.1.1, Res.fam (Res.struct (YE110 ch_0_5 ch_0_6) 110) (one_struct _ _) ch_0_4 [] x1.2.1.2.1, Res.fam (fun g_ kvs_ => Res.map true (Ty.arr .u64 4) true (Ty.arr .u64 4) g_ kvs_) (one_map true (Ty.arr .u64 4) true (Ty.arr .u64 4)) ch_0_5 [] x1.2.1.2.2.1, Res.fam (fun g_ kvs_ => Res.map true (Ty.arr .u64 4) false Ty.bool g_ kvs_) (one_map true (Ty.arr .u64 4) false Ty.bool) ch_0_6 [] x1.2.1.2.2.2, Res.row Y100 100 ch_0_7 ch_0_8 ch_0_9 x1.2.2.2.1, Res.row (YC ch_0_0 ch_0_4 ch_0_5 ch_0_6) 1 ch_0_10 ch_0_11 ch_0_12 x1.2.2.2.2.1, Res.row (Ty.arr .u8 20) 40 ch_0_13 ch_0_14 ch_0_15 x1.2.2.2.2.2] (fun (ch : Unit) => ((.v (.int .i64 r)) : D)) (fun (ch : Unit) => [Res.cells ch_0_0 79 [.rf (.iface 75 (.agg (cellsOf [.sl ch_0_1 (x1.1).length ch_0_2 (RdS Y71 ch_0_1 x1.1)]).toArray)) (IfR [.sl ch_0_1 (x1.1).length ch_0_2 (RdS Y71 ch_0_1 x1.1)]), .one (.map (some ch_0_3)), .one (.int .i64 x1.2.2.1), .one (.slice ch_0_7 ch_0_8 ch_0_9), .one (.slice ch_0_10 ch_0_11 ch_0_12), .one (.slice ch_0_13 ch_0_14 ch_0_15)], Res.map true (Ty.arr .u8 20) false (Ty.pid ch_0_4) ch_0_3 x1.2.1.1, Res.fam (Res.struct (YE110 ch_0_5 ch_0_6) 110) (one_struct _ _) ch_0_4 [] x1.2.1.2.1, Res.fam (fun g_ kvs_ => Res.map true (Ty.arr .u64 4) true (Ty.arr .u64 4) g_ kvs_) (one_map true (Ty.arr .u64 4) true (Ty.arr .u64 4)) ch_0_5 [] x1.2.1.2.2.1, Res.fam (fun g_ kvs_ => Res.map true (Ty.arr .u64 4) false Ty.bool g_ kvs_) (one_map true (Ty.arr .u64 4) false Ty.bool) ch_0_6 [] x1.2.1.2.2.2, Res.row Y100 100 ch_0_7 ch_0_8 ch_0_9 x1.2.2.2.1, Res.row (YC ch_0_0 ch_0_4 ch_0_5 ch_0_6) 1 ch_0_10 ch_0_11 ch_0_12 x1.2.2.2.2.1, Res.row (Ty.arr .u8 20) 40 ch_0_13 ch_0_14 ch_0_15 x1.2.2.2.2.2]) w0)
def state_State_Mark.f (x1 : W1) : Option Int := some ((x1.2.2.2.2.1).length : Int)
theorem state_State_Mark.ok : state_State_Mark.Ctr (state_State_Mark.f) := by
 intro x1 ch_0_0 ch_0_1 ch_0_2 ch_0_3 ch_0_4 ch_0_5 ch_0_6 ch_0_7 ch_0_8 ch_0_9 ch_0_10 ch_0_11 ch_0_12 ch_0_13 ch_0_14 ch_0_15 r h0 mi w0 ok hm
 delta state_State_Mark.f at h0
 refine c_enterX (n := 10) [(.v (.pointer (some ⟨ch_0_0, 0, none⟩)))] (l := [(0, (.v (.pointer (some ⟨ch_0_0, 0, none⟩))))]) Tryz.func13 rfl rfl rfl rfl ok hm ?_
 clear ok hm
 intro b0 hb a S
 refine c_region ?_
 refine s_assign S rfl rfl ?_; clear S a; intro a S
 refine c_end ?_
 refine wp_seq ?_
 refine c_region ?_
 refine s_move S rfl rfl ?_; clear S a; intro a S
 refine s_eqp S (b := false) rfl rfl Tryz.underlying26 rfl rfl ?_; clear S a; intro a S
 refine c_end ?_
 refine c_condF S rfl rfl ?_
 refine wp_skip ?_
 refine x_thenN ?_
 refine c_region ?_
 refine s_move S rfl rfl ?_; clear S a; intro a S
 refine s_nilchk S rfl rfl ?_; clear S a; intro a S
 refine s_fieldAddr S rfl I79_4 T77 (by decide) rfl rfl ?_; clear S a; intro a S
 refine s_load1 S rfl .here T77 (v := (.slice ch_0_10 ch_0_11 ch_0_12)) rfl rfl ?_; clear S a; intro a S
 refine s_lenO S rfl (.there (.there (.there (.there (.there (.there .here)))))) Tryz.underlying77 rfl ?_; clear S a; intro a S
 refine s_assign S rfl rfl ?_; clear S a; intro a S
 refine c_end ?_
 refine wp_ret ?_
 obtain rfl := Option.some.inj h0
 exact b_ret1 (d := (.v (.int .i64 ((x1.2.2.2.2.1).length : Int)))) S rfl rfl fun ok => S.retX (Hx := []) hb _ _ (() : Unit) (.cons .here (.cons .here (.cons .here (.cons .here (.cons .here (.cons .here (.cons .here (.cons .here .nil)))))))) ok
abbrev state_State_Touch_1.Ty : Type := (Option Nat) → W1 → Option W10
def state_State_Touch_1.Ctr (s : state_State_Touch_1.Ty) : Prop := ∀ (x1 : Option Nat) (x2 : W1) (ch_0_0 : Addr) (ch_1_0 : Nat) (ch_1_1 : Option Addr) (ch_1_2 : Nat) (ch_1_3 : Nat) (ch_1_4 : List Nat) (ch_1_5 : List Nat) (ch_1_6 : List Nat) (ch_1_7 : Option Addr) (ch_1_8 : Nat) (ch_1_9 : Nat) (ch_1_10 : Option Addr) (ch_1_11 : Nat) (ch_1_12 : Nat) (ch_1_13 : Option Addr) (ch_1_14 : Nat) (ch_1_15 : Nat) (r : W10) (h0 : s x1 x2 = some r) (mi : Mem) (w0 : World), okL mi [(.pt ch_0_0 (At (Ty.pid ch_1_4) ch_0_0 x1))] → Pre mi [Res.cells ch_1_0 79 [.rf (.iface 75 (.agg (cellsOf [.sl ch_1_1 (x2.1).length ch_1_2 (RdS Y71 ch_1_1 x2.1)]).toArray)) (IfR [.sl ch_1_1 (x2.1).length ch_1_2 (RdS Y71 ch_1_1 x2.1)]), .one (.map (some ch_1_3)), .one (.int .i64 x2.2.2.1), .one (.slice ch_1_7 ch_1_8 ch_1_9), .one (.slice ch_1_10 ch_1_11 ch_1_12), .one (.slice ch_1_13 ch_1_14 ch_1_15)], Res.map true (Ty.arr .u8 20) false (Ty.pid ch_1_4) ch_1_3 x2.2.1.1, Res.fam (Res.struct (YE110 ch_1_5 ch_1_6) 110) (one_struct _ _) ch_1_4 [] x2.2.1.2.1, Res.fam (fun g_ kvs_ => Res.map true (Ty.arr .u64 4) true (Ty.arr .u64 4) g_ kvs_) (one_map true (Ty.arr .u64 4) true (Ty.arr .u64 4)) ch_1_5 [] x2.2.1.2.2.1, Res.fam (fun g_ kvs_ => Res.map true (Ty.arr .u64 4) false Ty.bool g_ kvs_) (one_map true (Ty.arr .u64 4) false Ty.bool) ch_1_6 [] x2.2.1.2.2.2, Res.row Y100 100 ch_1_7 ch_1_8 ch_1_9 x2.2.2.2.1, Res.row (YC ch_1_0 ch_1_4 ch_1_5 ch_1_6) 1 ch_1_10 ch_1_11 ch_1_12 x2.2.2.2.2.1, Res.row (Ty.arr .u8 20) 40 ch_1_13 ch_1_14 ch_1_15 x2.2.2.2.2.2] w0 → Calls Tryz.prog 69 (([(.pt ch_0_0 (At (Ty.pid ch_1_4) ch_0_0 x1))] : List D).map D.val).toArray w0 (RetX mi [Res.cells ch_1_0 79 [.rf (.iface 75 (.agg (cellsOf [.sl ch_1_1 (x2.1).length ch_1_2 (RdS Y71 ch_1_1 x2.1)]).toArray)) (IfR [.sl ch_1_1 (x2.1).length ch_1_2 (RdS Y71 ch_1_1 x2.1)]), .one (.map (some ch_1_3)), .one (.int .i64 x2.2.2.1), .one (.slice ch_1_7 ch_1_8 ch_1_9), .one (.slice ch_1_10 ch_1_11 ch_1_12), .one (.slice ch_1_13 ch_1_14 ch_1_15)], Res.map true (Ty.arr .u8 20) false (Ty.pid ch_1_4) ch_1_3 x2.2.1.1, Res.fam (Res.struct (YE110 ch_1_5 ch_1_6) 110) (one_struct _ _) ch_1_4 [] x2.2.1.2.1, Res.fam (fun g_ kvs_ => Res.map true (Ty.arr .u64 4) true (Ty.arr .u64 4) g_ kvs_) (one_map true (Ty.arr .u64 4) true (Ty.arr .u64 4)) ch_1_5 [] x2.2.1.2.2.1, Res.fam (fun g_ kvs_ => Res.map true (Ty.arr .u64 4) false Ty.bool g_ kvs_) (one_map true (Ty.arr .u64 4) false Ty.bool) ch_1_6 [] x2.2.1.2.2.2, Res.row Y100 100 ch_1_7 ch_1_8 ch_1_9 x2.2.2.2.1, Res.row (YC ch_1_0 ch_1_4 ch_1_5 ch_1_6) 1 ch_1_10 ch_1_11 ch_1_12 x2.2.2.2.2.1, Res.row (Ty.arr .u8 20) 40 ch_1_13 ch_1_14 ch_1_15 x2.2.2.2.2.2] (fun (ch : W11) => ((.tup []) : D)) (fun (ch : W11) => [Res.cells ch_1_0 79 [.rf (.iface 75 (.agg (cellsOf [.sl ch_1_1 (x2.1).length ch_1_2 (RdS Y71 ch_1_1 x2.1)]).toArray)) (IfR [.sl ch_1_1 (x2.1).length ch_1_2 (RdS Y71 ch_1_1 x2.1)]), .one (.map (some ch.1)), .one (.int .i64 x2.2.2.1), .one (.slice ch_1_7 ch_1_8 ch_1_9), .one (.slice ch_1_10 ch_1_11 ch_1_12), .one (.slice ch_1_13 ch_1_14 ch_1_15)], Res.map true (Ty.arr .u8 20) false (Ty.pid ch.2.1) ch.1 r.2.1.1, Res.fam (Res.struct (YE110 ch.2.2.1 ch.2.2.2) 110) (one_struct _ _) ch.2.1 [] r.2.1.2.1, Res.fam (fun g_ kvs_ => Res.map true (Ty.arr .u64 4) true (Ty.arr .u64 4) g_ kvs_) (one_map true (Ty.arr .u64 4) true (Ty.arr .u64 4)) ch.2.2.1 [] r.2.1.2.2.1, Res.fam (fun g_ kvs_ => Res.map true (Ty.arr .u64 4) false Ty.bool g_ kvs_) (one_map true (Ty.arr .u64 4) false Ty.bool) ch.2.2.2 [] r.2.1.2.2.2, Res.row Y100 100 ch_1_7 ch_1_8 ch_1_9 x2.2.2.2.1, Res.row (YC ch_1_0 ch.2.1 ch.2.2.1 ch.2.2.2) 1 ch_1_10 ch_1_11 ch_1_12 x2.2.2.2.2.1, Res.row (Ty.arr .u8 20) 40 ch_1_13 ch_1_14 ch_1_15 x2.2.2.2.2.2]) w0)
def state_State_Touch_1.f (x1 : Option Nat) (x2 : W1) : Option W10 := if x1.isSome = true then (some ((), (x2.2.1.1, x2.2.1.2.1.set (x1.getD 0) ((atE x2.2.1.2.1 (x1.getD 0)).1, (atE x2.2.1.2.1 (x1.getD 0)).2.1, (atE x2.2.1.2.1 (x1.getD 0)).2.2.1, (atE x2.2.1.2.1 (x1.getD 0)).2.2.2.1, (atE x2.2.1.2.1 (x1.getD 0)).2.2.2.2.1, false, (atE x2.2.1.2.1 (x1.getD 0)).2.2.2.2.2.2), x2.2.1.2.2.1, x2.2.1.2.2.2), (), (), (), ())) else none
theorem state_State_Touch_1.ok : state_State_Touch_1.Ctr (state_State_Touch_1.f) := by
 intro x1 x2 ch_0_0 ch_1_0 ch_1_1 ch_1_2 ch_1_3 ch_1_4 ch_1_5 ch_1_6 ch_1_7 ch_1_8 ch_1_9 ch_1_10 ch_1_11 ch_1_12 ch_1_13 ch_1_14 ch_1_15 r h0 mi w0 ok hm
 delta state_State_Touch_1.f at h0
 refine c_enterX (n := 4) [(.pt ch_0_0 (At (Ty.pid ch_1_4) ch_0_0 x1))] (l := [(0, (.pt ch_0_0 (At (Ty.pid ch_1_4) ch_0_0 x1)))]) Tryz.func69 rfl rfl rfl rfl ok hm ?_
 clear ok hm
 intro b0 hb a S
 refine c_region' ?_
 refine s_ldF S (fun _ => ptrV ch_1_4 x1) (fun _ => ptrR ch_1_4 x1) rfl T111 (fun _ => rfl) rfl ?_; clear S a; intro _ a S
 obtain ⟨c1, h1⟩ := chk_of h0; clear h0
 have hl1 := S.slotPlt (u := 1) c1 rfl
 replace S := S.slotP (u := 1) c1 rfl
 refine s_nilchk S rfl rfl ?_; clear S a; intro a S
 refine s_fieldAddr S rfl I110_5 T4 (by decide) rfl rfl ?_; clear S a; intro a S
 replace S := S.famOpen (i := (x1.getD 0)) hl1 (.there (.there .here))
 have hS := S.structOpen (T := (YE110 ch_1_5 ch_1_6)) (fun _ => .here) (((), (), (), (none, 0), (none, 0)), ((), (), (), (none, 0), (none, 0)), (), (), (), (), ())
 clear S; obtain ⟨ch1, S⟩ := hS
 refine s_store S rfl rfl rfl (s' := [.ints .u8 (((atE x2.2.1.2.1 (x1.getD 0)).1).1) 20, .one (.int .u64 (((atE x2.2.1.2.1 (x1.getD 0)).1).2.1)), .ints .u64 (((atE x2.2.1.2.1 (x1.getD 0)).1).2.2.1) 4, .sl ch1.1.2.2.2.1.1 (((atE x2.2.1.2.1 (x1.getD 0)).1).2.2.2.1).length ch1.1.2.2.2.1.2 (RdS (Ty.int .u8) ch1.1.2.2.2.1.1 (((atE x2.2.1.2.1 (x1.getD 0)).1).2.2.2.1)), .sl ch1.1.2.2.2.2.1 (((atE x2.2.1.2.1 (x1.getD 0)).1).2.2.2.2).length ch1.1.2.2.2.2.2 (RdS Y83 ch1.1.2.2.2.2.1 (((atE x2.2.1.2.1 (x1.getD 0)).1).2.2.2.2)), .ints .u8 (((atE x2.2.1.2.1 (x1.getD 0)).2.1).1) 20, .one (.int .u64 (((atE x2.2.1.2.1 (x1.getD 0)).2.1).2.1)), .ints .u64 (((atE x2.2.1.2.1 (x1.getD 0)).2.1).2.2.1) 4, .sl ch1.2.1.2.2.2.1.1 (((atE x2.2.1.2.1 (x1.getD 0)).2.1).2.2.2.1).length ch1.2.1.2.2.2.1.2 (RdS (Ty.int .u8) ch1.2.1.2.2.2.1.1 (((atE x2.2.1.2.1 (x1.getD 0)).2.1).2.2.2.1)), .sl ch1.2.1.2.2.2.2.1 (((atE x2.2.1.2.1 (x1.getD 0)).2.1).2.2.2.2).length ch1.2.1.2.2.2.2.2 (RdS Y83 ch1.2.1.2.2.2.2.1 (((atE x2.2.1.2.1 (x1.getD 0)).2.1).2.2.2.2)), .one (.bool ((atE x2.2.1.2.1 (x1.getD 0)).2.2.1)), .rf (.map (some (bAt ch_1_5 ((atE x2.2.1.2.1 (x1.getD 0)).2.2.2.1)))) (ltR ((atE x2.2.1.2.1 (x1.getD 0)).2.2.2.1) ch_1_5), .one (.bool ((atE x2.2.1.2.1 (x1.getD 0)).2.2.2.2.1)), .one (.bool false), .rf (.map (some (bAt ch_1_6 ((atE x2.2.1.2.1 (x1.getD 0)).2.2.2.2.2.2)))) (ltR ((atE x2.2.1.2.1 (x1.getD 0)).2.2.2.2.2.2) ch_1_6)]) .here T4 rfl rfl ?_; clear S; intro w S
 replace S := S.structClose (T := (YE110 ch_1_5 ch_1_6)) (e := ((atE x2.2.1.2.1 (x1.getD 0)).1, (atE x2.2.1.2.1 (x1.getD 0)).2.1, (atE x2.2.1.2.1 (x1.getD 0)).2.2.1, (atE x2.2.1.2.1 (x1.getD 0)).2.2.2.1, (atE x2.2.1.2.1 (x1.getD 0)).2.2.2.2.1, false, (atE x2.2.1.2.1 (x1.getD 0)).2.2.2.2.2.2)) ((((), (), (), (ch1.1.2.2.2.1.1, ch1.1.2.2.2.1.2), (ch1.1.2.2.2.2.1, ch1.1.2.2.2.2.2)), ((), (), (), (ch1.2.1.2.2.2.1.1, ch1.2.1.2.2.2.1.2), (ch1.2.1.2.2.2.2.1, ch1.2.1.2.2.2.2.2)), (), (), (), (), ()) : ((YE110 ch_1_5 ch_1_6)).Ch) rfl .here
 replace S := S.famClose hl1 .here (.there (.there .here))
 refine c_end' ?_
 refine b_end ?_
 obtain rfl := Option.some.inj h1
 exact b_ret0 S rfl (S.retX (Hx := []) hb _ _ ((ch_1_3, ch_1_4, ch_1_5, ch_1_6) : W11) (.cons .here (.cons .here (.cons .here (.cons .here (.cons .here (.cons .here (.cons .here (.cons .here .nil)))))))) trivial)
abbrev state_State_TouchSlot_1.Ty : Type := (Option Nat) → (List Int) → W1 → Option W10
def state_State_TouchSlot_1.Ctr (s : state_State_TouchSlot_1.Ty) : Prop := ∀ (x1 : Option Nat) (x2 : List Int) (x3 : W1) (ch_0_0 : Addr) (ch_1_0 : Addr) (ch_2_0 : Nat) (ch_2_1 : Option Addr) (ch_2_2 : Nat) (ch_2_3 : Nat) (ch_2_4 : List Nat) (ch_2_5 : List Nat) (ch_2_6 : List Nat) (ch_2_7 : Option Addr) (ch_2_8 : Nat) (ch_2_9 : Nat) (ch_2_10 : Option Addr) (ch_2_11 : Nat) (ch_2_12 : Nat) (ch_2_13 : Option Addr) (ch_2_14 : Nat) (ch_2_15 : Nat) (r : W10) (h0 : s x1 x2 x3 = some r) (mi : Mem) (w0 : World), okL mi [(.pt ch_0_0 (At (Ty.pid ch_2_4) ch_0_0 x1)), (.pt ch_1_0 (At (Ty.arr .u64 4) ch_1_0 x2))] → Pre mi [Res.cells ch_2_0 79 [.rf (.iface 75 (.agg (cellsOf [.sl ch_2_1 (x3.1).length ch_2_2 (RdS Y71 ch_2_1 x3.1)]).toArray)) (IfR [.sl ch_2_1 (x3.1).length ch_2_2 (RdS Y71 ch_2_1 x3.1)]), .one (.map (some ch_2_3)), .one (.int .i64 x3.2.2.1), .one (.slice ch_2_7 ch_2_8 ch_2_9), .one (.slice ch_2_10 ch_2_11 ch_2_12), .one (.slice ch_2_13 ch_2_14 ch_2_15)], Res.map true (Ty.arr .u8 20) false (Ty.pid ch_2_4) ch_2_3 x3.2.1.1, Res.fam (Res.struct (YE110 ch_2_5 ch_2_6) 110) (one_struct _ _) ch_2_4 [] x3.2.1.2.1, Res.fam (fun g_ kvs_ => Res.map true (Ty.arr .u64 4) true (Ty.arr .u64 4) g_ kvs_) (one_map true (Ty.arr .u64 4) true (Ty.arr .u64 4)) ch_2_5 [] x3.2.1.2.2.1, Res.fam (fun g_ kvs_ => Res.map true (Ty.arr .u64 4) false Ty.bool g_ kvs_) (one_map true (Ty.arr .u64 4) false Ty.bool) ch_2_6 [] x3.2.1.2.2.2, Res.row Y100 100 ch_2_7 ch_2_8 ch_2_9 x3.2.2.2.1, Res.row (YC ch_2_0 ch_2_4 ch_2_5 ch_2_6) 1 ch_2_10 ch_2_11 ch_2_12 x3.2.2.2.2.1, Res.row (Ty.arr .u8 20) 40 ch_2_13 ch_2_14 ch_2_15 x3.2.2.2.2.2] w0 → Calls Tryz.prog 70 (([(.pt ch_0_0 (At (Ty.pid ch_2_4) ch_0_0 x1)), (.pt ch_1_0 (At (Ty.arr .u64 4) ch_1_0 x2))] : List D).map D.val).toArray w0 (RetX mi [Res.cells ch_2_0 79 [.rf (.iface 75 (.agg (cellsOf [.sl ch_2_1 (x3.1).length ch_2_2 (RdS Y71 ch_2_1 x3.1)]).toArray)) (IfR [.sl ch_2_1 (x3.1).length ch_2_2 (RdS Y71 ch_2_1 x3.1)]), .one (.map (some ch_2_3)), .one (.int .i64 x3.2.2.1), .one (.slice ch_2_7 ch_2_8 ch_2_9), .one (.slice ch_2_10 ch_2_11 ch_2_12), .one (.slice ch_2_13 ch_2_14 ch_2_15)], Res.map true (Ty.arr .u8 20) false (Ty.pid ch_2_4) ch_2_3 x3.2.1.1, Res.fam (Res.struct (YE110 ch_2_5 ch_2_6) 110) (one_struct _ _) ch_2_4 [] x3.2.1.2.1, Res.fam (fun g_ kvs_ => Res.map true (Ty.arr .u64 4) true (Ty.arr .u64 4) g_ kvs_) (one_map true (Ty.arr .u64 4) true (Ty.arr .u64 4)) ch_2_5 [] x3.2.1.2.2.1, Res.fam (fun g_ kvs_ => Res.map true (Ty.arr .u64 4) false Ty.bool g_ kvs_) (one_map true (Ty.arr .u64 4) false Ty.bool) ch_2_6 [] x3.2.1.2.2.2, Res.row Y100 100 ch_2_7 ch_2_8 ch_2_9 x3.2.2.2.1, Res.row (YC ch_2_0 ch_2_4 ch_2_5 ch_2_6) 1 ch_2_10 ch_2_11 ch_2_12 x3.2.2.2.2.1, Res.row (Ty.arr .u8 20) 40 ch_2_13 ch_2_14 ch_2_15 x3.2.2.2.2.2] (fun (ch : W11) => ((.tup []) : D)) (fun (ch : W11) => [Res.cells ch_2_0 79 [.rf (.iface 75 (.agg (cellsOf [.sl ch_2_1 (x3.1).length ch_2_2 (RdS Y71 ch_2_1 x3.1)]).toArray)) (IfR [.sl ch_2_1 (x3.1).length ch_2_2 (RdS Y71 ch_2_1 x3.1)]), .one (.map (some ch.1)), .one (.int .i64 x3.2.2.1), .one (.slice ch_2_7 ch_2_8 ch_2_9), .one (.slice ch_2_10 ch_2_11 ch_2_12), .one (.slice ch_2_13 ch_2_14 ch_2_15)], Res.map true (Ty.arr .u8 20) false (Ty.pid ch.2.1) ch.1 r.2.1.1, Res.fam (Res.struct (YE110 ch.2.2.1 ch.2.2.2) 110) (one_struct _ _) ch.2.1 [] r.2.1.2.1, Res.fam (fun g_ kvs_ => Res.map true (Ty.arr .u64 4) true (Ty.arr .u64 4) g_ kvs_) (one_map true (Ty.arr .u64 4) true (Ty.arr .u64 4)) ch.2.2.1 [] r.2.1.2.2.1, Res.fam (fun g_ kvs_ => Res.map true (Ty.arr .u64 4) false Ty.bool g_ kvs_) (one_map true (Ty.arr .u64 4) false Ty.bool) ch.2.2.2 [] r.2.1.2.2.2, Res.row Y100 100 ch_2_7 ch_2_8 ch_2_9 x3.2.2.2.1, Res.row (YC ch_2_0 ch.2.1 ch.2.2.1 ch.2.2.2) 1 ch_2_10 ch_2_11 ch_2_12 x3.2.2.2.2.1, Res.row (Ty.arr .u8 20) 40 ch_2_13 ch_2_14 ch_2_15 x3.2.2.2.2.2]) w0)
def state_State_TouchSlot_1.f (x1 : Option Nat) (x2 : List Int) (x3 : W1) : Option W10 := if x1.isSome = true then (some ((), (x3.2.1.1, x3.2.1.2.1, x3.2.1.2.2.1, x3.2.1.2.2.2.set ((atE x3.2.1.2.1 (x1.getD 0)).2.2.2.2.2.2) (adel (atE x3.2.1.2.2.2 ((atE x3.2.1.2.1 (x1.getD 0)).2.2.2.2.2.2)) x2)), (), (), (), ())) else none
theorem state_State_TouchSlot_1.ok : state_State_TouchSlot_1.Ctr (state_State_TouchSlot_1.f) := by
 intro x1 x2 x3 ch_0_0 ch_1_0 ch_2_0 ch_2_1 ch_2_2 ch_2_3 ch_2_4 ch_2_5 ch_2_6 ch_2_7 ch_2_8 ch_2_9 ch_2_10 ch_2_11 ch_2_12 ch_2_13 ch_2_14 ch_2_15 r h0 mi w0 ok hm
 delta state_State_TouchSlot_1.f at h0
 refine c_enterX (n := 7) [(.pt ch_0_0 (At (Ty.pid ch_2_4) ch_0_0 x1)), (.pt ch_1_0 (At (Ty.arr .u64 4) ch_1_0 x2))] (l := [(0, (.pt ch_0_0 (At (Ty.pid ch_2_4) ch_0_0 x1))), (1, (.pt ch_1_0 (At (Ty.arr .u64 4) ch_1_0 x2)))]) Tryz.func70 rfl rfl rfl rfl ok hm ?_
 clear ok hm
 intro b0 hb a S
 refine c_heldS S (.take 0 (.take 4 (.alts (.run 1 true (.take 2 (.alts (.run 3 true (.alts (.run 5 true .done .nil)) .nil))) .nil)))) 6 [Res.cells ch_2_0 79 [.rf (.iface 75 (.agg (cellsOf [.sl ch_2_1 (x3.1).length ch_2_2 (RdS Y71 ch_2_1 x3.1)]).toArray)) (IfR [.sl ch_2_1 (x3.1).length ch_2_2 (RdS Y71 ch_2_1 x3.1)]), .one (.map (some ch_2_3)), .one (.int .i64 x3.2.2.1), .one (.slice ch_2_7 ch_2_8 ch_2_9), .one (.slice ch_2_10 ch_2_11 ch_2_12), .one (.slice ch_2_13 ch_2_14 ch_2_15)], Res.row (Ty.arr .u8 20) 40 ch_2_13 ch_2_14 ch_2_15 x3.2.2.2.2.2] (.cons .here (.cons (.there (.there (.there (.there (.there (.there .here)))))) .nil)) ⟨Res.stay_cells, Res.stay_row flat_arr, trivial⟩ [(0, (.pt ch_0_0 (At (Ty.pid ch_2_4) ch_0_0 x1))), (1, (.pt ch_1_0 (At (Ty.arr .u64 4) ch_1_0 x2)))] (subR rfl) (by kernel_rfl) (by kernel_rfl) ?_; clear S; intro w S CL hw le
 refine h_ldF S CL hw le (subR rfl) (fun _ => ptrV ch_2_4 x1) (fun _ => ptrR ch_2_4 x1) rfl T111 (fun _ => rfl) rfl rfl trivial ?_; clear S CL a; intro _ a S CL
 refine h_ldA S CL hw le (subR rfl) (fun (c : Unit) => [.ints .u64 x2 4]) rfl T43 (fun _ => rfl) rfl rfl trivial ?_; clear S CL a; intro ch1 a S CL
 refine h_run' S rfl trivial ?_
 obtain ⟨c1, h1⟩ := chk_of h0; clear h0
 have hl1 := S.slotPlt (u := 2) c1 rfl
 replace S := S.slotP (u := 2) c1 rfl
 replace CL := CL.drop (lq' := [(6, (.agg [.ints .u64 x2 4])), (0, (.pt ch_0_0 (At (Ty.pid ch_2_4) ch_0_0 x1))), (1, (.pt ch_1_0 (At (Ty.arr .u64 4) ch_1_0 x2)))]) (subR rfl)
 refine s_nilchk S rfl rfl ?_; clear S a; intro a S
 replace hw := CL.again hw S (.cons .here (.cons (.there (.there (.there (.there (.there (.there .here)))))) .nil)) le
 refine h_back ⟨fun _ => hw, ?_⟩
 replace CL := CL.add (t := 3) (d := (.v (.pointer (some ⟨(bAt ch_2_4 (x1.getD 0)), 0, none⟩)))) S rfl rfl
 refine h_fieldAddr S CL hw le (subR rfl) rfl I110_6 T108 (by decide) rfl rfl rfl trivial ?_; clear S CL a; intro a S CL
 refine h_run' S rfl trivial ?_
 replace S := S.famOpen (i := (x1.getD 0)) hl1 (.there (.there .here))
 have hS := S.structOpen (T := (YE110 ch_2_5 ch_2_6)) (fun _ => .here) (((), (), (), (none, 0), (none, 0)), ((), (), (), (none, 0), (none, 0)), (), (), (), (), ())
 clear S; obtain ⟨ch2, S⟩ := hS
 refine s_loadM S rfl .here T108 (v := (.map (some (bAt ch_2_6 ((atE x3.2.1.2.1 (x1.getD 0)).2.2.2.2.2.2))))) rfl rfl ?_; clear S a; intro a S
 replace S := S.structClose (T := (YE110 ch_2_5 ch_2_6)) (e := atE x3.2.1.2.1 (x1.getD 0)) ((((), (), (), (ch2.1.2.2.2.1.1, ch2.1.2.2.2.1.2), (ch2.1.2.2.2.2.1, ch2.1.2.2.2.2.2)), ((), (), (), (ch2.2.1.2.2.2.1.1, ch2.2.1.2.2.2.1.2), (ch2.2.1.2.2.2.2.1, ch2.2.1.2.2.2.2.2)), (), (), (), (), ()) : ((YE110 ch_2_5 ch_2_6)).Ch) rfl .here
 replace S := S.famShut hl1 .here (.there (.there .here))
 replace hw := CL.again hw S (.cons .here (.cons (.there (.there (.there (.there (.there (.there .here)))))) .nil)) le
 refine h_back ⟨fun _ => hw, ?_⟩
 refine h_run' S rfl trivial ?_
 have hm1 := S.slotLt (u := 5) rfl
 replace S := S.slotMid (u := 5) rfl
 replace S := S.famOpen (i := ((atE x3.2.1.2.1 (x1.getD 0)).2.2.2.2.2.2)) hm1 (.there (.there (.there (.there .here))))
 refine s_delOn S (k := x2) rfl .here rfl (fun h => ⟨(), rfl, h⟩) Tryz.underlying108 KT43 ?_; clear S; intro w S
 replace S := S.famClose hm1 .here (.there (.there (.there (.there .here))))
 replace S := S.slotMidB (u := 5) hm1 rfl
 replace hw := CL.again hw S (.cons .here (.cons (.there (.there (.there (.there (.there (.there .here)))))) .nil)) le
 refine h_back ⟨fun _ => hw, ?_⟩
 refine h_done ?_; clear CL hw le
 refine b_end ?_
 obtain rfl := Option.some.inj h1
 exact b_ret0 S rfl (S.retX (Hx := []) hb _ _ ((ch_2_3, ch_2_4, ch_2_5, ch_2_6) : W11) (.cons .here (.cons .here (.cons .here (.cons .here (.cons .here (.cons .here (.cons .here (.cons .here .nil)))))))) trivial)
abbrev state_State_Set_1.Ty : Type := Bool → (List Int) → Nat → (List Int) → W1 → Option W10
def state_State_Set_1.Ctr (s : state_State_Set_1.Ty) : Prop := ∀ (x1 : Bool) (x2 : List Int) (x3 : Nat) (x4 : List Int) (x5 : W1) (ch_0_0 : Addr) (ch_1_0 : Addr) (ch_2_0 : Addr) (ch_3_0 : Addr) (ch_4_0 : Nat) (ch_4_1 : Option Addr) (ch_4_2 : Nat) (ch_4_3 : Nat) (ch_4_4 : List Nat) (ch_4_5 : List Nat) (ch_4_6 : List Nat) (ch_4_7 : Option Addr) (ch_4_8 : Nat) (ch_4_9 : Nat) (ch_4_10 : Option Addr) (ch_4_11 : Nat) (ch_4_12 : Nat) (ch_4_13 : Option Addr) (ch_4_14 : Nat) (ch_4_15 : Nat) (r : W10) (h0 : s x1 x2 x3 x4 x5 = some r) (mi : Mem) (w0 : World), okL mi [(.pt ch_0_0 (At Ty.bool ch_0_0 x1)), (.pt ch_1_0 (At (Ty.arr .u64 4) ch_1_0 x2)), (.pt ch_2_0 (At (Ty.mid ch_4_5) ch_2_0 x3)), (.pt ch_3_0 (At (Ty.arr .u64 4) ch_3_0 x4))] → Pre mi [Res.cells ch_4_0 79 [.rf (.iface 75 (.agg (cellsOf [.sl ch_4_1 (x5.1).length ch_4_2 (RdS Y71 ch_4_1 x5.1)]).toArray)) (IfR [.sl ch_4_1 (x5.1).length ch_4_2 (RdS Y71 ch_4_1 x5.1)]), .one (.map (some ch_4_3)), .one (.int .i64 x5.2.2.1), .one (.slice ch_4_7 ch_4_8 ch_4_9), .one (.slice ch_4_10 ch_4_11 ch_4_12), .one (.slice ch_4_13 ch_4_14 ch_4_15)], Res.map true (Ty.arr .u8 20) false (Ty.pid ch_4_4) ch_4_3 x5.2.1.1, Res.fam (Res.struct (YE110 ch_4_5 ch_4_6) 110) (one_struct _ _) ch_4_4 [] x5.2.1.2.1, Res.fam (fun g_ kvs_ => Res.map true (Ty.arr .u64 4) true (Ty.arr .u64 4) g_ kvs_) (one_map true (Ty.arr .u64 4) true (Ty.arr .u64 4)) ch_4_5 [] x5.2.1.2.2.1, Res.fam (fun g_ kvs_ => Res.map true (Ty.arr .u64 4) false Ty.bool g_ kvs_) (one_map true (Ty.arr .u64 4) false Ty.bool) ch_4_6 [] x5.2.1.2.2.2, Res.row Y100 100 ch_4_7 ch_4_8 ch_4_9 x5.2.2.2.1, Res.row (YC ch_4_0 ch_4_4 ch_4_5 ch_4_6) 1 ch_4_10 ch_4_11 ch_4_12 x5.2.2.2.2.1, Res.row (Ty.arr .u8 20) 40 ch_4_13 ch_4_14 ch_4_15 x5.2.2.2.2.2] w0 → Calls Tryz.prog 72 (([(.pt ch_0_0 (At Ty.bool ch_0_0 x1)), (.pt ch_1_0 (At (Ty.arr .u64 4) ch_1_0 x2)), (.pt ch_2_0 (At (Ty.mid ch_4_5) ch_2_0 x3)), (.pt ch_3_0 (At (Ty.arr .u64 4) ch_3_0 x4))] : List D).map D.val).toArray w0 (RetX mi [Res.cells ch_4_0 79 [.rf (.iface 75 (.agg (cellsOf [.sl ch_4_1 (x5.1).length ch_4_2 (RdS Y71 ch_4_1 x5.1)]).toArray)) (IfR [.sl ch_4_1 (x5.1).length ch_4_2 (RdS Y71 ch_4_1 x5.1)]), .one (.map (some ch_4_3)), .one (.int .i64 x5.2.2.1), .one (.slice ch_4_7 ch_4_8 ch_4_9), .one (.slice ch_4_10 ch_4_11 ch_4_12), .one (.slice ch_4_13 ch_4_14 ch_4_15)], Res.map true (Ty.arr .u8 20) false (Ty.pid ch_4_4) ch_4_3 x5.2.1.1, Res.fam (Res.struct (YE110 ch_4_5 ch_4_6) 110) (one_struct _ _) ch_4_4 [] x5.2.1.2.1, Res.fam (fun g_ kvs_ => Res.map true (Ty.arr .u64 4) true (Ty.arr .u64 4) g_ kvs_) (one_map true (Ty.arr .u64 4) true (Ty.arr .u64 4)) ch_4_5 [] x5.2.1.2.2.1, Res.fam (fun g_ kvs_ => Res.map true (Ty.arr .u64 4) false Ty.bool g_ kvs_) (one_map true (Ty.arr .u64 4) false Ty.bool) ch_4_6 [] x5.2.1.2.2.2, Res.row Y100 100 ch_4_7 ch_4_8 ch_4_9 x5.2.2.2.1, Res.row (YC ch_4_0 ch_4_4 ch_4_5 ch_4_6) 1 ch_4_10 ch_4_11 ch_4_12 x5.2.2.2.2.1, Res.row (Ty.arr .u8 20) 40 ch_4_13 ch_4_14 ch_4_15 x5.2.2.2.2.2] (fun (ch : W11) => ((.tup []) : D)) (fun (ch : W11) => [Res.cells ch_4_0 79 [.rf (.iface 75 (.agg (cellsOf [.sl ch_4_1 (x5.1).length ch_4_2 (RdS Y71 ch_4_1 x5.1)]).toArray)) (IfR [.sl ch_4_1 (x5.1).length ch_4_2 (RdS Y71 ch_4_1 x5.1)]), .one (.map (some ch.1)), .one (.int .i64 x5.2.2.1), .one (.slice ch_4_7 ch_4_8 ch_4_9), .one (.slice ch_4_10 ch_4_11 ch_4_12), .one (.slice ch_4_13 ch_4_14 ch_4_15)], Res.map true (Ty.arr .u8 20) false (Ty.pid ch.2.1) ch.1 r.2.1.1, Res.fam (Res.struct (YE110 ch.2.2.1 ch.2.2.2) 110) (one_struct _ _) ch.2.1 [] r.2.1.2.1, Res.fam (fun g_ kvs_ => Res.map true (Ty.arr .u64 4) true (Ty.arr .u64 4) g_ kvs_) (one_map true (Ty.arr .u64 4) true (Ty.arr .u64 4)) ch.2.2.1 [] r.2.1.2.2.1, Res.fam (fun g_ kvs_ => Res.map true (Ty.arr .u64 4) false Ty.bool g_ kvs_) (one_map true (Ty.arr .u64 4) false Ty.bool) ch.2.2.2 [] r.2.1.2.2.2, Res.row Y100 100 ch_4_7 ch_4_8 ch_4_9 x5.2.2.2.1, Res.row (YC ch_4_0 ch.2.1 ch.2.2.1 ch.2.2.2) 1 ch_4_10 ch_4_11 ch_4_12 x5.2.2.2.2.1, Res.row (Ty.arr .u8 20) 40 ch_4_13 ch_4_14 ch_4_15 x5.2.2.2.2.2]) w0)
def state_State_Set_1.f (x1 : Bool) (x2 : List Int) (x3 : Nat) (x4 : List Int) (x5 : W1) : Option W10 := if x1 = true then (some ((), (x5.2.1.1, x5.2.1.2.1, x5.2.1.2.2.1.set x3 (aput (atE x5.2.1.2.2.1 x3) x4 x2), x5.2.1.2.2.2), (), (), (), ())) else (some ((), (x5.2.1.1, x5.2.1.2.1, x5.2.1.2.2.1.set x3 (adel (atE x5.2.1.2.2.1 x3) x4), x5.2.1.2.2.2), (), (), (), ()))
theorem state_State_Set_1.ok : state_State_Set_1.Ctr (state_State_Set_1.f) := by
 intro x1 x2 x3 x4 x5 ch_0_0 ch_1_0 ch_2_0 ch_3_0 ch_4_0 ch_4_1 ch_4_2 ch_4_3 ch_4_4 ch_4_5 ch_4_6 ch_4_7 ch_4_8 ch_4_9 ch_4_10 ch_4_11 ch_4_12 ch_4_13 ch_4_14 ch_4_15 r h0 mi w0 ok hm
 delta state_State_Set_1.f at h0
 refine c_enterX (n := 10) [(.pt ch_0_0 (At Ty.bool ch_0_0 x1)), (.pt ch_1_0 (At (Ty.arr .u64 4) ch_1_0 x2)), (.pt ch_2_0 (At (Ty.mid ch_4_5) ch_2_0 x3)), (.pt ch_3_0 (At (Ty.arr .u64 4) ch_3_0 x4))] (l := [(0, (.pt ch_0_0 (At Ty.bool ch_0_0 x1))), (1, (.pt ch_1_0 (At (Ty.arr .u64 4) ch_1_0 x2))), (2, (.pt ch_2_0 (At (Ty.mid ch_4_5) ch_2_0 x3))), (3, (.pt ch_3_0 (At (Ty.arr .u64 4) ch_3_0 x4)))]) Tryz.func72 rfl rfl rfl rfl ok hm ?_
 clear ok hm
 intro b0 hb a S
 refine c_region ?_
 refine s_ld1 S (v := (.bool x1)) rfl T4 (fun _ => rfl) rfl ?_; clear S a; intro a S
 refine c_end ?_
 rcases ite_of h0 with ⟨c1, h1⟩ | ⟨c1, h1⟩ <;> clear h0
 ·refine c_condT S rfl c1 ?_
  refine c_region' ?_
  refine s_ldF S (fun _ => .map (some (bAt ch_4_5 x3))) (fun _ => ltR x3 ch_4_5) rfl T107 (fun _ => rfl) rfl ?_; clear S a; intro _ a S
  refine s_ldA S (fun (c : Unit) => [.ints .u64 x4 4]) rfl T43 (fun _ => rfl) rfl ?_; clear S a; intro ch1 a S
  refine s_ldA S (fun (c : Unit) => [.ints .u64 x2 4]) rfl T43 (fun _ => rfl) rfl ?_; clear S a; intro ch2 a S
  have hm1 := S.slotLt (u := 5) rfl
  replace S := S.slotMid (u := 5) rfl
  replace S := S.famOpen (i := x3) hm1 (.there (.there (.there .here)))
  refine s_mapput S (k := x4) (y := x2) rfl .here rfl (fun h => ⟨(), rfl, h⟩) rfl (fun h => ⟨(), rfl, h⟩) Tryz.underlying107 KT43 ?_; clear S; intro w S
  replace S := S.famClose hm1 .here (.there (.there (.there .here)))
  replace S := S.slotMidB (u := 5) hm1 rfl
  refine c_end' ?_
  refine b_end ?_
  obtain rfl := Option.some.inj h1
  exact b_ret0 S rfl (S.retX (Hx := []) hb _ _ ((ch_4_3, ch_4_4, ch_4_5, ch_4_6) : W11) (.cons .here (.cons .here (.cons .here (.cons .here (.cons .here (.cons .here (.cons .here (.cons .here .nil)))))))) trivial)
 ·refine c_condF S rfl c1 ?_
  refine c_region' ?_
  refine s_ldF S (fun _ => .map (some (bAt ch_4_5 x3))) (fun _ => ltR x3 ch_4_5) rfl T107 (fun _ => rfl) rfl ?_; clear S a; intro _ a S
  refine s_ldA S (fun (c : Unit) => [.ints .u64 x4 4]) rfl T43 (fun _ => rfl) rfl ?_; clear S a; intro ch3 a S
  have hm2 := S.slotLt (u := 8) rfl
  replace S := S.slotMid (u := 8) rfl
  replace S := S.famOpen (i := x3) hm2 (.there (.there (.there .here)))
  refine s_delOn S (k := x4) rfl .here rfl (fun h => ⟨(), rfl, h⟩) Tryz.underlying107 KT43 ?_; clear S; intro w S
  replace S := S.famClose hm2 .here (.there (.there (.there .here)))
  replace S := S.slotMidB (u := 8) hm2 rfl
  refine c_end' ?_
  refine b_end ?_
  obtain rfl := Option.some.inj h1
  exact b_ret0 S rfl (S.retX (Hx := []) hb _ _ ((ch_4_3, ch_4_4, ch_4_5, ch_4_6) : W11) (.cons .here (.cons .here (.cons .here (.cons .here (.cons .here (.cons .here (.cons .here (.cons .here .nil)))))))) trivial)
abbrev state_State_SetNonce_1.Ty : Type := Int → (Option Nat) → W1 → Option W10
def state_State_SetNonce_1.Ctr (s : state_State_SetNonce_1.Ty) : Prop := ∀ (x1 : Int) (x2 : Option Nat) (x3 : W1) (ch_0_0 : Addr) (ch_1_0 : Addr) (ch_2_0 : Nat) (ch_2_1 : Option Addr) (ch_2_2 : Nat) (ch_2_3 : Nat) (ch_2_4 : List Nat) (ch_2_5 : List Nat) (ch_2_6 : List Nat) (ch_2_7 : Option Addr) (ch_2_8 : Nat) (ch_2_9 : Nat) (ch_2_10 : Option Addr) (ch_2_11 : Nat) (ch_2_12 : Nat) (ch_2_13 : Option Addr) (ch_2_14 : Nat) (ch_2_15 : Nat) (r : W10) (h0 : s x1 x2 x3 = some r) (mi : Mem) (w0 : World), okL mi [(.pt ch_0_0 (At (Ty.int .u64) ch_0_0 x1)), (.pt ch_1_0 (At (Ty.pid ch_2_4) ch_1_0 x2))] → Pre mi [Res.cells ch_2_0 79 [.rf (.iface 75 (.agg (cellsOf [.sl ch_2_1 (x3.1).length ch_2_2 (RdS Y71 ch_2_1 x3.1)]).toArray)) (IfR [.sl ch_2_1 (x3.1).length ch_2_2 (RdS Y71 ch_2_1 x3.1)]), .one (.map (some ch_2_3)), .one (.int .i64 x3.2.2.1), .one (.slice ch_2_7 ch_2_8 ch_2_9), .one (.slice ch_2_10 ch_2_11 ch_2_12), .one (.slice ch_2_13 ch_2_14 ch_2_15)], Res.map true (Ty.arr .u8 20) false (Ty.pid ch_2_4) ch_2_3 x3.2.1.1, Res.fam (Res.struct (YE110 ch_2_5 ch_2_6) 110) (one_struct _ _) ch_2_4 [] x3.2.1.2.1, Res.fam (fun g_ kvs_ => Res.map true (Ty.arr .u64 4) true (Ty.arr .u64 4) g_ kvs_) (one_map true (Ty.arr .u64 4) true (Ty.arr .u64 4)) ch_2_5 [] x3.2.1.2.2.1, Res.fam (fun g_ kvs_ => Res.map true (Ty.arr .u64 4) false Ty.bool g_ kvs_) (one_map true (Ty.arr .u64 4) false Ty.bool) ch_2_6 [] x3.2.1.2.2.2, Res.row Y100 100 ch_2_7 ch_2_8 ch_2_9 x3.2.2.2.1, Res.row (YC ch_2_0 ch_2_4 ch_2_5 ch_2_6) 1 ch_2_10 ch_2_11 ch_2_12 x3.2.2.2.2.1, Res.row (Ty.arr .u8 20) 40 ch_2_13 ch_2_14 ch_2_15 x3.2.2.2.2.2] w0 → Calls Tryz.prog 73 (([(.pt ch_0_0 (At (Ty.int .u64) ch_0_0 x1)), (.pt ch_1_0 (At (Ty.pid ch_2_4) ch_1_0 x2))] : List D).map D.val).toArray w0 (RetX mi [Res.cells ch_2_0 79 [.rf (.iface 75 (.agg (cellsOf [.sl ch_2_1 (x3.1).length ch_2_2 (RdS Y71 ch_2_1 x3.1)]).toArray)) (IfR [.sl ch_2_1 (x3.1).length ch_2_2 (RdS Y71 ch_2_1 x3.1)]), .one (.map (some ch_2_3)), .one (.int .i64 x3.2.2.1), .one (.slice ch_2_7 ch_2_8 ch_2_9), .one (.slice ch_2_10 ch_2_11 ch_2_12), .one (.slice ch_2_13 ch_2_14 ch_2_15)], Res.map true (Ty.arr .u8 20) false (Ty.pid ch_2_4) ch_2_3 x3.2.1.1, Res.fam (Res.struct (YE110 ch_2_5 ch_2_6) 110) (one_struct _ _) ch_2_4 [] x3.2.1.2.1, Res.fam (fun g_ kvs_ => Res.map true (Ty.arr .u64 4) true (Ty.arr .u64 4) g_ kvs_) (one_map true (Ty.arr .u64 4) true (Ty.arr .u64 4)) ch_2_5 [] x3.2.1.2.2.1, Res.fam (fun g_ kvs_ => Res.map true (Ty.arr .u64 4) false Ty.bool g_ kvs_) (one_map true (Ty.arr .u64 4) false Ty.bool) ch_2_6 [] x3.2.1.2.2.2, Res.row Y100 100 ch_2_7 ch_2_8 ch_2_9 x3.2.2.2.1, Res.row (YC ch_2_0 ch_2_4 ch_2_5 ch_2_6) 1 ch_2_10 ch_2_11 ch_2_12 x3.2.2.2.2.1, Res.row (Ty.arr .u8 20) 40 ch_2_13 ch_2_14 ch_2_15 x3.2.2.2.2.2] (fun (ch : W11) => ((.tup []) : D)) (fun (ch : W11) => [Res.cells ch_2_0 79 [.rf (.iface 75 (.agg (cellsOf [.sl ch_2_1 (x3.1).length ch_2_2 (RdS Y71 ch_2_1 x3.1)]).toArray)) (IfR [.sl ch_2_1 (x3.1).length ch_2_2 (RdS Y71 ch_2_1 x3.1)]), .one (.map (some ch.1)), .one (.int .i64 x3.2.2.1), .one (.slice ch_2_7 ch_2_8 ch_2_9), .one (.slice ch_2_10 ch_2_11 ch_2_12), .one (.slice ch_2_13 ch_2_14 ch_2_15)], Res.map true (Ty.arr .u8 20) false (Ty.pid ch.2.1) ch.1 r.2.1.1, Res.fam (Res.struct (YE110 ch.2.2.1 ch.2.2.2) 110) (one_struct _ _) ch.2.1 [] r.2.1.2.1, Res.fam (fun g_ kvs_ => Res.map true (Ty.arr .u64 4) true (Ty.arr .u64 4) g_ kvs_) (one_map true (Ty.arr .u64 4) true (Ty.arr .u64 4)) ch.2.2.1 [] r.2.1.2.2.1, Res.fam (fun g_ kvs_ => Res.map true (Ty.arr .u64 4) false Ty.bool g_ kvs_) (one_map true (Ty.arr .u64 4) false Ty.bool) ch.2.2.2 [] r.2.1.2.2.2, Res.row Y100 100 ch_2_7 ch_2_8 ch_2_9 x3.2.2.2.1, Res.row (YC ch_2_0 ch.2.1 ch.2.2.1 ch.2.2.2) 1 ch_2_10 ch_2_11 ch_2_12 x3.2.2.2.2.1, Res.row (Ty.arr .u8 20) 40 ch_2_13 ch_2_14 ch_2_15 x3.2.2.2.2.2]) w0)
def state_State_SetNonce_1.f (x1 : Int) (x2 : Option Nat) (x3 : W1) : Option W10 := if x2.isSome = true then (some ((), (x3.2.1.1, x3.2.1.2.1.set (x2.getD 0) ((atE x3.2.1.2.1 (x2.getD 0)).1, (((atE x3.2.1.2.1 (x2.getD 0)).2.1).1, x1, ((atE x3.2.1.2.1 (x2.getD 0)).2.1).2.2.1, ((atE x3.2.1.2.1 (x2.getD 0)).2.1).2.2.2.1, ((atE x3.2.1.2.1 (x2.getD 0)).2.1).2.2.2.2), (atE x3.2.1.2.1 (x2.getD 0)).2.2.1, (atE x3.2.1.2.1 (x2.getD 0)).2.2.2.1, (atE x3.2.1.2.1 (x2.getD 0)).2.2.2.2.1, (atE x3.2.1.2.1 (x2.getD 0)).2.2.2.2.2.1, (atE x3.2.1.2.1 (x2.getD 0)).2.2.2.2.2.2), x3.2.1.2.2.1, x3.2.1.2.2.2), (), (), (), ())) else none
theorem state_State_SetNonce_1.ok : state_State_SetNonce_1.Ctr (state_State_SetNonce_1.f) := by
 intro x1 x2 x3 ch_0_0 ch_1_0 ch_2_0 ch_2_1 ch_2_2 ch_2_3 ch_2_4 ch_2_5 ch_2_6 ch_2_7 ch_2_8 ch_2_9 ch_2_10 ch_2_11 ch_2_12 ch_2_13 ch_2_14 ch_2_15 r h0 mi w0 ok hm
 delta state_State_SetNonce_1.f at h0
 refine c_enterX (n := 7) [(.pt ch_0_0 (At (Ty.int .u64) ch_0_0 x1)), (.pt ch_1_0 (At (Ty.pid ch_2_4) ch_1_0 x2))] (l := [(0, (.pt ch_0_0 (At (Ty.int .u64) ch_0_0 x1))), (1, (.pt ch_1_0 (At (Ty.pid ch_2_4) ch_1_0 x2)))]) Tryz.func73 rfl rfl rfl rfl ok hm ?_
 clear ok hm
 intro b0 hb a S
 refine c_region' ?_
 refine s_ldF S (fun _ => ptrV ch_2_4 x2) (fun _ => ptrR ch_2_4 x2) rfl T111 (fun _ => rfl) rfl ?_; clear S a; intro _ a S
 refine s_ld1 S (v := (.int .u64 x1)) rfl T41 (fun _ => rfl) rfl ?_; clear S a; intro a S
 obtain ⟨c1, h1⟩ := chk_of h0; clear h0
 have hl1 := S.slotPlt (u := 2) c1 rfl
 replace S := S.slotP (u := 2) c1 rfl
 refine s_nilchk S rfl rfl ?_; clear S a; intro a S
 refine s_fieldAddr S rfl I110_1 T71 (by decide) rfl rfl ?_; clear S a; intro a S
 refine s_fieldAddr S rfl I71_1 T41 (by decide) rfl rfl ?_; clear S a; intro a S
 replace S := S.famOpen (i := (x2.getD 0)) hl1 (.there (.there .here))
 have hS := S.structOpen (T := (YE110 ch_2_5 ch_2_6)) (fun _ => .here) (((), (), (), (none, 0), (none, 0)), ((), (), (), (none, 0), (none, 0)), (), (), (), (), ())
 clear S; obtain ⟨ch1, S⟩ := hS
 refine s_store S rfl rfl rfl (s' := [.ints .u8 (((atE x3.2.1.2.1 (x2.getD 0)).1).1) 20, .one (.int .u64 (((atE x3.2.1.2.1 (x2.getD 0)).1).2.1)), .ints .u64 (((atE x3.2.1.2.1 (x2.getD 0)).1).2.2.1) 4, .sl ch1.1.2.2.2.1.1 (((atE x3.2.1.2.1 (x2.getD 0)).1).2.2.2.1).length ch1.1.2.2.2.1.2 (RdS (Ty.int .u8) ch1.1.2.2.2.1.1 (((atE x3.2.1.2.1 (x2.getD 0)).1).2.2.2.1)), .sl ch1.1.2.2.2.2.1 (((atE x3.2.1.2.1 (x2.getD 0)).1).2.2.2.2).length ch1.1.2.2.2.2.2 (RdS Y83 ch1.1.2.2.2.2.1 (((atE x3.2.1.2.1 (x2.getD 0)).1).2.2.2.2)), .ints .u8 (((atE x3.2.1.2.1 (x2.getD 0)).2.1).1) 20, .one (.int .u64 x1), .ints .u64 (((atE x3.2.1.2.1 (x2.getD 0)).2.1).2.2.1) 4, .sl ch1.2.1.2.2.2.1.1 (((atE x3.2.1.2.1 (x2.getD 0)).2.1).2.2.2.1).length ch1.2.1.2.2.2.1.2 (RdS (Ty.int .u8) ch1.2.1.2.2.2.1.1 (((atE x3.2.1.2.1 (x2.getD 0)).2.1).2.2.2.1)), .sl ch1.2.1.2.2.2.2.1 (((atE x3.2.1.2.1 (x2.getD 0)).2.1).2.2.2.2).length ch1.2.1.2.2.2.2.2 (RdS Y83 ch1.2.1.2.2.2.2.1 (((atE x3.2.1.2.1 (x2.getD 0)).2.1).2.2.2.2)), .one (.bool ((atE x3.2.1.2.1 (x2.getD 0)).2.2.1)), .rf (.map (some (bAt ch_2_5 ((atE x3.2.1.2.1 (x2.getD 0)).2.2.2.1)))) (ltR ((atE x3.2.1.2.1 (x2.getD 0)).2.2.2.1) ch_2_5), .one (.bool ((atE x3.2.1.2.1 (x2.getD 0)).2.2.2.2.1)), .one (.bool ((atE x3.2.1.2.1 (x2.getD 0)).2.2.2.2.2.1)), .rf (.map (some (bAt ch_2_6 ((atE x3.2.1.2.1 (x2.getD 0)).2.2.2.2.2.2)))) (ltR ((atE x3.2.1.2.1 (x2.getD 0)).2.2.2.2.2.2) ch_2_6)]) .here T41 rfl rfl ?_; clear S; intro w S
 replace S := S.structClose (T := (YE110 ch_2_5 ch_2_6)) (e := ((atE x3.2.1.2.1 (x2.getD 0)).1, (((atE x3.2.1.2.1 (x2.getD 0)).2.1).1, x1, ((atE x3.2.1.2.1 (x2.getD 0)).2.1).2.2.1, ((atE x3.2.1.2.1 (x2.getD 0)).2.1).2.2.2.1, ((atE x3.2.1.2.1 (x2.getD 0)).2.1).2.2.2.2), (atE x3.2.1.2.1 (x2.getD 0)).2.2.1, (atE x3.2.1.2.1 (x2.getD 0)).2.2.2.1, (atE x3.2.1.2.1 (x2.getD 0)).2.2.2.2.1, (atE x3.2.1.2.1 (x2.getD 0)).2.2.2.2.2.1, (atE x3.2.1.2.1 (x2.getD 0)).2.2.2.2.2.2)) ((((), (), (), (ch1.1.2.2.2.1.1, ch1.1.2.2.2.1.2), (ch1.1.2.2.2.2.1, ch1.1.2.2.2.2.2)), ((), (), (), (ch1.2.1.2.2.2.1.1, ch1.2.1.2.2.2.1.2), (ch1.2.1.2.2.2.2.1, ch1.2.1.2.2.2.2.2)), (), (), (), (), ()) : ((YE110 ch_2_5 ch_2_6)).Ch) rfl .here
 replace S := S.famClose hl1 .here (.there (.there .here))
 refine c_end' ?_
 refine b_end ?_
 obtain rfl := Option.some.inj h1
 exact b_ret0 S rfl (S.retX (Hx := []) hb _ _ ((ch_2_3, ch_2_4, ch_2_5, ch_2_6) : W11) (.cons .here (.cons .here (.cons .here (.cons .here (.cons .here (.cons .here (.cons .here (.cons .here .nil)))))))) trivial)
abbrev state_State_SetBalance_1.Ty : Type := (List Int) → (Option Nat) → W1 → Option W10
def state_State_SetBalance_1.Ctr (s : state_State_SetBalance_1.Ty) : Prop := ∀ (x1 : List Int) (x2 : Option Nat) (x3 : W1) (ch_0_0 : Addr) (ch_1_0 : Addr) (ch_2_0 : Nat) (ch_2_1 : Option Addr) (ch_2_2 : Nat) (ch_2_3 : Nat) (ch_2_4 : List Nat) (ch_2_5 : List Nat) (ch_2_6 : List Nat) (ch_2_7 : Option Addr) (ch_2_8 : Nat) (ch_2_9 : Nat) (ch_2_10 : Option Addr) (ch_2_11 : Nat) (ch_2_12 : Nat) (ch_2_13 : Option Addr) (ch_2_14 : Nat) (ch_2_15 : Nat) (r : W10) (h0 : s x1 x2 x3 = some r) (mi : Mem) (w0 : World), okL mi [(.pt ch_0_0 (At (Ty.arr .u64 4) ch_0_0 x1)), (.pt ch_1_0 (At (Ty.pid ch_2_4) ch_1_0 x2))] → Pre mi [Res.cells ch_2_0 79 [.rf (.iface 75 (.agg (cellsOf [.sl ch_2_1 (x3.1).length ch_2_2 (RdS Y71 ch_2_1 x3.1)]).toArray)) (IfR [.sl ch_2_1 (x3.1).length ch_2_2 (RdS Y71 ch_2_1 x3.1)]), .one (.map (some ch_2_3)), .one (.int .i64 x3.2.2.1), .one (.slice ch_2_7 ch_2_8 ch_2_9), .one (.slice ch_2_10 ch_2_11 ch_2_12), .one (.slice ch_2_13 ch_2_14 ch_2_15)], Res.map true (Ty.arr .u8 20) false (Ty.pid ch_2_4) ch_2_3 x3.2.1.1, Res.fam (Res.struct (YE110 ch_2_5 ch_2_6) 110) (one_struct _ _) ch_2_4 [] x3.2.1.2.1, Res.fam (fun g_ kvs_ => Res.map true (Ty.arr .u64 4) true (Ty.arr .u64 4) g_ kvs_) (one_map true (Ty.arr .u64 4) true (Ty.arr .u64 4)) ch_2_5 [] x3.2.1.2.2.1, Res.fam (fun g_ kvs_ => Res.map true (Ty.arr .u64 4) false Ty.bool g_ kvs_) (one_map true (Ty.arr .u64 4) false Ty.bool) ch_2_6 [] x3.2.1.2.2.2, Res.row Y100 100 ch_2_7 ch_2_8 ch_2_9 x3.2.2.2.1, Res.row (YC ch_2_0 ch_2_4 ch_2_5 ch_2_6) 1 ch_2_10 ch_2_11 ch_2_12 x3.2.2.2.2.1, Res.row (Ty.arr .u8 20) 40 ch_2_13 ch_2_14 ch_2_15 x3.2.2.2.2.2] w0 → Calls Tryz.prog 75 (([(.pt ch_0_0 (At (Ty.arr .u64 4) ch_0_0 x1)), (.pt ch_1_0 (At (Ty.pid ch_2_4) ch_1_0 x2))] : List D).map D.val).toArray w0 (RetX mi [Res.cells ch_2_0 79 [.rf (.iface 75 (.agg (cellsOf [.sl ch_2_1 (x3.1).length ch_2_2 (RdS Y71 ch_2_1 x3.1)]).toArray)) (IfR [.sl ch_2_1 (x3.1).length ch_2_2 (RdS Y71 ch_2_1 x3.1)]), .one (.map (some ch_2_3)), .one (.int .i64 x3.2.2.1), .one (.slice ch_2_7 ch_2_8 ch_2_9), .one (.slice ch_2_10 ch_2_11 ch_2_12), .one (.slice ch_2_13 ch_2_14 ch_2_15)], Res.map true (Ty.arr .u8 20) false (Ty.pid ch_2_4) ch_2_3 x3.2.1.1, Res.fam (Res.struct (YE110 ch_2_5 ch_2_6) 110) (one_struct _ _) ch_2_4 [] x3.2.1.2.1, Res.fam (fun g_ kvs_ => Res.map true (Ty.arr .u64 4) true (Ty.arr .u64 4) g_ kvs_) (one_map true (Ty.arr .u64 4) true (Ty.arr .u64 4)) ch_2_5 [] x3.2.1.2.2.1, Res.fam (fun g_ kvs_ => Res.map true (Ty.arr .u64 4) false Ty.bool g_ kvs_) (one_map true (Ty.arr .u64 4) false Ty.bool) ch_2_6 [] x3.2.1.2.2.2, Res.row Y100 100 ch_2_7 ch_2_8 ch_2_9 x3.2.2.2.1, Res.row (YC ch_2_0 ch_2_4 ch_2_5 ch_2_6) 1 ch_2_10 ch_2_11 ch_2_12 x3.2.2.2.2.1, Res.row (Ty.arr .u8 20) 40 ch_2_13 ch_2_14 ch_2_15 x3.2.2.2.2.2] (fun (ch : W11) => ((.tup []) : D)) (fun (ch : W11) => [Res.cells ch_2_0 79 [.rf (.iface 75 (.agg (cellsOf [.sl ch_2_1 (x3.1).length ch_2_2 (RdS Y71 ch_2_1 x3.1)]).toArray)) (IfR [.sl ch_2_1 (x3.1).length ch_2_2 (RdS Y71 ch_2_1 x3.1)]), .one (.map (some ch.1)), .one (.int .i64 x3.2.2.1), .one (.slice ch_2_7 ch_2_8 ch_2_9), .one (.slice ch_2_10 ch_2_11 ch_2_12), .one (.slice ch_2_13 ch_2_14 ch_2_15)], Res.map true (Ty.arr .u8 20) false (Ty.pid ch.2.1) ch.1 r.2.1.1, Res.fam (Res.struct (YE110 ch.2.2.1 ch.2.2.2) 110) (one_struct _ _) ch.2.1 [] r.2.1.2.1, Res.fam (fun g_ kvs_ => Res.map true (Ty.arr .u64 4) true (Ty.arr .u64 4) g_ kvs_) (one_map true (Ty.arr .u64 4) true (Ty.arr .u64 4)) ch.2.2.1 [] r.2.1.2.2.1, Res.fam (fun g_ kvs_ => Res.map true (Ty.arr .u64 4) false Ty.bool g_ kvs_) (one_map true (Ty.arr .u64 4) false Ty.bool) ch.2.2.2 [] r.2.1.2.2.2, Res.row Y100 100 ch_2_7 ch_2_8 ch_2_9 x3.2.2.2.1, Res.row (YC ch_2_0 ch.2.1 ch.2.2.1 ch.2.2.2) 1 ch_2_10 ch_2_11 ch_2_12 x3.2.2.2.2.1, Res.row (Ty.arr .u8 20) 40 ch_2_13 ch_2_14 ch_2_15 x3.2.2.2.2.2]) w0)
def state_State_SetBalance_1.f (x1 : List Int) (x2 : Option Nat) (x3 : W1) : Option W10 := if x2.isSome = true then (some ((), (x3.2.1.1, x3.2.1.2.1.set (x2.getD 0) ((atE x3.2.1.2.1 (x2.getD 0)).1, (((atE x3.2.1.2.1 (x2.getD 0)).2.1).1, ((atE x3.2.1.2.1 (x2.getD 0)).2.1).2.1, x1, ((atE x3.2.1.2.1 (x2.getD 0)).2.1).2.2.2.1, ((atE x3.2.1.2.1 (x2.getD 0)).2.1).2.2.2.2), (atE x3.2.1.2.1 (x2.getD 0)).2.2.1, (atE x3.2.1.2.1 (x2.getD 0)).2.2.2.1, (atE x3.2.1.2.1 (x2.getD 0)).2.2.2.2.1, (atE x3.2.1.2.1 (x2.getD 0)).2.2.2.2.2.1, (atE x3.2.1.2.1 (x2.getD 0)).2.2.2.2.2.2), x3.2.1.2.2.1, x3.2.1.2.2.2), (), (), (), ())) else none
theorem state_State_SetBalance_1.ok : state_State_SetBalance_1.Ctr (state_State_SetBalance_1.f) := by
 intro x1 x2 x3 ch_0_0 ch_1_0 ch_2_0 ch_2_1 ch_2_2 ch_2_3 ch_2_4 ch_2_5 ch_2_6 ch_2_7 ch_2_8 ch_2_9 ch_2_10 ch_2_11 ch_2_12 ch_2_13 ch_2_14 ch_2_15 r h0 mi w0 ok hm
 delta state_State_SetBalance_1.f at h0
 refine c_enterX (n := 7) [(.pt ch_0_0 (At (Ty.arr .u64 4) ch_0_0 x1)), (.pt ch_1_0 (At (Ty.pid ch_2_4) ch_1_0 x2))] (l := [(0, (.pt ch_0_0 (At (Ty.arr .u64 4) ch_0_0 x1))), (1, (.pt ch_1_0 (At (Ty.pid ch_2_4) ch_1_0 x2)))]) Tryz.func75 rfl rfl rfl rfl ok hm ?_
 clear ok hm
 intro b0 hb a S
 refine c_region' ?_
 refine s_ldF S (fun _ => ptrV ch_2_4 x2) (fun _ => ptrR ch_2_4 x2) rfl T111 (fun _ => rfl) rfl ?_; clear S a; intro _ a S
 refine s_ldA S (fun (c : Unit) => [.ints .u64 x1 4]) rfl T43 (fun _ => rfl) rfl ?_; clear S a; intro ch1 a S
 obtain ⟨c1, h1⟩ := chk_of h0; clear h0
 have hl1 := S.slotPlt (u := 2) c1 rfl
 replace S := S.slotP (u := 2) c1 rfl
 refine s_nilchk S rfl rfl ?_; clear S a; intro a S
 refine s_fieldAddr S rfl I110_1 T71 (by decide) rfl rfl ?_; clear S a; intro a S
 refine s_fieldAddr S rfl I71_2 T43 (by decide) rfl rfl ?_; clear S a; intro a S
 replace S := S.famOpen (i := (x2.getD 0)) hl1 (.there (.there .here))
 have hS := S.structOpen (T := (YE110 ch_2_5 ch_2_6)) (fun _ => .here) (((), (), (), (none, 0), (none, 0)), ((), (), (), (none, 0), (none, 0)), (), (), (), (), ())
 clear S; obtain ⟨ch2, S⟩ := hS
 refine s_store S rfl rfl rfl (s' := [.ints .u8 (((atE x3.2.1.2.1 (x2.getD 0)).1).1) 20, .one (.int .u64 (((atE x3.2.1.2.1 (x2.getD 0)).1).2.1)), .ints .u64 (((atE x3.2.1.2.1 (x2.getD 0)).1).2.2.1) 4, .sl ch2.1.2.2.2.1.1 (((atE x3.2.1.2.1 (x2.getD 0)).1).2.2.2.1).length ch2.1.2.2.2.1.2 (RdS (Ty.int .u8) ch2.1.2.2.2.1.1 (((atE x3.2.1.2.1 (x2.getD 0)).1).2.2.2.1)), .sl ch2.1.2.2.2.2.1 (((atE x3.2.1.2.1 (x2.getD 0)).1).2.2.2.2).length ch2.1.2.2.2.2.2 (RdS Y83 ch2.1.2.2.2.2.1 (((atE x3.2.1.2.1 (x2.getD 0)).1).2.2.2.2)), .ints .u8 (((atE x3.2.1.2.1 (x2.getD 0)).2.1).1) 20, .one (.int .u64 (((atE x3.2.1.2.1 (x2.getD 0)).2.1).2.1)), .ints .u64 x1 4, .sl ch2.2.1.2.2.2.1.1 (((atE x3.2.1.2.1 (x2.getD 0)).2.1).2.2.2.1).length ch2.2.1.2.2.2.1.2 (RdS (Ty.int .u8) ch2.2.1.2.2.2.1.1 (((atE x3.2.1.2.1 (x2.getD 0)).2.1).2.2.2.1)), .sl ch2.2.1.2.2.2.2.1 (((atE x3.2.1.2.1 (x2.getD 0)).2.1).2.2.2.2).length ch2.2.1.2.2.2.2.2 (RdS Y83 ch2.2.1.2.2.2.2.1 (((atE x3.2.1.2.1 (x2.getD 0)).2.1).2.2.2.2)), .one (.bool ((atE x3.2.1.2.1 (x2.getD 0)).2.2.1)), .rf (.map (some (bAt ch_2_5 ((atE x3.2.1.2.1 (x2.getD 0)).2.2.2.1)))) (ltR ((atE x3.2.1.2.1 (x2.getD 0)).2.2.2.1) ch_2_5), .one (.bool ((atE x3.2.1.2.1 (x2.getD 0)).2.2.2.2.1)), .one (.bool ((atE x3.2.1.2.1 (x2.getD 0)).2.2.2.2.2.1)), .rf (.map (some (bAt ch_2_6 ((atE x3.2.1.2.1 (x2.getD 0)).2.2.2.2.2.2)))) (ltR ((atE x3.2.1.2.1 (x2.getD 0)).2.2.2.2.2.2) ch_2_6)]) .here T43 rfl rfl ?_; clear S; intro w S
 replace S := S.structClose (T := (YE110 ch_2_5 ch_2_6)) (e := ((atE x3.2.1.2.1 (x2.getD 0)).1, (((atE x3.2.1.2.1 (x2.getD 0)).2.1).1, ((atE x3.2.1.2.1 (x2.getD 0)).2.1).2.1, x1, ((atE x3.2.1.2.1 (x2.getD 0)).2.1).2.2.2.1, ((atE x3.2.1.2.1 (x2.getD 0)).2.1).2.2.2.2), (atE x3.2.1.2.1 (x2.getD 0)).2.2.1, (atE x3.2.1.2.1 (x2.getD 0)).2.2.2.1, (atE x3.2.1.2.1 (x2.getD 0)).2.2.2.2.1, (atE x3.2.1.2.1 (x2.getD 0)).2.2.2.2.2.1, (atE x3.2.1.2.1 (x2.getD 0)).2.2.2.2.2.2)) ((((), (), (), (ch2.1.2.2.2.1.1, ch2.1.2.2.2.1.2), (ch2.1.2.2.2.2.1, ch2.1.2.2.2.2.2)), ((), (), (), (ch2.2.1.2.2.2.1.1, ch2.2.1.2.2.2.1.2), (ch2.2.1.2.2.2.2.1, ch2.2.1.2.2.2.2.2)), (), (), (), (), ()) : ((YE110 ch_2_5 ch_2_6)).Ch) rfl .here
 replace S := S.famClose hl1 .here (.there (.there .here))
 refine c_end' ?_
 refine b_end ?_
 obtain rfl := Option.some.inj h1
 exact b_ret0 S rfl (S.retX (Hx := []) hb _ _ ((ch_2_3, ch_2_4, ch_2_5, ch_2_6) : W11) (.cons .here (.cons .here (.cons .here (.cons .here (.cons .here (.cons .here (.cons .here (.cons .here .nil)))))))) trivial)
abbrev state_State_SetCode_1.Ty : Type := (List Int) → (Option Nat) → W1 → Option W10
def state_State_SetCode_1.Ctr (s : state_State_SetCode_1.Ty) : Prop := ∀ (x1 : List Int) (x2 : Option Nat) (x3 : W1) (ch_0_0 : Addr) (ch_1_0 : Addr) (ch_2_0 : Nat) (ch_2_1 : Option Addr) (ch_2_2 : Nat) (ch_2_3 : Nat) (ch_2_4 : List Nat) (ch_2_5 : List Nat) (ch_2_6 : List Nat) (ch_2_7 : Option Addr) (ch_2_8 : Nat) (ch_2_9 : Nat) (ch_2_10 : Option Addr) (ch_2_11 : Nat) (ch_2_12 : Nat) (ch_2_13 : Option Addr) (ch_2_14 : Nat) (ch_2_15 : Nat) (r : W10) (h0 : s x1 x2 x3 = some r) (mi : Mem) (w0 : World), okL mi [(.pt ch_0_0 (At (Ty.slice (Ty.int .u8)) ch_0_0 x1)), (.pt ch_1_0 (At (Ty.pid ch_2_4) ch_1_0 x2))] → Pre mi [Res.cells ch_2_0 79 [.rf (.iface 75 (.agg (cellsOf [.sl ch_2_1 (x3.1).length ch_2_2 (RdS Y71 ch_2_1 x3.1)]).toArray)) (IfR [.sl ch_2_1 (x3.1).length ch_2_2 (RdS Y71 ch_2_1 x3.1)]), .one (.map (some ch_2_3)), .one (.int .i64 x3.2.2.1), .one (.slice ch_2_7 ch_2_8 ch_2_9), .one (.slice ch_2_10 ch_2_11 ch_2_12), .one (.slice ch_2_13 ch_2_14 ch_2_15)], Res.map true (Ty.arr .u8 20) false (Ty.pid ch_2_4) ch_2_3 x3.2.1.1, Res.fam (Res.struct (YE110 ch_2_5 ch_2_6) 110) (one_struct _ _) ch_2_4 [] x3.2.1.2.1, Res.fam (fun g_ kvs_ => Res.map true (Ty.arr .u64 4) true (Ty.arr .u64 4) g_ kvs_) (one_map true (Ty.arr .u64 4) true (Ty.arr .u64 4)) ch_2_5 [] x3.2.1.2.2.1, Res.fam (fun g_ kvs_ => Res.map true (Ty.arr .u64 4) false Ty.bool g_ kvs_) (one_map true (Ty.arr .u64 4) false Ty.bool) ch_2_6 [] x3.2.1.2.2.2, Res.row Y100 100 ch_2_7 ch_2_8 ch_2_9 x3.2.2.2.1, Res.row (YC ch_2_0 ch_2_4 ch_2_5 ch_2_6) 1 ch_2_10 ch_2_11 ch_2_12 x3.2.2.2.2.1, Res.row (Ty.arr .u8 20) 40 ch_2_13 ch_2_14 ch_2_15 x3.2.2.2.2.2] w0 → Calls Tryz.prog 76 (([(.pt ch_0_0 (At (Ty.slice (Ty.int .u8)) ch_0_0 x1)), (.pt ch_1_0 (At (Ty.pid ch_2_4) ch_1_0 x2))] : List D).map D.val).toArray w0 (RetX mi [Res.cells ch_2_0 79 [.rf (.iface 75 (.agg (cellsOf [.sl ch_2_1 (x3.1).length ch_2_2 (RdS Y71 ch_2_1 x3.1)]).toArray)) (IfR [.sl ch_2_1 (x3.1).length ch_2_2 (RdS Y71 ch_2_1 x3.1)]), .one (.map (some ch_2_3)), .one (.int .i64 x3.2.2.1), .one (.slice ch_2_7 ch_2_8 ch_2_9), .one (.slice ch_2_10 ch_2_11 ch_2_12), .one (.slice ch_2_13 ch_2_14 ch_2_15)], Res.map true (Ty.arr .u8 20) false (Ty.pid ch_2_4) ch_2_3 x3.2.1.1, Res.fam (Res.struct (YE110 ch_2_5 ch_2_6) 110) (one_struct _ _) ch_2_4 [] x3.2.1.2.1, Res.fam (fun g_ kvs_ => Res.map true (Ty.arr .u64 4) true (Ty.arr .u64 4) g_ kvs_) (one_map true (Ty.arr .u64 4) true (Ty.arr .u64 4)) ch_2_5 [] x3.2.1.2.2.1, Res.fam (fun g_ kvs_ => Res.map true (Ty.arr .u64 4) false Ty.bool g_ kvs_) (one_map true (Ty.arr .u64 4) false Ty.bool) ch_2_6 [] x3.2.1.2.2.2, Res.row Y100 100 ch_2_7 ch_2_8 ch_2_9 x3.2.2.2.1, Res.row (YC ch_2_0 ch_2_4 ch_2_5 ch_2_6) 1 ch_2_10 ch_2_11 ch_2_12 x3.2.2.2.2.1, Res.row (Ty.arr .u8 20) 40 ch_2_13 ch_2_14 ch_2_15 x3.2.2.2.2.2] (fun (ch : W11) => ((.tup []) : D)) (fun (ch : W11) => [Res.cells ch_2_0 79 [.rf (.iface 75 (.agg (cellsOf [.sl ch_2_1 (x3.1).length ch_2_2 (RdS Y71 ch_2_1 x3.1)]).toArray)) (IfR [.sl ch_2_1 (x3.1).length ch_2_2 (RdS Y71 ch_2_1 x3.1)]), .one (.map (some ch.1)), .one (.int .i64 x3.2.2.1), .one (.slice ch_2_7 ch_2_8 ch_2_9), .one (.slice ch_2_10 ch_2_11 ch_2_12), .one (.slice ch_2_13 ch_2_14 ch_2_15)], Res.map true (Ty.arr .u8 20) false (Ty.pid ch.2.1) ch.1 r.2.1.1, Res.fam (Res.struct (YE110 ch.2.2.1 ch.2.2.2) 110) (one_struct _ _) ch.2.1 [] r.2.1.2.1, Res.fam (fun g_ kvs_ => Res.map true (Ty.arr .u64 4) true (Ty.arr .u64 4) g_ kvs_) (one_map true (Ty.arr .u64 4) true (Ty.arr .u64 4)) ch.2.2.1 [] r.2.1.2.2.1, Res.fam (fun g_ kvs_ => Res.map true (Ty.arr .u64 4) false Ty.bool g_ kvs_) (one_map true (Ty.arr .u64 4) false Ty.bool) ch.2.2.2 [] r.2.1.2.2.2, Res.row Y100 100 ch_2_7 ch_2_8 ch_2_9 x3.2.2.2.1, Res.row (YC ch_2_0 ch.2.1 ch.2.2.1 ch.2.2.2) 1 ch_2_10 ch_2_11 ch_2_12 x3.2.2.2.2.1, Res.row (Ty.arr .u8 20) 40 ch_2_13 ch_2_14 ch_2_15 x3.2.2.2.2.2]) w0)
def state_State_SetCode_1.f (x1 : List Int) (x2 : Option Nat) (x3 : W1) : Option W10 := if x2.isSome = true then (some ((), (x3.2.1.1, x3.2.1.2.1.set (x2.getD 0) ((atE x3.2.1.2.1 (x2.getD 0)).1, (((atE x3.2.1.2.1 (x2.getD 0)).2.1).1, ((atE x3.2.1.2.1 (x2.getD 0)).2.1).2.1, ((atE x3.2.1.2.1 (x2.getD 0)).2.1).2.2.1, x1, ((atE x3.2.1.2.1 (x2.getD 0)).2.1).2.2.2.2), (atE x3.2.1.2.1 (x2.getD 0)).2.2.1, (atE x3.2.1.2.1 (x2.getD 0)).2.2.2.1, (atE x3.2.1.2.1 (x2.getD 0)).2.2.2.2.1, (atE x3.2.1.2.1 (x2.getD 0)).2.2.2.2.2.1, (atE x3.2.1.2.1 (x2.getD 0)).2.2.2.2.2.2), x3.2.1.2.2.1, x3.2.1.2.2.2), (), (), (), ())) else none
theorem state_State_SetCode_1.ok : state_State_SetCode_1.Ctr (state_State_SetCode_1.f) := by
 intro x1 x2 x3 ch_0_0 ch_1_0 ch_2_0 ch_2_1 ch_2_2 ch_2_3 ch_2_4 ch_2_5 ch_2_6 ch_2_7 ch_2_8 ch_2_9 ch_2_10 ch_2_11 ch_2_12 ch_2_13 ch_2_14 ch_2_15 r h0 mi w0 ok hm
 delta state_State_SetCode_1.f at h0
 refine c_enterX (n := 7) [(.pt ch_0_0 (At (Ty.slice (Ty.int .u8)) ch_0_0 x1)), (.pt ch_1_0 (At (Ty.pid ch_2_4) ch_1_0 x2))] (l := [(0, (.pt ch_0_0 (At (Ty.slice (Ty.int .u8)) ch_0_0 x1))), (1, (.pt ch_1_0 (At (Ty.pid ch_2_4) ch_1_0 x2)))]) Tryz.func76 rfl rfl rfl rfl ok hm ?_
 clear ok hm
 intro b0 hb a S
 refine c_region' ?_
 refine s_ldF S (fun _ => ptrV ch_2_4 x2) (fun _ => ptrR ch_2_4 x2) rfl T111 (fun _ => rfl) rfl ?_; clear S a; intro _ a S
 refine s_ldS S (fun c => c) rfl T44 (fun _ => rfl) rfl ?_; clear S a; intro A1 cp1 a S
 obtain ⟨c1, h1⟩ := chk_of h0; clear h0
 have hl1 := S.slotPlt (u := 2) c1 rfl
 replace S := S.slotP (u := 2) c1 rfl
 refine s_nilchk S rfl rfl ?_; clear S a; intro a S
 refine s_fieldAddr S rfl I110_1 T71 (by decide) rfl rfl ?_; clear S a; intro a S
 refine s_fieldAddr S rfl I71_3 T44 (by decide) rfl rfl ?_; clear S a; intro a S
 replace S := S.famOpen (i := (x2.getD 0)) hl1 (.there (.there .here))
 have hS := S.structOpen (T := (YE110 ch_2_5 ch_2_6)) (fun _ => .here) (((), (), (), (none, 0), (none, 0)), ((), (), (), (none, 0), (none, 0)), (), (), (), (), ())
 clear S; obtain ⟨ch1, S⟩ := hS
 refine s_store S rfl rfl rfl (s' := [.ints .u8 (((atE x3.2.1.2.1 (x2.getD 0)).1).1) 20, .one (.int .u64 (((atE x3.2.1.2.1 (x2.getD 0)).1).2.1)), .ints .u64 (((atE x3.2.1.2.1 (x2.getD 0)).1).2.2.1) 4, .sl ch1.1.2.2.2.1.1 (((atE x3.2.1.2.1 (x2.getD 0)).1).2.2.2.1).length ch1.1.2.2.2.1.2 (RdS (Ty.int .u8) ch1.1.2.2.2.1.1 (((atE x3.2.1.2.1 (x2.getD 0)).1).2.2.2.1)), .sl ch1.1.2.2.2.2.1 (((atE x3.2.1.2.1 (x2.getD 0)).1).2.2.2.2).length ch1.1.2.2.2.2.2 (RdS Y83 ch1.1.2.2.2.2.1 (((atE x3.2.1.2.1 (x2.getD 0)).1).2.2.2.2)), .ints .u8 (((atE x3.2.1.2.1 (x2.getD 0)).2.1).1) 20, .one (.int .u64 (((atE x3.2.1.2.1 (x2.getD 0)).2.1).2.1)), .ints .u64 (((atE x3.2.1.2.1 (x2.getD 0)).2.1).2.2.1) 4, .sl A1 (x1).length cp1 (RdS (Ty.int .u8) A1 x1), .sl ch1.2.1.2.2.2.2.1 (((atE x3.2.1.2.1 (x2.getD 0)).2.1).2.2.2.2).length ch1.2.1.2.2.2.2.2 (RdS Y83 ch1.2.1.2.2.2.2.1 (((atE x3.2.1.2.1 (x2.getD 0)).2.1).2.2.2.2)), .one (.bool ((atE x3.2.1.2.1 (x2.getD 0)).2.2.1)), .rf (.map (some (bAt ch_2_5 ((atE x3.2.1.2.1 (x2.getD 0)).2.2.2.1)))) (ltR ((atE x3.2.1.2.1 (x2.getD 0)).2.2.2.1) ch_2_5), .one (.bool ((atE x3.2.1.2.1 (x2.getD 0)).2.2.2.2.1)), .one (.bool ((atE x3.2.1.2.1 (x2.getD 0)).2.2.2.2.2.1)), .rf (.map (some (bAt ch_2_6 ((atE x3.2.1.2.1 (x2.getD 0)).2.2.2.2.2.2)))) (ltR ((atE x3.2.1.2.1 (x2.getD 0)).2.2.2.2.2.2) ch_2_6)]) .here T44 rfl rfl ?_; clear S; intro w S
 replace S := S.structClose (T := (YE110 ch_2_5 ch_2_6)) (e := ((atE x3.2.1.2.1 (x2.getD 0)).1, (((atE x3.2.1.2.1 (x2.getD 0)).2.1).1, ((atE x3.2.1.2.1 (x2.getD 0)).2.1).2.1, ((atE x3.2.1.2.1 (x2.getD 0)).2.1).2.2.1, x1, ((atE x3.2.1.2.1 (x2.getD 0)).2.1).2.2.2.2), (atE x3.2.1.2.1 (x2.getD 0)).2.2.1, (atE x3.2.1.2.1 (x2.getD 0)).2.2.2.1, (atE x3.2.1.2.1 (x2.getD 0)).2.2.2.2.1, (atE x3.2.1.2.1 (x2.getD 0)).2.2.2.2.2.1, (atE x3.2.1.2.1 (x2.getD 0)).2.2.2.2.2.2)) ((((), (), (), (ch1.1.2.2.2.1.1, ch1.1.2.2.2.1.2), (ch1.1.2.2.2.2.1, ch1.1.2.2.2.2.2)), ((), (), (), (A1, cp1), (ch1.2.1.2.2.2.2.1, ch1.2.1.2.2.2.2.2)), (), (), (), (), ()) : ((YE110 ch_2_5 ch_2_6)).Ch) rfl .here
 replace S := S.famClose hl1 .here (.there (.there .here))
 refine c_end' ?_
 refine b_end ?_
 obtain rfl := Option.some.inj h1
 exact b_ret0 S rfl (S.retX (Hx := []) hb _ _ ((ch_2_3, ch_2_4, ch_2_5, ch_2_6) : W11) (.cons .here (.cons .here (.cons .here (.cons .here (.cons .here (.cons .here (.cons .here (.cons .here .nil)))))))) trivial)
abbrev state_State_Make_1.Ty : Type := Bool → Nat → (Option Nat) → W1 → Option W10
def state_State_Make_1.Ctr (s : state_State_Make_1.Ty) : Prop := ∀ (x1 : Bool) (x2 : Nat) (x3 : Option Nat) (x4 : W1) (ch_0_0 : Addr) (ch_1_0 : Addr) (ch_2_0 : Addr) (ch_3_0 : Nat) (ch_3_1 : Option Addr) (ch_3_2 : Nat) (ch_3_3 : Nat) (ch_3_4 : List Nat) (ch_3_5 : List Nat) (ch_3_6 : List Nat) (ch_3_7 : Option Addr) (ch_3_8 : Nat) (ch_3_9 : Nat) (ch_3_10 : Option Addr) (ch_3_11 : Nat) (ch_3_12 : Nat) (ch_3_13 : Option Addr) (ch_3_14 : Nat) (ch_3_15 : Nat) (r : W10) (h0 : s x1 x2 x3 x4 = some r) (mi : Mem) (w0 : World), okL mi [(.pt ch_0_0 (At Ty.bool ch_0_0 x1)), (.pt ch_1_0 (At (Ty.mid ch_3_5) ch_1_0 x2)), (.pt ch_2_0 (At (Ty.pid ch_3_4) ch_2_0 x3))] → Pre mi [Res.cells ch_3_0 79 [.rf (.iface 75 (.agg (cellsOf [.sl ch_3_1 (x4.1).length ch_3_2 (RdS Y71 ch_3_1 x4.1)]).toArray)) (IfR [.sl ch_3_1 (x4.1).length ch_3_2 (RdS Y71 ch_3_1 x4.1)]), .one (.map (some ch_3_3)), .one (.int .i64 x4.2.2.1), .one (.slice ch_3_7 ch_3_8 ch_3_9), .one (.slice ch_3_10 ch_3_11 ch_3_12), .one (.slice ch_3_13 ch_3_14 ch_3_15)], Res.map true (Ty.arr .u8 20) false (Ty.pid ch_3_4) ch_3_3 x4.2.1.1, Res.fam (Res.struct (YE110 ch_3_5 ch_3_6) 110) (one_struct _ _) ch_3_4 [] x4.2.1.2.1, Res.fam (fun g_ kvs_ => Res.map true (Ty.arr .u64 4) true (Ty.arr .u64 4) g_ kvs_) (one_map true (Ty.arr .u64 4) true (Ty.arr .u64 4)) ch_3_5 [] x4.2.1.2.2.1, Res.fam (fun g_ kvs_ => Res.map true (Ty.arr .u64 4) false Ty.bool g_ kvs_) (one_map true (Ty.arr .u64 4) false Ty.bool) ch_3_6 [] x4.2.1.2.2.2, Res.row Y100 100 ch_3_7 ch_3_8 ch_3_9 x4.2.2.2.1, Res.row (YC ch_3_0 ch_3_4 ch_3_5 ch_3_6) 1 ch_3_10 ch_3_11 ch_3_12 x4.2.2.2.2.1, Res.row (Ty.arr .u8 20) 40 ch_3_13 ch_3_14 ch_3_15 x4.2.2.2.2.2] w0 → Calls Tryz.prog 77 (([(.pt ch_0_0 (At Ty.bool ch_0_0 x1)), (.pt ch_1_0 (At (Ty.mid ch_3_5) ch_1_0 x2)), (.pt ch_2_0 (At (Ty.pid ch_3_4) ch_2_0 x3))] : List D).map D.val).toArray w0 (RetX mi [Res.cells ch_3_0 79 [.rf (.iface 75 (.agg (cellsOf [.sl ch_3_1 (x4.1).length ch_3_2 (RdS Y71 ch_3_1 x4.1)]).toArray)) (IfR [.sl ch_3_1 (x4.1).length ch_3_2 (RdS Y71 ch_3_1 x4.1)]), .one (.map (some ch_3_3)), .one (.int .i64 x4.2.2.1), .one (.slice ch_3_7 ch_3_8 ch_3_9), .one (.slice ch_3_10 ch_3_11 ch_3_12), .one (.slice ch_3_13 ch_3_14 ch_3_15)], Res.map true (Ty.arr .u8 20) false (Ty.pid ch_3_4) ch_3_3 x4.2.1.1, Res.fam (Res.struct (YE110 ch_3_5 ch_3_6) 110) (one_struct _ _) ch_3_4 [] x4.2.1.2.1, Res.fam (fun g_ kvs_ => Res.map true (Ty.arr .u64 4) true (Ty.arr .u64 4) g_ kvs_) (one_map true (Ty.arr .u64 4) true (Ty.arr .u64 4)) ch_3_5 [] x4.2.1.2.2.1, Res.fam (fun g_ kvs_ => Res.map true (Ty.arr .u64 4) false Ty.bool g_ kvs_) (one_map true (Ty.arr .u64 4) false Ty.bool) ch_3_6 [] x4.2.1.2.2.2, Res.row Y100 100 ch_3_7 ch_3_8 ch_3_9 x4.2.2.2.1, Res.row (YC ch_3_0 ch_3_4 ch_3_5 ch_3_6) 1 ch_3_10 ch_3_11 ch_3_12 x4.2.2.2.2.1, Res.row (Ty.arr .u8 20) 40 ch_3_13 ch_3_14 ch_3_15 x4.2.2.2.2.2] (fun (ch : W11) => ((.tup []) : D)) (fun (ch : W11) => [Res.cells ch_3_0 79 [.rf (.iface 75 (.agg (cellsOf [.sl ch_3_1 (x4.1).length ch_3_2 (RdS Y71 ch_3_1 x4.1)]).toArray)) (IfR [.sl ch_3_1 (x4.1).length ch_3_2 (RdS Y71 ch_3_1 x4.1)]), .one (.map (some ch.1)), .one (.int .i64 x4.2.2.1), .one (.slice ch_3_7 ch_3_8 ch_3_9), .one (.slice ch_3_10 ch_3_11 ch_3_12), .one (.slice ch_3_13 ch_3_14 ch_3_15)], Res.map true (Ty.arr .u8 20) false (Ty.pid ch.2.1) ch.1 r.2.1.1, Res.fam (Res.struct (YE110 ch.2.2.1 ch.2.2.2) 110) (one_struct _ _) ch.2.1 [] r.2.1.2.1, Res.fam (fun g_ kvs_ => Res.map true (Ty.arr .u64 4) true (Ty.arr .u64 4) g_ kvs_) (one_map true (Ty.arr .u64 4) true (Ty.arr .u64 4)) ch.2.2.1 [] r.2.1.2.2.1, Res.fam (fun g_ kvs_ => Res.map true (Ty.arr .u64 4) false Ty.bool g_ kvs_) (one_map true (Ty.arr .u64 4) false Ty.bool) ch.2.2.2 [] r.2.1.2.2.2, Res.row Y100 100 ch_3_7 ch_3_8 ch_3_9 x4.2.2.2.1, Res.row (YC ch_3_0 ch.2.1 ch.2.2.1 ch.2.2.2) 1 ch_3_10 ch_3_11 ch_3_12 x4.2.2.2.2.1, Res.row (Ty.arr .u8 20) 40 ch_3_13 ch_3_14 ch_3_15 x4.2.2.2.2.2]) w0)
def state_State_Make_1.f (x1 : Bool) (x2 : Nat) (x3 : Option Nat) (x4 : W1) : Option W10 := if x3.isSome = true then (some ((), (x4.2.1.1, (x4.2.1.2.1.set (x3.getD 0) ((atE x4.2.1.2.1 (x3.getD 0)).1, (atE x4.2.1.2.1 (x3.getD 0)).2.1, x1, (atE x4.2.1.2.1 (x3.getD 0)).2.2.2.1, (atE x4.2.1.2.1 (x3.getD 0)).2.2.2.2.1, (atE x4.2.1.2.1 (x3.getD 0)).2.2.2.2.2.1, (atE x4.2.1.2.1 (x3.getD 0)).2.2.2.2.2.2)).set (x3.getD 0) ((atE (x4.2.1.2.1.set (x3.getD 0) ((atE x4.2.1.2.1 (x3.getD 0)).1, (atE x4.2.1.2.1 (x3.getD 0)).2.1, x1, (atE x4.2.1.2.1 (x3.getD 0)).2.2.2.1, (atE x4.2.1.2.1 (x3.getD 0)).2.2.2.2.1, (atE x4.2.1.2.1 (x3.getD 0)).2.2.2.2.2.1, (atE x4.2.1.2.1 (x3.getD 0)).2.2.2.2.2.2)) (x3.getD 0)).1, (atE (x4.2.1.2.1.set (x3.getD 0) ((atE x4.2.1.2.1 (x3.getD 0)).1, (atE x4.2.1.2.1 (x3.getD 0)).2.1, x1, (atE x4.2.1.2.1 (x3.getD 0)).2.2.2.1, (atE x4.2.1.2.1 (x3.getD 0)).2.2.2.2.1, (atE x4.2.1.2.1 (x3.getD 0)).2.2.2.2.2.1, (atE x4.2.1.2.1 (x3.getD 0)).2.2.2.2.2.2)) (x3.getD 0)).2.1, (atE (x4.2.1.2.1.set (x3.getD 0) ((atE x4.2.1.2.1 (x3.getD 0)).1, (atE x4.2.1.2.1 (x3.getD 0)).2.1, x1, (atE x4.2.1.2.1 (x3.getD 0)).2.2.2.1, (atE x4.2.1.2.1 (x3.getD 0)).2.2.2.2.1, (atE x4.2.1.2.1 (x3.getD 0)).2.2.2.2.2.1, (atE x4.2.1.2.1 (x3.getD 0)).2.2.2.2.2.2)) (x3.getD 0)).2.2.1, x2, (atE (x4.2.1.2.1.set (x3.getD 0) ((atE x4.2.1.2.1 (x3.getD 0)).1, (atE x4.2.1.2.1 (x3.getD 0)).2.1, x1, (atE x4.2.1.2.1 (x3.getD 0)).2.2.2.1, (atE x4.2.1.2.1 (x3.getD 0)).2.2.2.2.1, (atE x4.2.1.2.1 (x3.getD 0)).2.2.2.2.2.1, (atE x4.2.1.2.1 (x3.getD 0)).2.2.2.2.2.2)) (x3.getD 0)).2.2.2.2.1, (atE (x4.2.1.2.1.set (x3.getD 0) ((atE x4.2.1.2.1 (x3.getD 0)).1, (atE x4.2.1.2.1 (x3.getD 0)).2.1, x1, (atE x4.2.1.2.1 (x3.getD 0)).2.2.2.1, (atE x4.2.1.2.1 (x3.getD 0)).2.2.2.2.1, (atE x4.2.1.2.1 (x3.getD 0)).2.2.2.2.2.1, (atE x4.2.1.2.1 (x3.getD 0)).2.2.2.2.2.2)) (x3.getD 0)).2.2.2.2.2.1, (atE (x4.2.1.2.1.set (x3.getD 0) ((atE x4.2.1.2.1 (x3.getD 0)).1, (atE x4.2.1.2.1 (x3.getD 0)).2.1, x1, (atE x4.2.1.2.1 (x3.getD 0)).2.2.2.1, (atE x4.2.1.2.1 (x3.getD 0)).2.2.2.2.1, (atE x4.2.1.2.1 (x3.getD 0)).2.2.2.2.2.1, (atE x4.2.1.2.1 (x3.getD 0)).2.2.2.2.2.2)) (x3.getD 0)).2.2.2.2.2.2), x4.2.1.2.2.1, x4.2.1.2.2.2), (), (), (), ())) else none
theorem state_State_Make_1.ok : state_State_Make_1.Ctr (state_State_Make_1.f) := by
 intro x1 x2 x3 x4 ch_0_0 ch_1_0 ch_2_0 ch_3_0 ch_3_1 ch_3_2 ch_3_3 ch_3_4 ch_3_5 ch_3_6 ch_3_7 ch_3_8 ch_3_9 ch_3_10 ch_3_11 ch_3_12 ch_3_13 ch_3_14 ch_3_15 r h0 mi w0 ok hm
 delta state_State_Make_1.f at h0
 refine c_enterX (n := 11) [(.pt ch_0_0 (At Ty.bool ch_0_0 x1)), (.pt ch_1_0 (At (Ty.mid ch_3_5) ch_1_0 x2)), (.pt ch_2_0 (At (Ty.pid ch_3_4) ch_2_0 x3))] (l := [(0, (.pt ch_0_0 (At Ty.bool ch_0_0 x1))), (1, (.pt ch_1_0 (At (Ty.mid ch_3_5) ch_1_0 x2))), (2, (.pt ch_2_0 (At (Ty.pid ch_3_4) ch_2_0 x3)))]) Tryz.func77 rfl rfl rfl rfl ok hm ?_
 clear ok hm
 intro b0 hb a S
 refine c_heldS S (.take 0 (.take 1 (.take 2 (.take 3 (.alts (.run 4 true (.take 5 (.alts (.run 6 true (.alts (.run 7 true (.take 8 (.alts (.run 9 false .done .nil))) .nil)) .nil))) .nil)))))) 9 [Res.cells ch_3_0 79 [.rf (.iface 75 (.agg (cellsOf [.sl ch_3_1 (x4.1).length ch_3_2 (RdS Y71 ch_3_1 x4.1)]).toArray)) (IfR [.sl ch_3_1 (x4.1).length ch_3_2 (RdS Y71 ch_3_1 x4.1)]), .one (.map (some ch_3_3)), .one (.int .i64 x4.2.2.1), .one (.slice ch_3_7 ch_3_8 ch_3_9), .one (.slice ch_3_10 ch_3_11 ch_3_12), .one (.slice ch_3_13 ch_3_14 ch_3_15)], Res.row (Ty.arr .u8 20) 40 ch_3_13 ch_3_14 ch_3_15 x4.2.2.2.2.2] (.cons .here (.cons (.there (.there (.there (.there (.there (.there .here)))))) .nil)) ⟨Res.stay_cells, Res.stay_row flat_arr, trivial⟩ [(0, (.pt ch_0_0 (At Ty.bool ch_0_0 x1))), (1, (.pt ch_1_0 (At (Ty.mid ch_3_5) ch_1_0 x2))), (2, (.pt ch_2_0 (At (Ty.pid ch_3_4) ch_2_0 x3)))] (subR rfl) (by kernel_rfl) (by kernel_rfl) ?_; clear S; intro w S CL hw le
 refine h_ldF S CL hw le (subR rfl) (fun _ => ptrV ch_3_4 x3) (fun _ => ptrR ch_3_4 x3) rfl T111 (fun _ => rfl) rfl rfl trivial ?_; clear S CL a; intro _ a S CL
 refine h_ldF S CL hw le (subR rfl) (fun _ => ptrV ch_3_4 x3) (fun _ => ptrR ch_3_4 x3) rfl T111 (fun _ => rfl) rfl rfl trivial ?_; clear S CL a; intro _ a S CL
 refine h_ld1 S CL hw le (subR rfl) (v := (.bool x1)) rfl T4 (fun _ => rfl) rfl rfl trivial ?_; clear S CL a; intro a S CL
 refine h_ldF S CL hw le (subR rfl) (fun _ => .map (some (bAt ch_3_5 x2))) (fun _ => ltR x2 ch_3_5) rfl T107 (fun _ => rfl) rfl rfl trivial ?_; clear S CL a; intro _ a S CL
 refine h_run' S rfl trivial ?_
 obtain ⟨c1, h1⟩ := chk_of h0; clear h0
 have hl1 := S.slotPlt (u := 3) c1 rfl
 replace S := S.slotP (u := 3) c1 rfl
 replace CL := CL.drop (lq' := [(6, (.rf (.map (some (bAt ch_3_5 x2))) (ltR x2 ch_3_5))), (5, (.v (.bool x1))), (4, (.rf (ptrV ch_3_4 x3) (ptrR ch_3_4 x3))), (0, (.pt ch_0_0 (At Ty.bool ch_0_0 x1))), (1, (.pt ch_1_0 (At (Ty.mid ch_3_5) ch_1_0 x2))), (2, (.pt ch_2_0 (At (Ty.pid ch_3_4) ch_2_0 x3)))]) (subR rfl)
 refine s_nilchk S rfl rfl ?_; clear S a; intro a S
 replace hw := CL.again hw S (.cons .here (.cons (.there (.there (.there (.there (.there (.there .here)))))) .nil)) le
 refine h_back ⟨fun _ => hw, ?_⟩
 replace CL := CL.add (t := 7) (d := (.v (.pointer (some ⟨(bAt ch_3_4 (x3.getD 0)), 0, none⟩)))) S rfl rfl
 refine h_fieldAddr S CL hw le (subR rfl) rfl I110_2 T4 (by decide) rfl rfl rfl trivial ?_; clear S CL a; intro a S CL
 refine h_run' S rfl trivial ?_
 replace S := S.famOpen (i := (x3.getD 0)) hl1 (.there (.there .here))
 have hS := S.structOpen (T := (YE110 ch_3_5 ch_3_6)) (fun _ => .here) (((), (), (), (none, 0), (none, 0)), ((), (), (), (none, 0), (none, 0)), (), (), (), (), ())
 clear S; obtain ⟨ch1, S⟩ := hS
 refine s_store S rfl rfl rfl (s' := [.ints .u8 (((atE x4.2.1.2.1 (x3.getD 0)).1).1) 20, .one (.int .u64 (((atE x4.2.1.2.1 (x3.getD 0)).1).2.1)), .ints .u64 (((atE x4.2.1.2.1 (x3.getD 0)).1).2.2.1) 4, .sl ch1.1.2.2.2.1.1 (((atE x4.2.1.2.1 (x3.getD 0)).1).2.2.2.1).length ch1.1.2.2.2.1.2 (RdS (Ty.int .u8) ch1.1.2.2.2.1.1 (((atE x4.2.1.2.1 (x3.getD 0)).1).2.2.2.1)), .sl ch1.1.2.2.2.2.1 (((atE x4.2.1.2.1 (x3.getD 0)).1).2.2.2.2).length ch1.1.2.2.2.2.2 (RdS Y83 ch1.1.2.2.2.2.1 (((atE x4.2.1.2.1 (x3.getD 0)).1).2.2.2.2)), .ints .u8 (((atE x4.2.1.2.1 (x3.getD 0)).2.1).1) 20, .one (.int .u64 (((atE x4.2.1.2.1 (x3.getD 0)).2.1).2.1)), .ints .u64 (((atE x4.2.1.2.1 (x3.getD 0)).2.1).2.2.1) 4, .sl ch1.2.1.2.2.2.1.1 (((atE x4.2.1.2.1 (x3.getD 0)).2.1).2.2.2.1).length ch1.2.1.2.2.2.1.2 (RdS (Ty.int .u8) ch1.2.1.2.2.2.1.1 (((atE x4.2.1.2.1 (x3.getD 0)).2.1).2.2.2.1)), .sl ch1.2.1.2.2.2.2.1 (((atE x4.2.1.2.1 (x3.getD 0)).2.1).2.2.2.2).length ch1.2.1.2.2.2.2.2 (RdS Y83 ch1.2.1.2.2.2.2.1 (((atE x4.2.1.2.1 (x3.getD 0)).2.1).2.2.2.2)), .one (.bool x1), .rf (.map (some (bAt ch_3_5 ((atE x4.2.1.2.1 (x3.getD 0)).2.2.2.1)))) (ltR ((atE x4.2.1.2.1 (x3.getD 0)).2.2.2.1) ch_3_5), .one (.bool ((atE x4.2.1.2.1 (x3.getD 0)).2.2.2.2.1)), .one (.bool ((atE x4.2.1.2.1 (x3.getD 0)).2.2.2.2.2.1)), .rf (.map (some (bAt ch_3_6 ((atE x4.2.1.2.1 (x3.getD 0)).2.2.2.2.2.2)))) (ltR ((atE x4.2.1.2.1 (x3.getD 0)).2.2.2.2.2.2) ch_3_6)]) .here T4 rfl rfl ?_; clear S; intro w S
 replace S := S.structClose (T := (YE110 ch_3_5 ch_3_6)) (e := ((atE x4.2.1.2.1 (x3.getD 0)).1, (atE x4.2.1.2.1 (x3.getD 0)).2.1, x1, (atE x4.2.1.2.1 (x3.getD 0)).2.2.2.1, (atE x4.2.1.2.1 (x3.getD 0)).2.2.2.2.1, (atE x4.2.1.2.1 (x3.getD 0)).2.2.2.2.2.1, (atE x4.2.1.2.1 (x3.getD 0)).2.2.2.2.2.2)) ((((), (), (), (ch1.1.2.2.2.1.1, ch1.1.2.2.2.1.2), (ch1.1.2.2.2.2.1, ch1.1.2.2.2.2.2)), ((), (), (), (ch1.2.1.2.2.2.1.1, ch1.2.1.2.2.2.1.2), (ch1.2.1.2.2.2.2.1, ch1.2.1.2.2.2.2.2)), (), (), (), (), ()) : ((YE110 ch_3_5 ch_3_6)).Ch) rfl .here
 replace S := S.famClose hl1 .here (.there (.there .here))
 replace hw := CL.again hw S (.cons .here (.cons (.there (.there (.there (.there (.there (.there .here)))))) .nil)) le
 refine h_back ⟨fun _ => hw, ?_⟩
 refine h_run' S rfl trivial ?_
 have hl1 := S.slotPlt (u := 4) c1 rfl
 replace S := S.slotP (u := 4) c1 rfl
 replace CL := CL.drop (lq' := [(8, (.v (.pointer (some ⟨(bAt ch_3_4 (x3.getD 0)), 54, none⟩)))), (7, (.v (.pointer (some ⟨(bAt ch_3_4 (x3.getD 0)), 0, none⟩)))), (6, (.rf (.map (some (bAt ch_3_5 x2))) (ltR x2 ch_3_5))), (5, (.v (.bool x1))), (0, (.pt ch_0_0 (At Ty.bool ch_0_0 x1))), (1, (.pt ch_1_0 (At (Ty.mid ch_3_5) ch_1_0 x2))), (2, (.pt ch_2_0 (At (Ty.pid ch_3_4) ch_2_0 x3)))]) (subR rfl)
 refine s_nilchk S rfl rfl ?_; clear S a; intro a S
 replace hw := CL.again hw S (.cons .here (.cons (.there (.there (.there (.there (.there (.there .here)))))) .nil)) le
 refine h_back ⟨fun _ => hw, ?_⟩
 replace CL := CL.add (t := 9) (d := (.v (.pointer (some ⟨(bAt ch_3_4 (x3.getD 0)), 0, none⟩)))) S rfl rfl
 refine h_fieldAddr S CL hw le (subR rfl) rfl I110_3 T107 (by decide) rfl rfl rfl trivial ?_; clear S CL a; intro a S CL
 refine h_run' S rfl trivial ?_
 replace S := S.famOpen (i := (x3.getD 0)) hl1 (.there (.there .here))
 have hS := S.structOpen (T := (YE110 ch_3_5 ch_3_6)) (fun _ => .here) (((), (), (), (none, 0), (none, 0)), ((), (), (), (none, 0), (none, 0)), (), (), (), (), ())
 clear S; obtain ⟨ch2, S⟩ := hS
 refine s_store S rfl rfl rfl (s' := [.ints .u8 (((atE (x4.2.1.2.1.set (x3.getD 0) ((atE x4.2.1.2.1 (x3.getD 0)).1, (atE x4.2.1.2.1 (x3.getD 0)).2.1, x1, (atE x4.2.1.2.1 (x3.getD 0)).2.2.2.1, (atE x4.2.1.2.1 (x3.getD 0)).2.2.2.2.1, (atE x4.2.1.2.1 (x3.getD 0)).2.2.2.2.2.1, (atE x4.2.1.2.1 (x3.getD 0)).2.2.2.2.2.2)) (x3.getD 0)).1).1) 20, .one (.int .u64 (((atE (x4.2.1.2.1.set (x3.getD 0) ((atE x4.2.1.2.1 (x3.getD 0)).1, (atE x4.2.1.2.1 (x3.getD 0)).2.1, x1, (atE x4.2.1.2.1 (x3.getD 0)).2.2.2.1, (atE x4.2.1.2.1 (x3.getD 0)).2.2.2.2.1, (atE x4.2.1.2.1 (x3.getD 0)).2.2.2.2.2.1, (atE x4.2.1.2.1 (x3.getD 0)).2.2.2.2.2.2)) (x3.getD 0)).1).2.1)), .ints .u64 (((atE (x4.2.1.2.1.set (x3.getD 0) ((atE x4.2.1.2.1 (x3.getD 0)).1, (atE x4.2.1.2.1 (x3.getD 0)).2.1, x1, (atE x4.2.1.2.1 (x3.getD 0)).2.2.2.1, (atE x4.2.1.2.1 (x3.getD 0)).2.2.2.2.1, (atE x4.2.1.2.1 (x3.getD 0)).2.2.2.2.2.1, (atE x4.2.1.2.1 (x3.getD 0)).2.2.2.2.2.2)) (x3.getD 0)).1).2.2.1) 4, .sl ch2.1.2.2.2.1.1 (((atE (x4.2.1.2.1.set (x3.getD 0) ((atE x4.2.1.2.1 (x3.getD 0)).1, (atE x4.2.1.2.1 (x3.getD 0)).2.1, x1, (atE x4.2.1.2.1 (x3.getD 0)).2.2.2.1, (atE x4.2.1.2.1 (x3.getD 0)).2.2.2.2.1, (atE x4.2.1.2.1 (x3.getD 0)).2.2.2.2.2.1, (atE x4.2.1.2.1 (x3.getD 0)).2.2.2.2.2.2)) (x3.getD 0)).1).2.2.2.1).length ch2.1.2.2.2.1.2 (RdS (Ty.int .u8) ch2.1.2.2.2.1.1 (((atE (x4.2.1.2.1.set (x3.getD 0) ((atE x4.2.1.2.1 (x3.getD 0)).1, (atE x4.2.1.2.1 (x3.getD 0)).2.1, x1, (atE x4.2.1.2.1 (x3.getD 0)).2.2.2.1, (atE x4.2.1.2.1 (x3.getD 0)).2.2.2.2.1, (atE x4.2.1.2.1 (x3.getD 0)).2.2.2.2.2.1, (atE x4.2.1.2.1 (x3.getD 0)).2.2.2.2.2.2)) (x3.getD 0)).1).2.2.2.1)), .sl ch2.1.2.2.2.2.1 (((atE (x4.2.1.2.1.set (x3.getD 0) ((atE x4.2.1.2.1 (x3.getD 0)).1, (atE x4.2.1.2.1 (x3.getD 0)).2.1, x1, (atE x4.2.1.2.1 (x3.getD 0)).2.2.2.1, (atE x4.2.1.2.1 (x3.getD 0)).2.2.2.2.1, (atE x4.2.1.2.1 (x3.getD 0)).2.2.2.2.2.1, (atE x4.2.1.2.1 (x3.getD 0)).2.2.2.2.2.2)) (x3.getD 0)).1).2.2.2.2).length ch2.1.2.2.2.2.2 (RdS Y83 ch2.1.2.2.2.2.1 (((atE (x4.2.1.2.1.set (x3.getD 0) ((atE x4.2.1.2.1 (x3.getD 0)).1, (atE x4.2.1.2.1 (x3.getD 0)).2.1, x1, (atE x4.2.1.2.1 (x3.getD 0)).2.2.2.1, (atE x4.2.1.2.1 (x3.getD 0)).2.2.2.2.1, (atE x4.2.1.2.1 (x3.getD 0)).2.2.2.2.2.1, (atE x4.2.1.2.1 (x3.getD 0)).2.2.2.2.2.2)) (x3.getD 0)).1).2.2.2.2)), .ints .u8 (((atE (x4.2.1.2.1.set (x3.getD 0) ((atE x4.2.1.2.1 (x3.getD 0)).1, (atE x4.2.1.2.1 (x3.getD 0)).2.1, x1, (atE x4.2.1.2.1 (x3.getD 0)).2.2.2.1, (atE x4.2.1.2.1 (x3.getD 0)).2.2.2.2.1, (atE x4.2.1.2.1 (x3.getD 0)).2.2.2.2.2.1, (atE x4.2.1.2.1 (x3.getD 0)).2.2.2.2.2.2)) (x3.getD 0)).2.1).1) 20, .one (.int .u64 (((atE (x4.2.1.2.1.set (x3.getD 0) ((atE x4.2.1.2.1 (x3.getD 0)).1, (atE x4.2.1.2.1 (x3.getD 0)).2.1, x1, (atE x4.2.1.2.1 (x3.getD 0)).2.2.2.1, (atE x4.2.1.2.1 (x3.getD 0)).2.2.2.2.1, (atE x4.2.1.2.1 (x3.getD 0)).2.2.2.2.2.1, (atE x4.2.1.2.1 (x3.getD 0)).2.2.2.2.2.2)) (x3.getD 0)).2.1).2.1)), .ints .u64 (((atE (x4.2.1.2.1.set (x3.getD 0) ((atE x4.2.1.2.1 (x3.getD 0)).1, (atE x4.2.1.2.1 (x3.getD 0)).2.1, x1, (atE x4.2.1.2.1 (x3.getD 0)).2.2.2.1, (atE x4.2.1.2.1 (x3.getD 0)).2.2.2.2.1, (atE x4.2.1.2.1 (x3.getD 0)).2.2.2.2.2.1, (atE x4.2.1.2.1 (x3.getD 0)).2.2.2.2.2.2)) (x3.getD 0)).2.1).2.2.1) 4, .sl ch2.2.1.2.2.2.1.1 (((atE (x4.2.1.2.1.set (x3.getD 0) ((atE x4.2.1.2.1 (x3.getD 0)).1, (atE x4.2.1.2.1 (x3.getD 0)).2.1, x1, (atE x4.2.1.2.1 (x3.getD 0)).2.2.2.1, (atE x4.2.1.2.1 (x3.getD 0)).2.2.2.2.1, (atE x4.2.1.2.1 (x3.getD 0)).2.2.2.2.2.1, (atE x4.2.1.2.1 (x3.getD 0)).2.2.2.2.2.2)) (x3.getD 0)).2.1).2.2.2.1).length ch2.2.1.2.2.2.1.2 (RdS (Ty.int .u8) ch2.2.1.2.2.2.1.1 (((atE (x4.2.1.2.1.set (x3.getD 0) ((atE x4.2.1.2.1 (x3.getD 0)).1, (atE x4.2.1.2.1 (x3.getD 0)).2.1, x1, (atE x4.2.1.2.1 (x3.getD 0)).2.2.2.1, (atE x4.2.1.2.1 (x3.getD 0)).2.2.2.2.1, (atE x4.2.1.2.1 (x3.getD 0)).2.2.2.2.2.1, (atE x4.2.1.2.1 (x3.getD 0)).2.2.2.2.2.2)) (x3.getD 0)).2.1).2.2.2.1)), .sl ch2.2.1.2.2.2.2.1 (((atE (x4.2.1.2.1.set (x3.getD 0) ((atE x4.2.1.2.1 (x3.getD 0)).1, (atE x4.2.1.2.1 (x3.getD 0)).2.1, x1, (atE x4.2.1.2.1 (x3.getD 0)).2.2.2.1, (atE x4.2.1.2.1 (x3.getD 0)).2.2.2.2.1, (atE x4.2.1.2.1 (x3.getD 0)).2.2.2.2.2.1, (atE x4.2.1.2.1 (x3.getD 0)).2.2.2.2.2.2)) (x3.getD 0)).2.1).2.2.2.2).length ch2.2.1.2.2.2.2.2 (RdS Y83 ch2.2.1.2.2.2.2.1 (((atE (x4.2.1.2.1.set (x3.getD 0) ((atE x4.2.1.2.1 (x3.getD 0)).1, (atE x4.2.1.2.1 (x3.getD 0)).2.1, x1, (atE x4.2.1.2.1 (x3.getD 0)).2.2.2.1, (atE x4.2.1.2.1 (x3.getD 0)).2.2.2.2.1, (atE x4.2.1.2.1 (x3.getD 0)).2.2.2.2.2.1, (atE x4.2.1.2.1 (x3.getD 0)).2.2.2.2.2.2)) (x3.getD 0)).2.1).2.2.2.2)), .one (.bool ((atE (x4.2.1.2.1.set (x3.getD 0) ((atE x4.2.1.2.1 (x3.getD 0)).1, (atE x4.2.1.2.1 (x3.getD 0)).2.1, x1, (atE x4.2.1.2.1 (x3.getD 0)).2.2.2.1, (atE x4.2.1.2.1 (x3.getD 0)).2.2.2.2.1, (atE x4.2.1.2.1 (x3.getD 0)).2.2.2.2.2.1, (atE x4.2.1.2.1 (x3.getD 0)).2.2.2.2.2.2)) (x3.getD 0)).2.2.1)), .rf (.map (some (bAt ch_3_5 x2))) (ltR x2 ch_3_5), .one (.bool ((atE (x4.2.1.2.1.set (x3.getD 0) ((atE x4.2.1.2.1 (x3.getD 0)).1, (atE x4.2.1.2.1 (x3.getD 0)).2.1, x1, (atE x4.2.1.2.1 (x3.getD 0)).2.2.2.1, (atE x4.2.1.2.1 (x3.getD 0)).2.2.2.2.1, (atE x4.2.1.2.1 (x3.getD 0)).2.2.2.2.2.1, (atE x4.2.1.2.1 (x3.getD 0)).2.2.2.2.2.2)) (x3.getD 0)).2.2.2.2.1)), .one (.bool ((atE (x4.2.1.2.1.set (x3.getD 0) ((atE x4.2.1.2.1 (x3.getD 0)).1, (atE x4.2.1.2.1 (x3.getD 0)).2.1, x1, (atE x4.2.1.2.1 (x3.getD 0)).2.2.2.1, (atE x4.2.1.2.1 (x3.getD 0)).2.2.2.2.1, (atE x4.2.1.2.1 (x3.getD 0)).2.2.2.2.2.1, (atE x4.2.1.2.1 (x3.getD 0)).2.2.2.2.2.2)) (x3.getD 0)).2.2.2.2.2.1)), .rf (.map (some (bAt ch_3_6 ((atE (x4.2.1.2.1.set (x3.getD 0) ((atE x4.2.1.2.1 (x3.getD 0)).1, (atE x4.2.1.2.1 (x3.getD 0)).2.1, x1, (atE x4.2.1.2.1 (x3.getD 0)).2.2.2.1, (atE x4.2.1.2.1 (x3.getD 0)).2.2.2.2.1, (atE x4.2.1.2.1 (x3.getD 0)).2.2.2.2.2.1, (atE x4.2.1.2.1 (x3.getD 0)).2.2.2.2.2.2)) (x3.getD 0)).2.2.2.2.2.2)))) (ltR ((atE (x4.2.1.2.1.set (x3.getD 0) ((atE x4.2.1.2.1 (x3.getD 0)).1, (atE x4.2.1.2.1 (x3.getD 0)).2.1, x1, (atE x4.2.1.2.1 (x3.getD 0)).2.2.2.1, (atE x4.2.1.2.1 (x3.getD 0)).2.2.2.2.1, (atE x4.2.1.2.1 (x3.getD 0)).2.2.2.2.2.1, (atE x4.2.1.2.1 (x3.getD 0)).2.2.2.2.2.2)) (x3.getD 0)).2.2.2.2.2.2) ch_3_6)]) .here T107 rfl rfl ?_; clear S; intro w S
 replace S := S.structClose (T := (YE110 ch_3_5 ch_3_6)) (e := ((atE (x4.2.1.2.1.set (x3.getD 0) ((atE x4.2.1.2.1 (x3.getD 0)).1, (atE x4.2.1.2.1 (x3.getD 0)).2.1, x1, (atE x4.2.1.2.1 (x3.getD 0)).2.2.2.1, (atE x4.2.1.2.1 (x3.getD 0)).2.2.2.2.1, (atE x4.2.1.2.1 (x3.getD 0)).2.2.2.2.2.1, (atE x4.2.1.2.1 (x3.getD 0)).2.2.2.2.2.2)) (x3.getD 0)).1, (atE (x4.2.1.2.1.set (x3.getD 0) ((atE x4.2.1.2.1 (x3.getD 0)).1, (atE x4.2.1.2.1 (x3.getD 0)).2.1, x1, (atE x4.2.1.2.1 (x3.getD 0)).2.2.2.1, (atE x4.2.1.2.1 (x3.getD 0)).2.2.2.2.1, (atE x4.2.1.2.1 (x3.getD 0)).2.2.2.2.2.1, (atE x4.2.1.2.1 (x3.getD 0)).2.2.2.2.2.2)) (x3.getD 0)).2.1, (atE (x4.2.1.2.1.set (x3.getD 0) ((atE x4.2.1.2.1 (x3.getD 0)).1, (atE x4.2.1.2.1 (x3.getD 0)).2.1, x1, (atE x4.2.1.2.1 (x3.getD 0)).2.2.2.1, (atE x4.2.1.2.1 (x3.getD 0)).2.2.2.2.1, (atE x4.2.1.2.1 (x3.getD 0)).2.2.2.2.2.1, (atE x4.2.1.2.1 (x3.getD 0)).2.2.2.2.2.2)) (x3.getD 0)).2.2.1, x2, (atE (x4.2.1.2.1.set (x3.getD 0) ((atE x4.2.1.2.1 (x3.getD 0)).1, (atE x4.2.1.2.1 (x3.getD 0)).2.1, x1, (atE x4.2.1.2.1 (x3.getD 0)).2.2.2.1, (atE x4.2.1.2.1 (x3.getD 0)).2.2.2.2.1, (atE x4.2.1.2.1 (x3.getD 0)).2.2.2.2.2.1, (atE x4.2.1.2.1 (x3.getD 0)).2.2.2.2.2.2)) (x3.getD 0)).2.2.2.2.1, (atE (x4.2.1.2.1.set (x3.getD 0) ((atE x4.2.1.2.1 (x3.getD 0)).1, (atE x4.2.1.2.1 (x3.getD 0)).2.1, x1, (atE x4.2.1.2.1 (x3.getD 0)).2.2.2.1, (atE x4.2.1.2.1 (x3.getD 0)).2.2.2.2.1, (atE x4.2.1.2.1 (x3.getD 0)).2.2.2.2.2.1, (atE x4.2.1.2.1 (x3.getD 0)).2.2.2.2.2.2)) (x3.getD 0)).2.2.2.2.2.1, (atE (x4.2.1.2.1.set (x3.getD 0) ((atE x4.2.1.2.1 (x3.getD 0)).1, (atE x4.2.1.2.1 (x3.getD 0)).2.1, x1, (atE x4.2.1.2.1 (x3.getD 0)).2.2.2.1, (atE x4.2.1.2.1 (x3.getD 0)).2.2.2.2.1, (atE x4.2.1.2.1 (x3.getD 0)).2.2.2.2.2.1, (atE x4.2.1.2.1 (x3.getD 0)).2.2.2.2.2.2)) (x3.getD 0)).2.2.2.2.2.2)) ((((), (), (), (ch2.1.2.2.2.1.1, ch2.1.2.2.2.1.2), (ch2.1.2.2.2.2.1, ch2.1.2.2.2.2.2)), ((), (), (), (ch2.2.1.2.2.2.1.1, ch2.2.1.2.2.2.1.2), (ch2.2.1.2.2.2.2.1, ch2.2.1.2.2.2.2.2)), (), (), (), (), ()) : ((YE110 ch_3_5 ch_3_6)).Ch) rfl .here
 replace S := S.famClose hl1 .here (.there (.there .here))
 refine h_back ⟨fun h => (nomatch h), ?_⟩
 refine h_done ?_; clear CL hw le
 refine b_end ?_
 obtain rfl := Option.some.inj h1
 exact b_ret0 S rfl (S.retX (Hx := []) hb _ _ ((ch_3_3, ch_3_4, ch_3_5, ch_3_6) : W11) (.cons .here (.cons .here (.cons .here (.cons .here (.cons .here (.cons .here (.cons .here (.cons .here .nil)))))))) trivial)
abbrev state_State_Add_1.Ty : Type := Int → Unit → W1 → Option W12
def state_State_Add_1.Ctr (s : state_State_Add_1.Ty) : Prop := ∀ (x1 : Int) (x2 : Unit) (x3 : W1) (ch_0_0 : Addr) (ch_1_0 : Addr) (ch_2_0 : Nat) (ch_2_1 : Option Addr) (ch_2_2 : Nat) (ch_2_3 : Nat) (ch_2_4 : List Nat) (ch_2_5 : List Nat) (ch_2_6 : List Nat) (ch_2_7 : Option Addr) (ch_2_8 : Nat) (ch_2_9 : Nat) (ch_2_10 : Option Addr) (ch_2_11 : Nat) (ch_2_12 : Nat) (ch_2_13 : Option Addr) (ch_2_14 : Nat) (ch_2_15 : Nat) (r : W12) (h0 : s x1 x2 x3 = some r) (mi : Mem) (w0 : World), okL mi [(.pt ch_0_0 (At (Ty.int .i64) ch_0_0 x1)), (.pt ch_1_0 (At (Ty.own ch_2_0) ch_1_0 x2))] → Pre mi [Res.cells ch_2_0 79 [.rf (.iface 75 (.agg (cellsOf [.sl ch_2_1 (x3.1).length ch_2_2 (RdS Y71 ch_2_1 x3.1)]).toArray)) (IfR [.sl ch_2_1 (x3.1).length ch_2_2 (RdS Y71 ch_2_1 x3.1)]), .one (.map (some ch_2_3)), .one (.int .i64 x3.2.2.1), .one (.slice ch_2_7 ch_2_8 ch_2_9), .one (.slice ch_2_10 ch_2_11 ch_2_12), .one (.slice ch_2_13 ch_2_14 ch_2_15)], Res.map true (Ty.arr .u8 20) false (Ty.pid ch_2_4) ch_2_3 x3.2.1.1, Res.fam (Res.struct (YE110 ch_2_5 ch_2_6) 110) (one_struct _ _) ch_2_4 [] x3.2.1.2.1, Res.fam (fun g_ kvs_ => Res.map true (Ty.arr .u64 4) true (Ty.arr .u64 4) g_ kvs_) (one_map true (Ty.arr .u64 4) true (Ty.arr .u64 4)) ch_2_5 [] x3.2.1.2.2.1, Res.fam (fun g_ kvs_ => Res.map true (Ty.arr .u64 4) false Ty.bool g_ kvs_) (one_map true (Ty.arr .u64 4) false Ty.bool) ch_2_6 [] x3.2.1.2.2.2, Res.row Y100 100 ch_2_7 ch_2_8 ch_2_9 x3.2.2.2.1, Res.row (YC ch_2_0 ch_2_4 ch_2_5 ch_2_6) 1 ch_2_10 ch_2_11 ch_2_12 x3.2.2.2.2.1, Res.row (Ty.arr .u8 20) 40 ch_2_13 ch_2_14 ch_2_15 x3.2.2.2.2.2] w0 → Calls Tryz.prog 83 (([(.pt ch_0_0 (At (Ty.int .i64) ch_0_0 x1)), (.pt ch_1_0 (At (Ty.own ch_2_0) ch_1_0 x2))] : List D).map D.val).toArray w0 (RetX mi [Res.cells ch_2_0 79 [.rf (.iface 75 (.agg (cellsOf [.sl ch_2_1 (x3.1).length ch_2_2 (RdS Y71 ch_2_1 x3.1)]).toArray)) (IfR [.sl ch_2_1 (x3.1).length ch_2_2 (RdS Y71 ch_2_1 x3.1)]), .one (.map (some ch_2_3)), .one (.int .i64 x3.2.2.1), .one (.slice ch_2_7 ch_2_8 ch_2_9), .one (.slice ch_2_10 ch_2_11 ch_2_12), .one (.slice ch_2_13 ch_2_14 ch_2_15)], Res.map true (Ty.arr .u8 20) false (Ty.pid ch_2_4) ch_2_3 x3.2.1.1, Res.fam (Res.struct (YE110 ch_2_5 ch_2_6) 110) (one_struct _ _) ch_2_4 [] x3.2.1.2.1, Res.fam (fun g_ kvs_ => Res.map true (Ty.arr .u64 4) true (Ty.arr .u64 4) g_ kvs_) (one_map true (Ty.arr .u64 4) true (Ty.arr .u64 4)) ch_2_5 [] x3.2.1.2.2.1, Res.fam (fun g_ kvs_ => Res.map true (Ty.arr .u64 4) false Ty.bool g_ kvs_) (one_map true (Ty.arr .u64 4) false Ty.bool) ch_2_6 [] x3.2.1.2.2.2, Res.row Y100 100 ch_2_7 ch_2_8 ch_2_9 x3.2.2.2.1, Res.row (YC ch_2_0 ch_2_4 ch_2_5 ch_2_6) 1 ch_2_10 ch_2_11 ch_2_12 x3.2.2.2.2.1, Res.row (Ty.arr .u8 20) 40 ch_2_13 ch_2_14 ch_2_15 x3.2.2.2.2.2] (fun (ch : Unit) => ((.tup []) : D)) (fun (ch : Unit) => [Res.cells ch_2_0 79 [.rf (.iface 75 (.agg (cellsOf [.sl ch_2_1 (x3.1).length ch_2_2 (RdS Y71 ch_2_1 x3.1)]).toArray)) (IfR [.sl ch_2_1 (x3.1).length ch_2_2 (RdS Y71 ch_2_1 x3.1)]), .one (.map (some ch_2_3)), .one (.int .i64 r.2.2.1), .one (.slice ch_2_7 ch_2_8 ch_2_9), .one (.slice ch_2_10 ch_2_11 ch_2_12), .one (.slice ch_2_13 ch_2_14 ch_2_15)], Res.map true (Ty.arr .u8 20) false (Ty.pid ch_2_4) ch_2_3 x3.2.1.1, Res.fam (Res.struct (YE110 ch_2_5 ch_2_6) 110) (one_struct _ _) ch_2_4 [] x3.2.1.2.1, Res.fam (fun g_ kvs_ => Res.map true (Ty.arr .u64 4) true (Ty.arr .u64 4) g_ kvs_) (one_map true (Ty.arr .u64 4) true (Ty.arr .u64 4)) ch_2_5 [] x3.2.1.2.2.1, Res.fam (fun g_ kvs_ => Res.map true (Ty.arr .u64 4) false Ty.bool g_ kvs_) (one_map true (Ty.arr .u64 4) false Ty.bool) ch_2_6 [] x3.2.1.2.2.2, Res.row Y100 100 ch_2_7 ch_2_8 ch_2_9 x3.2.2.2.1, Res.row (YC ch_2_0 ch_2_4 ch_2_5 ch_2_6) 1 ch_2_10 ch_2_11 ch_2_12 x3.2.2.2.2.1, Res.row (Ty.arr .u8 20) 40 ch_2_13 ch_2_14 ch_2_15 x3.2.2.2.2.2]) w0)
def state_State_Add_1.f (x1 : Int) (x2 : Unit) (x3 : W1) : Option W12 := some ((), (), x1, (), (), ())
theorem state_State_Add_1.ok : state_State_Add_1.Ctr (state_State_Add_1.f) := by
 intro x1 x2 x3 ch_0_0 ch_1_0 ch_2_0 ch_2_1 ch_2_2 ch_2_3 ch_2_4 ch_2_5 ch_2_6 ch_2_7 ch_2_8 ch_2_9 ch_2_10 ch_2_11 ch_2_12 ch_2_13 ch_2_14 ch_2_15 r h0 mi w0 ok hm
 delta state_State_Add_1.f at h0
 refine c_enterX (n := 6) [(.pt ch_0_0 (At (Ty.int .i64) ch_0_0 x1)), (.pt ch_1_0 (At (Ty.own ch_2_0) ch_1_0 x2))] (l := [(0, (.pt ch_0_0 (At (Ty.int .i64) ch_0_0 x1))), (1, (.pt ch_1_0 (At (Ty.own ch_2_0) ch_1_0 x2)))]) Tryz.func83 rfl rfl rfl rfl ok hm ?_
 clear ok hm
 intro b0 hb a S
 refine c_region' ?_
 refine s_ld1 S (v := (.pointer (some ⟨ch_2_0, 0, none⟩))) rfl T26 (fun _ => rfl) rfl ?_; clear S a; intro a S
 refine s_ld1 S (v := (.int .i64 x1)) rfl T2 (fun _ => rfl) rfl ?_; clear S a; intro a S
 refine s_nilchk S rfl rfl ?_; clear S a; intro a S
 refine s_fieldAddr S rfl I79_2 T2 (by decide) rfl rfl ?_; clear S a; intro a S
 refine s_store S rfl rfl rfl (s' := [.rf (.iface 75 (.agg (cellsOf [.sl ch_2_1 (x3.1).length ch_2_2 (RdS Y71 ch_2_1 x3.1)]).toArray)) (IfR [.sl ch_2_1 (x3.1).length ch_2_2 (RdS Y71 ch_2_1 x3.1)]), .one (.map (some ch_2_3)), .one (.int .i64 x1), .one (.slice ch_2_7 ch_2_8 ch_2_9), .one (.slice ch_2_10 ch_2_11 ch_2_12), .one (.slice ch_2_13 ch_2_14 ch_2_15)]) .here T2 rfl rfl ?_; clear S; intro w S
 refine c_end' ?_
 refine b_end ?_
 obtain rfl := Option.some.inj h0
 exact b_ret0 S rfl (S.retX (Hx := []) hb _ _ (() : Unit) (.cons .here (.cons .here (.cons .here (.cons .here (.cons .here (.cons .here (.cons .here (.cons .here .nil)))))))) trivial)
abbrev state_State_Log_1.Ty : Type := Unit → Int → W1 → Option W13
def state_State_Log_1.Ctr (s : state_State_Log_1.Ty) : Prop := ∀ (x1 : Unit) (x2 : Int) (x3 : W1) (ch_0_0 : Addr) (ch_1_0 : Addr) (ch_2_0 : Nat) (ch_2_1 : Option Addr) (ch_2_2 : Nat) (ch_2_3 : Nat) (ch_2_4 : List Nat) (ch_2_5 : List Nat) (ch_2_6 : List Nat) (ch_2_7 : Option Addr) (ch_2_8 : Nat) (ch_2_9 : Nat) (ch_2_10 : Option Addr) (ch_2_11 : Nat) (ch_2_12 : Nat) (ch_2_13 : Option Addr) (ch_2_14 : Nat) (ch_2_15 : Nat) (r : W13) (h0 : s x1 x2 x3 = some r) (mi : Mem) (w0 : World), okL mi [(.pt ch_0_0 (At (Ty.own ch_2_0) ch_0_0 x1)), (.pt ch_1_0 (At (Ty.int .i64) ch_1_0 x2))] → Pre mi [Res.cells ch_2_0 79 [.rf (.iface 75 (.agg (cellsOf [.sl ch_2_1 (x3.1).length ch_2_2 (RdS Y71 ch_2_1 x3.1)]).toArray)) (IfR [.sl ch_2_1 (x3.1).length ch_2_2 (RdS Y71 ch_2_1 x3.1)]), .one (.map (some ch_2_3)), .one (.int .i64 x3.2.2.1), .one (.slice ch_2_7 ch_2_8 ch_2_9), .one (.slice ch_2_10 ch_2_11 ch_2_12), .one (.slice ch_2_13 ch_2_14 ch_2_15)], Res.map true (Ty.arr .u8 20) false (Ty.pid ch_2_4) ch_2_3 x3.2.1.1, Res.fam (Res.struct (YE110 ch_2_5 ch_2_6) 110) (one_struct _ _) ch_2_4 [] x3.2.1.2.1, Res.fam (fun g_ kvs_ => Res.map true (Ty.arr .u64 4) true (Ty.arr .u64 4) g_ kvs_) (one_map true (Ty.arr .u64 4) true (Ty.arr .u64 4)) ch_2_5 [] x3.2.1.2.2.1, Res.fam (fun g_ kvs_ => Res.map true (Ty.arr .u64 4) false Ty.bool g_ kvs_) (one_map true (Ty.arr .u64 4) false Ty.bool) ch_2_6 [] x3.2.1.2.2.2, Res.row Y100 100 ch_2_7 ch_2_8 ch_2_9 x3.2.2.2.1, Res.row (YC ch_2_0 ch_2_4 ch_2_5 ch_2_6) 1 ch_2_10 ch_2_11 ch_2_12 x3.2.2.2.2.1, Res.row (Ty.arr .u8 20) 40 ch_2_13 ch_2_14 ch_2_15 x3.2.2.2.2.2] w0 → Calls Tryz.prog 84 (([(.pt ch_0_0 (At (Ty.own ch_2_0) ch_0_0 x1)), (.pt ch_1_0 (At (Ty.int .i64) ch_1_0 x2))] : List D).map D.val).toArray w0 (RetX mi [Res.cells ch_2_0 79 [.rf (.iface 75 (.agg (cellsOf [.sl ch_2_1 (x3.1).length ch_2_2 (RdS Y71 ch_2_1 x3.1)]).toArray)) (IfR [.sl ch_2_1 (x3.1).length ch_2_2 (RdS Y71 ch_2_1 x3.1)]), .one (.map (some ch_2_3)), .one (.int .i64 x3.2.2.1), .one (.slice ch_2_7 ch_2_8 ch_2_9), .one (.slice ch_2_10 ch_2_11 ch_2_12), .one (.slice ch_2_13 ch_2_14 ch_2_15)], Res.map true (Ty.arr .u8 20) false (Ty.pid ch_2_4) ch_2_3 x3.2.1.1, Res.fam (Res.struct (YE110 ch_2_5 ch_2_6) 110) (one_struct _ _) ch_2_4 [] x3.2.1.2.1, Res.fam (fun g_ kvs_ => Res.map true (Ty.arr .u64 4) true (Ty.arr .u64 4) g_ kvs_) (one_map true (Ty.arr .u64 4) true (Ty.arr .u64 4)) ch_2_5 [] x3.2.1.2.2.1, Res.fam (fun g_ kvs_ => Res.map true (Ty.arr .u64 4) false Ty.bool g_ kvs_) (one_map true (Ty.arr .u64 4) false Ty.bool) ch_2_6 [] x3.2.1.2.2.2, Res.row Y100 100 ch_2_7 ch_2_8 ch_2_9 x3.2.2.2.1, Res.row (YC ch_2_0 ch_2_4 ch_2_5 ch_2_6) 1 ch_2_10 ch_2_11 ch_2_12 x3.2.2.2.2.1, Res.row (Ty.arr .u8 20) 40 ch_2_13 ch_2_14 ch_2_15 x3.2.2.2.2.2] (fun (ch : (Option Addr) × Nat × Nat) => ((.tup []) : D)) (fun (ch : (Option Addr) × Nat × Nat) => [Res.cells ch_2_0 79 [.rf (.iface 75 (.agg (cellsOf [.sl ch_2_1 (x3.1).length ch_2_2 (RdS Y71 ch_2_1 x3.1)]).toArray)) (IfR [.sl ch_2_1 (x3.1).length ch_2_2 (RdS Y71 ch_2_1 x3.1)]), .one (.map (some ch_2_3)), .one (.int .i64 x3.2.2.1), .one (.slice ch.1 ch.2.1 ch.2.2), .one (.slice ch_2_10 ch_2_11 ch_2_12), .one (.slice ch_2_13 ch_2_14 ch_2_15)], Res.map true (Ty.arr .u8 20) false (Ty.pid ch_2_4) ch_2_3 x3.2.1.1, Res.fam (Res.struct (YE110 ch_2_5 ch_2_6) 110) (one_struct _ _) ch_2_4 [] x3.2.1.2.1, Res.fam (fun g_ kvs_ => Res.map true (Ty.arr .u64 4) true (Ty.arr .u64 4) g_ kvs_) (one_map true (Ty.arr .u64 4) true (Ty.arr .u64 4)) ch_2_5 [] x3.2.1.2.2.1, Res.fam (fun g_ kvs_ => Res.map true (Ty.arr .u64 4) false Ty.bool g_ kvs_) (one_map true (Ty.arr .u64 4) false Ty.bool) ch_2_6 [] x3.2.1.2.2.2, Res.row Y100 100 ch.1 ch.2.1 ch.2.2 r.2.2.2.1, Res.row (YC ch_2_0 ch_2_4 ch_2_5 ch_2_6) 1 ch_2_10 ch_2_11 ch_2_12 x3.2.2.2.2.1, Res.row (Ty.arr .u8 20) 40 ch_2_13 ch_2_14 ch_2_15 x3.2.2.2.2.2]) w0)
def state_State_Log_1.f (x1 : Unit) (x2 : Int) (x3 : W1) : Option W13 := if (0 : Int) ≤ x2 ∧ x2 ≤ ((x3.2.2.2.1).length : Int) then (some ((), (), (), x3.2.2.2.1.take (Int.toNat x2), (), ())) else none
theorem state_State_Log_1.ok : state_State_Log_1.Ctr (state_State_Log_1.f) := by
 intro x1 x2 x3 ch_0_0 ch_1_0 ch_2_0 ch_2_1 ch_2_2 ch_2_3 ch_2_4 ch_2_5 ch_2_6 ch_2_7 ch_2_8 ch_2_9 ch_2_10 ch_2_11 ch_2_12 ch_2_13 ch_2_14 ch_2_15 r h0 mi w0 ok hm
 delta state_State_Log_1.f at h0
 refine c_enterX (n := 11) [(.pt ch_0_0 (At (Ty.own ch_2_0) ch_0_0 x1)), (.pt ch_1_0 (At (Ty.int .i64) ch_1_0 x2))] (l := [(0, (.pt ch_0_0 (At (Ty.own ch_2_0) ch_0_0 x1))), (1, (.pt ch_1_0 (At (Ty.int .i64) ch_1_0 x2)))]) Tryz.func84 rfl rfl rfl rfl ok hm ?_
 clear ok hm
 intro b0 hb a S
 refine c_heldS S (.take 0 (.take 1 (.take 2 (.take 3 (.take 4 (.take 5 (.alts (.run 6 true (.take 7 (.take 8 (.alts (.run 9 false .done .nil)))) .nil)))))))) 9 [Res.cells ch_2_0 79 [.rf (.iface 75 (.agg (cellsOf [.sl ch_2_1 (x3.1).length ch_2_2 (RdS Y71 ch_2_1 x3.1)]).toArray)) (IfR [.sl ch_2_1 (x3.1).length ch_2_2 (RdS Y71 ch_2_1 x3.1)]), .one (.map (some ch_2_3)), .one (.int .i64 x3.2.2.1), .one (.slice ch_2_7 ch_2_8 ch_2_9), .one (.slice ch_2_10 ch_2_11 ch_2_12), .one (.slice ch_2_13 ch_2_14 ch_2_15)], Res.row (Ty.arr .u8 20) 40 ch_2_13 ch_2_14 ch_2_15 x3.2.2.2.2.2] (.cons .here (.cons (.there (.there (.there (.there (.there (.there .here)))))) .nil)) ⟨Res.stay_cells, Res.stay_row flat_arr, trivial⟩ [(0, (.pt ch_0_0 (At (Ty.own ch_2_0) ch_0_0 x1))), (1, (.pt ch_1_0 (At (Ty.int .i64) ch_1_0 x2)))] (subR rfl) (by kernel_rfl) (by kernel_rfl) ?_; clear S; intro w S CL hw le
 refine h_ld1 S CL hw le (subR rfl) (v := (.pointer (some ⟨ch_2_0, 0, none⟩))) rfl T26 (fun _ => rfl) rfl rfl trivial ?_; clear S CL a; intro a S CL
 refine h_ld1 S CL hw le (subR rfl) (v := (.pointer (some ⟨ch_2_0, 0, none⟩))) rfl T26 (fun _ => rfl) rfl rfl trivial ?_; clear S CL a; intro a S CL
 refine h_nilchk S CL hw le (subR rfl) rfl rfl rfl rfl trivial ?_; clear S CL a; intro a S CL
 refine h_fieldAddr S CL hw le (subR rfl) rfl I79_3 T34 (by decide) rfl rfl rfl trivial ?_; clear S CL a; intro a S CL
 refine h_load1 S CL hw le (subR rfl) rfl .here T34 (v := (.slice ch_2_7 ch_2_8 ch_2_9)) rfl rfl rfl trivial ?_; clear S CL a; intro a S CL
 refine h_ld1 S CL hw le (subR rfl) (v := (.int .i64 x2)) rfl T3 (fun _ => rfl) rfl rfl trivial ?_; clear S CL a; intro a S CL
 refine h_run' S rfl trivial ?_
 obtain ⟨c1, h1⟩ := chk_of h0; clear h0
 refine s_cutO S (j := x2) rfl (.there (.there (.there (.there (.there .here))))) Tryz.underlying34 T100 (.inl rfl) rfl c1.1 c1.2 rfl ?_; clear S a; intro a S
 replace hw := CL.again hw S (.cons .here (.cons (.there (.there (.there (.there (.there (.there .here)))))) .nil)) le
 refine h_back ⟨fun _ => hw, ?_⟩
 refine h_nilchk S CL hw le (subR rfl) rfl rfl rfl rfl trivial ?_; clear S CL a; intro a S CL
 refine h_fieldAddr S CL hw le (subR rfl) rfl I79_3 T34 (by decide) rfl rfl rfl trivial ?_; clear S CL a; intro a S CL
 refine h_run' S rfl trivial ?_
 refine s_store S rfl rfl rfl (s' := [.rf (.iface 75 (.agg (cellsOf [.sl ch_2_1 (x3.1).length ch_2_2 (RdS Y71 ch_2_1 x3.1)]).toArray)) (IfR [.sl ch_2_1 (x3.1).length ch_2_2 (RdS Y71 ch_2_1 x3.1)]), .one (.map (some ch_2_3)), .one (.int .i64 x3.2.2.1), .one (.slice ch_2_7 (Int.toNat x2) ch_2_9), .one (.slice ch_2_10 ch_2_11 ch_2_12), .one (.slice ch_2_13 ch_2_14 ch_2_15)]) .here T34 rfl rfl ?_; clear S; intro w S
 refine h_back ⟨fun h => (nomatch h), ?_⟩
 refine h_done ?_; clear CL hw le
 refine b_end ?_
 obtain rfl := Option.some.inj h1
 exact b_ret0 S rfl (S.retX (Hx := []) hb _ _ ((ch_2_7, Int.toNat x2, ch_2_9) : (Option Addr) × Nat × Nat) (.cons .here (.cons .here (.cons .here (.cons .here (.cons .here (.cons .here (.cons .here (.cons .here .nil)))))))) trivial)
abbrev state_State_Destroy_1.Ty : Type := Bool → (Option Nat) → W1 → Option W10
def state_State_Destroy_1.Ctr (s : state_State_Destroy_1.Ty) : Prop := ∀ (x1 : Bool) (x2 : Option Nat) (x3 : W1) (ch_0_0 : Addr) (ch_1_0 : Addr) (ch_2_0 : Nat) (ch_2_1 : Option Addr) (ch_2_2 : Nat) (ch_2_3 : Nat) (ch_2_4 : List Nat) (ch_2_5 : List Nat) (ch_2_6 : List Nat) (ch_2_7 : Option Addr) (ch_2_8 : Nat) (ch_2_9 : Nat) (ch_2_10 : Option Addr) (ch_2_11 : Nat) (ch_2_12 : Nat) (ch_2_13 : Option Addr) (ch_2_14 : Nat) (ch_2_15 : Nat) (r : W10) (h0 : s x1 x2 x3 = some r) (mi : Mem) (w0 : World), okL mi [(.pt ch_0_0 (At Ty.bool ch_0_0 x1)), (.pt ch_1_0 (At (Ty.pid ch_2_4) ch_1_0 x2))] → Pre mi [Res.cells ch_2_0 79 [.rf (.iface 75 (.agg (cellsOf [.sl ch_2_1 (x3.1).length ch_2_2 (RdS Y71 ch_2_1 x3.1)]).toArray)) (IfR [.sl ch_2_1 (x3.1).length ch_2_2 (RdS Y71 ch_2_1 x3.1)]), .one (.map (some ch_2_3)), .one (.int .i64 x3.2.2.1), .one (.slice ch_2_7 ch_2_8 ch_2_9), .one (.slice ch_2_10 ch_2_11 ch_2_12), .one (.slice ch_2_13 ch_2_14 ch_2_15)], Res.map true (Ty.arr .u8 20) false (Ty.pid ch_2_4) ch_2_3 x3.2.1.1, Res.fam (Res.struct (YE110 ch_2_5 ch_2_6) 110) (one_struct _ _) ch_2_4 [] x3.2.1.2.1, Res.fam (fun g_ kvs_ => Res.map true (Ty.arr .u64 4) true (Ty.arr .u64 4) g_ kvs_) (one_map true (Ty.arr .u64 4) true (Ty.arr .u64 4)) ch_2_5 [] x3.2.1.2.2.1, Res.fam (fun g_ kvs_ => Res.map true (Ty.arr .u64 4) false Ty.bool g_ kvs_) (one_map true (Ty.arr .u64 4) false Ty.bool) ch_2_6 [] x3.2.1.2.2.2, Res.row Y100 100 ch_2_7 ch_2_8 ch_2_9 x3.2.2.2.1, Res.row (YC ch_2_0 ch_2_4 ch_2_5 ch_2_6) 1 ch_2_10 ch_2_11 ch_2_12 x3.2.2.2.2.1, Res.row (Ty.arr .u8 20) 40 ch_2_13 ch_2_14 ch_2_15 x3.2.2.2.2.2] w0 → Calls Tryz.prog 85 (([(.pt ch_0_0 (At Ty.bool ch_0_0 x1)), (.pt ch_1_0 (At (Ty.pid ch_2_4) ch_1_0 x2))] : List D).map D.val).toArray w0 (RetX mi [Res.cells ch_2_0 79 [.rf (.iface 75 (.agg (cellsOf [.sl ch_2_1 (x3.1).length ch_2_2 (RdS Y71 ch_2_1 x3.1)]).toArray)) (IfR [.sl ch_2_1 (x3.1).length ch_2_2 (RdS Y71 ch_2_1 x3.1)]), .one (.map (some ch_2_3)), .one (.int .i64 x3.2.2.1), .one (.slice ch_2_7 ch_2_8 ch_2_9), .one (.slice ch_2_10 ch_2_11 ch_2_12), .one (.slice ch_2_13 ch_2_14 ch_2_15)], Res.map true (Ty.arr .u8 20) false (Ty.pid ch_2_4) ch_2_3 x3.2.1.1, Res.fam (Res.struct (YE110 ch_2_5 ch_2_6) 110) (one_struct _ _) ch_2_4 [] x3.2.1.2.1, Res.fam (fun g_ kvs_ => Res.map true (Ty.arr .u64 4) true (Ty.arr .u64 4) g_ kvs_) (one_map true (Ty.arr .u64 4) true (Ty.arr .u64 4)) ch_2_5 [] x3.2.1.2.2.1, Res.fam (fun g_ kvs_ => Res.map true (Ty.arr .u64 4) false Ty.bool g_ kvs_) (one_map true (Ty.arr .u64 4) false Ty.bool) ch_2_6 [] x3.2.1.2.2.2, Res.row Y100 100 ch_2_7 ch_2_8 ch_2_9 x3.2.2.2.1, Res.row (YC ch_2_0 ch_2_4 ch_2_5 ch_2_6) 1 ch_2_10 ch_2_11 ch_2_12 x3.2.2.2.2.1, Res.row (Ty.arr .u8 20) 40 ch_2_13 ch_2_14 ch_2_15 x3.2.2.2.2.2] (fun (ch : W11) => ((.tup []) : D)) (fun (ch : W11) => [Res.cells ch_2_0 79 [.rf (.iface 75 (.agg (cellsOf [.sl ch_2_1 (x3.1).length ch_2_2 (RdS Y71 ch_2_1 x3.1)]).toArray)) (IfR [.sl ch_2_1 (x3.1).length ch_2_2 (RdS Y71 ch_2_1 x3.1)]), .one (.map (some ch.1)), .one (.int .i64 x3.2.2.1), .one (.slice ch_2_7 ch_2_8 ch_2_9), .one (.slice ch_2_10 ch_2_11 ch_2_12), .one (.slice ch_2_13 ch_2_14 ch_2_15)], Res.map true (Ty.arr .u8 20) false (Ty.pid ch.2.1) ch.1 r.2.1.1, Res.fam (Res.struct (YE110 ch.2.2.1 ch.2.2.2) 110) (one_struct _ _) ch.2.1 [] r.2.1.2.1, Res.fam (fun g_ kvs_ => Res.map true (Ty.arr .u64 4) true (Ty.arr .u64 4) g_ kvs_) (one_map true (Ty.arr .u64 4) true (Ty.arr .u64 4)) ch.2.2.1 [] r.2.1.2.2.1, Res.fam (fun g_ kvs_ => Res.map true (Ty.arr .u64 4) false Ty.bool g_ kvs_) (one_map true (Ty.arr .u64 4) false Ty.bool) ch.2.2.2 [] r.2.1.2.2.2, Res.row Y100 100 ch_2_7 ch_2_8 ch_2_9 x3.2.2.2.1, Res.row (YC ch_2_0 ch.2.1 ch.2.2.1 ch.2.2.2) 1 ch_2_10 ch_2_11 ch_2_12 x3.2.2.2.2.1, Res.row (Ty.arr .u8 20) 40 ch_2_13 ch_2_14 ch_2_15 x3.2.2.2.2.2]) w0)
def state_State_Destroy_1.f (x1 : Bool) (x2 : Option Nat) (x3 : W1) : Option W10 := if x2.isSome = true then (some ((), (x3.2.1.1, x3.2.1.2.1.set (x2.getD 0) ((atE x3.2.1.2.1 (x2.getD 0)).1, (atE x3.2.1.2.1 (x2.getD 0)).2.1, (atE x3.2.1.2.1 (x2.getD 0)).2.2.1, (atE x3.2.1.2.1 (x2.getD 0)).2.2.2.1, x1, (atE x3.2.1.2.1 (x2.getD 0)).2.2.2.2.2.1, (atE x3.2.1.2.1 (x2.getD 0)).2.2.2.2.2.2), x3.2.1.2.2.1, x3.2.1.2.2.2), (), (), (), ())) else none
theorem state_State_Destroy_1.ok : state_State_Destroy_1.Ctr (state_State_Destroy_1.f) := by
 intro x1 x2 x3 ch_0_0 ch_1_0 ch_2_0 ch_2_1 ch_2_2 ch_2_3 ch_2_4 ch_2_5 ch_2_6 ch_2_7 ch_2_8 ch_2_9 ch_2_10 ch_2_11 ch_2_12 ch_2_13 ch_2_14 ch_2_15 r h0 mi w0 ok hm
 delta state_State_Destroy_1.f at h0
 refine c_enterX (n := 6) [(.pt ch_0_0 (At Ty.bool ch_0_0 x1)), (.pt ch_1_0 (At (Ty.pid ch_2_4) ch_1_0 x2))] (l := [(0, (.pt ch_0_0 (At Ty.bool ch_0_0 x1))), (1, (.pt ch_1_0 (At (Ty.pid ch_2_4) ch_1_0 x2)))]) Tryz.func85 rfl rfl rfl rfl ok hm ?_
 clear ok hm
 intro b0 hb a S
 refine c_region' ?_
 refine s_ldF S (fun _ => ptrV ch_2_4 x2) (fun _ => ptrR ch_2_4 x2) rfl T111 (fun _ => rfl) rfl ?_; clear S a; intro _ a S
 refine s_ld1 S (v := (.bool x1)) rfl T4 (fun _ => rfl) rfl ?_; clear S a; intro a S
 obtain ⟨c1, h1⟩ := chk_of h0; clear h0
 have hl1 := S.slotPlt (u := 2) c1 rfl
 replace S := S.slotP (u := 2) c1 rfl
 refine s_nilchk S rfl rfl ?_; clear S a; intro a S
 refine s_fieldAddr S rfl I110_4 T4 (by decide) rfl rfl ?_; clear S a; intro a S
 replace S := S.famOpen (i := (x2.getD 0)) hl1 (.there (.there .here))
 have hS := S.structOpen (T := (YE110 ch_2_5 ch_2_6)) (fun _ => .here) (((), (), (), (none, 0), (none, 0)), ((), (), (), (none, 0), (none, 0)), (), (), (), (), ())
 clear S; obtain ⟨ch1, S⟩ := hS
 refine s_store S rfl rfl rfl (s' := [.ints .u8 (((atE x3.2.1.2.1 (x2.getD 0)).1).1) 20, .one (.int .u64 (((atE x3.2.1.2.1 (x2.getD 0)).1).2.1)), .ints .u64 (((atE x3.2.1.2.1 (x2.getD 0)).1).2.2.1) 4, .sl ch1.1.2.2.2.1.1 (((atE x3.2.1.2.1 (x2.getD 0)).1).2.2.2.1).length ch1.1.2.2.2.1.2 (RdS (Ty.int .u8) ch1.1.2.2.2.1.1 (((atE x3.2.1.2.1 (x2.getD 0)).1).2.2.2.1)), .sl ch1.1.2.2.2.2.1 (((atE x3.2.1.2.1 (x2.getD 0)).1).2.2.2.2).length ch1.1.2.2.2.2.2 (RdS Y83 ch1.1.2.2.2.2.1 (((atE x3.2.1.2.1 (x2.getD 0)).1).2.2.2.2)), .ints .u8 (((atE x3.2.1.2.1 (x2.getD 0)).2.1).1) 20, .one (.int .u64 (((atE x3.2.1.2.1 (x2.getD 0)).2.1).2.1)), .ints .u64 (((atE x3.2.1.2.1 (x2.getD 0)).2.1).2.2.1) 4, .sl ch1.2.1.2.2.2.1.1 (((atE x3.2.1.2.1 (x2.getD 0)).2.1).2.2.2.1).length ch1.2.1.2.2.2.1.2 (RdS (Ty.int .u8) ch1.2.1.2.2.2.1.1 (((atE x3.2.1.2.1 (x2.getD 0)).2.1).2.2.2.1)), .sl ch1.2.1.2.2.2.2.1 (((atE x3.2.1.2.1 (x2.getD 0)).2.1).2.2.2.2).length ch1.2.1.2.2.2.2.2 (RdS Y83 ch1.2.1.2.2.2.2.1 (((atE x3.2.1.2.1 (x2.getD 0)).2.1).2.2.2.2)), .one (.bool ((atE x3.2.1.2.1 (x2.getD 0)).2.2.1)), .rf (.map (some (bAt ch_2_5 ((atE x3.2.1.2.1 (x2.getD 0)).2.2.2.1)))) (ltR ((atE x3.2.1.2.1 (x2.getD 0)).2.2.2.1) ch_2_5), .one (.bool x1), .one (.bool ((atE x3.2.1.2.1 (x2.getD 0)).2.2.2.2.2.1)), .rf (.map (some (bAt ch_2_6 ((atE x3.2.1.2.1 (x2.getD 0)).2.2.2.2.2.2)))) (ltR ((atE x3.2.1.2.1 (x2.getD 0)).2.2.2.2.2.2) ch_2_6)]) .here T4 rfl rfl ?_; clear S; intro w S
 replace S := S.structClose (T := (YE110 ch_2_5 ch_2_6)) (e := ((atE x3.2.1.2.1 (x2.getD 0)).1, (atE x3.2.1.2.1 (x2.getD 0)).2.1, (atE x3.2.1.2.1 (x2.getD 0)).2.2.1, (atE x3.2.1.2.1 (x2.getD 0)).2.2.2.1, x1, (atE x3.2.1.2.1 (x2.getD 0)).2.2.2.2.2.1, (atE x3.2.1.2.1 (x2.getD 0)).2.2.2.2.2.2)) ((((), (), (), (ch1.1.2.2.2.1.1, ch1.1.2.2.2.1.2), (ch1.1.2.2.2.2.1, ch1.1.2.2.2.2.2)), ((), (), (), (ch1.2.1.2.2.2.1.1, ch1.2.1.2.2.2.1.2), (ch1.2.1.2.2.2.2.1, ch1.2.1.2.2.2.2.2)), (), (), (), (), ()) : ((YE110 ch_2_5 ch_2_6)).Ch) rfl .here
 replace S := S.famClose hl1 .here (.there (.there .here))
 refine c_end' ?_
 refine b_end ?_
 obtain rfl := Option.some.inj h1
 exact b_ret0 S rfl (S.retX (Hx := []) hb _ _ ((ch_2_3, ch_2_4, ch_2_5, ch_2_6) : W11) (.cons .here (.cons .here (.cons .here (.cons .here (.cons .here (.cons .here (.cons .here (.cons .here .nil)))))))) trivial)
end
end GW
