import Derived.Test.YtnloindmiejbeaaGWRQui
set_option linter.unusedVariables false
namespace GW
open Go Go.RowKit
theorem bindX {α β : Type} {x : Option α} {f : α → Option β} {r : β} {P : Prop} (h : x.bind f = some r) (k : ∀ t, x = some t → f t = some r → P) : P := by
  obtain ⟨t, h1, h2⟩ := Option.bind_eq_some_iff.1 h
  exact k t h1 h2
abbrev ad (g : Nat) : Option Addr := some ⟨g, 0, none⟩
abbrev D.p (g : Nat) : D := .v (.pointer (some ⟨g, 0, none⟩))
abbrev D.o (g i : Nat) : D := .v (.pointer (some ⟨g, i, none⟩))
abbrev D.i (x : Int) : D := .v (.int .i64 x)
abbrev D.w (x : Int) : D := .v (.int .u64 x)
abbrev D.b (x : Bool) : D := .v (.bool x)
abbrev D.s (A : Option Addr) (n c : Nat) : D := .v (.slice A n c)
abbrev D.q {α : Type} (t : Ty α) (A : Option Addr) (c : Nat) (xs : List α) : D := .sl A xs.length c (RdS t A xs)
abbrev Seg.i (x : Int) : Seg := .one (.int .i64 x)
abbrev Seg.w (x : Int) : Seg := .one (.int .u64 x)
abbrev Seg.b (x : Bool) : Seg := .one (.bool x)
abbrev Seg.s (A : Option Addr) (n c : Nat) : Seg := .one (.slice A n c)
abbrev Seg.q {α : Type} (t : Ty α) (A : Option Addr) (c : Nat) (xs : List α) : Seg := .sl A xs.length c (RdS t A xs)
abbrev Seg.w4 (x : List Int) : Seg := .ints .u64 x 4
abbrev Seg.b20 (x : List Int) : Seg := .ints .u8 x 20
abbrev D.a4 (x : List Int) : D := .agg [.ints .u64 x 4]
abbrev z8 : List Int := [0, 0, 0, 0, 0, 0, 0, 0]
abbrev z20 : List Int := [0, 0, 0, 0, 0, 0, 0, 0, 0, 0, 0, 0, 0, 0, 0, 0, 0, 0, 0, 0]
abbrev z32 : List Int := [0, 0, 0, 0, 0, 0, 0, 0, 0, 0, 0, 0, 0, 0, 0, 0, 0, 0, 0, 0, 0, 0, 0, 0, 0, 0, 0, 0, 0, 0, 0, 0]
abbrev yi : Ty Int := .int .i64
abbrev yb : Ty Int := .int .u8
theorem Pull.h {T : List Res} {r : Res} : Pull (r :: T) r T := .here
theorem Pull.h1 {T : List Res} {r x1 : Res} : Pull (x1 :: r :: T) r (x1 :: T) := .there .h
theorem Pull.h2 {T : List Res} {r x1 x2 : Res} : Pull (x1 :: x2 :: r :: T) r (x1 :: x2 :: T) := .there .h1
theorem Pull.h3 {T : List Res} {r x1 x2 x3 : Res} : Pull (x1 :: x2 :: x3 :: r :: T) r (x1 :: x2 :: x3 :: T) := .there .h2
theorem Pull.h4 {T : List Res} {r x1 x2 x3 x4 : Res} : Pull (x1 :: x2 :: x3 :: x4 :: r :: T) r (x1 :: x2 :: x3 :: x4 :: T) := .there .h3
theorem Pull.h5 {T : List Res} {r x1 x2 x3 x4 x5 : Res} : Pull (x1 :: x2 :: x3 :: x4 :: x5 :: r :: T) r (x1 :: x2 :: x3 :: x4 :: x5 :: T) := .there .h4
theorem Pull.h6 {T : List Res} {r x1 x2 x3 x4 x5 x6 : Res} : Pull (x1 :: x2 :: x3 :: x4 :: x5 :: x6 :: r :: T) r (x1 :: x2 :: x3 :: x4 :: x5 :: x6 :: T) := .there .h5
theorem Pull.h7 {T : List Res} {r x1 x2 x3 x4 x5 x6 x7 : Res} : Pull (x1 :: x2 :: x3 :: x4 :: x5 :: x6 :: x7 :: r :: T) r (x1 :: x2 :: x3 :: x4 :: x5 :: x6 :: x7 :: T) := .there .h6
theorem Pull.h8 {T : List Res} {r x1 x2 x3 x4 x5 x6 x7 x8 : Res} : Pull (x1 :: x2 :: x3 :: x4 :: x5 :: x6 :: x7 :: x8 :: r :: T) r (x1 :: x2 :: x3 :: x4 :: x5 :: x6 :: x7 :: x8 :: T) := .there .h7
theorem Pull.h9 {T : List Res} {r x1 x2 x3 x4 x5 x6 x7 x8 x9 : Res} : Pull (x1 :: x2 :: x3 :: x4 :: x5 :: x6 :: x7 :: x8 :: x9 :: r :: T) r (x1 :: x2 :: x3 :: x4 :: x5 :: x6 :: x7 :: x8 :: x9 :: T) := .there .h8
theorem Pull.h10 {T : List Res} {r x1 x2 x3 x4 x5 x6 x7 x8 x9 x10 : Res} : Pull (x1 :: x2 :: x3 :: x4 :: x5 :: x6 :: x7 :: x8 :: x9 :: x10 :: r :: T) r (x1 :: x2 :: x3 :: x4 :: x5 :: x6 :: x7 :: x8 :: x9 :: x10 :: T) := .there .h9
theorem Pull.h11 {T : List Res} {r x1 x2 x3 x4 x5 x6 x7 x8 x9 x10 x11 : Res} : Pull (x1 :: x2 :: x3 :: x4 :: x5 :: x6 :: x7 :: x8 :: x9 :: x10 :: x11 :: r :: T) r (x1 :: x2 :: x3 :: x4 :: x5 :: x6 :: x7 :: x8 :: x9 :: x10 :: x11 :: T) := .there .h10
theorem Pull.h12 {T : List Res} {r x1 x2 x3 x4 x5 x6 x7 x8 x9 x10 x11 x12 : Res} : Pull (x1 :: x2 :: x3 :: x4 :: x5 :: x6 :: x7 :: x8 :: x9 :: x10 :: x11 :: x12 :: r :: T) r (x1 :: x2 :: x3 :: x4 :: x5 :: x6 :: x7 :: x8 :: x9 :: x10 :: x11 :: x12 :: T) := .there .h11
theorem Pull.h13 {T : List Res} {r x1 x2 x3 x4 x5 x6 x7 x8 x9 x10 x11 x12 x13 : Res} : Pull (x1 :: x2 :: x3 :: x4 :: x5 :: x6 :: x7 :: x8 :: x9 :: x10 :: x11 :: x12 :: x13 :: r :: T) r (x1 :: x2 :: x3 :: x4 :: x5 :: x6 :: x7 :: x8 :: x9 :: x10 :: x11 :: x12 :: x13 :: T) := .there .h12
theorem Pull.h14 {T : List Res} {r x1 x2 x3 x4 x5 x6 x7 x8 x9 x10 x11 x12 x13 x14 : Res} : Pull (x1 :: x2 :: x3 :: x4 :: x5 :: x6 :: x7 :: x8 :: x9 :: x10 :: x11 :: x12 :: x13 :: x14 :: r :: T) r (x1 :: x2 :: x3 :: x4 :: x5 :: x6 :: x7 :: x8 :: x9 :: x10 :: x11 :: x12 :: x13 :: x14 :: T) := .there .h13
theorem Pull.h15 {T : List Res} {r x1 x2 x3 x4 x5 x6 x7 x8 x9 x10 x11 x12 x13 x14 x15 : Res} : Pull (x1 :: x2 :: x3 :: x4 :: x5 :: x6 :: x7 :: x8 :: x9 :: x10 :: x11 :: x12 :: x13 :: x14 :: x15 :: r :: T) r (x1 :: x2 :: x3 :: x4 :: x5 :: x6 :: x7 :: x8 :: x9 :: x10 :: x11 :: x12 :: x13 :: x14 :: x15 :: T) := .there .h14
theorem Pull.h16 {T : List Res} {r x1 x2 x3 x4 x5 x6 x7 x8 x9 x10 x11 x12 x13 x14 x15 x16 : Res} : Pull (x1 :: x2 :: x3 :: x4 :: x5 :: x6 :: x7 :: x8 :: x9 :: x10 :: x11 :: x12 :: x13 :: x14 :: x15 :: x16 :: r :: T) r (x1 :: x2 :: x3 :: x4 :: x5 :: x6 :: x7 :: x8 :: x9 :: x10 :: x11 :: x12 :: x13 :: x14 :: x15 :: x16 :: T) := .there .h15
theorem Sel.c0 {T H' : List Res} {r : Res} (k : Sel (T) H') : Sel (r :: T) (r :: H') := .cons .h k
theorem Sel.c1 {T H' : List Res} {r x1 : Res} (k : Sel (x1 :: T) H') : Sel (x1 :: r :: T) (r :: H') := .cons .h1 k
theorem Sel.c2 {T H' : List Res} {r x1 x2 : Res} (k : Sel (x1 :: x2 :: T) H') : Sel (x1 :: x2 :: r :: T) (r :: H') := .cons .h2 k
theorem Sel.c3 {T H' : List Res} {r x1 x2 x3 : Res} (k : Sel (x1 :: x2 :: x3 :: T) H') : Sel (x1 :: x2 :: x3 :: r :: T) (r :: H') := .cons .h3 k
theorem Sel.c4 {T H' : List Res} {r x1 x2 x3 x4 : Res} (k : Sel (x1 :: x2 :: x3 :: x4 :: T) H') : Sel (x1 :: x2 :: x3 :: x4 :: r :: T) (r :: H') := .cons .h4 k
theorem Sel.c5 {T H' : List Res} {r x1 x2 x3 x4 x5 : Res} (k : Sel (x1 :: x2 :: x3 :: x4 :: x5 :: T) H') : Sel (x1 :: x2 :: x3 :: x4 :: x5 :: r :: T) (r :: H') := .cons .h5 k
theorem Sel.c6 {T H' : List Res} {r x1 x2 x3 x4 x5 x6 : Res} (k : Sel (x1 :: x2 :: x3 :: x4 :: x5 :: x6 :: T) H') : Sel (x1 :: x2 :: x3 :: x4 :: x5 :: x6 :: r :: T) (r :: H') := .cons .h6 k
theorem Sel.c7 {T H' : List Res} {r x1 x2 x3 x4 x5 x6 x7 : Res} (k : Sel (x1 :: x2 :: x3 :: x4 :: x5 :: x6 :: x7 :: T) H') : Sel (x1 :: x2 :: x3 :: x4 :: x5 :: x6 :: x7 :: r :: T) (r :: H') := .cons .h7 k
theorem Sel.c8 {T H' : List Res} {r x1 x2 x3 x4 x5 x6 x7 x8 : Res} (k : Sel (x1 :: x2 :: x3 :: x4 :: x5 :: x6 :: x7 :: x8 :: T) H') : Sel (x1 :: x2 :: x3 :: x4 :: x5 :: x6 :: x7 :: x8 :: r :: T) (r :: H') := .cons .h8 k
theorem Sel.c9 {T H' : List Res} {r x1 x2 x3 x4 x5 x6 x7 x8 x9 : Res} (k : Sel (x1 :: x2 :: x3 :: x4 :: x5 :: x6 :: x7 :: x8 :: x9 :: T) H') : Sel (x1 :: x2 :: x3 :: x4 :: x5 :: x6 :: x7 :: x8 :: x9 :: r :: T) (r :: H') := .cons .h9 k
theorem Sel.c10 {T H' : List Res} {r x1 x2 x3 x4 x5 x6 x7 x8 x9 x10 : Res} (k : Sel (x1 :: x2 :: x3 :: x4 :: x5 :: x6 :: x7 :: x8 :: x9 :: x10 :: T) H') : Sel (x1 :: x2 :: x3 :: x4 :: x5 :: x6 :: x7 :: x8 :: x9 :: x10 :: r :: T) (r :: H') := .cons .h10 k
theorem Int_.h {k : IntKind} {xs ys : List Int} {n : Nat} {T : List Seg} : Int_ (.ints k xs n :: T) 0 k xs n ys (.ints k ys n :: T) := .here
theorem Foc.h {T : List Res} {r r' : Res} : Foc (r :: T) r r' (r' :: T) := .here
theorem Foc.h1 {T : List Res} {r r' x1 : Res} : Foc (x1 :: r :: T) r r' (x1 :: r' :: T) := .there .h
theorem Foc.h2 {T : List Res} {r r' x1 x2 : Res} : Foc (x1 :: x2 :: r :: T) r r' (x1 :: x2 :: r' :: T) := .there .h1
theorem Foc.h3 {T : List Res} {r r' x1 x2 x3 : Res} : Foc (x1 :: x2 :: x3 :: r :: T) r r' (x1 :: x2 :: x3 :: r' :: T) := .there .h2
theorem Foc.h4 {T : List Res} {r r' x1 x2 x3 x4 : Res} : Foc (x1 :: x2 :: x3 :: x4 :: r :: T) r r' (x1 :: x2 :: x3 :: x4 :: r' :: T) := .there .h3
theorem Foc.h5 {T : List Res} {r r' x1 x2 x3 x4 x5 : Res} : Foc (x1 :: x2 :: x3 :: x4 :: x5 :: r :: T) r r' (x1 :: x2 :: x3 :: x4 :: x5 :: r' :: T) := .there .h4
theorem Foc.h6 {T : List Res} {r r' x1 x2 x3 x4 x5 x6 : Res} : Foc (x1 :: x2 :: x3 :: x4 :: x5 :: x6 :: r :: T) r r' (x1 :: x2 :: x3 :: x4 :: x5 :: x6 :: r' :: T) := .there .h5
theorem Foc.h7 {T : List Res} {r r' x1 x2 x3 x4 x5 x6 x7 : Res} : Foc (x1 :: x2 :: x3 :: x4 :: x5 :: x6 :: x7 :: r :: T) r r' (x1 :: x2 :: x3 :: x4 :: x5 :: x6 :: x7 :: r' :: T) := .there .h6
theorem Foc.h8 {T : List Res} {r r' x1 x2 x3 x4 x5 x6 x7 x8 : Res} : Foc (x1 :: x2 :: x3 :: x4 :: x5 :: x6 :: x7 :: x8 :: r :: T) r r' (x1 :: x2 :: x3 :: x4 :: x5 :: x6 :: x7 :: x8 :: r' :: T) := .there .h7
theorem Foc.h9 {T : List Res} {r r' x1 x2 x3 x4 x5 x6 x7 x8 x9 : Res} : Foc (x1 :: x2 :: x3 :: x4 :: x5 :: x6 :: x7 :: x8 :: x9 :: r :: T) r r' (x1 :: x2 :: x3 :: x4 :: x5 :: x6 :: x7 :: x8 :: x9 :: r' :: T) := .there .h8
theorem Foc.h10 {T : List Res} {r r' x1 x2 x3 x4 x5 x6 x7 x8 x9 x10 : Res} : Foc (x1 :: x2 :: x3 :: x4 :: x5 :: x6 :: x7 :: x8 :: x9 :: x10 :: r :: T) r r' (x1 :: x2 :: x3 :: x4 :: x5 :: x6 :: x7 :: x8 :: x9 :: x10 :: r' :: T) := .there .h9
theorem Foc.h11 {T : List Res} {r r' x1 x2 x3 x4 x5 x6 x7 x8 x9 x10 x11 : Res} : Foc (x1 :: x2 :: x3 :: x4 :: x5 :: x6 :: x7 :: x8 :: x9 :: x10 :: x11 :: r :: T) r r' (x1 :: x2 :: x3 :: x4 :: x5 :: x6 :: x7 :: x8 :: x9 :: x10 :: x11 :: r' :: T) := .there .h10
theorem Foc.h12 {T : List Res} {r r' x1 x2 x3 x4 x5 x6 x7 x8 x9 x10 x11 x12 : Res} : Foc (x1 :: x2 :: x3 :: x4 :: x5 :: x6 :: x7 :: x8 :: x9 :: x10 :: x11 :: x12 :: r :: T) r r' (x1 :: x2 :: x3 :: x4 :: x5 :: x6 :: x7 :: x8 :: x9 :: x10 :: x11 :: x12 :: r' :: T) := .there .h11
theorem Foc.h13 {T : List Res} {r r' x1 x2 x3 x4 x5 x6 x7 x8 x9 x10 x11 x12 x13 : Res} : Foc (x1 :: x2 :: x3 :: x4 :: x5 :: x6 :: x7 :: x8 :: x9 :: x10 :: x11 :: x12 :: x13 :: r :: T) r r' (x1 :: x2 :: x3 :: x4 :: x5 :: x6 :: x7 :: x8 :: x9 :: x10 :: x11 :: x12 :: x13 :: r' :: T) := .there .h12
theorem Foc.h14 {T : List Res} {r r' x1 x2 x3 x4 x5 x6 x7 x8 x9 x10 x11 x12 x13 x14 : Res} : Foc (x1 :: x2 :: x3 :: x4 :: x5 :: x6 :: x7 :: x8 :: x9 :: x10 :: x11 :: x12 :: x13 :: x14 :: r :: T) r r' (x1 :: x2 :: x3 :: x4 :: x5 :: x6 :: x7 :: x8 :: x9 :: x10 :: x11 :: x12 :: x13 :: x14 :: r' :: T) := .there .h13
theorem Foc.h15 {T : List Res} {r r' x1 x2 x3 x4 x5 x6 x7 x8 x9 x10 x11 x12 x13 x14 x15 : Res} : Foc (x1 :: x2 :: x3 :: x4 :: x5 :: x6 :: x7 :: x8 :: x9 :: x10 :: x11 :: x12 :: x13 :: x14 :: x15 :: r :: T) r r' (x1 :: x2 :: x3 :: x4 :: x5 :: x6 :: x7 :: x8 :: x9 :: x10 :: x11 :: x12 :: x13 :: x14 :: x15 :: r' :: T) := .there .h14
theorem Foc.h16 {T : List Res} {r r' x1 x2 x3 x4 x5 x6 x7 x8 x9 x10 x11 x12 x13 x14 x15 x16 : Res} : Foc (x1 :: x2 :: x3 :: x4 :: x5 :: x6 :: x7 :: x8 :: x9 :: x10 :: x11 :: x12 :: x13 :: x14 :: x15 :: x16 :: r :: T) r r' (x1 :: x2 :: x3 :: x4 :: x5 :: x6 :: x7 :: x8 :: x9 :: x10 :: x11 :: x12 :: x13 :: x14 :: x15 :: x16 :: r' :: T) := .there .h15
theorem Sel.n {H : List Res} : Sel H [] := .nil
section
variable {P : Program} {n : Nat} {m : Mem} {w0 : Base} {l : List (Nat × D)} {H : List Res} {a : Act} {w : World}
theorem c_enterZ {f : FuncId} {fn : Func} {c : Code} {R : Ending → World → Prop} {ds : List D} {m0 : Mem} {w1 : World} (hok : okL m0 ds) (hm : Pre m0 H w1) (hf : P.funcs[f]? = some fn) (hb : fn.body = some c) (hn : fn.ntmps = n) (hle : Nat.ble ds.length n = true)
    (K : ∀ b0, BX m0 w1 H = b0 → ∀ a, St n m0 b0 (numF 0 ds) H a w1 → c.wp P (bodyPost P fn R) a w1) : Calls P f (ds.map D.val).toArray w1 R :=
  c_enterX ds hf hb hn hle rfl hok hm K
theorem St.rt (S : St n m w0 l H a w) {m0 : Mem} {w1 : World} {H0 : List Res} (hb : BX m0 w1 H0 = w0) {d : D} (ok : d.ok m) : RetX m0 H0 (fun _ : Unit => d) (fun _ : Unit => []) w1 (.returned d.val) w :=
  S.retX (Hx := []) hb (fun _ : Unit => d) (fun _ : Unit => []) () .nil ok
theorem St.sb (S : St n m w0 l H a w) {l' : List (Nat × D)} {H' : List Res} (h : l'.map (fun p => fnd l p.1) = l'.map (fun p => some p.2)) (hH : Sel H H') : St n m w0 l' H' a w := S.sub (subR h) hH
end
def Ct {C : Type} (P : Program) (f : FuncId) (s : Prop) (H : List Res) (ds : List D) (d : C → D) (o : C → List Res) : Prop :=
  ∀ (_ : s) (mi : Mem) (w0 : World), okL mi ds → Pre mi H w0 → Calls P f (ds.map D.val).toArray w0 (RetX mi H d o w0)
theorem Cls.bk {P : Program} {n : Nat} {m m' : Mem} {w0 : Base} {l lq : List (Nat × D)} {H HS : List Res} {a : Act} {w w1 : World} {Q : Exit → Act → World → Prop} (C : Cls m w0 lq HS) (hc : WP_ m w0 HS w1) (S : St n m' w0 l H a w) (hs : Sel H HS) (hle : LeM m m') {c : Bool} {R : Act → World → Prop} (h : WP_ m w0 HS w → R a w) : wpList P #[] (toQ (fun a' w' => (c = true → WP_ m w0 HS w') ∧ R a' w') (NoPanic Q)) [] a w :=
  h_back ⟨fun _ => C.again hc S hs hle, h (C.again hc S hs hle)⟩
end GW
