/-
  GW, part 2c: the laws of single operations for regions whose order is open: made by program (mkqui.py) out of those for regions whose order is fixed.
-/
import Derived.Test.YtmidfllhoogifaaGWSli
import Derived.Deep.Quiet
set_option linter.unusedVariables false
set_option linter.unusedSimpArgs false
namespace GW
open Go Go.RowKit
section
variable {P : Program} {n : Nat} {m : Mem} {w0 : Base} {l : List (Nat × D)} {H : List Res} {a : Act} {w : World}
variable {ops : Array Oper} {Q : Exit → Act → World → Prop} {Qa : Act → Prop} {rest : List Oper} {ty : TypeId} {ps : String} {af : Array Edge} {t : Nat}
/-- The relation in every world of the class (there is one). -/
def QSt (n : Nat) (m : Mem) (w0 : Base) (l : List (Nat × D)) (H : List Res) (a : Act) : Prop := (∃ w, St n m w0 l H a w) ∧ ∀ w, WP_ m w0 H w → St n m w0 l H a w
theorem QSt.of (S : St n m w0 l H a w) : QSt n m w0 l H a := ⟨⟨w, S⟩, fun _ h => S.at_ h⟩
theorem QSt.put (QS : QSt n m w0 l H a) {d : D} (ht : Nat.blt t n = true) (hd : d.ok m) : QSt n m w0 ((t, d) :: l) H (a.put (some t) d.val) := by
  obtain ⟨⟨w, S⟩, h⟩ := QS
  exact ⟨⟨w, S.put ht hd⟩, fun w' hw => (h w' hw).put ht hd⟩
/-- Operations that give a value, or nothing, and enter no function. -/
def quietOp : Op → Bool
  | .call c => match c.callee with
    | .builtin .len => true
    | .builtin .min => true
    | .builtin .max => true
    | _ => false
  | .go _ => false
  | .defer _ => false
  | .send _ _ => false
  | .recv _ _ _ => false
  | .select _ _ => false
  | .nilCheck _ => false
  | _ => true
def Plain_ : Result Next → Prop
  | .ok (.value _) _ => True
  | .ok .skip _ => True
  | .ok _ _ => False
  | .halt _ _ => True
theorem plain_v (s : Sem Value) (w : World) : Plain_ ((do pure (Next.value (← s)) : Sem Next).run P w) := by
  rw [Sem.run_bind]
  cases s.run P w with
  | ok v w' => exact trivial
  | halt h w' => exact trivial
theorem plain_u (s : Sem Unit) (w : World) : Plain_ ((do s; pure Next.skip : Sem Next).run P w) := by
  rw [Sem.run_bind]
  cases s.run P w with
  | ok v w' => exact trivial
  | halt h w' => exact trivial
theorem plain_p (v : Value) (w : World) : Plain_ ((pure (Next.value v) : Sem Next).run P w) := trivial
theorem plain_op (ρ : Operand → Value) (o : Oper) (h : quietOp o.op = true) (w : World) : Plain_ ((execOp ρ o).run P w) := by
  obtain ⟨dst, op, ty, ps, af, g⟩ := o
  cases op
  case pick c x y =>
    simp only [execOp, Sem.run_bind]
    cases (asBool (ρ c)).run P w with
    | ok v w' => exact trivial
    | halt h w' => exact trivial
  case call c =>
    obtain ⟨callee, xs, ts⟩ := c
    cases callee with
    | value f => simp [quietOp] at h
    | invoke r m => simp [quietOp] at h
    | builtin b =>
      cases b
      case len => exact plain_v (Builtin.len_ _ _ _) w
      case min => exact plain_v (Builtin.min_ _ _ _) w
      case max => exact plain_v (Builtin.max_ _ _ _) w
      all_goals simp [quietOp] at h
  all_goals first
    | exact plain_v _ w
    | exact plain_u _ w
    | exact plain_p _ w
    | simp [quietOp] at h
theorem run_of (S : St n m w0 l H a w) {op : Op} {dv : D} (ht : Nat.blt t n = true) (hq : quietOp op = true)
    (h : ∀ {Q : Exit → Act → World → Prop}, (∀ a', St n m w0 ((t, dv) :: l) H a' w → wpList P #[] Q [] a' w) → wpList P #[] Q [⟨some t, op, ty, ps, af, none⟩] a w) :
    (execOp a.eval ⟨some t, op, ty, ps, af, none⟩).run P w = .ok (.value dv.val) w ∨ ((execOp a.eval ⟨some t, op, ty, ps, af, none⟩).run P w = .ok .skip w ∧ dv.val = undef) := by
  have htn : t < a.tmps.size := by rw [S.size]; exact Nat.le_of_ble_eq_true ht
  have h1 := h (Q := fun e a' w' => e = .normal ∧ w' = w ∧ a'.tmps[t]? = some dv.val) (fun a' S' => ⟨rfl, rfl, (S'.get t dv (by rw [fnd_cons, if_pos rfl])).1⟩)
  unfold wpList at h1
  rw [if_pos (by simp [Region.wanted])] at h1
  rcases h1 with h1 | ⟨_, _, _, h2, _⟩
  · have hp := plain_op (P := P) a.eval ⟨some t, op, ty, ps, af, none⟩ hq w
    unfold Oper.wp at h1
    generalize (execOp a.eval ⟨some t, op, ty, ps, af, none⟩).run P w = r at h1 hp
    cases r with
    | ok x w' =>
      cases x with
      | value v =>
        obtain ⟨_, rfl, h3⟩ := h1
        have h4 : (a.put (some t) v).tmps[t]? = some v := by simp [Act.put, htn]
        rw [h4] at h3
        left
        rw [Option.some.inj h3]
      | skip =>
        obtain ⟨_, rfl, h3⟩ := h1
        have h4 : (a.put (some t) undef).tmps[t]? = some undef := by simp [Act.put, htn]
        rw [h4] at h3
        right
        exact ⟨rfl, (Option.some.inj h3).symm⟩
      | _ => exact hp.elim
    | halt x w' =>
      cases x with
      | panic v => obtain ⟨h2, _⟩ := h1; cases h2
      | _ => exact h1.elim
  · cases h2
theorem ok_of (S : St n m w0 l H a w) {op : Op} {dv : D}
    (h : ∀ {Q : Exit → Act → World → Prop}, (∀ a', St n m w0 ((t, dv) :: l) H a' w → wpList P #[] Q [] a' w) → wpList P #[] Q [⟨some t, op, ty, ps, af, none⟩] a w) (hq : quietOp op = true) : dv.ok m := by
  have h1 := h (Q := fun e a' w' => e = .normal ∧ dv.ok m) (fun a' S' => ⟨rfl, (S'.get t dv (by rw [fnd_cons, if_pos rfl])).2⟩)
  unfold wpList at h1
  rw [if_pos (by simp [Region.wanted])] at h1
  rcases h1 with h1 | ⟨_, _, _, h2, _⟩
  · have hp := plain_op (P := P) a.eval ⟨some t, op, ty, ps, af, none⟩ hq w
    unfold Oper.wp at h1
    generalize (execOp a.eval ⟨some t, op, ty, ps, af, none⟩).run P w = r at h1 hp
    cases r with
    | ok x w' =>
      cases x with
      | value v => exact h1.2
      | skip => exact h1.2
      | _ => exact hp.elim
    | halt x w' =>
      cases x with
      | panic v => obtain ⟨h2, _⟩ := h1; cases h2
      | _ => exact h1.elim
  · cases h2
theorem wpQuiet_plain {C : World → Prop} {o : Oper} {v : Value} (hg : o.guard = none) (h1 : ∀ w, C w → o.quietAt P a C w v) (h2 : wpQuiet P ops C Qa rest (a.put o.dst v)) : wpQuiet P ops C Qa (o :: rest) a := by
  unfold wpQuiet
  rw [if_pos (by simp [Region.wanted, hg])]
  exact ⟨v, h1, h2⟩
theorem q_of (QS : QSt n m w0 l H a) {op : Op} {dv : D} (ht : Nat.blt t n = true) (hq : quietOp op = true)
    (h : ∀ w, St n m w0 l H a w → ∀ {Q : Exit → Act → World → Prop}, (∀ a', St n m w0 ((t, dv) :: l) H a' w → wpList P #[] Q [] a' w) → wpList P #[] Q [⟨some t, op, ty, ps, af, none⟩] a w)
    (K : ∀ a', QSt n m w0 ((t, dv) :: l) H a' → wpQuiet P ops (WP_ m w0 H) Qa rest a') : wpQuiet P ops (WP_ m w0 H) Qa (⟨some t, op, ty, ps, af, none⟩ :: rest) a := by
  obtain ⟨w1, S1⟩ := QS.1
  refine wpQuiet_plain (v := dv.val) rfl (fun w hw => ?_) (K _ (QS.put ht (ok_of S1 (h w1 S1) hq)))
  have S := QS.2 w hw
  unfold Oper.quietAt
  rcases run_of S ht hq (h w S) with e | ⟨e, e2⟩
  · rw [e]; exact ⟨rfl, rfl⟩
  · rw [e]; exact ⟨rfl, e2⟩
/-- A call that gives a value without memory of its own. -/
theorem q_call (QS : QSt n m w0 l H a) {f : FuncId} {xs : List Operand} {ts : Array TypeId} {ds : List D} {d : D} (hf : Fn_ P f) (hx : evos l xs = some ds) (ht : Nat.blt t n = true)
    (hc : ∀ w, okL m ds → Frz m w → Calls P f (ds.map D.val).toArray w (Ret m d w))
    (K : ∀ a', QSt n m w0 ((t, d) :: l) H a' → wpQuiet P ops (WP_ m w0 H) Qa rest a') : wpQuiet P ops (WP_ m w0 H) Qa (⟨some t, .call ⟨.value (.func f), xs.toArray, ts⟩, ty, ps, af, none⟩ :: rest) a := by
  have hd : d.ok m := by
    obtain ⟨w1, S1⟩ := QS.1
    obtain ⟨e, w', fr, hr, _⟩ := hc w1 (okL_all.2 (S1.evos hx).2) S1.frz []
    exact hr.2.1
  refine wpQuiet_plain (v := d.val) rfl (fun w hw => ?_) (K _ (QS.put ht hd))
  have S := QS.2 w hw
  unfold Oper.quietAt
  rw [run_call hf a.eval _ xs ts rfl rfl, (S.evos hx).1]
  refine ⟨rfl, (hc w (okL_all.2 (S.evos hx).2) S.frz).mono fun e w' ⟨he, _, hb⟩ => ⟨he, ?_⟩⟩
  exact (S.after hb (LeM.refl m) (fun p v hv => below_cellM hb (S.frz p v hv)) (fun p v hv => .inl ⟨v, hv⟩)).wp_
theorem q_nil (h : Qa a) : wpQuiet P ops (WP_ m w0 H) Qa [] a := h
theorem q_gT (QS : QSt n m w0 l H a) {lo : List Oper} {dst : Option Tmp} {op : Op} {j : Nat} {want b : Bool} {tj : Tmp} (hj : (lo[j]?).bind (·.dst) = some tj) (hv : fnd l tj = some (.v (.bool b))) (hb : b = want)
    (h : wpQuiet P lo.toArray (WP_ m w0 H) Qa (⟨dst, op, ty, ps, af, none⟩ :: rest) a) : wpQuiet P lo.toArray (WP_ m w0 H) Qa (⟨dst, op, ty, ps, af, some (j, want)⟩ :: rest) a := by
  obtain ⟨w1, S⟩ := QS.1
  have hw : Region.wanted ⟨dst, op, ty, ps, af, some (j, want)⟩ (yielded lo.toArray a.tmps) = true := by
    obtain ⟨oj, h1, h2⟩ := Option.bind_eq_some_iff.1 hj
    have h3 := (S.get _ _ hv).1
    simp [Region.wanted, yielded, h1, h2, h3, D.val, hb]
  unfold wpQuiet at h ⊢
  rw [if_pos (by simp [Region.wanted])] at h
  rw [if_pos hw]
  exact h
theorem q_gF (QS : QSt n m w0 l H a) {lo : List Oper} {op : Op} {j : Nat} {want b : Bool} {tj : Tmp} (hj : (lo[j]?).bind (·.dst) = some tj) (hv : fnd l tj = some (.v (.bool b))) (hb : b = !want) (ht : Nat.blt t n = true)
    (K : ∀ a', QSt n m w0 ((t, .u) :: l) H a' → wpQuiet P lo.toArray (WP_ m w0 H) Qa rest a') : wpQuiet P lo.toArray (WP_ m w0 H) Qa (⟨some t, op, ty, ps, af, some (j, want)⟩ :: rest) a := by
  obtain ⟨w1, S⟩ := QS.1
  have hw : Region.wanted ⟨some t, op, ty, ps, af, some (j, want)⟩ (yielded lo.toArray a.tmps) = false := by
    obtain ⟨oj, h1, h2⟩ := Option.bind_eq_some_iff.1 hj
    have h3 := (S.get _ _ hv).1
    simp [Region.wanted, yielded, h1, h2, h3, D.val, hb]
  unfold wpQuiet
  rw [if_neg (by simp [hw])]
  exact K _ (QS.put (d := .u) ht trivial)
theorem q_gU (QS : QSt n m w0 l H a) {lo : List Oper} {op : Op} {j : Nat} {want : Bool} {tj : Tmp} (hj : (lo[j]?).bind (·.dst) = some tj) (hv : fnd l tj = some .u) (ht : Nat.blt t n = true)
    (K : ∀ a', QSt n m w0 ((t, .u) :: l) H a' → wpQuiet P lo.toArray (WP_ m w0 H) Qa rest a') : wpQuiet P lo.toArray (WP_ m w0 H) Qa (⟨some t, op, ty, ps, af, some (j, want)⟩ :: rest) a := by
  obtain ⟨w1, S⟩ := QS.1
  have hw : Region.wanted ⟨some t, op, ty, ps, af, some (j, want)⟩ (yielded lo.toArray a.tmps) = false := by
    obtain ⟨oj, h1, h2⟩ := Option.bind_eq_some_iff.1 hj
    have h3 := (S.get _ _ hv).1
    simp [Region.wanted, yielded, h1, h2, h3, D.val, undef]
  unfold wpQuiet
  rw [if_neg (by simp [hw])]
  exact K _ (QS.put (d := .u) ht trivial)
/-- A region whose order is open. -/
theorem c_draw {id : Nat} {lo : List Oper} (S : St n m w0 l H a w) (hm : P.follows .mixedOrders = true) (hB : Region.lexB .any lo.toArray = true)
    (h : ∀ (_ : QSt n m w0 l H a), wpQuiet P lo.toArray (WP_ m w0 H) (fun a' => ∀ w', WP_ m w0 H w' → Q .normal a' w') lo a) : (Code.region id lo.toArray true).wp P Q a w :=
  wp_region_quiet hm hB (S.world ⟨rfl, rfl, rfl, Nat.le_refl _, fun _ _ _ => rfl⟩ : St n m w0 l H a { w with drawn := w.drawn + 1 }).wp_ (h (QSt.of S))
theorem c_drawS {id : Nat} {lo : List Oper} {y : Code} (S : St n m w0 l H a w) (hm : P.follows .mixedOrders = true) (hB : Region.lexB .any lo.toArray = true)
    (h : ∀ (_ : QSt n m w0 l H a), wpQuiet P lo.toArray (WP_ m w0 H) (fun a' => ∀ w', WP_ m w0 H w' → Exit.then (fun a w => y.wp P Q a w) Q .normal a' w') lo a) : (Code.seq (.region id lo.toArray true) y).wp P Q a w :=
  wp_seq (c_draw S hm hB h)
theorem q_end {Q' : Act → World → Prop} (QS : QSt n m w0 l H a) (h : ∀ w, St n m w0 l H a w → Q' a w) : wpQuiet P ops (WP_ m w0 H) (fun a' => ∀ w', WP_ m w0 H w' → Q' a' w') [] a := fun w' hw => h w' (QS.2 w' hw)

theorem q_move (QS : QSt n m w0 l H a) {x : Operand} {d : D} (hx : evo l x = some d) (ht : Nat.blt t n = true)
    (K : ∀ a', QSt n m w0 ((t, d) :: l) H a' → wpQuiet P ops (WP_ m w0 H) Qa rest a') : wpQuiet P ops (WP_ m w0 H) Qa (⟨some t, .move x, ty, ps, af, none⟩ :: rest) a :=
  q_of QS ht rfl (fun w S _ h => s_move (ops := #[]) (rest := []) (ty := ty) (ps := ps) (af := af) (P := P) S (x := x) (d := d) (hx := hx) (ht := ht) h) K
theorem q_assign (QS : QSt n m w0 l H a) {x : Operand} {d : D} (hx : evo l x = some d) (ht : Nat.blt t n = true)
    (K : ∀ a', QSt n m w0 ((t, d) :: l) H a' → wpQuiet P ops (WP_ m w0 H) Qa rest a') : wpQuiet P ops (WP_ m w0 H) Qa (⟨some t, .assign x, ty, ps, af, none⟩ :: rest) a :=
  q_of QS ht rfl (fun w S _ h => s_assign (ops := #[]) (rest := []) (ty := ty) (ps := ps) (af := af) (P := P) S (x := x) (d := d) (hx := hx) (ht := ht) h) K
theorem q_bin (QS : QSt n m w0 l H a) {bo : BinOp} {xt yt : TypeId} {x y : Operand} {k : IntKind} {p q : Int} {v : Value} (hx : evo l x = some (.v (.int k p))) (hy : evo l y = some (.v (.int k q)))
    (hb : binI bo k p q = some v) (ht : Nat.blt t n = true)
    (K : ∀ a', QSt n m w0 ((t, .v v) :: l) H a' → wpQuiet P ops (WP_ m w0 H) Qa rest a') : wpQuiet P ops (WP_ m w0 H) Qa (⟨some t, .binOp bo xt x y yt, ty, ps, af, none⟩ :: rest) a :=
  q_of QS ht rfl (fun w S _ h => s_bin (ops := #[]) (rest := []) (ty := ty) (ps := ps) (af := af) (P := P) S (bo := bo) (xt := xt) (yt := yt) (x := x) (y := y) (k := k) (p := p) (q := q) (v := v) (hx := hx) (hy := hy) (hb := hb) (ht := ht) h) K
theorem q_quo (QS : QSt n m w0 l H a) {xt yt : TypeId} {x y : Operand} {k : IntKind} {p q : Int} (hx : evo l x = some (.v (.int k p))) (hy : evo l y = some (.v (.int k q)))
    (hq : q ≠ 0) (ht : Nat.blt t n = true)
    (K : ∀ a', QSt n m w0 ((t, .v (.int k (wr k (p.tdiv q)))) :: l) H a' → wpQuiet P ops (WP_ m w0 H) Qa rest a') : wpQuiet P ops (WP_ m w0 H) Qa (⟨some t, .binOp .quo xt x y yt, ty, ps, af, none⟩ :: rest) a :=
  q_of QS ht rfl (fun w S _ h => s_quo (ops := #[]) (rest := []) (ty := ty) (ps := ps) (af := af) (P := P) S (xt := xt) (yt := yt) (x := x) (y := y) (k := k) (p := p) (q := q) (hx := hx) (hy := hy) (hq := hq) (ht := ht) h) K
theorem q_rem (QS : QSt n m w0 l H a) {xt yt : TypeId} {x y : Operand} {k : IntKind} {p q : Int} (hx : evo l x = some (.v (.int k p))) (hy : evo l y = some (.v (.int k q)))
    (hq : q ≠ 0) (ht : Nat.blt t n = true)
    (K : ∀ a', QSt n m w0 ((t, .v (.int k (p.tmod q))) :: l) H a' → wpQuiet P ops (WP_ m w0 H) Qa rest a') : wpQuiet P ops (WP_ m w0 H) Qa (⟨some t, .binOp .rem xt x y yt, ty, ps, af, none⟩ :: rest) a :=
  q_of QS ht rfl (fun w S _ h => s_rem (ops := #[]) (rest := []) (ty := ty) (ps := ps) (af := af) (P := P) S (xt := xt) (yt := yt) (x := x) (y := y) (k := k) (p := p) (q := q) (hx := hx) (hy := hy) (hq := hq) (ht := ht) h) K
theorem q_shl (QS : QSt n m w0 l H a) {xt yt : TypeId} {x y : Operand} {k yk : IntKind} {p q : Int} {e : Nat} (hx : evo l x = some (.v (.int k p))) (hy : evo l y = some (.v (.int yk q)))
    (hq : 0 ≤ q) (he : min q.toNat k.bits = e) (ht : Nat.blt t n = true)
    (K : ∀ a', QSt n m w0 ((t, .v (.int k (shl k p e))) :: l) H a' → wpQuiet P ops (WP_ m w0 H) Qa rest a') : wpQuiet P ops (WP_ m w0 H) Qa (⟨some t, .binOp .shl xt x y yt, ty, ps, af, none⟩ :: rest) a :=
  q_of QS ht rfl (fun w S _ h => s_shl (ops := #[]) (rest := []) (ty := ty) (ps := ps) (af := af) (P := P) S (xt := xt) (yt := yt) (x := x) (y := y) (k := k) (yk := yk) (p := p) (q := q) (e := e) (hx := hx) (hy := hy) (hq := hq) (he := he) (ht := ht) h) K
theorem q_shr (QS : QSt n m w0 l H a) {xt yt : TypeId} {x y : Operand} {k yk : IntKind} {p q : Int} {e : Nat} (hx : evo l x = some (.v (.int k p))) (hy : evo l y = some (.v (.int yk q)))
    (hq : 0 ≤ q) (he : min q.toNat k.bits = e) (ht : Nat.blt t n = true)
    (K : ∀ a', QSt n m w0 ((t, .v (.int k (shr p e))) :: l) H a' → wpQuiet P ops (WP_ m w0 H) Qa rest a') : wpQuiet P ops (WP_ m w0 H) Qa (⟨some t, .binOp .shr xt x y yt, ty, ps, af, none⟩ :: rest) a :=
  q_of QS ht rfl (fun w S _ h => s_shr (ops := #[]) (rest := []) (ty := ty) (ps := ps) (af := af) (P := P) S (xt := xt) (yt := yt) (x := x) (y := y) (k := k) (yk := yk) (p := p) (q := q) (e := e) (hx := hx) (hy := hy) (hq := hq) (he := he) (ht := ht) h) K
theorem q_un (QS : QSt n m w0 l H a) {uo : UnOp} {xt : TypeId} {x : Operand} {k : IntKind} {p : Int} {v : Value} (hx : evo l x = some (.v (.int k p)))
    (hb : unI uo k p = some v) (ht : Nat.blt t n = true)
    (K : ∀ a', QSt n m w0 ((t, .v v) :: l) H a' → wpQuiet P ops (WP_ m w0 H) Qa rest a') : wpQuiet P ops (WP_ m w0 H) Qa (⟨some t, .unOp uo xt x, ty, ps, af, none⟩ :: rest) a :=
  q_of QS ht rfl (fun w S _ h => s_un (ops := #[]) (rest := []) (ty := ty) (ps := ps) (af := af) (P := P) S (uo := uo) (xt := xt) (x := x) (k := k) (p := p) (v := v) (hx := hx) (hb := hb) (ht := ht) h) K
theorem q_not (QS : QSt n m w0 l H a) {xt : TypeId} {x : Operand} {b : Bool} (hx : evo l x = some (.v (.bool b))) (ht : Nat.blt t n = true)
    (K : ∀ a', QSt n m w0 ((t, .v (.bool (!b))) :: l) H a' → wpQuiet P ops (WP_ m w0 H) Qa rest a') : wpQuiet P ops (WP_ m w0 H) Qa (⟨some t, .unOp .not xt x, ty, ps, af, none⟩ :: rest) a :=
  q_of QS ht rfl (fun w S _ h => s_not (ops := #[]) (rest := []) (ty := ty) (ps := ps) (af := af) (P := P) S (xt := xt) (x := x) (b := b) (hx := hx) (ht := ht) h) K
theorem q_conv (QS : QSt n m w0 l H a) {src dst : TypeId} {x : Operand} {k k' : IntKind} {p : Int} (hx : evo l x = some (.v (.int k p)))
    (hs : (P.underlying src).isSome = true) (hd : P.underlying dst = some (.int k')) (ht : Nat.blt t n = true)
    (K : ∀ a', QSt n m w0 ((t, .v (.int k' (wr k' p))) :: l) H a' → wpQuiet P ops (WP_ m w0 H) Qa rest a') : wpQuiet P ops (WP_ m w0 H) Qa (⟨some t, .convert src dst x, ty, ps, af, none⟩ :: rest) a :=
  q_of QS ht rfl (fun w S _ h => s_conv (ops := #[]) (rest := []) (ty := ty) (ps := ps) (af := af) (P := P) S (src := src) (dst := dst) (x := x) (k := k) (k' := k') (p := p) (hx := hx) (hs := hs) (hd := hd) (ht := ht) h) K
theorem q_eqb (QS : QSt n m w0 l H a) {xt yt : TypeId} {x y : Operand} {p q : Bool} (hx : evo l x = some (.v (.bool p))) (hy : evo l y = some (.v (.bool q)))
    (hu : P.underlying xt = some .bool) (ht : Nat.blt t n = true)
    (K : ∀ a', QSt n m w0 ((t, .v (.bool (p == q))) :: l) H a' → wpQuiet P ops (WP_ m w0 H) Qa rest a') : wpQuiet P ops (WP_ m w0 H) Qa (⟨some t, .binOp .eql xt x y yt, ty, ps, af, none⟩ :: rest) a :=
  q_of QS ht rfl (fun w S _ h => s_eqb (ops := #[]) (rest := []) (ty := ty) (ps := ps) (af := af) (P := P) S (xt := xt) (yt := yt) (x := x) (y := y) (p := p) (q := q) (hx := hx) (hy := hy) (hu := hu) (ht := ht) h) K
theorem q_neb (QS : QSt n m w0 l H a) {xt yt : TypeId} {x y : Operand} {p q : Bool} (hx : evo l x = some (.v (.bool p))) (hy : evo l y = some (.v (.bool q)))
    (hu : P.underlying xt = some .bool) (ht : Nat.blt t n = true)
    (K : ∀ a', QSt n m w0 ((t, .v (.bool (!(p == q)))) :: l) H a' → wpQuiet P ops (WP_ m w0 H) Qa rest a') : wpQuiet P ops (WP_ m w0 H) Qa (⟨some t, .binOp .neq xt x y yt, ty, ps, af, none⟩ :: rest) a :=
  q_of QS ht rfl (fun w S _ h => s_neb (ops := #[]) (rest := []) (ty := ty) (ps := ps) (af := af) (P := P) S (xt := xt) (yt := yt) (x := x) (y := y) (p := p) (q := q) (hx := hx) (hy := hy) (hu := hu) (ht := ht) h) K
theorem q_pick (QS : QSt n m w0 l H a) {c x y : Operand} {b : Bool} {d : D} (hc : evo l c = some (.v (.bool b))) (hx : evo l (cond b x y) = some d) (ht : Nat.blt t n = true)
    (K : ∀ a', QSt n m w0 ((t, d) :: l) H a' → wpQuiet P ops (WP_ m w0 H) Qa rest a') : wpQuiet P ops (WP_ m w0 H) Qa (⟨some t, .pick c x y, ty, ps, af, none⟩ :: rest) a :=
  q_of QS ht rfl (fun w S _ h => s_pick (ops := #[]) (rest := []) (ty := ty) (ps := ps) (af := af) (P := P) S (c := c) (x := x) (y := y) (b := b) (d := d) (hc := hc) (hx := hx) (ht := ht) h) K
theorem q_extract (QS : QSt n m w0 l H a) {x : Operand} {i : Nat} {ds : List (Bool × List Seg)} {d : Bool × List Seg} {d' : D} (hx : evo l x = some (.tup ds)) (hi : ds[i]? = some d) (hd : pd d = d') (ht : Nat.blt t n = true)
    (K : ∀ a', QSt n m w0 ((t, d') :: l) H a' → wpQuiet P ops (WP_ m w0 H) Qa rest a') : wpQuiet P ops (WP_ m w0 H) Qa (⟨some t, .extract x i, ty, ps, af, none⟩ :: rest) a :=
  q_of QS ht rfl (fun w S _ h => s_extract (ops := #[]) (rest := []) (ty := ty) (ps := ps) (af := af) (P := P) S (x := x) (i := i) (ds := ds) (d := d) (d' := d') (hx := hx) (hi := hi) (hd := hd) (ht := ht) h) K
theorem q_loada (QS : QSt n m w0 l H a) {e : TypeId} {x : Operand} {g o z : Nat} {e' : TypeId} {s s' : List Seg} {T : List Res} (hx : evo l x = some (.v (.pointer (some ⟨g, o, none⟩)))) (hf : Foc H (Res.cells g e' s) (Res.cells g e' s) T)
    (hT : tyI P e = some (true, z)) (hs : subS s o z = some s') (ht : Nat.blt t n = true)
    (K : ∀ a', QSt n m w0 ((t, .agg s') :: l) H a' → wpQuiet P ops (WP_ m w0 H) Qa rest a') : wpQuiet P ops (WP_ m w0 H) Qa (⟨some t, .load e x, ty, ps, af, none⟩ :: rest) a :=
  q_of QS ht rfl (fun w S _ h => s_loada (ops := #[]) (rest := []) (ty := ty) (ps := ps) (af := af) (P := P) S (e := e) (x := x) (g := g) (o := o) (z := z) (e' := e') (s := s) (s' := s') (T := T) (hx := hx) (hf := hf) (hT := hT) (hs := hs) (ht := ht) h) K
theorem q_load1 (QS : QSt n m w0 l H a) {e : TypeId} {x : Operand} {g o z : Nat} {e' : TypeId} {s : List Seg} {v : Value} {T : List Res} (hx : evo l x = some (.v (.pointer (some ⟨g, o, none⟩)))) (hf : Foc H (Res.cells g e' s) (Res.cells g e' s) T)
    (hT : tyI P e = some (false, z)) (hs : subS s o 1 = some [.one v]) (ht : Nat.blt t n = true)
    (K : ∀ a', QSt n m w0 ((t, .v v) :: l) H a' → wpQuiet P ops (WP_ m w0 H) Qa rest a') : wpQuiet P ops (WP_ m w0 H) Qa (⟨some t, .load e x, ty, ps, af, none⟩ :: rest) a :=
  q_of QS ht rfl (fun w S _ h => s_load1 (ops := #[]) (rest := []) (ty := ty) (ps := ps) (af := af) (P := P) S (e := e) (x := x) (g := g) (o := o) (z := z) (e' := e') (s := s) (v := v) (T := T) (hx := hx) (hf := hf) (hT := hT) (hs := hs) (ht := ht) h) K
theorem q_loadi (QS : QSt n m w0 l H a) {e : TypeId} {x : Operand} {g o z b c : Nat} {e' : TypeId} {s s' : List Seg} {k : IntKind} {xs : List Int} {i : Int} {T : List Res} (hx : evo l x = some (.v (.pointer (some ⟨g, o, none⟩)))) (hf : Foc H (Res.cells g e' s) (Res.cells g e' s) T)
    (hT : tyI P e = some (false, z)) (hs : Int_ s b k xs c xs s') (ho : b + i.toNat = o) (h0 : 0 ≤ i) (h1 : i < c) (ht : Nat.blt t n = true)
    (K : ∀ a', QSt n m w0 ((t, .v (.int k (rd xs i))) :: l) H a' → wpQuiet P ops (WP_ m w0 H) Qa rest a') : wpQuiet P ops (WP_ m w0 H) Qa (⟨some t, .load e x, ty, ps, af, none⟩ :: rest) a :=
  q_of QS ht rfl (fun w S _ h => s_loadi (ops := #[]) (rest := []) (ty := ty) (ps := ps) (af := af) (P := P) S (e := e) (x := x) (g := g) (o := o) (z := z) (b := b) (c := c) (e' := e') (s := s) (s' := s') (k := k) (xs := xs) (i := i) (T := T) (hx := hx) (hf := hf) (hT := hT) (hs := hs) (ho := ho) (h0 := h0) (h1 := h1) (ht := ht) h) K
theorem q_faddr (QS : QSt n m w0 l H a) {e : TypeId} {x : Operand} {f g o off o' : Nat} {ft : TypeId} {b : Bool} {z : Nat} (hx : evo l x = some (.v (.pointer (some ⟨g, o, none⟩))))
    (hrun : ∀ (w : World), (Instr.fieldAt e (.pointer (some ⟨g, o, none⟩)) f).run P w = .ok (.pointer (some ⟨g, o', none⟩)) w) (ht : Nat.blt t n = true)
    (K : ∀ a', QSt n m w0 ((t, .v (.pointer (some ⟨g, o', none⟩))) :: l) H a' → wpQuiet P ops (WP_ m w0 H) Qa rest a') : wpQuiet P ops (WP_ m w0 H) Qa (⟨some t, .fieldAddr e x f, ty, ps, af, none⟩ :: rest) a :=
  q_of QS ht rfl (fun w S _ h => s_faddr (ops := #[]) (rest := []) (ty := ty) (ps := ps) (af := af) (P := P) S (e := e) (x := x) (f := f) (g := g) (o := o) (off := off) (o' := o') (ft := ft) (b := b) (z := z) (hx := hx) (hrun := hrun) (ht := ht) h) K
theorem q_iaddr (QS : QSt n m w0 l H a) {e : TypeId} {x y : Operand} {g o o' c z : Nat} {et : TypeId} {b : Bool} {k : IntKind} {i : Int} (hx : evo l x = some (.v (.pointer (some ⟨g, o, none⟩)))) (hy : evo l y = some (.v (.int k i)))
    (hu : P.underlying e = some (.array c et)) (hT : tyI P et = some (b, z)) (h0 : 0 ≤ i) (h1 : i < c) (ho : o + i.toNat * z = o') (ht : Nat.blt t n = true)
    (K : ∀ a', QSt n m w0 ((t, .v (.pointer (some ⟨g, o', none⟩))) :: l) H a' → wpQuiet P ops (WP_ m w0 H) Qa rest a') : wpQuiet P ops (WP_ m w0 H) Qa (⟨some t, .indexAddr e x y, ty, ps, af, none⟩ :: rest) a :=
  q_of QS ht rfl (fun w S _ h => s_iaddr (ops := #[]) (rest := []) (ty := ty) (ps := ps) (af := af) (P := P) S (e := e) (x := x) (y := y) (g := g) (o := o) (o' := o') (c := c) (z := z) (et := et) (b := b) (k := k) (i := i) (hx := hx) (hy := hy) (hu := hu) (hT := hT) (h0 := h0) (h1 := h1) (ho := ho) (ht := ht) h) K
theorem q_index (QS : QSt n m w0 l H a) {e : TypeId} {x y : Operand} {c : Nat} {et : TypeId} {k kk : IntKind} {i : Int} {xs : List Int} (hx : evo l x = some (.agg [.ints kk xs c])) (hy : evo l y = some (.v (.int k i)))
    (hu : P.underlying e = some (.array c et)) (hT : tyI P et = some (false, 1)) (h0 : 0 ≤ i) (h1 : i < c) (ht : Nat.blt t n = true)
    (K : ∀ a', QSt n m w0 ((t, .v (.int kk (rd xs i))) :: l) H a' → wpQuiet P ops (WP_ m w0 H) Qa rest a') : wpQuiet P ops (WP_ m w0 H) Qa (⟨some t, .index e x y, ty, ps, af, none⟩ :: rest) a :=
  q_of QS ht rfl (fun w S _ h => s_index (ops := #[]) (rest := []) (ty := ty) (ps := ps) (af := af) (P := P) S (e := e) (x := x) (y := y) (c := c) (et := et) (k := k) (kk := kk) (i := i) (xs := xs) (hx := hx) (hy := hy) (hu := hu) (hT := hT) (h0 := h0) (h1 := h1) (ht := ht) h) K
theorem q_fielda (QS : QSt n m w0 l H a) {e : TypeId} {x : Operand} {f off z : Nat} {ft : TypeId} {s s' : List Seg} (hx : evo l x = some (.agg s)) (hF : fieldI P e f = some (off, ft)) (hT : tyI P ft = some (true, z)) (hs : subS s off z = some s') (ht : Nat.blt t n = true)
    (K : ∀ a', QSt n m w0 ((t, .agg s') :: l) H a' → wpQuiet P ops (WP_ m w0 H) Qa rest a') : wpQuiet P ops (WP_ m w0 H) Qa (⟨some t, .field e x f, ty, ps, af, none⟩ :: rest) a :=
  q_of QS ht rfl (fun w S _ h => s_fielda (ops := #[]) (rest := []) (ty := ty) (ps := ps) (af := af) (P := P) S (e := e) (x := x) (f := f) (off := off) (z := z) (ft := ft) (s := s) (s' := s') (hx := hx) (hF := hF) (hT := hT) (hs := hs) (ht := ht) h) K
theorem q_field1 (QS : QSt n m w0 l H a) {e : TypeId} {x : Operand} {f off z : Nat} {ft : TypeId} {s : List Seg} {v : Value} (hx : evo l x = some (.agg s)) (hF : fieldI P e f = some (off, ft)) (hT : tyI P ft = some (false, z)) (hs : subS s off 1 = some [.one v]) (ht : Nat.blt t n = true)
    (K : ∀ a', QSt n m w0 ((t, .v v) :: l) H a' → wpQuiet P ops (WP_ m w0 H) Qa rest a') : wpQuiet P ops (WP_ m w0 H) Qa (⟨some t, .field e x f, ty, ps, af, none⟩ :: rest) a :=
  q_of QS ht rfl (fun w S _ h => s_field1 (ops := #[]) (rest := []) (ty := ty) (ps := ps) (af := af) (P := P) S (e := e) (x := x) (f := f) (off := off) (z := z) (ft := ft) (s := s) (v := v) (hx := hx) (hF := hF) (hT := hT) (hs := hs) (ht := ht) h) K
theorem q_eqa (QS : QSt n m w0 l H a) {xt yt e : TypeId} {x y : Operand} {k : IntKind} {c : Nat} {xs ys : List Int} (hx : evo l x = some (.agg [.ints k xs c])) (hy : evo l y = some (.agg [.ints k ys c]))
    (hu : P.underlying xt = some (.array c e)) (hi : P.underlying e = some (.int k)) (hT : tyI P e = some (false, 1)) (hG : P.eqGuardType P.depth xt = false) (ht : Nat.blt t n = true)
    (K : ∀ a', QSt n m w0 ((t, .v (.bool (decide (xs = ys)))) :: l) H a' → wpQuiet P ops (WP_ m w0 H) Qa rest a') : wpQuiet P ops (WP_ m w0 H) Qa (⟨some t, .binOp .eql xt x y yt, ty, ps, af, none⟩ :: rest) a :=
  q_of QS ht rfl (fun w S _ h => s_eqa (ops := #[]) (rest := []) (ty := ty) (ps := ps) (af := af) (P := P) S (xt := xt) (yt := yt) (e := e) (x := x) (y := y) (k := k) (c := c) (xs := xs) (ys := ys) (hx := hx) (hy := hy) (hu := hu) (hi := hi) (hT := hT) (hG := hG) (ht := ht) h) K
theorem q_nea (QS : QSt n m w0 l H a) {xt yt e : TypeId} {x y : Operand} {k : IntKind} {c : Nat} {xs ys : List Int} (hx : evo l x = some (.agg [.ints k xs c])) (hy : evo l y = some (.agg [.ints k ys c]))
    (hu : P.underlying xt = some (.array c e)) (hi : P.underlying e = some (.int k)) (hT : tyI P e = some (false, 1)) (hG : P.eqGuardType P.depth xt = false) (ht : Nat.blt t n = true)
    (K : ∀ a', QSt n m w0 ((t, .v (.bool (!decide (xs = ys)))) :: l) H a' → wpQuiet P ops (WP_ m w0 H) Qa rest a') : wpQuiet P ops (WP_ m w0 H) Qa (⟨some t, .binOp .neq xt x y yt, ty, ps, af, none⟩ :: rest) a :=
  q_of QS ht rfl (fun w S _ h => s_nea (ops := #[]) (rest := []) (ty := ty) (ps := ps) (af := af) (P := P) S (xt := xt) (yt := yt) (e := e) (x := x) (y := y) (k := k) (c := c) (xs := xs) (ys := ys) (hx := hx) (hy := hy) (hu := hu) (hi := hi) (hT := hT) (hG := hG) (ht := ht) h) K
theorem q_build (QS : QSt n m w0 l H a) {e : TypeId} {xs : List (Nat × Operand)} {ds : List (Nat × D)} {dv : D} (hx : evop l xs = some ds) (hrun : ∀ w : World, (Instr.build e (ds.map (fun p => (p.1, p.2.val))).toArray).run P w = .ok dv.val w) (hok : dv.ok m) (ht : Nat.blt t n = true)
    (K : ∀ a', QSt n m w0 ((t, dv) :: l) H a' → wpQuiet P ops (WP_ m w0 H) Qa rest a') : wpQuiet P ops (WP_ m w0 H) Qa (⟨some t, .build e xs.toArray, ty, ps, af, none⟩ :: rest) a :=
  q_of QS ht rfl (fun w S _ h => s_build (ops := #[]) (rest := []) (ty := ty) (ps := ps) (af := af) (P := P) S (e := e) (xs := xs) (ds := ds) (dv := dv) (hx := hx) (hrun := hrun) (hok := hok) (ht := ht) h) K
theorem q_lens (QS : QSt n m w0 l H a) {e e' : TypeId} {x : Operand} {A : Option Addr} {len cap : Nat} (hx : evo l x = some (.v (.slice A len cap))) (hu : P.underlying e = some (.slice e')) (ht : Nat.blt t n = true)
    (K : ∀ a', QSt n m w0 ((t, .v (.int .i64 (len : Int))) :: l) H a' → wpQuiet P ops (WP_ m w0 H) Qa rest a') : wpQuiet P ops (WP_ m w0 H) Qa (⟨some t, .call ⟨.builtin .len, #[x], #[e]⟩, ty, ps, af, none⟩ :: rest) a :=
  q_of QS ht rfl (fun w S _ h => s_lens (ops := #[]) (rest := []) (ty := ty) (ps := ps) (af := af) (P := P) S (e := e) (e' := e') (x := x) (A := A) (len := len) (cap := cap) (hx := hx) (hu := hu) (ht := ht) h) K
theorem q_min2 (QS : QSt n m w0 l H a) {ts : Array TypeId} {x y : Operand} {k k' : IntKind} {p q : Int} (hx : evo l x = some (.v (.int k p))) (hy : evo l y = some (.v (.int k' q))) (ht : Nat.blt t n = true)
    (K : ∀ a', QSt n m w0 ((t, .v (.int k (imin p q))) :: l) H a' → wpQuiet P ops (WP_ m w0 H) Qa rest a') : wpQuiet P ops (WP_ m w0 H) Qa (⟨some t, .call ⟨.builtin .min, #[x, y], ts⟩, ty, ps, af, none⟩ :: rest) a :=
  q_of QS ht rfl (fun w S _ h => s_min2 (ops := #[]) (rest := []) (ty := ty) (ps := ps) (af := af) (P := P) S (ts := ts) (x := x) (y := y) (k := k) (k' := k') (p := p) (q := q) (hx := hx) (hy := hy) (ht := ht) h) K
theorem q_max2 (QS : QSt n m w0 l H a) {ts : Array TypeId} {x y : Operand} {k k' : IntKind} {p q : Int} (hx : evo l x = some (.v (.int k p))) (hy : evo l y = some (.v (.int k' q))) (ht : Nat.blt t n = true)
    (K : ∀ a', QSt n m w0 ((t, .v (.int k (imax p q))) :: l) H a' → wpQuiet P ops (WP_ m w0 H) Qa rest a') : wpQuiet P ops (WP_ m w0 H) Qa (⟨some t, .call ⟨.builtin .max, #[x, y], ts⟩, ty, ps, af, none⟩ :: rest) a :=
  q_of QS ht rfl (fun w S _ h => s_max2 (ops := #[]) (rest := []) (ty := ty) (ps := ps) (af := af) (P := P) S (ts := ts) (x := x) (y := y) (k := k) (k' := k') (p := p) (q := q) (hx := hx) (hy := hy) (ht := ht) h) K
theorem q_lenA (QS : QSt n m w0 l H a) {e e' : TypeId} {c : Nat} {x : Operand} {d : D} (hx : evo l x = some d) (hu : P.underlying e = some (.array c e')) (ht : Nat.blt t n = true)
    (K : ∀ a', QSt n m w0 ((t, .v (.int .i64 (c : Int))) :: l) H a' → wpQuiet P ops (WP_ m w0 H) Qa rest a') : wpQuiet P ops (WP_ m w0 H) Qa (⟨some t, .call ⟨.builtin .len, #[x], #[e]⟩, ty, ps, af, none⟩ :: rest) a :=
  q_of QS ht rfl (fun w S _ h => s_lenA (ops := #[]) (rest := []) (ty := ty) (ps := ps) (af := af) (P := P) S (e := e) (e' := e') (c := c) (x := x) (d := d) (hx := hx) (hu := hu) (ht := ht) h) K
theorem q_lenT (QS : QSt n m w0 l H a) {e : TypeId} {x : Operand} {s : ByteArray} (hx : evo l x = some (.v (.string s))) (hu : P.underlying e = some .string) (ht : Nat.blt t n = true)
    (K : ∀ a', QSt n m w0 ((t, .v (.int .i64 (s.size : Int))) :: l) H a' → wpQuiet P ops (WP_ m w0 H) Qa rest a') : wpQuiet P ops (WP_ m w0 H) Qa (⟨some t, .call ⟨.builtin .len, #[x], #[e]⟩, ty, ps, af, none⟩ :: rest) a :=
  q_of QS ht rfl (fun w S _ h => s_lenT (ops := #[]) (rest := []) (ty := ty) (ps := ps) (af := af) (P := P) S (e := e) (x := x) (s := s) (hx := hx) (hu := hu) (ht := ht) h) K
theorem q_indexT (QS : QSt n m w0 l H a) {e : TypeId} {x y : Operand} {k : IntKind} {i : Int} {s : ByteArray} (hx : evo l x = some (.v (.string s))) (hy : evo l y = some (.v (.int k i)))
    (hu : P.underlying e = some .string) (h0 : 0 ≤ i) (h1 : i < s.size) (ht : Nat.blt t n = true)
    (K : ∀ a', QSt n m w0 ((t, .v (.int .u8 (bt s i))) :: l) H a' → wpQuiet P ops (WP_ m w0 H) Qa rest a') : wpQuiet P ops (WP_ m w0 H) Qa (⟨some t, .index e x y, ty, ps, af, none⟩ :: rest) a :=
  q_of QS ht rfl (fun w S _ h => s_indexT (ops := #[]) (rest := []) (ty := ty) (ps := ps) (af := af) (P := P) S (e := e) (x := x) (y := y) (k := k) (i := i) (s := s) (hx := hx) (hy := hy) (hu := hu) (h0 := h0) (h1 := h1) (ht := ht) h) K
theorem q_eqT (QS : QSt n m w0 l H a) {xt yt : TypeId} {x y : Operand} {p q : ByteArray} (hx : evo l x = some (.v (.string p))) (hy : evo l y = some (.v (.string q))) (ht : Nat.blt t n = true)
    (K : ∀ a', QSt n m w0 ((t, .v (.bool (p.toList == q.toList))) :: l) H a' → wpQuiet P ops (WP_ m w0 H) Qa rest a') : wpQuiet P ops (WP_ m w0 H) Qa (⟨some t, .binOp .eql xt x y yt, ty, ps, af, none⟩ :: rest) a :=
  q_of QS ht rfl (fun w S _ h => s_eqT (ops := #[]) (rest := []) (ty := ty) (ps := ps) (af := af) (P := P) S (xt := xt) (yt := yt) (x := x) (y := y) (p := p) (q := q) (hx := hx) (hy := hy) (ht := ht) h) K
theorem q_neT (QS : QSt n m w0 l H a) {xt yt : TypeId} {x y : Operand} {p q : ByteArray} (hx : evo l x = some (.v (.string p))) (hy : evo l y = some (.v (.string q))) (ht : Nat.blt t n = true)
    (K : ∀ a', QSt n m w0 ((t, .v (.bool (!(p.toList == q.toList)))) :: l) H a' → wpQuiet P ops (WP_ m w0 H) Qa rest a') : wpQuiet P ops (WP_ m w0 H) Qa (⟨some t, .binOp .neq xt x y yt, ty, ps, af, none⟩ :: rest) a :=
  q_of QS ht rfl (fun w S _ h => s_neT (ops := #[]) (rest := []) (ty := ty) (ps := ps) (af := af) (P := P) S (xt := xt) (yt := yt) (x := x) (y := y) (p := p) (q := q) (hx := hx) (hy := hy) (ht := ht) h) K
theorem q_lenS (QS : QSt n m w0 l H a) {e e' : TypeId} {x : Operand} {A : Option Addr} {len cap : Nat} {R : Mem → Prop} (hx : evo l x = some (.sl A len cap R)) (hu : P.underlying e = some (.slice e')) (ht : Nat.blt t n = true)
    (K : ∀ a', QSt n m w0 ((t, .v (.int .i64 (len : Int))) :: l) H a' → wpQuiet P ops (WP_ m w0 H) Qa rest a') : wpQuiet P ops (WP_ m w0 H) Qa (⟨some t, .call ⟨.builtin .len, #[x], #[e]⟩, ty, ps, af, none⟩ :: rest) a :=
  q_of QS ht rfl (fun w S _ h => s_lenS (ops := #[]) (rest := []) (ty := ty) (ps := ps) (af := af) (P := P) S (e := e) (e' := e') (x := x) (A := A) (len := len) (cap := cap) (R := R) (hx := hx) (hu := hu) (ht := ht) h) K
theorem q_iaddrS0 {α : Type} [Inhabited α] (QS : QSt n m w0 l H a) {e et : TypeId} {x y : Operand} {A : Option Addr} {len cap : Nat} {ty' : Ty α} {xs : List α} {k : IntKind} {i : Int} {b : Bool} {p : Addr} (hE : ElAt ty' A xs i p m)
    (hx : evo l x = some (.sl A len cap (RdS ty' A xs))) (hn : xs.length = len) (hy : evo l y = some (.v (.int k i))) (hu : P.underlying e = some (.slice et)) (hT : tyI P et = some (b, ty'.size)) (h0 : 0 ≤ i) (h1 : i < xs.length) (ht : Nat.blt t n = true)
    (K : ∀ a', QSt n m w0 ((t, .pt p (At ty' p (gt xs i))) :: l) H a' → wpQuiet P ops (WP_ m w0 H) Qa rest a') : wpQuiet P ops (WP_ m w0 H) Qa (⟨some t, .indexAddr e x y, ty, ps, af, none⟩ :: rest) a :=
  q_of QS ht rfl (fun w S _ h => s_iaddrS0 (ops := #[]) (rest := []) (ty := ty) (ps := ps) (af := af) (P := P) S (e := e) (et := et) (x := x) (y := y) (A := A) (len := len) (cap := cap) (ty' := ty') (xs := xs) (k := k) (i := i) (b := b) (p := p) (hE := hE) (hx := hx) (hn := hn) (hy := hy) (hu := hu) (hT := hT) (h0 := h0) (h1 := h1) (ht := ht) h) K
theorem q_ld1 {α : Type} (QS : QSt n m w0 l H a) {e : TypeId} {x : Operand} {p : Addr} {ty' : Ty α} {y : α} {v : Value} {z : Nat} (hx : evo l x = some (.pt p (At ty' p y))) (hT : tyI P e = some (false, z)) (hs : ∀ c, ty'.segs y c = [.one v]) (ht : Nat.blt t n = true)
    (K : ∀ a', QSt n m w0 ((t, .v v) :: l) H a' → wpQuiet P ops (WP_ m w0 H) Qa rest a') : wpQuiet P ops (WP_ m w0 H) Qa (⟨some t, .load e x, ty, ps, af, none⟩ :: rest) a :=
  q_of QS ht rfl (fun w S _ h => s_ld1 (ops := #[]) (rest := []) (ty := ty) (ps := ps) (af := af) (P := P) S (e := e) (x := x) (p := p) (ty' := ty') (y := y) (v := v) (z := z) (hx := hx) (hT := hT) (hs := hs) (ht := ht) h) K
theorem q_ldS0 {α β : Type} (QS : QSt n m w0 l H a) {e : TypeId} {x : Operand} {p : Addr} {ty' : Ty α} {te : Ty β} {y : α} {ys : List β} {z : Nat} (pr : ty'.Ch → Option Addr × Nat) {c : ty'.Ch} (hC : okS m (ty'.segs y c) ∧ ∀ j v, (cellsOf (ty'.segs y c))[j]? = some v → m (p.add j) = some v) (hx : evo l x = some (.pt p (At ty' p y))) (hT : tyI P e = some (false, z))
    (hs : ∀ c, ty'.segs y c = [.sl (pr c).1 ys.length (pr c).2 (RdS te (pr c).1 ys)]) (ht : Nat.blt t n = true)
    (K : ∀ a', QSt n m w0 ((t, .sl (pr c).1 ys.length (pr c).2 (RdS te (pr c).1 ys)) :: l) H a' → wpQuiet P ops (WP_ m w0 H) Qa rest a') : wpQuiet P ops (WP_ m w0 H) Qa (⟨some t, .load e x, ty, ps, af, none⟩ :: rest) a :=
  q_of QS ht rfl (fun w S _ h => s_ldS0 (ops := #[]) (rest := []) (ty := ty) (ps := ps) (af := af) (P := P) S (e := e) (x := x) (p := p) (ty' := ty') (te := te) (y := y) (ys := ys) (z := z) (pr := pr) (c := c) (hC := hC) (hx := hx) (hT := hT) (hs := hs) (ht := ht) h) K
theorem q_ldA0 {α : Type} (QS : QSt n m w0 l H a) {e : TypeId} {x : Operand} {p : Addr} {ty' : Ty α} {y : α} (sg : ty'.Ch → List Seg) {c : ty'.Ch} (hC : okS m (ty'.segs y c) ∧ ∀ j v, (cellsOf (ty'.segs y c))[j]? = some v → m (p.add j) = some v) (hx : evo l x = some (.pt p (At ty' p y))) (hT : tyI P e = some (true, ty'.size)) (hs : ∀ c, ty'.segs y c = sg c) (ht : Nat.blt t n = true)
    (K : ∀ a', QSt n m w0 ((t, .agg (sg c)) :: l) H a' → wpQuiet P ops (WP_ m w0 H) Qa rest a') : wpQuiet P ops (WP_ m w0 H) Qa (⟨some t, .load e x, ty, ps, af, none⟩ :: rest) a :=
  q_of QS ht rfl (fun w S _ h => s_ldA0 (ops := #[]) (rest := []) (ty := ty) (ps := ps) (af := af) (P := P) S (e := e) (x := x) (p := p) (ty' := ty') (y := y) (sg := sg) (c := c) (hC := hC) (hx := hx) (hT := hT) (hs := hs) (ht := ht) h) K
theorem q_cutS0 {α : Type} (QS : QSt n m w0 l H a) {e et : TypeId} {x : Operand} {lo hi : Option Operand} {A : Option Addr} {len cap : Nat} {ty' : Ty α} {xs : List α} {b : Bool} {i j : Int}
    (hx : evo l x = some (.sl A len cap (RdS ty' A xs))) (hn : xs.length = len) (hu : P.underlying e = some (.slice et)) (hT : tyI P et = some (b, ty'.size))
    (hlo : (lo = none ∧ i = 0) ∨ ∃ o k, lo = some o ∧ evo l o = some (.v (.int k i))) (hhi : (hi = none ∧ j = xs.length) ∨ ∃ o k, hi = some o ∧ evo l o = some (.v (.int k j)))
    (h0 : 0 ≤ i ∧ i ≤ j ∧ j ≤ xs.length) (ht : Nat.blt t n = true) {ys : List α} (hys : (xs.take j.toNat).drop i.toNat = ys)
    (K : ∀ a', QSt n m w0 ((t, .sl (if cap = i.toNat then A else A.map (·.add (i.toNat * ty'.size))) ys.length (cap - i.toNat) (RdS ty' (if cap = i.toNat then A else A.map (·.add (i.toNat * ty'.size))) ys)) :: l) H a' → wpQuiet P ops (WP_ m w0 H) Qa rest a') : wpQuiet P ops (WP_ m w0 H) Qa (⟨some t, .slice e x lo hi none, ty, ps, af, none⟩ :: rest) a :=
  q_of QS ht rfl (fun w S _ h => s_cutS0 (ops := #[]) (rest := []) (ty := ty) (ps := ps) (af := af) (P := P) S (e := e) (et := et) (x := x) (lo := lo) (hi := hi) (A := A) (len := len) (cap := cap) (ty' := ty') (xs := xs) (b := b) (i := i) (j := j) (hx := hx) (hn := hn) (hu := hu) (hT := hT) (hlo := hlo) (hhi := hhi) (h0 := h0) (ys := ys) (hys := hys) (ht := ht) h) K
theorem q_fieldS (QS : QSt n m w0 l H a) {e : TypeId} {x : Operand} {f off z : Nat} {ft : TypeId} {s : List Seg} {A : Option Addr} {len cap : Nat} {R : Mem → Prop} (hx : evo l x = some (.agg s)) (hF : fieldI P e f = some (off, ft)) (hT : tyI P ft = some (false, z)) (hs : subS s off 1 = some [.sl A len cap R]) (ht : Nat.blt t n = true)
    (K : ∀ a', QSt n m w0 ((t, .sl A len cap R) :: l) H a' → wpQuiet P ops (WP_ m w0 H) Qa rest a') : wpQuiet P ops (WP_ m w0 H) Qa (⟨some t, .field e x f, ty, ps, af, none⟩ :: rest) a :=
  q_of QS ht rfl (fun w S _ h => s_fieldS (ops := #[]) (rest := []) (ty := ty) (ps := ps) (af := af) (P := P) S (e := e) (x := x) (f := f) (off := off) (z := z) (ft := ft) (s := s) (A := A) (len := len) (cap := cap) (R := R) (hx := hx) (hF := hF) (hT := hT) (hs := hs) (ht := ht) h) K
theorem q_loadSl (QS : QSt n m w0 l H a) {e : TypeId} {x : Operand} {g o z : Nat} {e' : TypeId} {s : List Seg} {A : Option Addr} {len cap : Nat} {R : Mem → Prop} {T : List Res} (hx : evo l x = some (.v (.pointer (some ⟨g, o, none⟩)))) (hf : Foc H (Res.cells g e' s) (Res.cells g e' s) T)
    (hT : tyI P e = some (false, z)) (hs : subS s o 1 = some [.sl A len cap R]) (ht : Nat.blt t n = true)
    (K : ∀ a', QSt n m w0 ((t, .sl A len cap R) :: l) H a' → wpQuiet P ops (WP_ m w0 H) Qa rest a') : wpQuiet P ops (WP_ m w0 H) Qa (⟨some t, .load e x, ty, ps, af, none⟩ :: rest) a :=
  q_of QS ht rfl (fun w S _ h => s_loadSl (ops := #[]) (rest := []) (ty := ty) (ps := ps) (af := af) (P := P) S (e := e) (x := x) (g := g) (o := o) (z := z) (e' := e') (s := s) (A := A) (len := len) (cap := cap) (R := R) (T := T) (hx := hx) (hf := hf) (hT := hT) (hs := hs) (ht := ht) h) K
end
end GW
