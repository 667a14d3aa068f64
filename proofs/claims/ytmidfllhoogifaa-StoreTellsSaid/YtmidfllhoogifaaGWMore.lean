/-
  GW, part 7: fields of what is read; bytes held against each other; a text's bytes.
-/
import Derived.Test.YtmidfllhoogifaaGWRow2
import Derived.Laws.Externs
import Derived.Laws.IdiomStrings
import Derived.Lib.Bytealg
set_option linter.unusedVariables false
set_option linter.unusedSimpArgs false
namespace GW
open Go Go.RowKit
theorem cut_end {α : Type} {xs : List α} {i : Nat} {j : Int} (hj : j = (xs.length : Int) := by rfl) : (xs.take j.toNat).drop i = xs.drop i := by subst hj; simp
theorem cut_id {α : Type} {xs : List α} {j : Int} (hj : j = (xs.length : Int) := by rfl) : (xs.take j.toNat).drop (Int.toNat 0) = xs := by subst hj; simp
theorem cut_pre {α : Type} {xs ys : List α} (h : xs = ys) : xs.drop (Int.toNat 0) = ys := by subst h; simp
theorem at_fst {α β : Type} {ta : Ty α} {tb : Ty β} {p : Addr} {x : α × β} {m : Mem} (h : At (Ty.prod ta tb) p x m) : At ta p x.1 m := by
  obtain ⟨c, h1, h2⟩ := h
  have h1' : okS m (ta.segs x.1 c.1 ++ tb.segs x.2 c.2) := h1
  refine ⟨c.1, (okS_append.1 h1').1, fun j v hv => h2 j v ?_⟩
  show (cellsOf (ta.segs x.1 c.1 ++ tb.segs x.2 c.2))[j]? = some v
  rw [cellsOf_append, List.getElem?_append_left (List.getElem?_eq_some_iff.1 hv).1]
  exact hv
theorem at_snd {α β : Type} {ta : Ty α} {tb : Ty β} {p : Addr} {o : Nat} {x : α × β} {m : Mem} (h : At (Ty.prod ta tb) (p.add o) x m) : At tb (p.add (o + ta.size)) x.2 m := by
  obtain ⟨c, h1, h2⟩ := h
  have h1' : okS m (ta.segs x.1 c.1 ++ tb.segs x.2 c.2) := h1
  have hl : (cellsOf (ta.segs x.1 c.1)).length = ta.size := by rw [len_cellsOf (okS_append.1 h1').1, ta.len]
  refine ⟨c.2, (okS_append.1 h1').2, fun j v hv => ?_⟩
  rw [add_add_, Nat.add_assoc, ← add_add_]
  refine h2 (ta.size + j) v ?_
  show (cellsOf (ta.segs x.1 c.1 ++ tb.segs x.2 c.2))[ta.size + j]? = some v
  rw [cellsOf_append, List.getElem?_append_right (by omega), hl, Nat.add_sub_cancel_left]
  exact hv
theorem at_0 {α : Type} {ta : Ty α} {p : Addr} {x : α} {m : Mem} (h : At ta p x m) : At ta (p.add 0) x m := by
  have : p.add 0 = p := by simp [Addr.add]
  rw [this]; exact h
section
variable {P : Program} {n : Nat} {m : Mem} {w0 : Base} {l : List (Nat × D)} {H : List Res} {a : Act} {w : World}
variable {ops : Array Oper} {Q : Exit → Act → World → Prop} {rest : List Oper} {ty : TypeId} {ps : String} {af : Array Edge} {t : Nat}
/-- The address of a field of what is read. -/
theorem s_faddrP {α : Type} (S : St n m w0 l H a w) {e : TypeId} {x : Operand} {p : Addr} {R : Mem → Prop} {f off z : Nat} {ft : TypeId} {b : Bool} {tF : Ty α} {y : α} (hx : evo l x = some (.pt p R)) (hF : fieldI P e f = some (off, ft)) (hT : tyI P ft = some (b, z)) (hz : z ≠ 0) (hat : ∀ m, R m → At tF (p.add off) y m) (ht : Nat.blt t n = true)
    (K : ∀ a', St n m w0 ((t, .pt (p.add off) (At tF (p.add off) y)) :: l) H a' w → wpList P ops Q rest a' w) : wpList P ops Q (⟨some t, .fieldAddr e x f, ty, ps, af, none⟩ :: rest) a w := by
  obtain ⟨hR, _⟩ := evo_ok S hx
  refine s_run (dv := .pt (p.add off) (At tF (p.add off) y)) S ht ⟨hat m hR, At.mono _ _ _⟩ ?_ K
  have hx' : a.eval x = .pointer (some p) := S.evo hx
  unfold fieldI at hF
  split at hF
  · rename_i fs hu
    obtain ⟨fd, hfd, he⟩ := Option.map_eq_some_iff.1 hF
    simp only [Prod.mk.injEq] at he
    obtain ⟨rfl, rfl⟩ := he
    simp only [execOp, hx']
    simp [Instr.fieldAt, run_underlying hu, hfd, Instr.sureAddr, fieldPlace, run_sizeI hT, hz, D.val]
  · cases hF
theorem s_nilchkP (S : St n m w0 l H a w) {x : Operand} {p : Addr} {R : Mem → Prop} (hx : evo l x = some (.pt p R)) (ht : Nat.blt t n = true)
    (K : ∀ a', St n m w0 ((t, .pt p R) :: l) H a' w → wpList P ops Q rest a' w) : wpList P ops Q (⟨some t, .nilCheck x, ty, ps, af, none⟩ :: rest) a w :=
  s_run (dv := .pt p R) S ht (evo_ok S hx) (by
    have hx' : a.eval x = .pointer (some p) := S.evo hx
    simp only [execOp, hx']; simp [D.val]) K

/-! ### bytes held against each other -/
def u8s (xs : List Int) : List UInt8 := xs.map (fun n => UInt8.ofNat n.toNat)
theorem run_loadBytes : ∀ (xs : List Int) (ad : Addr) (acc : ByteArray), (∀ j (h : j < xs.length), w.cell? (ad.add j) = some (.int .u8 xs[j])) → (Extern.Bytes.loadBytes ad xs.length acc).run P w = .ok (xs.foldl (fun r n => r.push (UInt8.ofNat n.toNat)) acc) w
  | [], ad, acc, _ => rfl
  | x :: xs, ad, acc, h => by
    have h0 := h 0 (by simp)
    have e0 : ad.add 0 = ad := by simp [Addr.add]
    rw [e0] at h0
    simp only [List.length_cons, Extern.Bytes.loadBytes, Sem.run_bind, run_load, h0, Result.andThen_ok, List.getElem_cons_zero]
    have ih := run_loadBytes xs (ad.add 1) (acc.push x.toNat.toUInt8) (fun j hj => by
      rw [add_add_, Nat.add_comm]
      exact h (j + 1) (by simpa using hj))
    rw [ih]
    rfl
theorem run_bytesOf {A : Option Addr} {xs : List Int} {cap : Nat} (hR : RdS (Ty.int .u8) A xs m) (hf : Frz m w) : (Extern.Bytes.bytesOf (.slice A xs.length cap)).run P w = .ok (bstr xs) w := by
  cases A with
  | none =>
    have : xs = [] := by
      cases xs with
      | nil => rfl
      | cons y ys => obtain ⟨ad, c, h1, _⟩ := hR 0 (by simp); cases h1
    subst this
    rfl
  | some ad =>
    refine run_loadBytes xs ad .empty (fun j hj => ?_)
    obtain ⟨ad', c, e1, e2, e3⟩ := hR j hj
    obtain rfl := Option.some.inj e1
    have h1 := hf.cell (e3 0 _ rfl) rfl
    simpa [Ty.int] using h1
def isCmp (P : Program) (f : FuncId) : Prop := ∃ fn, P.funcs[f]? = some fn ∧ (fn.name == "runtime.NumGoroutine") = false ∧ fn.body.isNone = true ∧ Extern.findNext fn = none ∧ Extern.find fn = some Extern.BytealgCompare.compare
theorem s_extCmp (S : St n m w0 l H a w) {f : FuncId} {x y : Operand} {ts : Array TypeId} {A B : Option Addr} {c c' : Nat} {xs ys : List Int} (hf : isCmp P f) (hx : evo l x = some (.sl A xs.length c (RdS (Ty.int .u8) A xs))) (hy : evo l y = some (.sl B ys.length c' (RdS (Ty.int .u8) B ys))) (ht : Nat.blt t n = true)
    (K : ∀ a', St n m w0 ((t, .v (.int .i64 (Lib.compareBytes (u8s xs) (u8s ys)))) :: l) H a' w → wpList P ops Q rest a' w) : wpList P ops Q (⟨some t, .call ⟨.value (.func f), #[x, y], ts⟩, ty, ps, af, none⟩ :: rest) a w := by
  obtain ⟨fn, h1, h2, h3, h4, h5⟩ := hf
  obtain ⟨_, _, hRx, _⟩ := evo_ok S hx
  obtain ⟨_, _, hRy, _⟩ := evo_ok S hy
  have hx' : a.eval x = .slice A xs.length c := S.evo hx
  have hy' : a.eval y = .slice B ys.length c' := S.evo hy
  have hfe : a.eval (.func f) = .func (.func f) #[] #[] := rfl
  refine s_run (dv := .v (.int .i64 (Lib.compareBytes (u8s xs) (u8s ys)))) S ht rfl ?_ K
  simp only [execOp, resolve, Deferred.ofValue, hfe]
  simp only [invoke, List.map_toArray, List.map_cons, List.map_nil, hx', hy', Sem.run_bind, Sem.run_pure, Result.andThen_ok, Array.append_empty, Array.empty_append, List.append_toArray, List.nil_append]
  rw [run_callFunc_extern h1 h2 h3 h4 h5]
  have hc : ∀ u v : Value, Extern.BytealgCompare.compare #[u, v] = (do pure (goInt (Extern.BytealgCompare.cmp (← Extern.Bytes.bytesOf u) (← Extern.Bytes.bytesOf v))) : Sem Value) := fun _ _ => rfl
  simp only [hc, Sem.run_bind, run_bytesOf hRx S.frz, run_bytesOf hRy S.frz, Result.andThen_ok, Sem.run_pure, D.val, goInt, Lib.cmp_eq, bstr_data, u8s]

/-- An array that is read, as a slice. -/
theorem s_slicePt (S : St n m w0 l H a w) {e et : TypeId} {x : Operand} {p : Addr} {kd : IntKind} {c z : Nat} {b : Bool} {xs : List Int} (hx : evo l x = some (.pt p (At (Ty.arr kd c) p xs))) (hu : P.underlying e = some (.array c et)) (hT : tyI P et = some (b, z)) (hmax : c ≤ maxLen) (ht : Nat.blt t n = true)
    (K : ∀ a', St n m w0 ((t, .sl (some p) xs.length c (RdS (Ty.int kd) (some p) xs)) :: l) H a' w → wpList P ops Q rest a' w) : wpList P ops Q (⟨some t, .slice e x none none none, ty, ps, af, none⟩ :: rest) a w := by
  obtain ⟨⟨ch, hC1, hC2⟩, _⟩ := evo_ok S hx
  have hl : xs.length = c := hC1.1
  have hcells : ∀ j v, (nums kd xs)[j]? = some v → m (p.add j) = some v := by
    intro j v hv
    refine hC2 j v ?_
    show (nums kd xs ++ [])[j]? = some v
    rw [List.append_nil]
    exact hv
  have hR : RdS (Ty.int kd) (some p) xs m := by
    intro i hi
    refine ⟨p, (), rfl, ⟨rfl, trivial⟩, fun j v hv => ?_⟩
    have hj : j = 0 := by
      match j, hv with
      | 0, _ => rfl
      | j + 1, hv => exact absurd hv (by simp [Ty.int, cellsOf, Seg.cells])
    subst hj
    have hv' : Value.int kd xs[i] = v := by simpa [Ty.int, cellsOf, Seg.cells] using hv
    have := hcells i v (by simp [nums, List.getElem?_eq_getElem hi, hv'])
    simpa [Ty.int] using this
  refine s_run (dv := .sl (some p) xs.length c (RdS (Ty.int kd) (some p) xs)) S ht ⟨by omega, hmax, hR, RdS.mono _ _ _⟩ ?_ K
  have hx' : a.eval x = .pointer (some p) := S.evo hx
  have hb := sliceBounds_run (P := P) (b := false) (len := c) (cap := c) (lo := none) (hi := none) (i := 0) (j := c) S (.inl ⟨rfl, rfl⟩) (.inl ⟨rfl, rfl⟩) ⟨by omega, by omega, by omega⟩ (fun _ => by omega)
  have e0 : p.add 0 = p := by simp [Addr.add]
  simp only [execOp, hx', Option.map_none]
  simp only [Instr.sliceAt, Instr.slice, Instr.sureAddr, asAddr, Sem.run_bind, run_underlying hu, Result.andThen_ok, hb, run_sizeI hT, Sem.run_pure, D.val, hl]
  simp only [Option.map_none] at hb
  simp only [hb, Result.andThen_ok]
  split <;> simp_all
/-! ### sums with a carry -/
def isExt (P : Program) (f : FuncId) (e : Array Value → Sem Value) : Prop := ∃ fn, P.funcs[f]? = some fn ∧ (fn.name == "runtime.NumGoroutine") = false ∧ fn.body.isNone = true ∧ Extern.findNext fn = none ∧ Extern.find fn = some e
def subEntry : Array Value → Sem Value := fun args => do
  let (x, y, b) ← Extern.MathBitsCarry.three "Sub64" args
  pure (Extern.MathBitsCarry.pair ((x + Extern.MathBitsCarry.m64 - y - b) % Extern.MathBitsCarry.m64) (if x < y + b then 1 else 0))
theorem run_subE (x y c : Int) (hx : 0 ≤ x) (hy : 0 ≤ y ∧ y < 18446744073709551616) (hc0 : 0 ≤ c) (hc : c ≤ 1) (w : World) :
    (subEntry #[.int .u64 x, .int .u64 y, .int .u64 c]).run P w =
      .ok (.tuple #[.int .u64 ((x - y - c) % 18446744073709551616), .int .u64 (if x < y + c then 1 else 0)]) w := by
  have key : ∀ k : Nat, k ≤ 1 → (subEntry #[.int .u64 x, .int .u64 y, .int .u64 (k : Int)]).run P w =
      .ok (Extern.MathBitsCarry.pair ((x.toNat + Extern.MathBitsCarry.m64 - y.toNat - k) % Extern.MathBitsCarry.m64) (if x.toNat < y.toNat + k then 1 else 0)) w := by
    intro k hk
    have : k = 0 ∨ k = 1 := by omega
    rcases this with rfl | rfl <;> rfl
  obtain ⟨k, rfl⟩ := Int.eq_ofNat_of_zero_le hc0
  rw [key k (by omega)]
  obtain ⟨X, rfl⟩ := Int.eq_ofNat_of_zero_le hx
  obtain ⟨Y, rfl⟩ := Int.eq_ofNat_of_zero_le hy.1
  have e1 : (((X + 18446744073709551616 - Y - k) % 18446744073709551616 : Nat) : Int) = ((X : Int) - (Y : Int) - (k : Int)) % 18446744073709551616 := by omega
  have e2 : (((if X < Y + k then 1 else 0) : Nat) : Int) = (if (X : Int) < (Y : Int) + (k : Int) then 1 else 0) := by
    by_cases h : X < Y + k
    · rw [if_pos h, if_pos (by omega)]; rfl
    · rw [if_neg h, if_neg (by omega)]; rfl
  show Result.ok (Value.tuple #[.int .u64 (((X + 18446744073709551616 - Y - k) % 18446744073709551616 : Nat) : Int), .int .u64 (((if X < Y + k then 1 else 0) : Nat) : Int)]) w = _
  rw [e1, e2]
theorem s_extAdd (S : St n m w0 l H a w) {f : FuncId} {x y z : Operand} {ts : Array TypeId} {p q r : Int} (hf : isExt P f add64Entry) (hx : evo l x = some (.v (.int .u64 p))) (hy : evo l y = some (.v (.int .u64 q))) (hz : evo l z = some (.v (.int .u64 r)))
    (hc : 0 ≤ p ∧ 0 ≤ q ∧ 0 ≤ r ∧ r ≤ 1) (ht : Nat.blt t n = true)
    (K : ∀ a', St n m w0 ((t, .tup [(false, [.one (.int .u64 ((p + q + r) % 18446744073709551616))]), (false, [.one (.int .u64 ((p + q + r) / 18446744073709551616))])]) :: l) H a' w → wpList P ops Q rest a' w) : wpList P ops Q (⟨some t, .call ⟨.value (.func f), #[x, y, z], ts⟩, ty, ps, af, none⟩ :: rest) a w := by
  obtain ⟨fn, h1, h2, h3, h4, h5⟩ := hf
  have hx' : a.eval x = .int .u64 p := S.evo hx
  have hy' : a.eval y = .int .u64 q := S.evo hy
  have hz' : a.eval z = .int .u64 r := S.evo hz
  have hfe : a.eval (.func f) = .func (.func f) #[] #[] := rfl
  refine s_run (dv := .tup [(false, [.one (.int .u64 ((p + q + r) % 18446744073709551616))]), (false, [.one (.int .u64 ((p + q + r) / 18446744073709551616))])]) S ht ⟨⟨rfl, trivial⟩, ⟨rfl, trivial⟩, trivial⟩ ?_ K
  simp only [execOp, resolve, Deferred.ofValue, hfe]
  simp only [invoke, List.map_toArray, List.map_cons, List.map_nil, hx', hy', hz', Sem.run_bind, Sem.run_pure, Result.andThen_ok, Array.append_empty, Array.empty_append, List.append_toArray, List.nil_append]
  rw [run_callFunc_extern h1 h2 h3 h4 h5, run_add64 p q r hc.1 hc.2.1 hc.2.2.1 hc.2.2.2]
  rfl
theorem s_extSub (S : St n m w0 l H a w) {f : FuncId} {x y z : Operand} {ts : Array TypeId} {p q r : Int} (hf : isExt P f subEntry) (hx : evo l x = some (.v (.int .u64 p))) (hy : evo l y = some (.v (.int .u64 q))) (hz : evo l z = some (.v (.int .u64 r)))
    (hc : 0 ≤ p ∧ (0 ≤ q ∧ q < 18446744073709551616) ∧ 0 ≤ r ∧ r ≤ 1) (ht : Nat.blt t n = true)
    (K : ∀ a', St n m w0 ((t, .tup [(false, [.one (.int .u64 ((p - q - r) % 18446744073709551616))]), (false, [.one (.int .u64 (if p < q + r then 1 else 0))])]) :: l) H a' w → wpList P ops Q rest a' w) : wpList P ops Q (⟨some t, .call ⟨.value (.func f), #[x, y, z], ts⟩, ty, ps, af, none⟩ :: rest) a w := by
  obtain ⟨fn, h1, h2, h3, h4, h5⟩ := hf
  have hx' : a.eval x = .int .u64 p := S.evo hx
  have hy' : a.eval y = .int .u64 q := S.evo hy
  have hz' : a.eval z = .int .u64 r := S.evo hz
  have hfe : a.eval (.func f) = .func (.func f) #[] #[] := rfl
  refine s_run (dv := .tup [(false, [.one (.int .u64 ((p - q - r) % 18446744073709551616))]), (false, [.one (.int .u64 (if p < q + r then 1 else 0))])]) S ht ⟨⟨rfl, trivial⟩, ⟨rfl, trivial⟩, trivial⟩ ?_ K
  simp only [execOp, resolve, Deferred.ofValue, hfe]
  simp only [invoke, List.map_toArray, List.map_cons, List.map_nil, hx', hy', hz', Sem.run_bind, Sem.run_pure, Result.andThen_ok, Array.append_empty, Array.empty_append, List.append_toArray, List.nil_append]
  rw [run_callFunc_extern h1 h2 h3 h4 h5, run_subE p q r hc.1 hc.2.1 hc.2.2.1 hc.2.2.2]
  rfl

/-! ### bytes that are made a text's -/
theorem cell_freeze (w : World) (p q : Addr) (n : Nat) : (w.freeze p n).cell? q = w.cell? q := by
  unfold World.freeze
  split
  · rfl
  · unfold World.cell?
    simp only [Array.getElem?_modify]
    by_cases h : p.block = q.block
    · rw [if_pos h]
      cases hc : w.heap[q.block]? with
      | none => simp [hc]
      | some o => cases o <;> simp [hc]
    · rw [if_neg h]
theorem cellM_freeze (w : World) (p q : Addr) (n : Nat) : cellM (w.freeze p n) q = cellM w q := by
  by_cases hn : n = 0
  · subst hn
    have : w.freeze p 0 = w := by simp [World.freeze]
    rw [this]
  · unfold cellM
    by_cases c : q.spot.isSome = true
    · rw [if_pos c, if_pos c]
      simp only [World.freeze, if_neg hn, Array.getElem?_modify]
      by_cases h : p.block = q.block
      · rw [if_pos h]
        cases hc : w.heap[q.block]? with
        | none => simp
        | some o => cases o <;> simp
      · rw [if_neg h]
    · rw [if_neg c, if_neg c]; exact cell_freeze w p q n
theorem grownBy_freeze (w : World) (p : Addr) (n : Nat) : w.grownBy (w.freeze p n) (some p.block) := by
  unfold World.freeze
  split
  · exact World.grownBy.refl w _
  · refine ⟨rfl, rfl, rfl, by simp, fun k hk hne => ?_⟩
    simp only [Array.getElem?_modify]
    rw [if_neg (fun e => hne (by rw [e]))]
theorem s_convB (S : St n m w0 l H a w) {tt e ee : TypeId} {x : Operand} {g k cap : Nat} {xs : List Int} {H' : List Res} (hx : evo l x = some (.v (.slice (some ⟨g, 0, none⟩) k cap))) (hf : Pull H (Res.row (Ty.int .u8) ee (some ⟨g, 0, none⟩) k cap xs) H') (hu : P.underlying tt = some (.slice e)) (he : P.underlying e = some (.int .u8)) (ht : Nat.blt t n = true)
    (K : ∀ m' (_ : LeM m m') a' w', St n m' w0 ((t, .sl (some ⟨g, 0, none⟩) xs.length cap (RdS (Ty.int .u8) (some ⟨g, 0, none⟩) xs)) :: l) H' a' w' → wpList P ops Q rest a' w') : wpList P ops Q (⟨some t, .convert tt tt x, ty, ps, af, none⟩ :: rest) a w := by
  have hx' : a.eval x = .slice (some ⟨g, 0, none⟩) k cap := S.evo hx
  have hbase := S.base _ hf.mem.1 g rfl
  have hap := (hf.apart S.apart).1
  obtain ⟨m', hle, S1, hR, hk, hkc, hcm⟩ := S.rowfro hf
  have key : ∃ w', (convert tt tt (.slice (some ⟨g, 0, none⟩) k cap)).run P w = .ok (.slice (some ⟨g, 0, none⟩) k cap) w' ∧ w.grownBy w' (some g) ∧ ∀ q, cellM w' q = cellM w q := by
    cases hs : w.shape? g with
    | none =>
      refine ⟨w, ?_, World.grownBy.refl w _, fun _ => rfl⟩
      simp [convert, run_underlying hu, run_underlying he, markStringish, hs]
    | some p =>
      refine ⟨w.freeze ⟨g, p.2, none⟩ 1, ?_, grownBy_freeze w ⟨g, p.2, none⟩ 1, fun q => cellM_freeze w _ q 1⟩
      simp [convert, run_underlying hu, run_underlying he, markStringish, hs]
  obtain ⟨w', r1, r2, r3⟩ := key
  have S2 : St n m' w0 l H' a w' := by
    refine ⟨S1.size, S1.defers, S1.get, S1.below.grown r2 (fun k' hk' => by obtain rfl := Option.some.inj hk'; exact hbase), S1.le, S1.fresh, fun r hr => r.frame m' w w' (fun k' hk' => r2.block k' (r.lt m' w (S1.holds r hr) k' hk') (fun e' => hap r hr k' (e'.symm) hk')) (S1.holds r hr), S1.base, S1.apart, fun q v hv => (r3 q).trans (S1.frz q v hv), S1.frzH⟩
  refine s_runw (dv := .sl (some ⟨g, 0, none⟩) xs.length cap (RdS (Ty.int .u8) (some ⟨g, 0, none⟩) xs)) (w' := w') S ht ⟨by omega, hcm, hR, RdS.mono _ _ _⟩ ?_ S2 (K m' hle · w')
  simp only [execOp, hx', Sem.run_bind, r1, Result.andThen_ok, Sem.run_pure, D.val, hk]

/-! ### a text's bytes -/
def sbytes (s : ByteArray) : List Int := s.data.toList.map (fun b => (b.toNat : Int))
theorem s_bytesT (S : St n m w0 l H a w) {src dst e : TypeId} {x : Operand} {s : ByteArray} (hx : evo l x = some (.v (.string s))) (hs : P.underlying src = some .string) (hd : P.underlying dst = some (.slice e)) (he : P.underlying e = some (.int .u8)) (hl : s.size ≤ maxLen) (ht : Nat.blt t n = true)
    (K : ∀ A cap m' (_ : LeM m m') a' w', St n m' w0 ((t, .sl A (sbytes s).length cap (RdS (Ty.int .u8) A (sbytes s))) :: l) H a' w' → wpList P ops Q rest a' w') : wpList P ops Q (⟨some t, .convert src dst x, ty, ps, af, none⟩ :: rest) a w := by
  have hx' : a.eval x = .string s := S.evo hx
  have hr := run_bytes_of_string (P := P) w src dst e s hs hd he
  generalize hcap : grownCap w s.size 0 e = cap at hr
  have hge : s.size ≤ cap := by rw [← hcap]; exact grownCap_ge w s.size 0 e
  have hle : cap ≤ maxLen := by rw [← hcap]; exact grownCap_le_maxLen w s.size 0 e hl
  generalize hcs : bytesRow s cap = cs at hr
  generalize hw' : w.drew.alloc (.cells cs e (cs.size, cs.size + 1)) = w' at hr
  have hnew : w'.heap[w.heap.size]? = some (.cells cs e (cs.size, cs.size + 1)) := by rw [← hw']; exact heap_alloc_new w.drew _
  have hb : Below w.heap.size w w' := by
    rw [← hw']
    exact ⟨rfl, rfl, rfl, by simp, fun k hk => Go.heap_alloc_old w.drew _ (by simpa using hk)⟩
  let m' : Mem := fun p => if p.block = w.heap.size ∧ p.spot = none then cs[p.off]? else m p
  have hlem : LeM m m' := fun p v hv => by
    have h1 := cellM_lt (S.frz p v hv)
    have : p.block ≠ w.heap.size := by omega
    simp only [m', this, false_and, if_false]
    exact hv
  have hfrz : Frz m' w' := fun p v hv => by
    by_cases hp : p.block = w.heap.size ∧ p.spot = none
    · simp only [m', hp, and_self, if_true] at hv
      obtain ⟨b, o, sp⟩ := p
      obtain ⟨rfl, rfl⟩ := hp
      refine cellM_of ?_
      rw [cell_of_row w' _ _ cs e _ hnew]
      exact hv
    · simp only [m', hp, if_false] at hv
      exact below_cellM hb (S.frz p v hv)
  have hsl : (sbytes s).length = s.size := by simp [sbytes]
  have S' := S.after hb hlem hfrz (fun p v hv => by
    by_cases hp : p.block = w.heap.size ∧ p.spot = none
    · exact .inr (by rw [hp.1]; exact Nat.le_refl _)
    · simp only [m', hp, if_false] at hv
      exact .inl ⟨v, hv⟩)
  have hok : (D.sl (some ⟨w.heap.size, 0, none⟩) (sbytes s).length cap (RdS (Ty.int .u8) (some ⟨w.heap.size, 0, none⟩) (sbytes s))).ok m' := by
    refine ⟨by omega, hle, fun i hi => ?_, RdS.mono _ _ _⟩
    refine ⟨⟨w.heap.size, 0, none⟩, (), rfl, ⟨rfl, trivial⟩, fun j v hv => ?_⟩
    have hj : j = 0 := by
      rcases Nat.eq_zero_or_pos j with h | h
      · exact h
      · have : (cellsOf ((Ty.int .u8).segs (sbytes s)[i] ()))[j]? = none := List.getElem?_eq_none (by simp [Ty.int, cellsOf, Seg.cells]; omega)
        rw [this] at hv; cases hv
    subst hj
    have hv' : v = .int .u8 (sbytes s)[i] := by simpa [Ty.int, cellsOf, Seg.cells] using hv.symm
    have ha : (⟨w.heap.size, 0, none⟩ : Addr).add (i * (Ty.int .u8).size + 0) = ⟨w.heap.size, i, none⟩ := by
      have h1 : i * (Ty.int .u8).size + 0 = i := by simp [Ty.int]
      rw [h1]; unfold Addr.add; split <;> simp_all
    rw [ha, hv']
    simp only [m', and_self, if_true]
    have hi' : i < s.data.size := by
      have h0 : i < s.size := by omega
      exact h0
    rw [← hcs, bytesRow_at s cap i hi']
    simp [sbytes]
  refine s_runw (dv := .sl (some ⟨w.heap.size, 0, none⟩) (sbytes s).length cap (RdS (Ty.int .u8) (some ⟨w.heap.size, 0, none⟩) (sbytes s))) (w' := w') S ht hok ?_ S' (K _ _ _ hlem · w')
  simp only [execOp, hx', Sem.run_bind, hr, Result.andThen_ok, Sem.run_pure, D.val, hsl]
end
end GW
