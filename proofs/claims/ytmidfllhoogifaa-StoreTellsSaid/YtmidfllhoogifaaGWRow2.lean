/-
  GW, part 6: more of rows that are the call's own: what of them stays known in a region whose order is open; zeros put behind them; pieces of them; copies into them.
-/
import Derived.Test.YtmidfllhoogifaaGWCtr
import Derived.Lib.AppendZeros
set_option linter.unusedVariables false
set_option linter.unusedSimpArgs false
namespace GW
open Go Go.RowKit

/-! ### 1. elements that lead to no memory -/
def Ty.Flat {α : Type} (t : Ty α) : Prop := ∀ (x : α) (c : t.Ch) (m m' : Mem), okS m (t.segs x c) → okS m' (t.segs x c)
theorem flat_int {k : IntKind} : (Ty.int k).Flat := fun _ _ _ _ h => h
theorem flat_bool : Ty.bool.Flat := fun _ _ _ _ h => h
theorem flat_str : Ty.str.Flat := fun _ _ _ _ h => h
theorem flat_arr {k : IntKind} {n : Nat} : (Ty.arr k n).Flat := fun _ _ _ _ h => h
theorem flat_prod {α β : Type} {a : Ty α} {b : Ty β} (ha : a.Flat) (hb : b.Flat) : (Ty.prod a b).Flat := fun x c m m' h =>
  okS_append.2 ⟨ha _ _ _ _ (okS_append.1 h).1, hb _ _ _ _ (okS_append.1 h).2⟩
theorem Res.stay_row {α : Type} {ty : Ty α} {e : TypeId} {A : Option Addr} {n cap : Nat} {xs : List α} (hf : ty.Flat) : (Res.row ty e A n cap xs).Stay := fun m m' w w' _ h2 => by
  obtain ⟨h0, cs, h1, h3, h4⟩ := h2
  exact ⟨h0, cs, h1, (segsL_ok xs cs h1).2 fun i hi hi' => hf _ _ _ _ ((segsL_ok xs cs h1).1 h3 i hi hi'), h4⟩
section
variable {P : Program} {n : Nat} {m : Mem} {w0 : Base} {l : List (Nat × D)} {H : List Res} {a : Act} {w : World}
variable {ops : Array Oper} {Q : Exit → Act → World → Prop} {rest : List Oper} {ty : TypeId} {ps : String} {af : Array Edge} {t : Nat}
theorem s_iaddrO0 {α : Type} (S : St n m w0 l H a w) {e et ee : TypeId} {x y : Operand} {A : Option Addr} {k cap g : Nat} {ty' : Ty α} {xs : List α} {kk : IntKind} {i : Int} {b : Bool} {T : List Res} (hA : A = some ⟨g, 0, none⟩)
    (hx : evo l x = some (.v (.slice A k cap))) (hf : Foc H (Res.row ty' ee A k cap xs) (Res.row ty' ee A k cap xs) T) (hy : evo l y = some (.v (.int kk i))) (hu : P.underlying e = some (.slice et)) (hT : tyI P et = some (b, ty'.size)) (h0 : 0 ≤ i) (h1 : i < xs.length) (ht : Nat.blt t n = true)
    (K : ∀ a', St n m w0 ((t, .v (.pointer (some ⟨g, i.toNat * ty'.size, none⟩))) :: l) H a' w → wpList P ops Q rest a' w) : wpList P ops Q (⟨some t, .indexAddr e x y, ty, ps, af, none⟩ :: rest) a w :=
  s_run (dv := .v (.pointer (some ⟨g, i.toNat * ty'.size, none⟩))) S ht rfl (by
    have hk : xs.length = k := (S.holds _ hf.mem).1
    subst hA
    have hx' : a.eval x = .slice (some ⟨g, 0, none⟩) k cap := S.evo hx
    have hy' : a.eval y = .int kk i := S.evo hy
    have ha : (⟨g, 0, none⟩ : Addr).add (i.toNat * ty'.size) = ⟨g, i.toNat * ty'.size, none⟩ := by unfold Addr.add; split <;> simp_all
    simp only [execOp, hx', hy']
    simp [Instr.indexAt, asIntOf, run_underlying hu, h0, show i < (k : Int) by omega, run_sizeI hT, D.val, ha]) K

/-- The address of a field. -/
theorem s_fieldAddr (S : St n m w0 l H a w) {e : TypeId} {x : Operand} {f g o off o' z : Nat} {ft : TypeId} {b : Bool} (hx : evo l x = some (.v (.pointer (some ⟨g, o, none⟩)))) (hF : fieldI P e f = some (off, ft)) (hT : tyI P ft = some (b, z)) (hz : z ≠ 0) (ho : o + off = o') (ht : Nat.blt t n = true)
    (K : ∀ a', St n m w0 ((t, .v (.pointer (some ⟨g, o', none⟩))) :: l) H a' w → wpList P ops Q rest a' w) : wpList P ops Q (⟨some t, .fieldAddr e x f, ty, ps, af, none⟩ :: rest) a w :=
  s_run (dv := .v (.pointer (some ⟨g, o', none⟩))) S ht rfl (by
    have hx' : a.eval x = .pointer (some ⟨g, o, none⟩) := S.evo hx
    unfold fieldI at hF
    split at hF
    · rename_i fs hu
      obtain ⟨fd, hfd, he⟩ := Option.map_eq_some_iff.1 hF
      simp only [Prod.mk.injEq] at he
      obtain ⟨rfl, rfl⟩ := he
      have ha : (⟨g, o, none⟩ : Addr).add fd.offset = ⟨g, o', none⟩ := by subst ho; unfold Addr.add; split <;> simp_all
      simp only [execOp, hx']
      simp [Instr.fieldAt, run_underlying hu, hfd, Instr.sureAddr, fieldPlace, run_sizeI hT, hz, ha, D.val]
    · cases hF) K

/-! ### 1a. is a slice nil? -/
theorem s_eqnil (S : St n m w0 l H a w) {xt yt e : TypeId} {x y : Operand} {d : D} {A : Option Addr} {k c k' c' : Nat} {b : Bool} (hx : evo l x = some d) (hd : d.val = .slice A k c) (hu : P.underlying xt = some (.slice e)) (hy : y = .const (.slice none k' c')) (hb : A.isNone = b) (ht : Nat.blt t n = true)
    (K : ∀ a', St n m w0 ((t, .v (.bool b)) :: l) H a' w → wpList P ops Q rest a' w) : wpList P ops Q (⟨some t, .binOp .eql xt x y yt, ty, ps, af, none⟩ :: rest) a w :=
  s_run (dv := .v (.bool b)) S ht rfl (by
    have hx' : a.eval x = .slice A k c := (S.evo hx).trans hd
    subst hb hy
    have hy' : a.eval (.const (.slice none k' c')) = .slice none k' c' := rfl
    simp only [execOp, hx', hy']
    have hg : (eqGuard .eql xt x (.const (.slice none k' c')) (.slice A k c) (.slice none k' c')).run P w = .ok () w := rfl
    simp only [Sem.run_bind, hg, Result.andThen_ok, Lib.run_eql_slice_nil w xt e A k c k' c' hu, Sem.run_pure, D.val]) K
theorem s_nenil (S : St n m w0 l H a w) {xt yt e : TypeId} {x y : Operand} {d : D} {A : Option Addr} {k c k' c' : Nat} {b : Bool} (hx : evo l x = some d) (hd : d.val = .slice A k c) (hu : P.underlying xt = some (.slice e)) (hy : y = .const (.slice none k' c')) (hb : (!A.isNone) = b) (ht : Nat.blt t n = true)
    (K : ∀ a', St n m w0 ((t, .v (.bool b)) :: l) H a' w → wpList P ops Q rest a' w) : wpList P ops Q (⟨some t, .binOp .neq xt x y yt, ty, ps, af, none⟩ :: rest) a w :=
  s_run (dv := .v (.bool b)) S ht rfl (by
    have hx' : a.eval x = .slice A k c := (S.evo hx).trans hd
    subst hb hy
    have hy' : a.eval (.const (.slice none k' c')) = .slice none k' c' := rfl
    simp only [execOp, hx', hy']
    have hg : (eqGuard .neq xt x (.const (.slice none k' c')) (.slice A k c) (.slice none k' c')).run P w = .ok () w := rfl
    simp only [Sem.run_bind, hg, Result.andThen_ok, run_neq_slice_nil_any w xt e A k c k' c' hu, Sem.run_pure, D.val]) K
theorem rd_nil {α : Type} {ty' : Ty α} {A : Option Addr} {xs : List α} (h : A.isNone = true) (hR : RdS ty' A xs m) : xs = [] := by
  cases xs with
  | nil => rfl
  | cons x xs =>
    obtain ⟨ad, c, h1, _⟩ := hR 0 (by simp)
    subst h1; cases h
theorem row_nil {α : Type} {ty' : Ty α} {e : TypeId} {A : Option Addr} {k cap : Nat} {xs : List α} (h : A.isNone = true) (hr : (Res.row ty' e A k cap xs).holds m w) : xs = [] := by
  cases A with
  | some p => cases h
  | none =>
    rcases Nat.eq_zero_or_pos k with h0 | h0
    · exact List.eq_nil_of_length_eq_zero (hr.1.trans h0)
    · obtain ⟨g, cur, cs, hA, _⟩ := Res.row.at_ hr h0; cases hA

/-! ### 1b. what is skipped where several may come up -/
section
variable {m' : Mem} {HS : List Res} {C' : World → Prop}
theorem h_skipOt {lo : List Oper} {i : Nat} {c : Bool} {r o : Sch} {op : Op} {j : Nat} {want : Bool} {tj : Tmp} {d : D} (S : St n m' w0 l H a w) (hi : lo[i]? = some ⟨some t, op, ty, ps, af, some (j, want)⟩)
    (hj : (lo[j]?).bind (·.dst) = some tj) (hv : fnd l tj = some d) (hb : d.val ≠ .bool want) (ht : Nat.blt t n = true)
    (K : ∀ a', St n m' w0 ((t, .u) :: l) H a' w → wpList P #[] (toQ (fun a' w' => (c = true → C' w') ∧ wpH P lo.toArray (NoPanic Q) C' r a' w') (NoPanic Q)) [] a' w) (ho : wpH P lo.toArray (NoPanic Q) C' o a w) : wpH P lo.toArray (NoPanic Q) C' (.run i c r o) a w :=
  ⟨(h_skipRt (c := c) (r := r) S hi hj hv hb ht K).1, ho⟩
theorem h_skipOn {lo : List Oper} {i : Nat} {c : Bool} {r o : Sch} {op : Op} {j : Nat} {want : Bool} {tj : Tmp} {d : D} (S : St n m' w0 l H a w) (hi : lo[i]? = some ⟨none, op, ty, ps, af, some (j, want)⟩)
    (hj : (lo[j]?).bind (·.dst) = some tj) (hv : fnd l tj = some d) (hb : d.val ≠ .bool want)
    (K : St n m' w0 l H a w → wpList P #[] (toQ (fun a' w' => (c = true → C' w') ∧ wpH P lo.toArray (NoPanic Q) C' r a' w') (NoPanic Q)) [] a w) (ho : wpH P lo.toArray (NoPanic Q) C' o a w) : wpH P lo.toArray (NoPanic Q) C' (.run i c r o) a w :=
  ⟨(h_skipRn (c := c) (r := r) S hi hj hv hb K).1, ho⟩
end

/-! ### 2. zeros put behind a row -/
theorem run_append_own_zeros (w : World) (t tn ty e : TypeId) (i : TypeInfo) (z : Value) (size bytes : Nat) (k kn : IntKind) (ht : P.underlying t = some (.slice e)) (htn : P.underlying tn = some (.int kn)) (hi : P.info? e = some i) (hz : i.zero = some z)
    (hsize : i.size = size) (hby : i.bytes = bytes) (hzs : z.cells.size = size) (hsz : 0 < size) (hb0 : 0 < bytes)
    (v : Value) (n : Nat) (xs : List Value) (hown : w.ownsRow 0 e size v n xs) (m : Nat) (h1 : ∀ u ∈ (Builtin.zeroCells z.cells m).toList, u.oneCell' = true)
    (h63 : n + m ≤ maxLen) (hbytes : (n + m) * bytes ≤ 140737488355328) :
    ∃ v' w', (Builtin.append_ #[t, tn] ty #[v, .int k (m : Int)]).run P w = .ok v' w' ∧ w'.ownsRow 0 e size v' (n + m) (xs ++ (Builtin.zeroCells z.cells m).toList) ∧ w.grownBy w' v.ownBlock ∧
      (v' = .slice none 0 0 ↔ v = .slice none 0 0 ∧ m = 0) ∧ (v'.ownBlock = v.ownBlock ∨ v'.ownBlock = some w.heap.size) := by
  subst hsize
  subst hby
  have hsmall : n + m ≤ 9223372036854775807 := by simp only [maxLen] at h63; omega
  have hl : (Builtin.zeroCells z.cells m).toList.length = m * i.size := by rw [Array.length_toList, size_zeroCells, hzs]
  have hlen : (xs ++ (Builtin.zeroCells z.cells m).toList).length = (n + m) * i.size := by rw [List.length_append, hown.1, hl, Nat.add_mul]
  have hw : IntKind.i64.wrap (m : Int) = m := by rw [IntKind.wrap_i64]; omega
  have hmb : m * i.bytes ≤ 140737488355328 := Nat.le_trans (Nat.mul_le_mul_right _ (by omega)) hbytes
  have h48i : ¬ (281474976710656 < (m : Int) * (i.bytes : Int)) := by
    rw [← Int.natCast_mul]; omega
  have hneg : ¬ ((m : Int) < 0) := by omega
  have grown : ∀ (old : Nat), old < n + m → ∀ (row : Option Nat),
      (w.drew.alloc (.cells (xs.toArray ++ Builtin.zeroCells z.cells m ++ Builtin.zeroCells z.cells (grownCap w (n + m) old e - (n + m))) e)).ownsRow 0 e i.size
        (.slice (some ⟨w.heap.size, 0, none⟩) (n + m) (grownCap w (n + m) old e)) (n + m) (xs ++ (Builtin.zeroCells z.cells m).toList) ∧
      w.grownBy (w.drew.alloc (.cells (xs.toArray ++ Builtin.zeroCells z.cells m ++ Builtin.zeroCells z.cells (grownCap w (n + m) old e - (n + m))) e)) row := by
    intro old ho row
    have hge := grownCap_ge w (n + m) old e
    have hcm : grownCap w (n + m) old e ≤ maxLen := grownCap_le_maxLen w (n + m) old e h63
    refine ⟨⟨hlen, .inr ⟨w.heap.size, _, _, rfl, Nat.zero_le _, heap_alloc_new w.drew _, hge, hcm, ?_, ?_⟩⟩, ⟨rfl, rfl, rfl, by simp, fun k hk _ => Go.heap_alloc_old w.drew _ (by simpa using hk)⟩⟩
    · simp only [Array.size_append, List.size_toArray, size_zeroCells, hzs, hown.1, ← Nat.add_mul]
      congr 1
      omega
    · simp only [Array.toList_append, List.append_assoc]
      rw [← List.append_assoc, ← hlen]
      exact List.take_left
  rcases hown.2 with ⟨rfl, rfl⟩ | ⟨g, cap, cur, rfl, hbg, hg, hnc, hcm, hcs, htake⟩
  · have hx : xs = [] := List.eq_nil_of_length_eq_zero (by simpa using hown.1)
    subst hx
    by_cases hm : m = 0
    · subst hm
      have hn : (Builtin.zeroCells z.cells 0).toList = [] := List.eq_nil_of_length_eq_zero (by simpa using hl)
      rw [hn]
      refine ⟨.slice none 0 0, w, ?_, World.ownsRow_nil w 0 e i.size, ⟨rfl, rfl, rfl, Nat.le_refl _, fun _ _ _ => rfl⟩, by simp, Or.inl rfl⟩
      simp [Builtin.append_, run_underlying ht, run_underlying htn, Go.sizeOf, typeInfo, hi, asInt, asIntOf, IntKind.wrap_i64]
    · have hr := Lib.run_append_nil_zeros (P := P) w t tn ty e i z k kn ht htn hi hz m (by omega) hsz (by omega) (by omega)
      have hgr := grown 0 (by omega) (Value.ownBlock (.slice none 0 0))
      simp only [Nat.zero_add, List.nil_append, Array.empty_append] at hgr ⊢
      exact ⟨_, _, hr, hgr.1, hgr.2, by simp [hm], Or.inr rfl⟩
  · by_cases hroom : n + m ≤ cap
    · have hfit : n * i.size + (Builtin.zeroCells z.cells m).toList.length ≤ cur.size := by rw [hl, hcs, ← Nat.add_mul]; exact Nat.mul_le_mul_right _ hroom
      have hst := run_storeCells_at P g (n * i.size) e (Builtin.zeroCells z.cells m).toList 0 cur w hg (by simpa using hfit) h1
      simp only [Nat.add_zero] at hst
      have hr : (Builtin.append_ #[t, tn] ty #[.slice (some ⟨g, 0, none⟩) n cap, .int k (m : Int)]).run P w = .ok (.slice (some ⟨g, 0, none⟩) (n + m) cap) (w.setRow g (cur.toList.take (n * i.size) ++ (Builtin.zeroCells z.cells m).toList ++ cur.toList.drop (n * i.size + (Builtin.zeroCells z.cells m).toList.length)).toArray) := by
        by_cases hm : m * i.size = 0
        · have hm0 : m = 0 := by
            rcases Nat.eq_zero_or_pos m with h | h
            · exact h
            · have := Nat.mul_pos h hsz; omega
          subst hm0
          have hz0 : (Builtin.zeroCells z.cells 0) = #[] := by simp [Builtin.zeroCells]
          rw [hz0] at hst ⊢
          simp only [Array.toList_empty] at hst
          simp [Builtin.append_, run_underlying ht, run_underlying htn, Go.sizeOf, typeInfo, hi, asInt, asIntOf, IntKind.wrap_i64, hnc, storeCells]
          rw [setRow_self w g cur e (0, 0) hg]
        · simp [Builtin.append_, run_underlying ht, run_underlying htn, Go.sizeOf, typeInfo, zeroValue, hi, hz, asInt, asIntOf, hw, hneg, h48i, hm, hroom, Addr.add_lit, hst]
      refine ⟨_, _, hr, ⟨hlen, .inr ⟨g, cap, _, rfl, hbg, setRow_heap w g cur _ e _ hg, hroom, hcm, ?_, ?_⟩⟩, ⟨rfl, rfl, rfl, by simp, fun k _ hk => setRow_other w g k _ (fun e => hk (by simp [Value.ownBlock, e]))⟩, by simp, Or.inl rfl⟩
      · simp only [List.size_toArray, List.length_append, List.length_take, List.length_drop, Array.length_toList]
        simp only [Array.length_toList] at hfit
        omega
      · rw [htake, ← hlen]
        exact List.take_left
    · have holds : ∀ j u, xs[j]? = some u → w.drew.cell? ((⟨g, 0, none⟩ : Addr).add j) = some u := by
        simpa using hown.cells (g := g) rfl
      have hfo := run_firstCells_some (P := P) w.drew i.size n ⟨g, 0, none⟩ n cap xs hown.1 holds
      have hn : ¬ (n + m ≤ cap) := hroom
      have h63' : ¬ (9223372036854775807 < ((n : Int) + (m : Int))) := by omega
      have hm : m ≠ 0 := by omega
      have hns : ¬ (m * i.size = 0) := Nat.mul_ne_zero hm (by omega)
      have hfit : Builtin.nextslicecap (n + m) cap * i.bytes ≤ 281474976710656 := growslice_fits (by omega) hbytes
      have h48' : ¬ (281474976710656 < Builtin.nextslicecap (n + m) cap * i.bytes) := by omega
      have hr : (Builtin.append_ #[t, tn] ty #[.slice (some ⟨g, 0, none⟩) n cap, .int k (m : Int)]).run P w = .ok (.slice (some ⟨w.heap.size, 0, none⟩) (n + m) (grownCap w (n + m) cap e))
          (w.drew.alloc (.cells (xs.toArray ++ Builtin.zeroCells z.cells m ++ Builtin.zeroCells z.cells (grownCap w (n + m) cap e - (n + m))) e)) := by
        simp [Builtin.append_, run_underlying ht, run_underlying htn, Go.sizeOf, typeInfo, zeroValue, hi, hz, asInt, asIntOf, hw, hneg, h48i, hm, hns, hn, h63', h48', Question.forced, hfo, newRow, grownCap]
      have hgr := grown cap (by omega) (Value.ownBlock (.slice (some ⟨g, 0, none⟩) n cap))
      exact ⟨_, _, hr, hgr.1, hgr.2, by simp, Or.inr rfl⟩
theorem s_appZ {α : Type} (S : St n m w0 l H a w) {tt tn e : TypeId} {x y : Operand} {ty' : Ty α} {A : Option Addr} {k cap bytes : Nat} {xs : List α} {z : α} {c0 : ty'.Ch} {vz : Value} {kk kn : IntKind} {i : Int} {H' : Option Addr → Nat → List Res}
    (hx : evo l x = some (.v (.slice A k cap))) (hf : ∀ A' cap', Foc H (Res.row ty' e A k cap xs) (Res.row ty' e A' (k + i.toNat) cap' (xs ++ List.replicate i.toNat z)) (H' A' cap')) (hy : evo l y = some (.v (.int kk i)))
    (hu : P.underlying tt = some (.slice e)) (hun : P.underlying tn = some (.int kn)) (hI : appI P e = some (ty'.size, bytes)) (hz : zeroI P e = some vz) (hzc : vz.cells.toList = cellsOf (ty'.segs z c0)) (hzok : okS m (ty'.segs z c0)) (h0 : 0 ≤ i) (hB : (xs.length + i.toNat) * bytes ≤ 140737488355328) (ht : Nat.blt t n = true)
    (K : ∀ A' cap' a' w', St n m w0 ((t, .v (.slice A' (k + i.toNat) cap')) :: l) (H' A' cap') a' w' → wpList P ops Q rest a' w') : wpList P ops Q (⟨some t, .call ⟨.builtin .append, #[x, y], #[tt, tn]⟩, ty, ps, af, none⟩ :: rest) a w := by
  obtain ⟨inf, zv, i1, i2, i3, i4, i5, i6, i7⟩ := appI_some hI
  obtain rfl : zv = vz := by
    unfold zeroI at hz
    rw [i1] at hz
    exact Option.some.inj (i2.symm.trans hz)
  obtain ⟨N, rfl⟩ := Int.eq_ofNat_of_zero_le h0
  simp only [Int.ofNat_toNat, Int.toNat_natCast] at hB hf K
  obtain ⟨hk, cs, h1, h2, h3⟩ := S.holds _ (hf none 0).mem
  have hk : xs.length = k := hk
  have hmax : k + N ≤ maxLen := by
    have : (xs.length + N) * 1 ≤ (xs.length + N) * bytes := Nat.mul_le_mul_left _ i7
    simp only [maxLen]
    omega
  have hmade : (Builtin.zeroCells zv.cells N).toList = cellsOf (segsL ty' (List.replicate N z) (List.replicate N c0)) := by
    rw [← made_cells hzok hzc i5 i6 N]
    simp only [Builtin.zeroCells, madeCells, i5]
  obtain ⟨v', w', r1, r2, r3, r4, r5⟩ := run_append_own_zeros (P := P) w tt tn ty e inf zv ty'.size bytes kk kn hu hun i1 i2 i3 i4 i5 i6 i7 (.slice A k cap) k (cellsOf (segsL ty' xs cs)) h3 N
    (fun u hu => by rw [hmade] at hu; exact plain_one (plain_cells (rep_ok (m := m) hzok N) u hu)) hmax (by rw [← hk]; exact hB)
  have hx' : a.eval x = .slice A k cap := S.evo hx
  have hy' : a.eval y = .int kk (N : Int) := S.evo hy
  have hown2 : ∀ (B : Option Addr) c c', (Value.slice B c c').ownBlock = B.map (·.block) := fun B c c' => by cases B <;> rfl
  have key : ∃ A' cap', v' = .slice A' (k + N) cap' := by
    rcases r2.2 with ⟨rfl, e2⟩ | ⟨g, cp, cur, rfl, _⟩
    · exact ⟨none, 0, by rw [e2]⟩
    · exact ⟨_, cp, rfl⟩
  obtain ⟨A', cap', rfl⟩ := key
  rw [hown2, hown2] at r5
  rw [hown2] at r3
  refine s_runw (dv := .v (.slice A' (k + N) cap')) (w' := w') (m' := m) (H' := H' A' cap') S ht rfl ?_ ?_ (K A' cap' · w')
  · simp only [execOp, resolve]
    simp [invoke, builtin, hx', hy', r1, D.val]
  · refine S.turn (hf A' cap') r3 ⟨by simp; omega, cs ++ List.replicate N c0, by simp [h1], ?_, ?_⟩ (fun b hb => ?_)
    · rw [segsL_append xs _ cs _ h1, okS_append]; exact ⟨h2, rep_ok hzok N⟩
    · rw [segsL_append xs _ cs _ h1, cellsOf_append, ← hmade]; exact r2
    · rcases r5 with r5 | r5
      · exact .inl (show A.map (·.block) = some b from r5.symm.trans hb)
      · have : some w.heap.size = some b := r5.symm.trans hb
        obtain rfl := Option.some.inj this
        exact .inr (Nat.le_refl _)

/-! ### 3. a piece of a row -/
theorem Res.row.cap {α : Type} {ty' : Ty α} {e : TypeId} {A : Option Addr} {k cap : Nat} {xs : List α} (hr : (Res.row ty' e A k cap xs).holds m w) : k ≤ cap ∧ cap ≤ maxLen := by
  obtain ⟨h0, cs, c1, c2, c3, c4⟩ := hr
  rcases c4 with ⟨e1, e2⟩ | ⟨g, cp, cur, e1, e2, e3, e4, e5, e6, e7⟩
  · obtain ⟨-, -, rfl⟩ := Value.slice.inj e1; simp [e2]
  · obtain ⟨-, -, rfl⟩ := Value.slice.inj e1; exact ⟨e4, e5⟩
def atOf (A : Option Addr) (cap lo z : Nat) : Option Addr := if cap = lo then A else A.map (·.add (lo * z))
theorem s_cutR {α : Type} (S : St n m w0 l H a w) {e et ee : TypeId} {x : Operand} {lo hi : Option Operand} {A : Option Addr} {k cap : Nat} {ty' : Ty α} {xs : List α} {b : Bool} {i j : Int} {T : List Res}
    (hx : evo l x = some (.v (.slice A k cap))) (hf : Foc H (Res.row ty' ee A k cap xs) (Res.row ty' ee A k cap xs) T) (hu : P.underlying e = some (.slice et)) (hT : tyI P et = some (b, ty'.size))
    (hlo : (lo = none ∧ i = 0) ∨ ∃ o k, lo = some o ∧ evo l o = some (.v (.int k i))) (hhi : (hi = none ∧ j = k) ∨ ∃ o k, hi = some o ∧ evo l o = some (.v (.int k j))) (h0 : 0 ≤ i ∧ i ≤ j ∧ j ≤ k) (ht : Nat.blt t n = true)
    (K : ∀ a', St n m w0 ((t, .v (.slice (atOf A cap i.toNat ty'.size) (j.toNat - i.toNat) (cap - i.toNat))) :: l) H a' w → wpList P ops Q rest a' w) : wpList P ops Q (⟨some t, .slice e x lo hi none, ty, ps, af, none⟩ :: rest) a w := by
  have hc := Res.row.cap (S.holds _ hf.mem)
  have hx' : a.eval x = .slice A k cap := S.evo hx
  refine s_run (dv := .v (.slice (atOf A cap i.toNat ty'.size) (j.toNat - i.toNat) (cap - i.toNat))) S ht rfl ?_ K
  have hb := sliceBounds_run (P := P) (b := true) (len := k) (cap := cap) S hlo hhi (by omega) (fun _ => by omega)
  simp only [execOp, hx', Option.map_none]
  simp only [Instr.sliceAt, Instr.slice, Sem.run_bind, run_underlying hu, Result.andThen_ok, hb, run_sizeI hT, Sem.run_pure, D.val, atOf]
theorem cells_ints {k : IntKind} : ∀ (xs : List Int) (cs : List (Ty.int k).Ch), cs.length = xs.length → cellsOf (segsL (Ty.int k) xs cs) = nums k xs
  | [], [], _ => rfl
  | x :: xs, c :: cs, h => by
    rw [segsL, cellsOf_append, cells_ints xs cs (by simpa using h)]
    simp [Ty.int, cellsOf, Seg.cells, nums]
/-- Numbers that stand in a piece of a row of the call's own. -/
theorem rowsrcI {k : IntKind} {e : TypeId} {A : Option Addr} {n cap lo dl : Nat} {xs : List Int} (h : (Res.row (Ty.int k) e A n cap xs).holds m w) (hd : lo + dl ≤ n) : SrcI w k (atOf A cap lo 1) ((xs.drop lo).take dl) := by
  have hk : xs.length = n := h.1
  have hc := Res.row.cap h
  rcases Nat.eq_zero_or_pos dl with h0 | h0
  · left; simp [h0]
  · obtain ⟨g, cur, cs, rfl, _, c1, c2, c3, c4, c5, c6, c7⟩ := Res.row.at_ h (by omega)
    right
    have hne : cap ≠ lo := by omega
    refine ⟨⟨g, lo, none⟩, ?_, fun j hj => ?_⟩
    · simp only [atOf, if_neg hne, Option.map_some, Nat.mul_one]; congr 1; unfold Addr.add; split <;> simp_all
    · have hj' : j < dl := by simp at hj; omega
      have ha : (⟨g, lo, none⟩ : Addr).add j = ⟨g, lo + j, none⟩ := by unfold Addr.add; split <;> simp_all
      rw [ha, cell_of_row w g _ cur e (0, 0) c1]
      have hz : (Ty.int k).size = 1 := rfl
      rw [hz, Nat.mul_one, cells_ints xs cs c5] at c7
      have h1 : (cur.toList.take n)[lo + j]? = some (.int k (xs[lo + j]'(by omega))) := by
        rw [c7]; simp [nums, List.getElem?_eq_getElem (show lo + j < xs.length by omega)]
      rw [List.getElem?_take_of_lt (by omega)] at h1
      simp only [Array.getElem?_toList] at h1
      rw [h1]
      simp
theorem rowsrcI0 {k : IntKind} {e : TypeId} {A : Option Addr} {n cap : Nat} {xs : List Int} (h : (Res.row (Ty.int k) e A n cap xs).holds m w) : SrcI w k A xs := by
  have hk : xs.length = n := h.1
  have hc := Res.row.cap h
  rcases Nat.eq_zero_or_pos n with h0 | h0
  · left; exact List.eq_nil_of_length_eq_zero (by omega)
  · have h1 := rowsrcI (lo := 0) (dl := n) h (by omega)
    have ha : atOf A cap 0 1 = A := by unfold atOf; cases A <;> simp [Addr.add]
    rw [ha] at h1
    simpa [← hk] using h1
/-- A copy into a row of the call's own, or into a piece of one. -/
theorem s_copyR (S : St n m w0 l H a w) {dT sT e ee : TypeId} {x y : Operand} {dl dc lo N c2 rk cap : Nat} {k : IntKind} {xs ys : List Int} {dy : D} {A A' A2 : Option Addr} {H' : List Res} (hx : evo l x = some (.v (.slice A' dl dc))) (hf : Foc H (Res.row (Ty.int k) ee A rk cap xs) (Res.row (Ty.int k) ee A rk cap (cpy xs lo ys N)) H')
    (hA : A' = atOf A cap lo 1 ∨ (lo = 0 ∧ A' = A)) (hd : lo + dl ≤ rk) (hy : evo l y = some dy) (hyv : dy.val = .slice A2 ys.length c2) (hsrc : SrcI w k A2 ys) (hN : min ys.length dl = N) (hu : P.underlying dT = some (.slice e)) (hT : tyI P e = some (false, 1)) (ht : Nat.blt t n = true)
    (K : ∀ a' w', St n m w0 ((t, .v (.int .i64 (N : Int))) :: l) H' a' w' → wpList P ops Q rest a' w') : wpList P ops Q (⟨some t, .call ⟨.builtin .copy, #[x, y], #[dT, sT]⟩, ty, ps, af, none⟩ :: rest) a w := by
  have hr := S.holds _ hf.mem
  have hk : xs.length = rk := hr.1
  have hcap := Res.row.cap hr
  have hx' : a.eval x = .slice A' dl dc := S.evo hx
  have hy' : a.eval y = .slice A2 ys.length c2 := (S.evo hy).trans hyv
  obtain ⟨dd, inf, _, i1, _, i2⟩ := tyI_some hT
  have hsz : (P.info? e).map (·.size) = some 1 := by simp [i1, i2]
  rcases Nat.eq_zero_or_pos N with h0 | h0
  · refine s_runw (dv := .v (.int .i64 (N : Int))) (w' := w) (m' := m) (H' := H') S ht rfl ?_ (S.turn hf (World.grownBy.refl w _) ?_ (fun k hk => .inl hk)) (K · w)
    · simp only [execOp, resolve]
      have hmin : Nat.min ys.length dl = N := hN
      simp [invoke, builtin, hx', hy', D.val, run_copy_none w dT sT ty e _ _ dl dc ys.length c2 hu hsz (by omega), h0, goInt]
    · have e0 : cpy xs lo ys N = xs := by simp [cpy, h0]
      rw [e0]; exact hr
  · obtain ⟨g, cur, cs, rfl, _, c1, c2', c3, c4, c5, c6, c7⟩ := Res.row.at_ hr (by omega)
    have hA' : A' = some ⟨g, lo, none⟩ := by
      rcases hA with h | ⟨h, h'⟩
      · have hne : cap ≠ lo := by omega
        rw [h]; simp only [atOf, if_neg hne, Option.map_some, Nat.mul_one]; congr 1; unfold Addr.add; split <;> simp_all
      · rw [h', h]
    subst hA'
    have hz1 : (Ty.int k).size = 1 := rfl
    rw [hz1, Nat.mul_one] at c4 c7
    rw [cells_ints xs cs c5] at c7
    have hcl : cur.toList.length = cap := by rw [Array.length_toList]; exact c4
    have c1' : w.heap[g]? = some (.cells cur.toList.toArray ee (0, 0)) := by rw [Array.toArray_toList]; exact c1
    obtain ⟨w', r1, r2, r3, r4⟩ := run_copyI (P := P) (ty := ty) (sT := sT) (dc := dc) (c2 := c2) (o := lo) (dl := dl) hu hT c1' (by omega) hsrc hN
    refine s_runw (dv := .v (.int .i64 (N : Int))) (w' := w') (m' := m) (H' := H') S ht rfl ?_ (S.turn hf r4 ?_ (fun k hk => .inl hk)) (K · w')
    · simp only [execOp, resolve]
      simp [invoke, builtin, hx', hy', r1, D.val]
    · have hlenN : (cpy xs lo ys N).length = xs.length := cpy_length _ _ _ _ (by omega) (by omega)
      refine ⟨by rw [hlenN]; exact hk, cs, by rw [hlenN]; exact c5, ?_, ?_, ?_⟩
      · exact (segsL_ok _ _ (by rw [hlenN]; exact c5)).2 fun i hi hi' => ⟨rfl, trivial⟩
      · rw [cells_ints _ cs (by rw [hlenN]; exact c5), nums_length, hlenN, hk]; simp [Ty.int]
      · refine .inr ⟨g, cap, _, rfl, Nat.zero_le _, r3 h0, c2', c3, ?_, ?_⟩
        · simp only [hz1, Nat.mul_one, List.size_toArray, List.length_append, List.length_take, List.length_drop, nums_length]
          omega
        · rw [cells_ints _ cs (by rw [hlenN]; exact c5)]
          simp only [hz1, Nat.mul_one, List.toList_toArray]
          have hnl : (nums k (ys.take N)).length = N := by rw [nums_length, List.length_take]; omega
          have t1 : cur.toList.take lo = (nums k xs).take lo := by rw [← c7, List.take_take, Nat.min_eq_left (by omega)]
          have t2 : (cur.toList.drop (lo + N)).take (rk - (lo + N)) = (nums k xs).drop (lo + N) := by rw [← c7, List.drop_take]
          simp only [cpy, nums_append, nums_take, nums_drop]
          rw [nums_take] at hnl
          rw [List.take_append, List.take_of_length_le (by simp only [List.length_append, List.length_take, hnl]; omega), t1]
          congr 1
          rw [← t2]
          congr 1
          simp only [List.length_append, List.length_take, hnl, nums_length]
          omega
end
end GW
