import Derived.Test.YtjgdpkmbnooemaaDoorGWCtr
import Derived.Lib.AppendZeros
set_option linter.unusedVariables false
set_option linter.unusedSimpArgs false
namespace GW
open Go Go.RowKit
def Ty.Flat {α : Type} (t : Ty α) : Prop := ∀ (x : α) (c : t.Ch) (m m' : Mem), okS m (t.segs x c) → okS m' (t.segs x c)
theorem flat_str : Ty.str.Flat := fun _ _ _ _ h => h
theorem Res.stay_row {α : Type} {ty : Ty α} {e : TypeId} {A : Option Addr} {n cap : Nat} {xs : List α} (hf : ty.Flat) : (Res.row ty e A n cap xs).Stay := fun m m' w w' _ h2 => by
 obtain ⟨h0, cs, h1, h3, h4⟩ := h2
 exact ⟨h0, cs, h1, (segsL_ok xs cs h1).2 fun i hi hi' => hf _ _ _ _ ((segsL_ok xs cs h1).1 h3 i hi hi'), h4⟩
section
variable {P : Program} {n : Nat} {m : Mem} {w0 : Base} {l : List (Nat × D)} {H : List Res} {a : Act} {w : World}
variable {ops : Array Oper} {Q : Exit → Act → World → Prop} {rest : List Oper} {ty : TypeId} {ps : String} {af : Array Edge} {t : Nat}
theorem s_iaddrO0 {α : Type} (S : St n m w0 l H a w) {e et ee : TypeId} {x y : Operand} {A : Option Addr} {k cap g : Nat} {ty' : Ty α} {xs : List α} {kk : IntKind} {i : Int} {b : Bool} {T : List Res} (hA : A = some ⟨g, 0, none⟩)
  (hx : evo l x = some (.v (.slice A k cap))) (hf : Foc H (Res.row ty' ee A k cap xs) (Res.row ty' ee A k cap xs) T) (hy : evo l y = some (.v (.int kk i))) (hu : P.underlying e = some (.slice et)) (hT : tyI P et = some (b, ty'.size)) (h0 : 0 ≤ i) (h1 : i < xs.length) (ht : Nat.blt t n = true)
  (K : ∀ a', St n m w0 ((t, .v (.pointer (some ⟨g, i.toNat * ty'.size, none⟩))) :: l) H a' w → wpList P ops Q rest a' w) : wpList P ops Q (⟨some t, .indexAddr e x y, ty, ps, af, none⟩ :: rest) a w :=
 s_run (dv := .v (.pointer (some ⟨g, i.toNat * ty'.size, none⟩))) S ht rfl (by
  have hk : xs.length = k := (S.holds _ hf.mem).1
  subst hA
  have hx' : a.eval x = .slice (some ⟨g, 0, none⟩) k cap := S.evo hx
  have hy' : a.eval y = .int kk i := S.evo hy
  have ha : (⟨g, 0, none⟩ : Addr).add (i.toNat * ty'.size) = ⟨g, i.toNat * ty'.size, none⟩ := by unfold Addr.add; split <;> simp_all
  simp only [execOp, hx', hy']
  simp [Instr.indexAt, asIntOf, run_underlying hu, h0, show i < (k : Int) by omega, run_sizeI hT, D.val, ha]) K
theorem s_fieldAddr (S : St n m w0 l H a w) {e : TypeId} {x : Operand} {f g o off o' z : Nat} {ft : TypeId} {b : Bool} (hx : evo l x = some (.v (.pointer (some ⟨g, o, none⟩)))) (hF : fieldI P e f = some (off, ft)) (hT : tyI P ft = some (b, z)) (hz : z ≠ 0) (ho : o + off = o') (ht : Nat.blt t n = true)
  (K : ∀ a', St n m w0 ((t, .v (.pointer (some ⟨g, o', none⟩))) :: l) H a' w → wpList P ops Q rest a' w) : wpList P ops Q (⟨some t, .fieldAddr e x f, ty, ps, af, none⟩ :: rest) a w :=
 s_run (dv := .v (.pointer (some ⟨g, o', none⟩))) S ht rfl (by
  have hx' : a.eval x = .pointer (some ⟨g, o, none⟩) := S.evo hx
  unfold fieldI at hF
  split at hF
  ·rename_i fs hu
   obtain ⟨fd, hfd, he⟩ := Option.map_eq_some_iff.1 hF
   simp only [Prod.mk.injEq] at he
   obtain ⟨rfl, rfl⟩ := he
   have ha : (⟨g, o, none⟩ : Addr).add fd.offset = ⟨g, o', none⟩ := by subst ho; unfold Addr.add; split <;> simp_all
   simp only [execOp, hx']
   simp [Instr.fieldAt, run_underlying hu, hfd, Instr.sureAddr, fieldPlace, run_sizeI hT, hz, ha, D.val]
  ·cases hF) K
theorem s_eqnil (S : St n m w0 l H a w) {xt yt e : TypeId} {x y : Operand} {d : D} {A : Option Addr} {k c k' c' : Nat} {b : Bool} (hx : evo l x = some d) (hd : d.val = .slice A k c) (hu : P.underlying xt = some (.slice e)) (hy : y = .const (.slice none k' c')) (hb : A.isNone = b) (ht : Nat.blt t n = true)
  (K : ∀ a', St n m w0 ((t, .v (.bool b)) :: l) H a' w → wpList P ops Q rest a' w) : wpList P ops Q (⟨some t, .binOp .eql xt x y yt, ty, ps, af, none⟩ :: rest) a w :=
 s_run (dv := .v (.bool b)) S ht rfl (by
  have hx' : a.eval x = .slice A k c := (S.evo hx).trans hd
  subst hb hy
  have hy' : a.eval (.const (.slice none k' c')) = .slice none k' c' := rfl
  simp only [execOp, hx', hy']
  have hg : (eqGuard .eql xt x (.const (.slice none k' c')) (.slice A k c) (.slice none k' c')).run P w = .ok () w := rfl
  simp only [Sem.run_bind, hg, Result.andThen_ok, Lib.run_eql_slice_nil w xt e A k c k' c' hu, Sem.run_pure, D.val]) K
theorem rd_nil {α : Type} {ty' : Ty α} {A : Option Addr} {xs : List α} (h : A.isNone = true) (hR : RdS ty' A xs m) : xs = [] := by
 cases xs with
 | nil => rfl
 | cons x xs =>
  obtain ⟨ad, c, h1, _⟩ := hR 0 (by simp)
  subst h1; cases h
section
variable {m' : Mem} {HS : List Res} {C' : World → Prop}
end
theorem run_append_own_zeros (w : World) (t tn ty e : TypeId) (i : TypeInfo) (z : Value) (size bytes : Nat) (k kn : IntKind) (ht : P.underlying t = some (.slice e)) (htn : P.underlying tn = some (.int kn)) (hi : P.info? e = some i) (hz : i.zero = some z)
    (hsize : i.size = size) (hby : i.bytes = bytes) (hzs : z.cells.size = size) (hsz : 0 < size) (hb0 : 0 < bytes)
    (v : Value) (n : Nat) (xs : List Value) (hown : w.ownsRow 0 e size v n xs) (m : Nat) (h1 : ∀ u ∈ (Builtin.zeroCells z.cells m).toList, u.oneCell' = true)
    (h63 : n + m ≤ maxLen) (hbytes : (n + m) * bytes ≤ 140737488355328) :
    ∃ v' w', (Builtin.append_ #[t, tn] ty #[v, .int k (m : Int)]).run P w = .ok v' w' ∧ w'.ownsRow 0 e size v' (n + m) (xs ++ (Builtin.zeroCells z.cells m).toList) ∧ w.grownBy w' v.ownBlock ∧
      (v' = .slice none 0 0 ↔ v = .slice none 0 0 ∧ m = 0) ∧ (v'.ownBlock = v.ownBlock ∨ v'.ownBlock = some w.heap.size) := by
  subst hsize
  subst hby
  have hsmall : n + m ≤ 9223372036854775807 := by simp only [maxLen] at h63; omega
  have hl : (Builtin.zeroCells z.cells m).toList.length = m * i.size := by rw [Array.length_toList, size_zeroCells, hzs]
  have hlen : (xs ++ (Builtin.zeroCells z.cells m).toList).length = (n + m) * i.size := by rw [List.length_append, hown.1, hl, Nat.add_mul]
  have hw : IntKind.i64.wrap (m : Int) = m := by rw [IntKind.wrap_i64]; omega
  have hmb : m * i.bytes ≤ 140737488355328 := Nat.le_trans (Nat.mul_le_mul_right _ (by omega)) hbytes
  have h48i : ¬ (281474976710656 < (m : Int) * (i.bytes : Int)) := by
    rw [← Int.natCast_mul]; omega
  have hneg : ¬ ((m : Int) < 0) := by omega
  have grown : ∀ (old : Nat), old < n + m → ∀ (row : Option Nat),
      (w.drew.alloc (.cells (xs.toArray ++ Builtin.zeroCells z.cells m ++ Builtin.zeroCells z.cells (grownCap w (n + m) old e - (n + m))) e)).ownsRow 0 e i.size
        (.slice (some ⟨w.heap.size, 0, none⟩) (n + m) (grownCap w (n + m) old e)) (n + m) (xs ++ (Builtin.zeroCells z.cells m).toList) ∧
      w.grownBy (w.drew.alloc (.cells (xs.toArray ++ Builtin.zeroCells z.cells m ++ Builtin.zeroCells z.cells (grownCap w (n + m) old e - (n + m))) e)) row := by
    intro old ho row
    have hge := grownCap_ge w (n + m) old e
    have hcm : grownCap w (n + m) old e ≤ maxLen := grownCap_le_maxLen w (n + m) old e h63
    refine ⟨⟨hlen, .inr ⟨w.heap.size, _, _, rfl, Nat.zero_le _, heap_alloc_new w.drew _, hge, hcm, ?_, ?_⟩⟩, ⟨rfl, rfl, rfl, by simp, fun k hk _ => Go.heap_alloc_old w.drew _ (by simpa using hk)⟩⟩
    · simp only [Array.size_append, List.size_toArray, size_zeroCells, hzs, hown.1, ← Nat.add_mul]
      congr 1
      omega
    · simp only [Array.toList_append, List.append_assoc]
      rw [← List.append_assoc, ← hlen]
      exact List.take_left
  rcases hown.2 with ⟨rfl, rfl⟩ | ⟨g, cap, cur, rfl, hbg, hg, hnc, hcm, hcs, htake⟩
  · have hx : xs = [] := List.eq_nil_of_length_eq_zero (by simpa using hown.1)
    subst hx
    by_cases hm : m = 0
    · subst hm
      have hn : (Builtin.zeroCells z.cells 0).toList = [] := List.eq_nil_of_length_eq_zero (by simpa using hl)
      rw [hn]
      refine ⟨.slice none 0 0, w, ?_, World.ownsRow_nil w 0 e i.size, ⟨rfl, rfl, rfl, Nat.le_refl _, fun _ _ _ => rfl⟩, by simp, Or.inl rfl⟩
      simp [Builtin.append_, run_underlying ht, run_underlying htn, Go.sizeOf, typeInfo, hi, asInt, asIntOf, IntKind.wrap_i64]
    · have hr := Lib.run_append_nil_zeros (P := P) w t tn ty e i z k kn ht htn hi hz m (by omega) hsz (by omega) (by omega)
      have hgr := grown 0 (by omega) (Value.ownBlock (.slice none 0 0))
      simp only [Nat.zero_add, List.nil_append, Array.empty_append] at hgr ⊢
      exact ⟨_, _, hr, hgr.1, hgr.2, by simp [hm], Or.inr rfl⟩
  · by_cases hroom : n + m ≤ cap
    · have hfit : n * i.size + (Builtin.zeroCells z.cells m).toList.length ≤ cur.size := by rw [hl, hcs, ← Nat.add_mul]; exact Nat.mul_le_mul_right _ hroom
      have hst := run_storeCells_at P g (n * i.size) e (Builtin.zeroCells z.cells m).toList 0 cur w hg (by simpa using hfit) h1
      simp only [Nat.add_zero] at hst
      have hr : (Builtin.append_ #[t, tn] ty #[.slice (some ⟨g, 0, none⟩) n cap, .int k (m : Int)]).run P w = .ok (.slice (some ⟨g, 0, none⟩) (n + m) cap) (w.setRow g (cur.toList.take (n * i.size) ++ (Builtin.zeroCells z.cells m).toList ++ cur.toList.drop (n * i.size + (Builtin.zeroCells z.cells m).toList.length)).toArray) := by
        by_cases hm : m * i.size = 0
        · have hm0 : m = 0 := by
            rcases Nat.eq_zero_or_pos m with h | h
            · exact h
            · have := Nat.mul_pos h hsz; omega
          subst hm0
          have hz0 : (Builtin.zeroCells z.cells 0) = #[] := by simp [Builtin.zeroCells]
          rw [hz0] at hst ⊢
          simp only [Array.toList_empty] at hst
          simp [Builtin.append_, run_underlying ht, run_underlying htn, Go.sizeOf, typeInfo, hi, asInt, asIntOf, IntKind.wrap_i64, hnc, storeCells]
          rw [setRow_self w g cur e (0, 0) hg]
        · simp [Builtin.append_, run_underlying ht, run_underlying htn, Go.sizeOf, typeInfo, zeroValue, hi, hz, asInt, asIntOf, hw, hneg, h48i, hm, hroom, Addr.add_lit, hst]
      refine ⟨_, _, hr, ⟨hlen, .inr ⟨g, cap, _, rfl, hbg, setRow_heap w g cur _ e _ hg, hroom, hcm, ?_, ?_⟩⟩, ⟨rfl, rfl, rfl, by simp, fun k _ hk => setRow_other w g k _ (fun e => hk (by simp [Value.ownBlock, e]))⟩, by simp, Or.inl rfl⟩
      · simp only [List.size_toArray, List.length_append, List.length_take, List.length_drop, Array.length_toList]
        simp only [Array.length_toList] at hfit
        omega
      · rw [htake, ← hlen]
        exact List.take_left
    · have holds : ∀ j u, xs[j]? = some u → w.drew.cell? ((⟨g, 0, none⟩ : Addr).add j) = some u := by
        simpa using hown.cells (g := g) rfl
      have hfo := run_firstCells_some (P := P) w.drew i.size n ⟨g, 0, none⟩ n cap xs hown.1 holds
      have hn : ¬ (n + m ≤ cap) := hroom
      have h63' : ¬ (9223372036854775807 < ((n : Int) + (m : Int))) := by omega
      have hm : m ≠ 0 := by omega
      have hns : ¬ (m * i.size = 0) := Nat.mul_ne_zero hm (by omega)
      have hfit : Builtin.nextslicecap (n + m) cap * i.bytes ≤ 281474976710656 := growslice_fits (by omega) hbytes
      have h48' : ¬ (281474976710656 < Builtin.nextslicecap (n + m) cap * i.bytes) := by omega
      have hr : (Builtin.append_ #[t, tn] ty #[.slice (some ⟨g, 0, none⟩) n cap, .int k (m : Int)]).run P w = .ok (.slice (some ⟨w.heap.size, 0, none⟩) (n + m) (grownCap w (n + m) cap e))
          (w.drew.alloc (.cells (xs.toArray ++ Builtin.zeroCells z.cells m ++ Builtin.zeroCells z.cells (grownCap w (n + m) cap e - (n + m))) e)) := by
        simp [Builtin.append_, run_underlying ht, run_underlying htn, Go.sizeOf, typeInfo, zeroValue, hi, hz, asInt, asIntOf, hw, hneg, h48i, hm, hns, hn, h63', h48', Question.forced, hfo, newRow, grownCap]
      have hgr := grown cap (by omega) (Value.ownBlock (.slice (some ⟨g, 0, none⟩) n cap))
      exact ⟨_, _, hr, hgr.1, hgr.2, by simp, Or.inr rfl⟩
theorem s_appZ {α : Type} (S : St n m w0 l H a w) {tt tn e : TypeId} {x y : Operand} {ty' : Ty α} {A : Option Addr} {k cap bytes : Nat} {xs : List α} {z : α} {c0 : ty'.Ch} {vz : Value} {kk kn : IntKind} {i : Int} {H' : Option Addr → Nat → List Res}
  (hx : evo l x = some (.v (.slice A k cap))) (hf : ∀ A' cap', Foc H (Res.row ty' e A k cap xs) (Res.row ty' e A' (k + i.toNat) cap' (xs ++ List.replicate i.toNat z)) (H' A' cap')) (hy : evo l y = some (.v (.int kk i)))
  (hu : P.underlying tt = some (.slice e)) (hun : P.underlying tn = some (.int kn)) (hI : appI P e = some (ty'.size, bytes)) (hz : zeroI P e = some vz) (hzc : vz.cells.toList = cellsOf (ty'.segs z c0)) (hzok : okS m (ty'.segs z c0)) (h0 : 0 ≤ i) (hB : (xs.length + i.toNat) * bytes ≤ 140737488355328) (ht : Nat.blt t n = true)
  (K : ∀ A' cap' a' w', St n m w0 ((t, .v (.slice A' (k + i.toNat) cap')) :: l) (H' A' cap') a' w' → wpList P ops Q rest a' w') : wpList P ops Q (⟨some t, .call ⟨.builtin .append, #[x, y], #[tt, tn]⟩, ty, ps, af, none⟩ :: rest) a w := by
 obtain ⟨inf, zv, i1, i2, i3, i4, i5, i6, i7⟩ := appI_some hI
 obtain rfl : zv = vz := by
  unfold zeroI at hz
  rw [i1] at hz
  exact Option.some.inj (i2.symm.trans hz)
 obtain ⟨N, rfl⟩ := Int.eq_ofNat_of_zero_le h0
 simp only [Int.ofNat_toNat, Int.toNat_natCast] at hB hf K
 obtain ⟨hk, cs, h1, h2, h3⟩ := S.holds _ (hf none 0).mem
 have hk : xs.length = k := hk
 have hmax : k + N ≤ maxLen := by
  have : (xs.length + N) * 1 ≤ (xs.length + N) * bytes := Nat.mul_le_mul_left _ i7
  simp only [maxLen]
  omega
 have hmade : (Builtin.zeroCells zv.cells N).toList = cellsOf (segsL ty' (List.replicate N z) (List.replicate N c0)) := by
  rw [← made_cells hzok hzc i5 i6 N]
  simp only [Builtin.zeroCells, madeCells, i5]
 obtain ⟨v', w', r1, r2, r3, r4, r5⟩ := run_append_own_zeros (P := P) w tt tn ty e inf zv ty'.size bytes kk kn hu hun i1 i2 i3 i4 i5 i6 i7 (.slice A k cap) k (cellsOf (segsL ty' xs cs)) h3 N
  (fun u hu => by rw [hmade] at hu; exact plain_one (plain_cells (rep_ok (m := m) hzok N) u hu)) hmax (by rw [← hk]; exact hB)
 have hx' : a.eval x = .slice A k cap := S.evo hx
 have hy' : a.eval y = .int kk (N : Int) := S.evo hy
 have hown2 : ∀ (B : Option Addr) c c', (Value.slice B c c').ownBlock = B.map (·.block) := fun B c c' => by cases B <;> rfl
 have key : ∃ A' cap', v' = .slice A' (k + N) cap' := by
  rcases r2.2 with ⟨rfl, e2⟩ | ⟨g, cp, cur, rfl, _⟩
  ·exact ⟨none, 0, by rw [e2]⟩
  ·exact ⟨_, cp, rfl⟩
 obtain ⟨A', cap', rfl⟩ := key
 rw [hown2, hown2] at r5
 rw [hown2] at r3
 refine s_runw (dv := .v (.slice A' (k + N) cap')) (w' := w') (m' := m) (H' := H' A' cap') S ht rfl ?_ ?_ (K A' cap' · w')
 ·simp only [execOp, resolve]
  simp [invoke, builtin, hx', hy', r1, D.val]
 ·refine S.turn (hf A' cap') r3 ⟨by simp; omega, cs ++ List.replicate N c0, by simp [h1], ?_, ?_⟩ (fun b hb => ?_)
  ·rw [segsL_append xs _ cs _ h1, okS_append]; exact ⟨h2, rep_ok hzok N⟩
  ·rw [segsL_append xs _ cs _ h1, cellsOf_append, ← hmade]; exact r2
  ·rcases r5 with r5 | r5
   ·exact .inl (show A.map (·.block) = some b from r5.symm.trans hb)
   ·have : some w.heap.size = some b := r5.symm.trans hb
    obtain rfl := Option.some.inj this
    exact .inr (Nat.le_refl _)
theorem Res.row.cap {α : Type} {ty' : Ty α} {e : TypeId} {A : Option Addr} {k cap : Nat} {xs : List α} (hr : (Res.row ty' e A k cap xs).holds m w) : k ≤ cap ∧ cap ≤ maxLen := by
 obtain ⟨h0, cs, c1, c2, c3, c4⟩ := hr
 rcases c4 with ⟨e1, e2⟩ | ⟨g, cp, cur, e1, e2, e3, e4, e5, e6, e7⟩
 ·obtain ⟨-, -, rfl⟩ := Value.slice.inj e1; simp [e2]
 ·obtain ⟨-, -, rfl⟩ := Value.slice.inj e1; exact ⟨e4, e5⟩
def atOf (A : Option Addr) (cap lo z : Nat) : Option Addr := if cap = lo then A else A.map (·.add (lo * z))
theorem s_cutR {α : Type} (S : St n m w0 l H a w) {e et ee : TypeId} {x : Operand} {lo hi : Option Operand} {A : Option Addr} {k cap : Nat} {ty' : Ty α} {xs : List α} {b : Bool} {i j : Int} {T : List Res}
  (hx : evo l x = some (.v (.slice A k cap))) (hf : Foc H (Res.row ty' ee A k cap xs) (Res.row ty' ee A k cap xs) T) (hu : P.underlying e = some (.slice et)) (hT : tyI P et = some (b, ty'.size))
  (hlo : (lo = none ∧ i = 0) ∨ ∃ o k, lo = some o ∧ evo l o = some (.v (.int k i))) (hhi : (hi = none ∧ j = k) ∨ ∃ o k, hi = some o ∧ evo l o = some (.v (.int k j))) (h0 : 0 ≤ i ∧ i ≤ j ∧ j ≤ k) (ht : Nat.blt t n = true)
  (K : ∀ a', St n m w0 ((t, .v (.slice (atOf A cap i.toNat ty'.size) (j.toNat - i.toNat) (cap - i.toNat))) :: l) H a' w → wpList P ops Q rest a' w) : wpList P ops Q (⟨some t, .slice e x lo hi none, ty, ps, af, none⟩ :: rest) a w := by
 have hc := Res.row.cap (S.holds _ hf.mem)
 have hx' : a.eval x = .slice A k cap := S.evo hx
 refine s_run (dv := .v (.slice (atOf A cap i.toNat ty'.size) (j.toNat - i.toNat) (cap - i.toNat))) S ht rfl ?_ K
 have hb := sliceBounds_run (P := P) (b := true) (len := k) (cap := cap) S hlo hhi (by omega) (fun _ => by omega)
 simp only [execOp, hx', Option.map_none]
 simp only [Instr.sliceAt, Instr.slice, Sem.run_bind, run_underlying hu, Result.andThen_ok, hb, run_sizeI hT, Sem.run_pure, D.val, atOf]
end
end GW
