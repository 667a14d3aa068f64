import Derived.Test.YtjgdpkmbnooemaaDoorGWOwn
import Derived.Laws.BytesString
set_option linter.unusedVariables false
set_option linter.unusedSimpArgs false
namespace GW
open Go Go.RowKit
theorem foldl_set_cells (off : Nat) : ∀ (v : List Value) (k : Nat) (cs : Array Value), off + k + v.length ≤ cs.size →
  ((v.zipIdx k).foldl (fun cs (x : Value × Nat) => cs.setIfInBounds (off + x.2) x.1) cs).toList = cs.toList.take (off + k) ++ v ++ cs.toList.drop (off + k + v.length)
 | [], k, cs, h => by simp
 | c :: v, k, cs, h => by
  simp only [List.length_cons] at h
  rw [List.zipIdx_cons, List.foldl_cons, foldl_set_cells off v (k + 1) _ (by simp; omega)]
  simp only [Array.toList_setIfInBounds]
  have hl : off + k < cs.toList.length := by simp; omega
  have e1 : (cs.toList.set (off + k) c).take (off + (k + 1)) = cs.toList.take (off + k) ++ [c] := by
   rw [show off + (k + 1) = (off + k) + 1 by omega, List.take_succ_eq_append_getElem (by simpa using hl)]
   simp [List.take_set_of_le]
  have e2 : (cs.toList.set (off + k) c).drop (off + (k + 1) + v.length) = cs.toList.drop (off + k + (v.length + 1)) := by
   rw [List.drop_set_of_lt (by omega)]
   congr 1
   omega
  rw [e1, e2]
  simp
def fillS (place : Nat → Option (Nat × Nat)) : List Seg → List (Nat × D) → Option (List Seg)
 | s, [] => some s
 | s, (i, d) :: r => match place i with
  | none => none
  | some (off, z) => bif Nat.beq (lenOf d.segs) z && !d.isTup then (putS s off z d.segs).bind fun s' => fillS place s' r else none
theorem putS_len {m : Mem} {s s' new : List Seg} {o z : Nat} (hok : okS m s) (h : putS s o z new = some s') : o + z ≤ (cellsOf s).length := by
 obtain ⟨p, hp, h⟩ := Option.bind_eq_some_iff.1 h
 obtain ⟨q, hq, rfl⟩ := Option.map_eq_some_iff.1 h
 have key : ∀ (s q : List Seg) (u : Nat), okS m s → dropS s u = some q → u ≤ (cellsOf s).length := by
  intro s
  induction s with
  | nil => intro q u _ h; cases u with
   | zero => simp
   | succ u => simp [dropS] at h
  | cons x r ih => intro q u hok h; cases u with
   | zero => simp
   | succ u =>
    have h' : (bif Nat.ble x.len (u + 1) then dropS r (u + 1 - x.len) else none) = some q := h
    cases hb : Nat.ble x.len (u + 1) with
    | false => rw [hb] at h'; cases h'
    | true =>
     rw [hb] at h'
     have := ih q _ hok.2 h'
     have := Nat.ble_eq.mp hb
     rw [cellsOf, List.length_append, Seg.len_cells hok.1]
     omega
 exact key s q (o + z) hok hq
theorem fillS_run {m : Mem} (place : Nat → Option (Nat × Nat)) : ∀ (parts : List (Nat × D)) (s s' : List Seg), okS m s → (∀ p ∈ parts, p.2.ok m) → fillS place s parts = some s' →
  Instr.fill place (cellsOf s).toArray (parts.map fun p => (p.1, p.2.val)) = some (cellsOf s').toArray ∧ okS m s'
 | [], s, s', hok, _, h => by obtain rfl := Option.some.inj h; exact ⟨rfl, hok⟩
 | (i, d) :: r, s, s', hok, hp, h => by
  simp only [fillS] at h
  cases hpl : place i with
  | none => rw [hpl] at h; cases h
  | some oz =>
   obtain ⟨off, z⟩ := oz
   rw [hpl] at h
   simp only at h
   cases hb : (Nat.beq (lenOf d.segs) z && !d.isTup) with
   | false => rw [hb] at h; cases h
   | true =>
    rw [hb] at h
    simp only [Bool.and_eq_true, Bool.not_eq_true', Nat.beq_eq] at hb
    obtain ⟨s1, h1, h2⟩ := Option.bind_eq_some_iff.1 (show (putS s off z d.segs).bind (fun s' => fillS place s' r) = some s' from h)
    have hd := hp _ List.mem_cons_self
    obtain ⟨c1, c2⟩ := putS_cells hok (D.ok_segs hd) hb.1 h1
    obtain ⟨ih1, ih2⟩ := fillS_run place r s1 s' c2 (fun p hp' => hp p (List.mem_cons_of_mem _ hp')) h2
    have hcs : d.val.cells = (cellsOf d.segs).toArray := D.cells_val hd hb.2
    have hcl : (cellsOf d.segs).length = z := by rw [len_cellsOf (D.ok_segs hd), hb.1]
    have hle := putS_len hok h1
    refine ⟨?_, ih2⟩
    simp only [List.map_cons, Instr.fill, hpl, hcs, List.size_toArray, hcl]
    have h3 : ¬ ((decide (z ≠ z) || decide (off + z > (cellsOf s).length)) = true) := by simp; omega
    rw [if_neg h3, ← ih1]
    congr 1
    apply Array.toList_inj.1
    have := foldl_set_cells off (cellsOf d.segs) 0 (cellsOf s).toArray (by simp; omega)
    simp only [Nat.add_zero] at this
    rw [c1, ← hcl, ← Array.foldl_toList, Array.toList_zipIdx]
    exact this
section
variable {P : Program} {n : Nat} {m : Mem} {w0 : Base} {l : List (Nat × D)} {H : List Res} {a : Act} {w : World}
variable {ops : Array Oper} {Q : Exit → Act → World → Prop} {rest : List Oper} {ty : TypeId} {ps : String} {af : Array Edge} {t : Nat}
theorem evop_ok (S : St n m w0 l H a w) {xs : List (Nat × Operand)} {ds : List (Nat × D)} (h : evop l xs = some ds) : ∀ p ∈ ds, p.2.ok m := by
 induction xs generalizing ds with
 | nil => obtain rfl : ([] : List (Nat × D)) = ds := Option.some.inj h; intro p hp; cases hp
 | cons x r ih =>
  obtain ⟨i, x⟩ := x
  obtain ⟨d, hd, h⟩ := Option.bind_eq_some_iff.1 h
  obtain ⟨es, he, rfl⟩ := Option.map_eq_some_iff.1 h
  intro p hp
  rcases List.mem_cons.1 hp with rfl | hp
  ·exact evo_ok S hd
  ·exact ih he p hp
theorem s_bldS (S : St n m w0 l H a w) {e : TypeId} {xs : List (Nat × Operand)} {ds : List (Nat × D)} {fs : Array Field} {pl : Array (Nat × Nat)} {zs s' : List Seg} (hx : evop l xs = some ds) (hu : P.underlying e = some (.struct fs))
  (hM : ∀ w : World, (fs.mapM fun f => (do pure (f.offset, ← Go.sizeOf f.type) : Sem (Nat × Nat))).run P w = .ok pl w) (hZ : zeroI P e = some (D.val (.agg zs))) (hz : okS m zs) (hF : fillS (pl[·]?) zs ds = some s') (ht : Nat.blt t n = true)
  (K : ∀ a', St n m w0 ((t, .agg s') :: l) H a' w → wpList P ops Q rest a' w) : wpList P ops Q (⟨some t, .build e xs.toArray, ty, ps, af, none⟩ :: rest) a w := by
 obtain ⟨f1, f2⟩ := fillS_run _ ds zs s' hz (evop_ok S hx) hF
 refine s_run (dv := .agg s') S ht f2 ?_ K
 have he := S.evop hx
 have h2 : (xs.map fun x => match x with | (i, x) => (i, a.eval x)) = ds.map (fun p => (p.1, p.2.val)) := by rw [← he]
 simp only [execOp, List.map_toArray, h2, Instr.build, Sem.run_bind, run_zeroI hZ, run_underlying hu, Result.andThen_ok, hM]
 have hc : (D.val (.agg zs)).cells = (cellsOf zs).toArray := rfl
 rw [hc, f1]
 rfl
theorem s_bldSl {α : Type} (S : St n m w0 l H a w) {tt e : TypeId} {k bytes : Nat} {xs : List (Nat × Operand)} {ds : List (Nat × D)} {ty' : Ty α} {z : α} {c0 : ty'.Ch} {vz : Value} {ys : List α} {cs : List ty'.Ch} (hx : evop l xs = some ds) (hu : P.underlying tt = some (.slice e)) (hI : appI P e = some (ty'.size, bytes))
  (hz : zeroI P e = some vz) (hzc : vz.cells.toList = cellsOf (ty'.segs z c0)) (hzok : okS m (ty'.segs z c0)) (hlen : ys.length = k) (hcs : cs.length = ys.length) (hsm : Nat.ble (k * ty'.size) 16777216 = true) (hmax : Nat.ble k maxLen = true)
  (hF : fillS (fun i => some (i * ty'.size, ty'.size)) (segsL ty' (List.replicate k z) (List.replicate k c0)) ds = some (segsL ty' ys cs)) (ht : Nat.blt t n = true)
  (K : ∀ g a' w', St n m w0 ((t, .v (.slice (some ⟨g, 0, none⟩) k k)) :: l) (Res.row ty' e (some ⟨g, 0, none⟩) k k ys :: H) a' w' → wpList P ops Q rest a' w') : wpList P ops Q (⟨some t, .buildSlice tt k xs.toArray, ty, ps, af, none⟩ :: rest) a w := by
 obtain ⟨inf, zv, i1, i2, i3, i4, i5, i6, i7⟩ := appI_some hI
 obtain rfl : zv = vz := by
  unfold zeroI at hz
  rw [i1] at hz
  exact Option.some.inj (i2.symm.trans hz)
 obtain ⟨f1, f2⟩ := fillS_run _ ds _ _ (rep_ok hzok k) (evop_ok S hx) hF
 have hmc := made_cells hzok hzc i5 i6 k
 have hcl : (cellsOf (segsL ty' ys cs)).length = k * ty'.size := by rw [segsL_len_mul ys cs hcs f2, hlen]
 have hmax' : k ≤ maxLen := Nat.le_of_ble_eq_true hmax
 have hsm' : k * ty'.size ≤ 16777216 := Nat.le_of_ble_eq_true hsm
 refine s_runw (dv := .v (.slice (some ⟨w.heap.size, 0, none⟩) k k)) (w' := w.alloc (.cells (cellsOf (segsL ty' ys cs)).toArray e)) S ht rfl ?_
  (S.new (Res.row ty' e (some ⟨w.heap.size, 0, none⟩) k k ys) (World.grownBy_alloc w _ none) ⟨hlen, cs, hcs, f2, ?_⟩ (fun b hb => by obtain rfl : w.heap.size = b := Option.some.inj hb; exact Nat.le_refl _)) (K _ · _)
 ·have he := S.evop hx
  have h2 : (xs.map fun x => match x with | (i, x) => (i, a.eval x)) = ds.map (fun p => (p.1, p.2.val)) := by rw [← he]
  have hsm2 : ¬ (k * ty'.size > 2 ^ 24) := by omega
  have hcells : ((Array.range (k * ty'.size)).map fun x => (if k * ty'.size = 0 then (#[] : Array Value) else zv.cells)[x % (if k * ty'.size = 0 then (#[] : Array Value) else zv.cells).size]!) = (cellsOf (segsL ty' (List.replicate k z) (List.replicate k c0))).toArray := by
   apply Array.toList_inj.1
   rw [← hmc]
   by_cases h0 : k * ty'.size = 0
   ·simp [h0, madeCells]
   ·simp [h0, madeCells]
  have hsz : (Go.sizeOf e).run P w = .ok ty'.size w := by rw [run_szOf i1, i3]
  have hdv : (D.v (.slice (some ⟨w.heap.size, 0, none⟩) k k)).val = .slice (some ⟨w.heap.size, 0, none⟩) k k := rfl
  by_cases h0 : k * ty'.size = 0
  ·simp only [h0, if_true] at hcells
   have hc0 : cellsOf (segsL ty' (List.replicate k z) (List.replicate k c0)) = [] := by
    apply List.eq_nil_of_length_eq_zero
    rw [segsL_len_mul _ _ (by simp) (rep_ok hzok k), List.length_replicate, h0]
   rw [hc0] at f1
   have hr0 : (Array.range 0).map (fun x => (#[] : Array Value)[x % (#[] : Array Value).size]!) = #[] := by apply Array.toList_inj.1; simp
   simp only [execOp, List.map_toArray, h2, Instr.buildSlice, Sem.run_bind, run_underlying hu, Result.andThen_ok, hsz, h0, show ¬ (0 > 2 ^ 24) by omega, if_false, if_true, Sem.run_pure, hr0, f1, newRow, hdv]
   rfl
  ·simp only [h0, if_false] at hcells
   simp only [execOp, List.map_toArray, h2, Instr.buildSlice, Sem.run_bind, run_underlying hu, Result.andThen_ok, hsz, hsm2, if_false, Sem.run_pure, h0, run_zeroI hz, hcells, f1, newRow, hdv]
   rfl
 ·exact ⟨by rw [hcl], .inr ⟨w.heap.size, k, _, rfl, Nat.zero_le _, heap_alloc_new w _, Nat.le_refl _, hmax', by simp [hcl], by rw [List.take_of_length_le (by simp [hcl])]⟩⟩
theorem sliceBounds_run {b : Bool} {len cap : Nat} {lo hi : Option Operand} {i j : Int} {w : World} (S : St n m w0 l H a w) (hlo : (lo = none ∧ i = 0) ∨ ∃ o k, lo = some o ∧ evo l o = some (.v (.int k i))) (hhi : (hi = none ∧ j = len) ∨ ∃ o k, hi = some o ∧ evo l o = some (.v (.int k j)))
  (h0 : 0 ≤ i ∧ i ≤ j ∧ j ≤ cap) (hlc : hi = none → j ≤ cap) : (Instr.sliceBounds b len cap (lo.map a.eval) (hi.map a.eval) none).run P w = .ok (i.toNat, j.toNat, cap) w := by
 have hlo' : (lo.map a.eval = none ∧ i = 0) ∨ ∃ v, lo.map a.eval = some v ∧ ∃ k, v = .int k i := by
  rcases hlo with ⟨rfl, h⟩ | ⟨o, k, rfl, ho⟩
  ·exact .inl ⟨rfl, h⟩
  ·exact .inr ⟨_, rfl, k, S.evo ho⟩
 have hhi' : (hi.map a.eval = none ∧ j = len) ∨ ∃ v, hi.map a.eval = some v ∧ ∃ k, v = .int k j := by
  rcases hhi with ⟨rfl, h⟩ | ⟨o, k, rfl, ho⟩
  ·exact .inl ⟨rfl, h⟩
  ·exact .inr ⟨_, rfl, k, S.evo ho⟩
 obtain ⟨h0, h1, h2⟩ := h0
 rcases hlo' with ⟨e1, e2⟩ | ⟨v, e1, k, rfl⟩ <;> rcases hhi' with ⟨f1, f2⟩ | ⟨u, f1, k', rfl⟩ <;> rw [e1, f1]
 ·subst e2; have : j.toNat = len := by omega
  simp [Instr.sliceBounds, this]
 ·subst e2
  have : 0 ≤ j ∧ j ≤ (cap : Int) := by omega
  simp [Instr.sliceBounds, Instr.sliceBound, asIntOf, this]
 ·have h3 : 0 ≤ i ∧ i ≤ (len : Int) := by omega
  have : j.toNat = len := by omega
  simp [Instr.sliceBounds, Instr.sliceBound, asIntOf, h3, this]
 ·have h3 : 0 ≤ i ∧ i ≤ ((j.toNat : Nat) : Int) := by omega
  have h4 : 0 ≤ j ∧ j ≤ (cap : Int) := by omega
  simp [Instr.sliceBounds, Instr.sliceBound, asIntOf, h3.1, h4.1, h4.2, show i ≤ j by omega, h0]
  intro h; omega
theorem s_sliceA (S : St n m w0 l H a w) {e et : TypeId} {x : Operand} {lo hi : Option Operand} {g o c z : Nat} {b : Bool} {i j : Int} {o' len cap : Nat} (hx : evo l x = some (.v (.pointer (some ⟨g, o, none⟩)))) (hu : P.underlying e = some (.array c et)) (hT : tyI P et = some (b, z))
  (hlo : (lo = none ∧ i = 0) ∨ ∃ o k, lo = some o ∧ evo l o = some (.v (.int k i))) (hhi : (hi = none ∧ j = c) ∨ ∃ o k, hi = some o ∧ evo l o = some (.v (.int k j))) (h0 : 0 ≤ i ∧ i ≤ j ∧ j ≤ c)
  (ho : (if c = i.toNat then o else o + i.toNat * z) = o') (hl : j.toNat - i.toNat = len) (hcap : c - i.toNat = cap) (ht : Nat.blt t n = true)
  (K : ∀ a', St n m w0 ((t, .v (.slice (some ⟨g, o', none⟩) len cap)) :: l) H a' w → wpList P ops Q rest a' w) : wpList P ops Q (⟨some t, .slice e x lo hi none, ty, ps, af, none⟩ :: rest) a w := by
 refine s_run (dv := .v (.slice (some ⟨g, o', none⟩) len cap)) S ht rfl ?_ K
 have hx' : a.eval x = .pointer (some ⟨g, o, none⟩) := S.evo hx
 have hb := sliceBounds_run (P := P) (b := false) (len := c) (cap := c) S hlo hhi h0 (fun _ => h0.2.2)
 simp only [execOp, hx', Option.map_none]
 have ha : (⟨g, o, none⟩ : Addr).add (i.toNat * z) = ⟨g, o + i.toNat * z, none⟩ := by unfold Addr.add; split <;> simp_all
 simp only [Instr.sliceAt, Instr.slice, Instr.sureAddr, asAddr, Sem.run_bind, run_underlying hu, Result.andThen_ok, hb, run_sizeI hT, Sem.run_pure, D.val, ha]
 subst ho hl hcap
 split <;> simp_all
theorem s_arrp (S : St n m w0 l H a w) {arr et : TypeId} {x : Operand} {c len cap : Nat} {p : Addr} (hx : evo l x = some (.v (.slice (some p) len cap))) (hu : P.underlying arr = some (.array c et)) (hc : c ≤ len) (ht : Nat.blt t n = true)
  (K : ∀ a', St n m w0 ((t, .v (.pointer (some p))) :: l) H a' w → wpList P ops Q rest a' w) : wpList P ops Q (⟨some t, .sliceToArrayPointer arr x, ty, ps, af, none⟩ :: rest) a w := by
 refine s_run (dv := .v (.pointer (some p))) S ht rfl ?_ K
 have hx' : a.eval x = .slice (some p) len cap := S.evo hx
 simp only [execOp, hx']
 simp [Instr.arrayAt, run_underlying hu, show ¬ len < c by omega, D.val]
theorem s_ldInts (S : St n m w0 l H a w) {e : TypeId} {x : Operand} {g o b c z lo : Nat} {e' : TypeId} {s s' : List Seg} {k : IntKind} {xs ys : List Int} {T : List Res} (hx : evo l x = some (.v (.pointer (some ⟨g, o, none⟩)))) (hf : Foc H (Res.cells g e' s) (Res.cells g e' s) T)
  (hT : tyI P e = some (true, z)) (hs : Int_ s b k xs c xs s') (ho : b + lo = o) (hlz : lo + z ≤ c) (hy : (xs.drop lo).take z = ys) (ht : Nat.blt t n = true)
  (K : ∀ a', St n m w0 ((t, .agg [.ints k ys z]) :: l) H a' w → wpList P ops Q rest a' w) : wpList P ops Q (⟨some t, .load e x, ty, ps, af, none⟩ :: rest) a w := by
 have hc := S.holds _ hf.mem
 obtain ⟨h1, h2⟩ := hs.cell hc.2
 have hyl : ys.length = z := by rw [← hy, List.length_take, List.length_drop]; omega
 refine s_run (dv := .agg [.ints k ys z]) S ht ⟨hyl, trivial⟩ ?_ K
 have hx' : a.eval x = .pointer (some ⟨g, o, none⟩) := S.evo hx
 simp only [execOp, hx', Instr.loadAt, Instr.sureAddr, Sem.run_bind, Sem.run_pure, Result.andThen_ok]
 have hcl : (cellsOf [Seg.ints k ys z]).length = z := by simp [cellsOf, Seg.cells, nums_length, hyl]
 rw [run_loadVar_cells (cs := cellsOf [Seg.ints k ys z]) hT hcl (fun j v hv => ?_)]
 ·rfl
 ·have hj : j < z := by have := (List.getElem?_eq_some_iff.1 hv).1; omega
  have h3 := h2 (lo + j) (by omega)
  rw [cell_of_cells hc, ← ho, Nat.add_assoc, h3]
  have h4 : (cellsOf [Seg.ints k ys z])[j]? = some (.int k (ys.getD j 0)) := by
   simp [cellsOf, Seg.cells, nums, List.getD_eq_getElem?_getD, List.getElem?_eq_getElem (show j < ys.length by omega)]
  rw [h4] at hv
  rw [← hv, ← hy]
  simp [List.getD_eq_getElem?_getD, List.getElem?_take_of_lt hj]
theorem St.slup' (S : St n m w0 l H a w) {u g b o c len cap lo : Nat} {e : TypeId} {s s' : List Seg} {k : IntKind} {xs ys : List Int} (hu : fnd l u = some (.v (.slice (some ⟨g, o, none⟩) len cap))) (hr : Res.fro g e s ∈ H) (hs : Int_ s b k xs c xs s') (ho : b + lo = o ∨ len = 0)
  (hlen : lo + len ≤ c) (hcap : len ≤ cap ∧ cap ≤ maxLen) (hy : (xs.drop lo).take len = ys) : ys.length = len ∧ St n m w0 ((u, .sl (some ⟨g, o, none⟩) ys.length cap (RdS (Ty.int k) (some ⟨g, o, none⟩) ys)) :: l) H a w := by
 have hyl : ys.length = len := by
  have hx := (hs.cell (S.holds _ hr).2).1
  rw [← hy]; simp; omega
 refine ⟨hyl, ?_⟩
 rcases ho with ho | ho
 ·rw [hyl]; exact (S.slup hu hr hs ho hlen hcap hy).1
 ·subst ho
  have : ys = [] := List.eq_nil_of_length_eq_zero hyl
  subst this
  exact S.slot hu rfl ⟨Nat.zero_le _, hcap.2, RdS.nil _ _ _, RdS.mono _ _ _⟩
def SrcI (w : World) (k : IntKind) (A : Option Addr) (ys : List Int) : Prop := ys = [] ∨ ∃ ad, A = some ad ∧ ∀ j (h : j < ys.length), w.cell? (ad.add j) = some (.int k ys[j])
theorem RdS.srcI {k : IntKind} {A : Option Addr} {ys : List Int} (h : RdS (Ty.int k) A ys m) (hf : Frz m w) : SrcI w k A ys := by
 cases ys with
 | nil => exact .inl rfl
 | cons y ys =>
  obtain ⟨ad, _, rfl, _⟩ := h 0 (by simp)
  refine .inr ⟨ad, rfl, fun j hj => ?_⟩
  obtain ⟨ad', c, e1, e2, e3⟩ := h j hj
  obtain rfl := Option.some.inj e1
  have := hf.cell (e3 0 _ rfl) rfl
  simpa [Ty.int] using this
def cpy (xs : List Int) (lo : Nat) (ys : List Int) (n : Nat) : List Int := xs.take lo ++ ys.take n ++ xs.drop (lo + n)
theorem cpy_length (xs : List Int) (lo : Nat) (ys : List Int) (n : Nat) (h : lo + n ≤ xs.length) (h2 : n ≤ ys.length) : (cpy xs lo ys n).length = xs.length := by
 simp [cpy]; omega
theorem nums_append (k : IntKind) (xs ys : List Int) : nums k (xs ++ ys) = nums k xs ++ nums k ys := by simp [nums]
theorem nums_take (k : IntKind) (xs : List Int) (i : Nat) : nums k (xs.take i) = (nums k xs).take i := by simp [nums, List.map_take]
theorem nums_drop (k : IntKind) (xs : List Int) (i : Nat) : nums k (xs.drop i) = (nums k xs).drop i := by simp [nums, List.map_drop]
theorem Int_.put {s s' : List Seg} {b : Nat} {k : IntKind} {xs zs : List Int} {c : Nat} (h : Int_ s b k xs c zs s') (hok : okS m s) (hz : zs.length = c) :
  cellsOf s = (cellsOf s).take b ++ nums k xs ++ (cellsOf s).drop (b + c) ∧ cellsOf s' = (cellsOf s).take b ++ nums k zs ++ (cellsOf s).drop (b + c) ∧ b + c ≤ (cellsOf s).length ∧ okS m s' := by
 induction h with
 | @here k xs ys c T =>
  have hx : (nums k xs).length = c := by rw [nums_length]; exact hok.1
  simp only [cellsOf, Seg.cells, List.take_zero, List.nil_append, Nat.zero_add]
  have h1 : (nums k xs ++ cellsOf T).drop c = cellsOf T := by rw [← hx, List.drop_left]
  rw [h1]
  exact ⟨rfl, rfl, by rw [List.length_append]; omega, hz, hok.2⟩
 | @there x T T' o o' k xs ys c h ho ih =>
  obtain ⟨i1, i2, i3, i4⟩ := ih hok.2 hz
  subst ho
  have hx : x.cells.length = x.len := Seg.len_cells hok.1
  simp only [cellsOf]
  have h1 : (x.cells ++ cellsOf T).take (x.len + o) = x.cells ++ (cellsOf T).take o := by rw [← hx, List.take_length_add_append]
  have h2 : (x.cells ++ cellsOf T).drop (x.len + o + c) = (cellsOf T).drop (o + c) := by rw [← hx, Nat.add_assoc, List.drop_length_add_append]
  rw [h1, h2]
  refine ⟨?_, ?_, by rw [List.length_append]; omega, hok.1, i4⟩
  ·rw [List.append_assoc, List.append_assoc, ← List.append_assoc ((cellsOf T).take o), ← i1]
  ·rw [i2]; simp [List.append_assoc]
theorem run_copyI {dT sT e : TypeId} {g o dl dc c2 N : Nat} {e' : TypeId} {cs : List Value} {k : IntKind} {A2 : Option Addr} {ys : List Int} (hu : P.underlying dT = some (.slice e)) (hT : tyI P e = some (false, 1)) (hg : w.heap[g]? = some (.cells cs.toArray e' (0, 0))) (hl : o + dl ≤ cs.length ∨ dl = 0) (hs : SrcI w k A2 ys) (hN : min ys.length dl = N) :
  ∃ w', (Builtin.copy_ #[dT, sT] ty #[.slice (some ⟨g, o, none⟩) dl dc, .slice A2 ys.length c2]).run P w = .ok (.int .i64 N) w' ∧ (N = 0 → w' = w) ∧ (0 < N → w'.heap[g]? = some (.cells (cs.take o ++ nums k (ys.take N) ++ cs.drop (o + N)).toArray e' (0, 0))) ∧ w.grownBy w' (some g) := by
 obtain ⟨dd, inf, _, i1, _, i2⟩ := tyI_some hT
 have hsz : (P.info? e).map (·.size) = some 1 := by simp [i1, i2]
 have hmin : Nat.min ys.length dl = N := hN
 rcases Nat.eq_zero_or_pos N with h0 | h0
 ·refine ⟨w, ?_, fun _ => rfl, fun h => by omega, World.grownBy.refl w _⟩
  rw [run_copy_none w dT sT ty e _ _ dl dc ys.length c2 hu hsz (by omega), h0]
  rfl
 ·rcases hs with rfl | ⟨ad, rfl, hc⟩
  ·simp at hN; omega
  have hdl : o + dl ≤ cs.length := by
   rcases hl with h | h
   ·exact h
   ·omega
  have hNl : (nums k (ys.take N)).length = N := by rw [nums_length, List.length_take]; omega
  obtain ⟨w', r1, r2, r3⟩ := run_storeCells (P := P) g e' (fun _ => True) (nums k (ys.take N)) o 0 w cs hg (by rw [hNl]; omega) (fun v hv => plain_nums v hv)
  have hld : (loadCells ad N).run P w = .ok (nums k (ys.take N)).toArray w := by
   have := loadCellsFrom_add (P := P) ad w (nums k (ys.take N)) 0 #[] (fun j v hv => by
    have hj := (List.getElem?_eq_some_iff.1 hv).1
    rw [hNl] at hj
    have h1 := hc j (by omega)
    rw [Nat.zero_add, h1, ← hv]
    simp [nums, List.getElem?_take_of_lt hj, List.getElem?_eq_getElem (show j < ys.length by omega)])
   rw [hNl] at this
   simpa [loadCells] using this
  refine ⟨w', ?_, fun h => by omega, fun _ => ?_, r3⟩
  ·have hse : (Go.sizeOf e).run P w = .ok 1 w := by rw [run_szOf i1, i2]
   simp [Builtin.copy_, run_underlying hu, hse, hmin, Builtin.lenOf, Builtin.firstCells, hld, r1, goInt]
  ·rw [r2]
   simp [hNl]
theorem s_copyA (S : St n m w0 l H a w) {dT sT e : TypeId} {x y : Operand} {g b o c dl dc lo N c2 : Nat} {e' : TypeId} {s s' : List Seg} {k : IntKind} {xs ys : List Int} {dy : D} {A2 : Option Addr} {H' : List Res} (hx : evo l x = some (.v (.slice (some ⟨g, o, none⟩) dl dc))) (hf : Foc H (Res.cells g e' s) (Res.cells g e' s') H')
  (hy : evo l y = some dy) (hyv : dy.val = .slice A2 ys.length c2) (hsrc : SrcI w k A2 ys) (hN : min ys.length dl = N) (hs : Int_ s b k xs c (cpy xs lo ys N) s') (ho : b + lo = o ∨ dl = 0) (hlo : lo + dl ≤ c) (hu : P.underlying dT = some (.slice e)) (hT : tyI P e = some (false, 1)) (ht : Nat.blt t n = true)
  (K : ∀ a' w', St n m w0 ((t, .v (.int .i64 (N : Int))) :: l) H' a' w' → wpList P ops Q rest a' w') : wpList P ops Q (⟨some t, .call ⟨.builtin .copy, #[x, y], #[dT, sT]⟩, ty, ps, af, none⟩ :: rest) a w := by
 have hc := S.holds _ hf.mem
 have hxl := (hs.cell hc.2).1
 have hzl : (cpy xs lo ys N).length = c := by rw [cpy_length _ _ _ _ (by omega) (by omega)]; exact hxl
 obtain ⟨p1, p2, p3, p4⟩ := hs.put hc.2 hzl
 obtain ⟨w', r1, r2, r3, r4⟩ := run_copyI (P := P) (ty := ty) (sT := sT) (dc := dc) (c2 := c2) (o := o) (dl := dl) hu hT hc.1 (by omega) hsrc hN
 have hx' : a.eval x = .slice (some ⟨g, o, none⟩) dl dc := S.evo hx
 have hy' : a.eval y = .slice A2 ys.length c2 := (S.evo hy).trans hyv
 refine s_runw (dv := .v (.int .i64 (N : Int))) (w' := w') (m' := m) (H' := H') S ht rfl ?_ (S.turn hf r4 ⟨?_, p4⟩ (fun k hk => .inl hk)) (K · w')
 ·simp only [execOp, resolve]
  simp [invoke, builtin, hx', hy', r1, D.val]
 ·have hbl : ((cellsOf s).take b).length = b := by rw [List.length_take]; omega
  have hxn : (nums k xs).length = c := by rw [nums_length]; exact hxl
  rcases Nat.eq_zero_or_pos N with h0 | h0
  ·rw [r2 h0, hc.1]
   have : cellsOf s' = cellsOf s := by
    rw [p2, h0]
    have e0 : cpy xs lo ys 0 = xs := by simp [cpy]
    rw [e0, ← p1]
   rw [this]
  ·rw [r3 h0]
   have ho' : b + lo = o := by omega
   subst ho'
   congr 2
   rw [p2]
   apply Array.toList_inj.1
   simp only [List.toList_toArray]
   conv => lhs; rw [p1]
   have t1 : ((cellsOf s).take b ++ nums k xs ++ (cellsOf s).drop (b + c)).take (b + lo) = (cellsOf s).take b ++ (nums k xs).take lo := by
    rw [List.append_assoc]
    conv => lhs; rw [← hbl]
    rw [hbl, List.take_append, hbl, List.take_of_length_le (by omega), Nat.add_sub_cancel_left, List.take_append_of_le_length (by omega)]
   have t2 : ((cellsOf s).take b ++ nums k xs ++ (cellsOf s).drop (b + c)).drop (b + lo + N) = (nums k xs).drop (lo + N) ++ (cellsOf s).drop (b + c) := by
    rw [List.append_assoc, List.drop_append, hbl, List.drop_of_length_le (by omega), List.nil_append, show b + lo + N - b = lo + N by omega, List.drop_append_of_le_length (by omega)]
   rw [t1, t2]
   simp only [cpy, nums_append, nums_take, nums_drop, List.append_assoc]
def FroAt (m : Mem) (g : Nat) (s : List Seg) : Prop := (∀ j v, (cellsOf s)[j]? = some v → m ⟨g, j, none⟩ = some v) ∧ okS m s
theorem FroAt.mono {m m' : Mem} {g : Nat} {s : List Seg} (hm : LeM m m') (h : FroAt m g s) : FroAt m' g s := ⟨fun j v hv => hm _ _ (h.1 j v hv), okS_mono hm h.2⟩
theorem St.addfro (S : St n m w0 l H a w) {g : Nat} (t : TypeId) {s : List Seg} (h : FroAt m g s) : St n m w0 l (Res.fro g t s :: H) a w := by
 refine ⟨S.size, S.defers, S.get, S.below, S.le, S.fresh, fun r hr => ?_, fun r hr k hk => ?_, List.pairwise_cons.2 ⟨fun r _ k hk => (by cases hk), S.apart⟩, S.frz, fun r hr p v hv hb => ?_⟩
 ·rcases List.mem_cons.1 hr with rfl | hr
  ·exact h
  ·exact S.holds r hr
 ·rcases List.mem_cons.1 hr with rfl | hr
  ·cases hk
  ·exact S.base r hr k hk
 ·rcases List.mem_cons.1 hr with rfl | hr
  ·cases hb
  ·exact S.frzH r hr p v hv hb
theorem fro_cell {g : Nat} {e : TypeId} {s : List Seg} (h : (Res.fro g e s).holds m w) (hf : Frz m w) {i : Nat} {v : Value} (hv : (cellsOf s)[i]? = some v) : w.cell? ⟨g, i, none⟩ = some v := hf.cell (h.1 i v hv) (plain_cells h.2 v (List.mem_of_getElem? hv))
theorem s_loadiF (S : St n m w0 l H a w) {e : TypeId} {x : Operand} {g o z b c : Nat} {e' : TypeId} {s s' : List Seg} {k : IntKind} {xs : List Int} {i : Int} {T : List Res} (hx : evo l x = some (.v (.pointer (some ⟨g, o, none⟩)))) (hf : Foc H (Res.fro g e' s) (Res.fro g e' s) T)
  (hT : tyI P e = some (false, z)) (hs : Int_ s b k xs c xs s') (ho : b + i.toNat = o) (h0 : 0 ≤ i) (h1 : i < c) (ht : Nat.blt t n = true)
  (K : ∀ a', St n m w0 ((t, .v (.int k (rd xs i))) :: l) H a' w → wpList P ops Q rest a' w) : wpList P ops Q (⟨some t, .load e x, ty, ps, af, none⟩ :: rest) a w := by
 have hc := S.holds _ hf.mem
 have hv : w.cell? ⟨g, o, none⟩ = some (.int k (rd xs i)) := by
  rw [← ho]
  exact fro_cell hc S.frz ((hs.cell hc.2).2 i.toNat (by omega))
 refine s_run (dv := .v (.int k (rd xs i))) S ht rfl ?_ K
 simp only [execOp, S.evo hx, D.val]
 simp only [Instr.loadAt, Instr.sureAddr, Sem.run_bind, Sem.run_pure, Result.andThen_ok]
 rw [run_loadVar_one hT hv]
 rfl
theorem s_loadaF (S : St n m w0 l H a w) {e : TypeId} {x : Operand} {g o z : Nat} {e' : TypeId} {s s' : List Seg} {T : List Res} (hx : evo l x = some (.v (.pointer (some ⟨g, o, none⟩)))) (hf : Foc H (Res.fro g e' s) (Res.fro g e' s) T)
  (hT : tyI P e = some (true, z)) (hs : subS s o z = some s') (ht : Nat.blt t n = true)
  (K : ∀ a', St n m w0 ((t, .agg s') :: l) H a' w → wpList P ops Q rest a' w) : wpList P ops Q (⟨some t, .load e x, ty, ps, af, none⟩ :: rest) a w := by
 have hc := S.holds _ hf.mem
 obtain ⟨h1, h2, h3⟩ := subS_cells hc.2 hs
 refine s_run (dv := .agg s') S ht h2 ?_ K
 simp only [execOp, S.evo hx, D.val]
 simp only [Instr.loadAt, Instr.sureAddr, Sem.run_bind, Sem.run_pure, Result.andThen_ok]
 rw [run_loadVar_cells (cs := cellsOf s') hT h3 (fun j v hv => fro_cell hc S.frz (subS_at hc.2 hs hv).1)]
 rfl
theorem ok_nil {α : Type} {m : Mem} {ty : Ty α} : (D.sl none ([] : List α).length 0 (RdS ty none [])).ok m := ⟨Nat.le_refl _, Nat.zero_le _, RdS.nil _ _ _, RdS.mono _ _ _⟩
theorem ho_if {i j : Int} {o c : Nat} (h : 0 ≤ i ∧ i ≤ j ∧ j ≤ (c : Int)) : o + i.toNat = (if c = i.toNat then o else o + i.toNat * 1) ∨ j.toNat - i.toNat = 0 := by
 split
 ·right; omega
 ·left; omega
theorem hl_if {i j : Int} {c : Nat} (h : 0 ≤ i ∧ i ≤ j ∧ j ≤ (c : Int)) : i.toNat + (j.toNat - i.toNat) ≤ c := by omega
theorem ho_rng {i j : Int} {o c k : Nat} (h : 0 ≤ i ∧ i ≤ j ∧ j ≤ (c : Int)) (hk : k ≤ j.toNat - i.toNat) (h0 : 0 < k := by decide) : o + i.toNat = (if c = i.toNat then o else o + i.toNat * 1) := by
 split
 ·omega
 ·omega
def bstr (xs : List Int) : ByteArray := xs.foldl (fun r n => r.push (UInt8.ofNat n.toNat)) ByteArray.empty
theorem s_strS (S : St n m w0 l H a w) {src dst e : TypeId} {x : Operand} {A : Option Addr} {len cap : Nat} {xs : List Int} (hx : evo l x = some (.sl A len cap (RdS (Ty.int .u8) A xs))) (hn : xs.length = len)
  (hs : P.underlying src = some (.slice e)) (he : P.underlying e = some (.int .u8)) (hd : P.underlying dst = some .string) (ht : Nat.blt t n = true)
  (K : ∀ a', St n m w0 ((t, .v (.string (bstr xs))) :: l) H a' w → wpList P ops Q rest a' w) : wpList P ops Q (⟨some t, .convert src dst x, ty, ps, af, none⟩ :: rest) a w := by
 obtain ⟨_, _, hR, _⟩ := evo_ok S hx
 refine s_run (dv := .v (.string (bstr xs))) S ht rfl ?_ K
 have hx' : a.eval x = .slice A len cap := S.evo hx
 simp only [execOp, hx', Sem.run_bind, run_convert_bytes_string w src dst e A len cap hs he hd]
 have key : (Conv.bytesToString (.slice A len cap)).run P w = .ok (.string (bstr xs)) w := by
  cases A with
  | none =>
   have : xs = [] := by
    cases xs with
    | nil => rfl
    | cons y ys => obtain ⟨ad, c, h1, _⟩ := hR 0 (by simp); cases h1
   subst this
   simp [Conv.bytesToString, bstr]
  | some ad =>
   refine run_bytesToString w ad len cap xs ?_
   have := loadCellsFrom_add (P := P) ad w (nums .u8 xs) 0 #[] (fun j v hv => by
    have hj : j < xs.length := by have := (List.getElem?_eq_some_iff.1 hv).1; simpa [nums] using this
    obtain ⟨ad', c, e1, e2, e3⟩ := hR j hj
    obtain rfl := Option.some.inj e1
    have h1 := S.frz.cell (e3 0 _ rfl) rfl
    rw [Nat.zero_add]
    have h2 : v = .int .u8 xs[j] := by simpa [nums, List.getElem?_eq_getElem hj] using hv.symm
    rw [h2]
    simpa [Ty.int] using h1)
   rw [nums_length, hn] at this
   simpa [loadCells, nums] using this
 rw [key]
 rfl
theorem bstr_go (xs : List Int) : ∀ r : ByteArray, (xs.foldl (fun r n => r.push (UInt8.ofNat n.toNat)) r).data.toList = r.data.toList ++ xs.map (fun n => UInt8.ofNat n.toNat) := by
 induction xs with
 | nil => intro r; simp
 | cons x xs ih =>
  intro r
  rw [List.foldl_cons, ih]
  simp [ByteArray.push]
theorem bstr_data (xs : List Int) : (bstr xs).data.toList = xs.map (fun n => UInt8.ofNat n.toNat) := by
 exact (bstr_go xs ByteArray.empty).trans rfl
end
end GW
