/-
  GW, part 3: from a law's walk to its row: what a call is handed is opened to plain Lean values; behind the call it reads as it did.
-/
import Derived.Test.YtfebengelehglaaGWOps
import Derived.Test.YtfebengelehglaaRows
import Derived.ProofKit
import Derived.OpenShut
import Derived.Carry
set_option linter.unusedVariables false
set_option linter.unusedSimpArgs false
namespace GW
open Go Go.RowKit Go.ChangeShapes Go.WideShapes Go.ChangeAt

section
variable {H : Type} {enc : TypeId × Value → H} {P : Program}
/-- All arguments read behind the call as they did. -/
theorem trodAll_stays {W W' : World} (hl : laidOutB P = true) (hb : Below W.heap.size W W') {sp : Nat → Bool} : ∀ (ts : List TypeId) (vs : List Value) (ds : List (DataW H)) (p : List MemPlace),
    (ts.all fun t => P.readableRec t && decide (t < P.types.size)) = true → DataW.TrodAll enc P W 0 (fun _ => true) true ts vs ds p → (∀ x ∈ p, x.block < W.heap.size) → (∀ x ∈ p, sp x.block = true) →
    DataW.TrodAll enc P W' 0 sp true ts vs ds p
  | [], [], [], p, _, h, _, _ => h
  | t :: ts, v :: vs, d :: ds, p, ht, h, hlt, hsp => by
    obtain ⟨p1, q1, h1, h2, rfl⟩ := h
    simp only [List.all_cons, Bool.and_eq_true, decide_eq_true_eq] at ht
    refine ⟨p1, q1, ?_, trodAll_stays hl hb ts vs ds q1 ht.2 h2 (fun x hx => hlt x (List.mem_append_right _ hx)) (fun x hx => hsp x (List.mem_append_right _ hx)), rfl⟩
    exact WideElems.Trod_stays hl ht.1.1 ht.1.2 h1 (fun x hx => hb.same (hlt x (List.mem_append_left _ hx))) (fun x hx => hsp x (List.mem_append_left _ hx))
  | [], [], _ :: _, p, _, h, _, _ => h.elim
  | [], _ :: _, _, p, _, h, _, _ => h.elim
  | _ :: _, [], _, p, _, h, _, _ => h.elim
  | _ :: _, _ :: _, [], p, _, h, _, _ => h.elim
/-- A law's post: it said true, and nothing that was there has turned. -/
theorem law_post {f : Func} {s : ChangeSpec} {W W' : World} {args : Array Value} {ds gs : List (DataW H)} {before : List MemPlace} {tb : TypeId}
    (hW : DataW.Whole enc P f.params.toList s.vars false W args.toList ds gs before) (hv : s.vars = []) (hl : laidOutB P = true) (hts : (f.params.toList.all fun t => P.readableRec t && decide (t < P.types.size)) = true)
    (hr : f.resultTypes = #[tb]) (hu : P.underlying tb = some .bool) (h1 : (s.fn H (ds ++ gs)).results = [.lit (.bool true)]) (h2 : (s.fn H (ds ++ gs)).args = ds) (h3 : (s.fn H (ds ++ gs)).vars = []) (hb : Below W.heap.size W W') :
    s.post enc P f false true false false W args (.bool true) W' := by
  have hlt : ∀ p ∈ before, p.block < W.heap.size := fun p hp => hW.lt p hp
  obtain ⟨pa, pv, hA, hV, hps, hz, hn⟩ := id hW
  rw [hv] at hV
  cases gs with
  | cons g r => exact hV.elim
  | nil =>
    obtain rfl : pv = [] := hV
    have hold : ∀ p ∈ before, (fun b => decide (b < W.heap.size)) p.block = true := fun p hp => by simpa using hlt p hp
    have hargs : ∀ sp : Nat → Bool, (∀ p ∈ before, sp p.block = true) → DataW.TrodAll enc P W' 0 sp true f.params.toList args.toList (s.fn H (ds ++ [])).args pa := fun sp hsp => by
      rw [h2]
      exact trodAll_stays hl hb _ _ _ _ hts hA (fun x hx => hlt x (by rw [hps]; simpa using hx)) (fun x hx => hsp x (by rw [hps]; simpa using hx))
    have hvars : ∀ sp : Nat → Bool, (∀ p ∈ before, sp p.block = true) → DataW.TrodVars enc P W' sp s.vars (s.fn H (ds ++ [])).vars [] := fun sp _ => by rw [hv, h3]; rfl
    have hres : ∀ (b : Nat) (sp : Nat → Bool) (hd : Bool), DataW.TrodAll enc P W' b sp hd f.resultTypes.toList ((Value.bool true).resultList f.resultTypes.size) (s.fn H (ds ++ [])).results [] := fun b sp hd => by
      rw [h1, hr]
      exact trodAll_cons_mk (p := []) (p' := []) (shut_bool hu _) trodAll_mk0
    refine ⟨ds, [], before, [], pa, [], hW, hres _ _ _, hargs _ hold, hvars _ hold, World.keptBut_mono (fun p hp => ⟨hp, ?_⟩) (hb.frame (· ∈ before)), fun _ => ?_⟩
    · rw [hps] at hp; simpa using hp
    · refine ⟨ok_one (v := .bool true) hr rfl (okWide_bool_mk hu _), _, _, ([] ++ pa) ++ [], ⟨[] ++ pa, [], trodAll_append (hargs _ (fun _ _ => rfl)) (hres _ _ _), hvars _ (fun _ _ => rfl), rfl, ?_, ?_⟩, ?_⟩
      · intro b off hp
        have hin : MemPlace.cell b off ∈ before := by rw [hps]; simpa using hp
        rw [hb.frozen (hlt _ hin)]
        exact hz b off hin
      · intro ha; cases ha
      · intro p hp _
        rw [hps]
        simpa using hp
/-! ### what comes in -/

theorem o_int {r : Reach} {b0 base : Nat} {sp : Nat → Bool} {hd : Bool} {W : World} {t : TypeId} {k : IntKind} {v : Value} {d : DataW H} {ps : List MemPlace} (hu : P.underlying t = some (.int k)) (hval : Value.okWide P W r b0 t v) (h : DataW.Trod enc P W base sp hd t v d ps) :
    ∃ x, v = (D.v (.int k x)).val ∧ inK k x := by
  obtain ⟨x, h1, _, _, h2⟩ := open_int hu hval h
  exact ⟨x, h1, h2⟩
theorem o_bool {r : Reach} {b0 base : Nat} {sp : Nat → Bool} {hd : Bool} {W : World} {t : TypeId} {v : Value} {d : DataW H} {ps : List MemPlace} (hu : P.underlying t = some .bool) (hval : Value.okWide P W r b0 t v) (h : DataW.Trod enc P W base sp hd t v d ps) :
    ∃ x, v = (D.v (.bool x)).val := by
  obtain ⟨x, h1, _, _⟩ := open_bool hu hval h
  exact ⟨x, h1⟩
theorem ints_of {base : Nat} {sp : Nat → Bool} {hd : Bool} {W : World} {t e : TypeId} {k : IntKind} {n fuel : Nat} {cs : List Value} {x : DataW H × List MemPlace} (hu : P.underlying t = some (.array n e)) (hi : P.underlying e = some (.int k)) (hT : tyI P e = some (false, 1)) (hT' : tyI P t = some (true, n))
    (h : DataW.trod enc P W base sp hd fuel t cs = some x) : ∃ xs : List Int, cs = nums k xs ∧ xs.length = n ∧ ∀ y ∈ xs, inK k y := by
  obtain ⟨dd, i, hd1, hinf, _, hz⟩ := tyI_some hT
  obtain ⟨dd', i', hd1', hinf', _, hz'⟩ := tyI_some hT'
  have hc : P.cellsOf e = 1 := by simp [Program.cellsOf, hinf, hz]
  have hc' : P.cellsOf t = n := by simp [Program.cellsOf, hinf', hz']
  obtain ⟨xs, m, _, _, hl, hxl, hf⟩ := DataW.trod_array hu h
  rw [hc'] at hl
  have key : ∀ i, i < n → ∃ y, cs[i]? = some (.int k y) ∧ inK k y := by
    intro i hi'
    have h1 := hf i hi'
    rw [hc, Nat.mul_one] at h1
    have h2 : (cs.drop i).take 1 = [cs[i]'(by omega)] := by
      rw [List.drop_eq_getElem_cons (by omega)]; rfl
    rw [h2] at h1
    have h3 : xs[i]? = some (xs[i]'(by omega)) := List.getElem?_eq_getElem (by omega)
    rw [h3] at h1
    obtain ⟨y, e1, _, e2⟩ := DataW.trod_int hi h1
    exact ⟨y, by rw [List.getElem?_eq_getElem (by omega)]; simpa using e1, e2⟩
  clear hf h
  subst hl
  clear hc' hT' hinf' hz' hxl hu
  induction cs with
  | nil => exact ⟨[], rfl, rfl, fun y hy => by cases hy⟩
  | cons c r ih =>
    obtain ⟨y, e1, e2⟩ := key 0 (by simp)
    obtain ⟨ys, f1, f2, f3⟩ := ih (fun i hi => by have := key (i + 1) (by simp; omega); simpa using this)
    refine ⟨y :: ys, ?_, by simp [f2], fun z hz => ?_⟩
    · have : c = .int k y := by simpa using e1
      rw [this, f1]; rfl
    · rcases List.mem_cons.1 hz with rfl | hz
      · exact e2
      · exact f3 z hz
theorem o_arr {r : Reach} {b0 base : Nat} {sp : Nat → Bool} {hd : Bool} {W : World} {t e : TypeId} {k : IntKind} {n : Nat} {v : Value} {d : DataW H} {ps : List MemPlace} (hu : P.underlying t = some (.array n e)) (hi : P.underlying e = some (.int k)) (hT : tyI P e = some (false, 1)) (hT' : tyI P t = some (true, n))
    (hval : Value.okWide P W r b0 t v) (h : DataW.Trod enc P W base sp hd t v d ps) : ∃ xs : List Int, v = (D.agg [.ints k xs n]).val ∧ xs.length = n ∧ ∀ y ∈ xs, inK k y := by
  simp only [Value.okWide, hu] at hval
  obtain ⟨cs, rfl, _, _⟩ := hval
  obtain ⟨fuel, hf⟩ := h
  obtain ⟨xs, h1, h2, h3⟩ := ints_of hu hi hT hT' hf
  refine ⟨xs, ?_, h2, h3⟩
  show Value.agg cs = .agg (cellsOf [Seg.ints k xs n]).toArray
  congr 1
  apply Array.toList_inj.1
  simpa [cellsOf, Seg.cells, Value.cells] using h1
end
end GW
