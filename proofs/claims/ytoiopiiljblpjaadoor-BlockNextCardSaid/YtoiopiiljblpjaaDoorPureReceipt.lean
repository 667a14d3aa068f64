import Derived.Test.YtoiopiiljblpjaaDoorPureFix
set_option linter.unusedVariables false
set_option linter.unusedSimpArgs false
set_option maxRecDepth 100000
namespace GW
open Go Go.RowKit
abbrev Lg := (List Int) × (List (List Int)) × (List Int)
abbrev Rc := (List Int) × Int × Bool × Int × (List Int) × (List Int) × (List Lg) × (List Int)
def GLg (x : Lg) : Prop := x.1.length = 20 ∧ (x.2.1.length ≤ 30 ∧ ∀ t ∈ x.2.1, Gd26 t) ∧ x.2.2.length ≤ 3000
def lgC (x : Lg) : Fst := .leaf x.1 (.node (lvs (x.2.1.map wbytes)) (.leaf x.2.2 .nil))
def logsF : List Lg → Fst
  | [] => .nil
  | x :: l => .node (lgC x) (logsF l)
theorem lgC_flat (x : Lg) : (lgC x).flat = (false, x.1, 0) :: ((Fst.node (lvs (x.2.1.map wbytes)) .nil).flat ++ [(false, x.2.2, 0)]) := by
  simp [lgC, Fst.flat]
theorem lgC_enc (x : Lg) : (lgC x).enc = encL x.1 ++ ((Fst.node (lvs (x.2.1.map wbytes)) .nil).enc ++ encL x.2.2) := by
  simp [lgC, Fst.enc]
theorem logs_flat (l : List Lg) : (l.map fun x => (Fst.node (lgC x) .nil).flat).flatten = (logsF l).flat := by
  induction l with
  | nil => rfl
  | cons x l ih => rw [List.map_cons, List.flatten_cons, ih]; simp [logsF, Fst.flat]
theorem logs_enc (l : List Lg) : (l.map fun x => (Fst.node (lgC x) .nil).enc).flatten = (logsF l).enc := by
  induction l with
  | nil => rfl
  | cons x l ih => rw [List.map_cons, List.flatten_cons, ih]; simp [logsF, Fst.enc]
theorem topics_len (x : Lg) (h : GLg x) : (lvs (x.2.1.map wbytes)).flat.length ≤ 30 ∧ (lvs (x.2.1.map wbytes)).enc.length ≤ 1100 ∧ (lvs (x.2.1.map wbytes)).Fit ∧ (lvs (x.2.1.map wbytes)).dep = 0 := by
  have h1 := lvs_elen 32 (x.2.1.map wbytes) (fun b hb => by obtain ⟨t, _, rfl⟩ := List.mem_map.1 hb; rw [wbytes_len]; omega)
  have h2 := h.2.1.1
  rw [List.length_map] at h1
  refine ⟨by rw [lvs_len, List.length_map]; exact h2, by omega, lvs_fit _ (fun b hb => by obtain ⟨t, _, rfl⟩ := List.mem_map.1 hb; rw [wbytes_len]; omega), lvs_dep _⟩
theorem lg_len (x : Lg) (h : GLg x) : (lgC x).flat.length ≤ 33 ∧ (lgC x).enc.length ≤ 4200 ∧ (lgC x).Fit ∧ (lgC x).dep ≤ 1 := by
  obtain ⟨t1, t2, t3, t4⟩ := topics_len x h
  have e1 := encL_len x.1
  have e2 := encL_len x.2.2
  have e3 := hd_len (lvs (x.2.1.map wbytes)).enc.length 64
  have l1 := h.1
  have l2 := h.2.2
  refine ⟨?_, ?_, ⟨by omega, t3, by omega, trivial⟩, by simp [lgC, Fst.dep, t4]⟩
  · rw [lgC_flat]; simp [Fst.flat]; omega
  · rw [lgC_enc]; simp [Fst.enc]; omega
theorem logs_len (l : List Lg) (h : ∀ x ∈ l, GLg x) : (logsF l).flat.length ≤ 34 * l.length ∧ (logsF l).enc.length ≤ 4210 * l.length ∧ (logsF l).Fit ∧ (logsF l).dep ≤ 2 := by
  induction l with
  | nil => simp [logsF, Fst.flat, Fst.enc, Fst.Fit, Fst.dep]
  | cons x l ih =>
    obtain ⟨i1, i2, i3, i4⟩ := ih fun y hy => h y (by simp [hy])
    obtain ⟨t1, t2, t3, t4⟩ := lg_len x (h x (by simp))
    have e3 := hd_len (lgC x).enc.length 64
    refine ⟨?_, ?_, ⟨t3, i3⟩, ?_⟩
    · simp [logsF, Fst.flat]; omega
    · simp [logsF, Fst.enc]; omega
    · simp [logsF, Fst.dep]; omega
section
variable {kF : Nat}
theorem each_full (x : List (List Int)) (hx : x.length < 1000) (hg : ∀ t ∈ x, Gd26 t) : ∀ (l : List (List Int)) (q i : Nat) (acc : List Nd), x.drop i = l → i ≤ x.length → l.length < q → acc.length + l.length < 100000 → api_Word_1f26.l1 (kF + 40) x q acc (i : Int) = some (acc ++ (l.map wbytes).map fun b => (false, b, 0)) := by
  intro l
  induction l with
  | nil =>
    intro q i acc hd hi hq ha
    obtain ⟨q, rfl⟩ : ∃ m, q = m + 1 := ⟨q - 1, by omega⟩
    have : x.length ≤ i := by simpa using hd
    show api_Word_1f26.b1 _ x _ _ _ = _
    unfold api_Word_1f26.b1 api_Word_1f26.j1
    rw [if_neg (by simp; omega)]
    simp
  | cons r l ih =>
    intro q i acc hd hi hq ha
    simp only [List.length_cons] at hq ha
    obtain ⟨q, rfl⟩ : ∃ m, q = m + 1 := ⟨q - 1, by omega⟩
    obtain ⟨g, hi2, hr⟩ := gt_dropG hd
    have hm : r ∈ x := List.mem_of_mem_drop (i := i) (by rw [hd]; simp)
    show api_Word_1f26.b1 _ x _ _ _ = _
    unfold api_Word_1f26.b1
    simp only [g]
    rw [if_pos (by simp; omega), if_pos (by omega), (full23 (kF := kF) (hg r hm)).1, Option.bind_some, if_pos (by simp; omega), wr_i64_id (by omega) (by omega)]
    refine (ih q (i + 1) _ hr (by omega) (by omega) (by simp; omega)).trans ?_
    simp
theorem logs_loop (x : List Lg) (hx : x.length ≤ 30) (hg : ∀ y ∈ x, GLg y) (hk : 200 < kF) : ∀ (l : List Lg) (q i : Nat) (acc : List (List Nd)), x.drop i = l → i ≤ x.length → l.length < q → acc.length + l.length < 1000 → block_logs.l1 (kF + 40) x q acc (i : Int) = block_logs.j1 (kF + 40) (acc ++ l.map fun x => (Fst.node (lgC x) .nil).flat) := by
  intro l
  induction l with
  | nil =>
    intro q i acc hd hi hq ha
    obtain ⟨q, rfl⟩ : ∃ m, q = m + 1 := ⟨q - 1, by omega⟩
    have : x.length ≤ i := by simpa using hd
    show block_logs.b1 _ x _ _ _ = _
    unfold block_logs.b1
    rw [if_neg (by simp; omega)]
    simp
  | cons r l ih =>
    intro q i acc hd hi hq ha
    simp only [List.length_cons] at hq ha
    obtain ⟨q, rfl⟩ : ∃ m, q = m + 1 := ⟨q - 1, by omega⟩
    obtain ⟨g, hi2, hr⟩ := gt_dropG hd
    have hm : r ∈ x := List.mem_of_mem_drop (i := i) (by rw [hd]; simp)
    have hgr := hg r hm
    obtain ⟨t1, t2, t3, t4⟩ := topics_len r hgr
    obtain ⟨u1, u2, u3, u4⟩ := lg_len r hgr
    have ef : api_Word_1f26.f (kF + 40) r.2.1 = some ((lvs (r.2.1.map wbytes)).flat) := by
      unfold api_Word_1f26.f
      have h2 := hgr.2.1.1
      refine (each_full r.2.1 (by omega) hgr.2.1.2 r.2.1 (kF + 40) 0 [] rfl (by omega) (by omega) (by simp; omega)).trans ?_
      rw [lvs_flat, List.nil_append]
    have l1 := list_eq [(lvs (r.2.1.map wbytes)).flat] (lvs (r.2.1.map wbytes)) (by simp) (kF + 40) (by simp) (by simp <;> omega) (by omega)
    have l2 := list_eq [[(false, r.1, 0)], (Fst.node (lvs (r.2.1.map wbytes)) .nil).flat, [(false, r.2.2, 0)]] (lgC r) (by rw [lgC_flat]; simp) (kF + 40) (by simp) (by simp <;> omega) (by omega)
    show block_logs.b1 _ x _ _ _ = _
    unfold block_logs.b1 block_item.f
    simp only [g]
    rw [if_pos (by simp; omega), if_pos (by omega), cut20 hgr.1, Option.bind_some, ef, Option.bind_some, l1, Option.bind_some, Option.bind_some, l2, Option.bind_some, if_pos (by simp; omega)]
    unfold block_logs.j2
    rw [wr_i64_id (by omega) (by omega)]
    refine (ih q (i + 1) _ hr (by omega) (by omega) (by simp; omega)).trans ?_
    simp
theorem logs_eq (x : List Lg) (hx : x.length ≤ 30) (hg : ∀ y ∈ x, GLg y) (hk : 200 < kF) : block_logs.f (kF + 40) x = some (Fst.node (logsF x) .nil).flat := by
  obtain ⟨a1, a2, a3, a4⟩ := logs_len x hg
  unfold block_logs.f
  refine (logs_loop x hx hg hk x (kF + 40) 0 [] rfl (by omega) (by omega) (by simp; omega)).trans ?_
  unfold block_logs.j1
  rw [List.nil_append, list_eq _ (logsF x) (logs_flat x) (kF + 40) (by simp; omega) (by simp; omega) (by omega)]; rfl
theorem ref_topics (x1 : Rc) (i : Nat) (y34 : List (List Int)) (rec1 : Int → List (List Int) → Option (List Int)) (ts : List (List Int)) (hts : (gt x1.2.2.2.2.2.2.1 (i : Int)).2.1 = ts) (hl : ts.length ≤ 30) (hg : ∀ t ∈ ts, Gd26 t) : ∀ (l : List (List Int)) (q j : Nat) (acc : List (List Int)), ts.drop j = l → j ≤ ts.length → l.length < q → acc.length + l.length < 1000 → smithyref23_Receipt.l2 (kF + 40) x1 (i : Int) y34 rec1 q (j : Int) acc = smithyref23_Receipt.j4 (kF + 40) x1 (i : Int) y34 rec1 (acc ++ (l.map wbytes).map encL) := by
  intro l
  induction l with
  | nil =>
    intro q j acc hd hj hq ha
    obtain ⟨q, rfl⟩ : ∃ m, q = m + 1 := ⟨q - 1, by omega⟩
    have : ts.length ≤ j := by simpa using hd
    show smithyref23_Receipt.b2 _ _ _ _ _ _ _ _ = _
    unfold smithyref23_Receipt.b2
    rw [hts, if_neg (by simp; omega)]
    simp
  | cons t l ih =>
    intro q j acc hd hj hq ha
    simp only [List.length_cons] at hq ha
    obtain ⟨q, rfl⟩ : ∃ m, q = m + 1 := ⟨q - 1, by omega⟩
    obtain ⟨g, hj2, hr⟩ := gt_dropG hd
    have hm : t ∈ ts := List.mem_of_mem_drop (i := j) (by rw [hd]; simp)
    show smithyref23_Receipt.b2 _ _ _ _ _ _ _ _ = _
    unfold smithyref23_Receipt.b2
    rw [hts, g, if_pos (by simp; omega), if_pos (by omega), (full23 (kF := kF) (hg t hm)).2, Option.bind_some, if_pos (by simp; omega), wr_i64_id (by omega) (by omega)]
    refine (ih q (j + 1) _ hr (by omega) (by omega) (by simp; omega)).trans ?_
    simp
theorem ref_logs (x1 : Rc) (hx : x1.2.2.2.2.2.2.1.length ≤ 30) (hk : 200 < kF) (y1 : Int) : ∀ (l : List Lg) (q i : Nat) (acc : List (List Int)), x1.2.2.2.2.2.2.1.drop i = l → i ≤ x1.2.2.2.2.2.2.1.length → l.length < q → acc.length + l.length < 1000 → (∀ y ∈ l, GLg y) → smithyref23_Receipt.l1 (kF + 40) x1 y1 q (i : Int) acc = smithyref23_Receipt.j2 (kF + 40) x1 y1 (acc ++ l.map fun x => (Fst.node (lgC x) .nil).enc) := by
  intro l
  induction l with
  | nil =>
    intro q i acc hd hi hq ha hg
    obtain ⟨q, rfl⟩ : ∃ m, q = m + 1 := ⟨q - 1, by omega⟩
    have : x1.2.2.2.2.2.2.1.length ≤ i := by simpa using hd
    show smithyref23_Receipt.b1 _ _ _ _ _ _ = _
    unfold smithyref23_Receipt.b1
    rw [if_neg (by simp; omega)]
    simp
  | cons r l ih =>
    intro q i acc hd hi hq ha hg
    simp only [List.length_cons] at hq ha
    obtain ⟨q, rfl⟩ : ∃ m, q = m + 1 := ⟨q - 1, by omega⟩
    obtain ⟨g, hi2, hr⟩ := gt_dropG hd
    have hgr := hg r (by simp)
    obtain ⟨t1, t2, t3, t4⟩ := topics_len r hgr
    obtain ⟨u1, u2, u3, u4⟩ := lg_len r hgr
    have h2 := hgr.2.1.1
    have h3 := hgr.2.2
    have h0 := hgr.1
    have l1 := rlist_eq (kF := kF) ((r.2.1.map wbytes).map encL) (lvs (r.2.1.map wbytes)) (by rw [lvs_enc]) (by simp; omega) (by simp; omega) (by omega)
    have l2 := rlist_eq (kF := kF) [encL r.1, (Fst.node (lvs (r.2.1.map wbytes)) .nil).enc, encL r.2.2] (lgC r) (by rw [lgC_enc]; simp) (by simp) (by simp <;> omega) (by omega)
    show smithyref23_Receipt.b1 _ _ _ _ _ _ = _
    unfold smithyref23_Receipt.b1
    rw [if_pos (by simp; omega), if_pos (by omega)]
    refine (ref_topics (kF := kF) x1 i acc (smithyref23_Receipt.l1 (kF + 40) x1 y1 q) r.2.1 (by rw [g]) h2 hgr.2.1.2 r.2.1 (kF + 40) 0 [] rfl (by omega) (by omega) (by simp; omega)).trans ?_
    unfold smithyref23_Receipt.j4 smithyref23_Receipt.j3
    simp only [g]
    rw [cut20 h0, rbytes (kF := kF) r.1 (by omega), Option.bind_some, List.nil_append, l1, Option.bind_some, rbytes (kF := kF) r.2.2 (by omega), Option.bind_some, l2, Option.bind_some, if_pos (by simp; omega), wr_i64_id (by omega) (by omega)]
    refine (ih q (i + 1) _ hr (by omega) (by omega) (by simp; omega) (fun y hy => hg y (by simp [hy]))).trans ?_
    simp
structure GRc (x : Rc) : Prop where
  frm : x.1.length = 20
  nonce : Gd24 x.2.1
  used : Gd24 x.2.2.2.1
  price : Gd26 x.2.2.2.2.1
  made : x.2.2.2.2.2.1.length = 20
  logs : x.2.2.2.2.2.2.1.length ≤ 30 ∧ ∀ y ∈ x.2.2.2.2.2.2.1, GLg y
  answer : x.2.2.2.2.2.2.2.length ≤ 3000
def rcL (x : Rc) (o : Int) : List (List Int) := [x.1, numb [x.2.1, 0, 0, 0], numb [o, 0, 0, 0], numb [x.2.2.2.1, 0, 0, 0], numb x.2.2.2.2.1, x.2.2.2.2.2.1, x.2.2.2.2.2.2.2]
def rcF (x : Rc) (o : Int) : Fst := (lvs (rcL x o)).app (.node (logsF x.2.2.2.2.2.2.1) .nil)
theorem gd01 (b : Bool) : Gd24 (if b = true then 1 else 0) := by
  cases b
  · exact inK_nat 0 (by omega)
  · exact inK_nat 1 (by omega)
theorem receipt_eq (x : Rc) (h : GRc x) (hk : 700000 < kF + 200) : ∃ z : List Int, block_Receipt.f (kF + 200) x = some z ∧ smithyref23_Receipt.f (kF + 200) x = some z ∧ z.length = 32 ∧ ∀ x ∈ z, 0 ≤ x ∧ x < 256 := by
  have go := gd01 x.2.2.1
  have e : kF + 200 = kF + 160 + 40 := by omega
  generalize ho : (if x.2.2.1 = true then (1 : Int) else 0) = o at go
  have imp : block_Receipt.f (kF + 200) x = block_Receipt.j1 (kF + 200) x o := by
    subst ho; unfold block_Receipt.f; cases x.2.2.1 <;> rfl
  have ref : smithyref23_Receipt.f (kF + 200) x = smithyref23_Receipt.j1 (kF + 200) x o := by
    subst ho; unfold smithyref23_Receipt.f; cases x.2.2.1 <;> rfl
  rw [imp, ref]
  have n1 := count23 (kF := kF + 160) h.nonce
  have n2 := count23 (kF := kF + 160) go
  have n3 := count23 (kF := kF + 160) h.used
  have n4 := number23 (kF := kF + 160) h.price
  have b0 := rbytes (kF := kF + 160) x.1 (by have := h.frm; omega)
  have b5 := rbytes (kF := kF + 160) x.2.2.2.2.2.1 (by have := h.made; omega)
  have b6 := rbytes (kF := kF + 160) x.2.2.2.2.2.2.2 (by have := h.answer; omega)
  have lg := logs_eq (kF := kF + 160) x.2.2.2.2.2.2.1 h.logs.1 h.logs.2 (by omega)
  obtain ⟨a1, a2, a3, a4⟩ := logs_len _ h.logs.2
  have hn := h.logs.1
  have m1 := (numb_eq (gd_of h.nonce)).1
  have m2 := (numb_eq (gd_of go)).1
  have m3 := (numb_eq (gd_of h.used)).1
  have m4 := (numb_eq h.price).1
  have hb : ∀ b ∈ rcL x o, b.length ≤ 3000 := by
    intro b hb
    have l0 := h.frm
    have l5 := h.made
    have l6 := h.answer
    simp only [rcL, List.mem_cons, List.not_mem_nil, or_false] at hb
    rcases hb with rfl | rfl | rfl | rfl | rfl | rfl | rfl <;> omega
  have el := lvs_elen 3000 (rcL x o) hb
  have hl7 : (rcL x o).length = 7 := rfl
  have hfl : (rcF x o).flat = ((rcL x o).map fun b => (false, b, 0)) ++ (Fst.node (logsF x.2.2.2.2.2.2.1) .nil).flat := by unfold rcF; rw [Fst.flat_app, lvs_flat]
  have hen : (rcF x o).enc = ((rcL x o).map encL).flatten ++ (Fst.node (logsF x.2.2.2.2.2.2.1) .nil).enc := by unfold rcF; rw [Fst.enc_app, lvs_enc]
  have hh := hd_len (logsF x.2.2.2.2.2.2.1).enc.length 64
  have hh2 := hd_len (rcF x o).enc.length 64
  have fit_app : ∀ f g : Fst, f.Fit → g.Fit → (f.app g).Fit := fun f g hf hg => by
    induction f with
    | nil => exact hg
    | leaf b f ih => exact ⟨hf.1, ih hf.2⟩
    | node c f _ ih => exact ⟨hf.1, ih hf.2⟩
  have hfit : (rcF x o).Fit := fit_app _ _ (lvs_fit _ fun b hb' => by have := hb b hb'; omega) ⟨a3, trivial⟩
  have hdep : (rcF x o).dep ≤ 3 := by unfold rcF; rw [Fst.dep_app, lvs_dep]; simp [Fst.dep]; omega
  have hfl2 : (rcF x o).flat.length ≤ 1200 := by rw [hfl]; simp [Fst.flat, hl7]; omega
  have hen2 : (rcF x o).enc.length ≤ 200000 := by
    rw [hen, ← lvs_enc]; simp [Fst.enc]; omega
  obtain ⟨z, z1, z2, z3⟩ := hash23 (kF := kF) (.node (rcF x o) .nil) trivial ⟨hfit, trivial⟩ (by simp [Fst.dep]; omega) (by simp [Fst.flat]; omega) (by simp [Fst.enc]; omega) hk
  refine ⟨z, ?_, ?_, z3⟩
  · have l1 := list_eq [(rcL x o).map fun b => (false, b, 0), (Fst.node (logsF x.2.2.2.2.2.2.1) .nil).flat] (rcF x o) (by rw [hfl]; simp) (kF + 200) (by simp) (by simp <;> omega) (by omega)
    unfold block_Receipt.j1 block_item.f block_Receipt.j2
    rw [e, n1.1, n2.1, n3.1, n4.1, lg, ← e]
    simp only [Option.bind_some, cut20 h.frm, cut20 h.made]
    refine Eq.trans ?_ z1
    show ((block_list.f (kF + 200) [(rcL x o).map fun b => (false, b, 0), (Fst.node (logsF x.2.2.2.2.2.2.1) .nil).flat]).bind fun t => (block_hash.f (kF + 200) t).bind some) = _
    rw [l1, Option.bind_some, bind_id]
  · unfold smithyref23_Receipt.j1
    have rl := ref_logs (kF := kF + 160) x h.logs.1 (by omega) o x.2.2.2.2.2.2.1 (kF + 200) 0 [] rfl (by omega) (by omega) (by simp; omega) h.logs.2
    rw [← e] at rl
    refine rl.trans ?_
    have l1 := rlist_eq (kF := kF + 160) (x.2.2.2.2.2.2.1.map fun x => (Fst.node (lgC x) .nil).enc) (logsF x.2.2.2.2.2.2.1) (logs_enc _) (by simp; omega) (by simp; omega) (by omega)
    have l2 := rlist_eq (kF := kF + 160) ((rcL x o).map encL ++ [(Fst.node (logsF x.2.2.2.2.2.2.1) .nil).enc]) (rcF x o) (by rw [hen]; simp) (by simp [hl7]) (by simp [hl7] <;> omega) (by omega)
    unfold smithyref23_Receipt.j2
    rw [List.nil_append, cut20 h.frm, cut20 h.made, e, b0, Option.bind_some, n1.2, Option.bind_some, n2.2, Option.bind_some, n3.2, Option.bind_some, n4.2, Option.bind_some, b5, Option.bind_some, b6, Option.bind_some, l1, Option.bind_some]
    rw [show ([encL x.1, encL (numb [x.2.1, 0, 0, 0]), encL (numb [o, 0, 0, 0]), encL (numb [x.2.2.2.1, 0, 0, 0]), encL (numb x.2.2.2.2.1), encL x.2.2.2.2.2.1, encL x.2.2.2.2.2.2.2, (Fst.node (logsF x.2.2.2.2.2.2.1) .nil).enc] : List (List Int)) = (rcL x o).map encL ++ [(Fst.node (logsF x.2.2.2.2.2.2.1) .nil).enc] from rfl, l2, Option.bind_some, ← e, z2]; rfl
end
end GW
