/-
  What the law 'TxHashes' says of plain Lean values.
-/
import Derived.Test.YtnloindmiejbeaaDoorPureRlpRef
import Derived.Test.YtnloindmiejbeaaDoorPureSum
set_option linter.unusedVariables false
set_option linter.unusedSimpArgs false
set_option maxRecDepth 100000
namespace GW
open Go Go.RowKit
theorem fixed19_k (k : Nat) : smithylaw19_fixed.f (k + 100) = some true := by kernel_rfl
theorem gt_dropG {α : Type} [Inhabited α] {x : List α} {i : Nat} {a : α} {r : List α} (h : x.drop i = a :: r) : gt x (i : Int) = a ∧ i < x.length ∧ x.drop (i + 1) = r := by
  have hl : i < x.length := by
    refine Decidable.byContradiction fun c => ?_
    rw [List.drop_eq_nil_of_le (by omega)] at h
    cases h
  rw [List.drop_eq_getElem_cons hl] at h
  simp only [List.cons.injEq] at h
  exact ⟨by rw [gt_get x (i : Int) (by simpa using hl)]; simpa using h.1, hl, h.2⟩
theorem cut20 {a : List Int} (h : a.length = 20) : (a.drop 0).take 20 = a := by rw [List.drop_zero, List.take_of_length_le (by omega)]
theorem cut32 {a : List Int} (h : a.length = 32) : (a.drop 0).take 32 = a := by rw [List.drop_zero, List.take_of_length_le (by omega)]
/-- A word's bytes without noughts ahead. -/
def numb (w : List Int) : List Int := (rlp_Number.f 40 w).getD []
theorem numb_eq {w : List Int} (h : Gd26 w) : (numb w).length ≤ 32 ∧ ∀ k, rlp_Number.f (k + 40) w = some (numb w) ∧ smithyref07_Number.f (k + 40) w = some (numb w) := by
  obtain ⟨n, n1, e, _, _⟩ := number_eq h.1 h.2
  have : numb w = (wbytes w).drop (32 - n) := by
    unfold numb
    rw [show rlp_Number.f 40 w = rlp_Number.f (0 + 40) w from rfl, (e 0).1]
    rfl
  rw [this]
  exact ⟨by rw [List.length_drop, wbytes_len]; omega, e⟩
theorem gd_of {x : Int} (h : Gd24 x) : Gd26 [x, 0, 0, 0] := by
  refine ⟨rfl, fun y hy => ?_⟩
  simp only [List.mem_cons, List.not_mem_nil, or_false] at hy
  rcases hy with rfl | rfl | rfl | rfl
  · exact h
  all_goals exact inK_nat 0 (by omega)
/-! ### The accounts made warm. -/
abbrev Wm := (List Int) × (List (List Int))
abbrev TxT := (List Int) × (List Int) × Bool × Int × (List Int) × (List Int) × Int × (List Int) × (List Int) × (List Wm)
def keysF : List (List Int) → Fst
  | [] => .nil
  | k :: l => .leaf (wbytes k) (keysF l)
def warmF : List Wm → Fst
  | [] => .nil
  | w :: l => .node (.leaf w.1 (.node (keysF w.2) .nil)) (warmF l)
theorem keysF_len (l : List (List Int)) : (keysF l).flat.length = l.length := by
  induction l with
  | nil => rfl
  | cons k l ih => simp [keysF, Fst.flat, ih]
theorem keysF_dep (l : List (List Int)) : (keysF l).dep = 0 := by
  induction l with
  | nil => rfl
  | cons k l ih => simp [keysF, Fst.dep, ih]
theorem keysF_fit (l : List (List Int)) : (keysF l).Fit := by
  induction l with
  | nil => trivial
  | cons k l ih => exact ⟨by rw [wbytes_len]; omega, ih⟩
theorem keysF_enc (l : List (List Int)) : (keysF l).enc.length ≤ 36 * l.length := by
  induction l with
  | nil => simp [keysF, Fst.enc]
  | cons k l ih =>
    have := encL_len (wbytes k)
    rw [wbytes_len] at this
    simp only [keysF, Fst.enc, List.length_append, List.length_cons]
    omega
theorem keys_app (a b : List (List Int)) : keysF (a ++ b) = (keysF a).app (keysF b) := by
  induction a with
  | nil => rfl
  | cons k a ih => simp [keysF, Fst.app, ih]
theorem warm_dep (l : List Wm) : (warmF l).dep ≤ 2 := by
  induction l with
  | nil => simp [warmF, Fst.dep]
  | cons w l ih => simp only [warmF, Fst.dep, keysF_dep]; omega
theorem warm_fit (l : List Wm) (h : ∀ w ∈ l, w.1.length = 20) : (warmF l).Fit := by
  induction l with
  | nil => trivial
  | cons w l ih => exact ⟨⟨by rw [h w (by simp)]; omega, keysF_fit _, trivial⟩, ih fun w hw => h w (by simp [hw])⟩
theorem warm_len (l : List Wm) (h : ∀ w ∈ l, w.2.length ≤ 30) : (warmF l).flat.length ≤ 33 * l.length := by
  induction l with
  | nil => simp [warmF, Fst.flat]
  | cons w l ih =>
    have := ih fun w hw => h w (by simp [hw])
    have := h w (by simp)
    simp only [warmF, Fst.flat, List.length_append, List.length_cons, keysF_len, List.length_nil]
    omega
theorem warm_enc (l : List Wm) (h : ∀ w ∈ l, w.1.length = 20 ∧ w.2.length ≤ 30) : (warmF l).enc.length ≤ 1200 * l.length := by
  induction l with
  | nil => simp [warmF, Fst.enc]
  | cons w l ih =>
    have h1 := ih fun w hw => h w (by simp [hw])
    have h2 := h w (by simp)
    have h3 := encL_len w.1
    have h4 := keysF_enc w.2
    have h5 := hd_len (keysF w.2).enc.length 64
    have h6 := hd_len (encL w.1 ++ (hd (keysF w.2).enc.length 64 ++ (keysF w.2).enc ++ [])).length 64
    simp only [warmF, Fst.enc, List.length_append, List.length_cons, List.length_nil] at h6 ⊢
    omega
theorem warm_app (a b : List Wm) : warmF (a ++ b) = (warmF a).app (warmF b) := by
  induction a with
  | nil => rfl
  | cons w a ih => simp [warmF, Fst.app, ih]
theorem warm_one (w : Wm) (post : List Nd) : (warmF [w]).flat ++ post = [(true, [], ((w.2.length : Int) + 2)), (false, w.1, 0), (true, [], (w.2.length : Int))] ++ ((keysF w.2).flat ++ post) := by
  have : ((Fst.leaf w.1 (.node (keysF w.2) .nil)).flat.length : Int) = (w.2.length : Int) + 2 := by
    simp [Fst.flat, keysF_len]; omega
  show (true, [], ((Fst.leaf w.1 (.node (keysF w.2) .nil)).flat.length : Int)) :: _ = _
  rw [this]
  simp [Fst.flat, keysF_len, warmF]
theorem keys_snoc (ks : List (List Int)) (j : Nat) (k : List Int) (r : List (List Int)) (h : ks.drop j = k :: r) : (keysF (ks.take (j + 1))).flat = (keysF (ks.take j)).flat ++ [(false, wbytes k, 0)] := by
  have : ks.take (j + 1) = ks.take j ++ [k] := by
    obtain ⟨_, hl, _⟩ := gt_dropG h
    rw [List.take_add_one, List.getElem?_eq_getElem hl]
    rw [List.drop_eq_getElem_cons hl] at h
    simp only [List.cons.injEq] at h
    rw [h.1]; rfl
  rw [this, keys_app, Fst.flat_app]
  rfl
section
variable {kF : Nat}
theorem warm_keys (x1 : List Wm) (i : Nat) (ks : List (List Int)) (hks : (gt x1 (i : Int)).2 = ks) (hg : ∀ k ∈ ks, k.length = 4) (hl : ks.length < 10000000) (rec1 : Int → List Nd → Option (List Nd)) : ∀ (d q j : Nat) (acc : List Nd), d < q → j + d = ks.length → acc.length + d < 10000000 → tx_warm.l2 (kF + 40) x1 (i : Int) rec1 q (j : Int) acc = tx_warm.j2 (i : Int) rec1 (acc ++ (keysF (ks.drop j)).flat) := by
  intro d
  induction d with
  | zero =>
    intro q j acc hq hj ha
    obtain ⟨q, rfl⟩ : ∃ m, q = m + 1 := ⟨q - 1, by omega⟩
    show tx_warm.b2 (kF + 40) x1 (i : Int) rec1 _ _ _ = _
    unfold tx_warm.b2
    simp only [hks]
    rw [if_neg (by simp; omega), List.drop_eq_nil_of_le (by omega)]
    simp [keysF, Fst.flat]
  | succ d ih =>
    intro q j acc hq hj ha
    obtain ⟨q, rfl⟩ : ∃ m, q = m + 1 := ⟨q - 1, by omega⟩
    show tx_warm.b2 (kF + 40) x1 (i : Int) rec1 _ _ _ = _
    have hd := List.drop_eq_getElem_cons (l := ks) (i := j) (by omega)
    have hm : ks[j]'(by omega) ∈ ks := List.getElem_mem _
    generalize ks[j]'(by omega) = k at hd hm
    obtain ⟨g, _, hr⟩ := gt_dropG hd
    unfold tx_warm.b2 tx_item.f
    simp only [hks, g]
    rw [if_pos (by simp; omega), if_pos (by omega), bytes_f kF (hg k hm), Option.bind_some, cut32 (wbytes_len k), Option.bind_some, if_pos (by simp; omega), wr_i64_id (by omega) (by omega)]
    refine (ih q (j + 1) _ (by omega) (by omega) (by simp; omega)).trans ?_
    rw [hd]
    simp [keysF, Fst.flat]
theorem warm_loop (x1 : List Wm) (hx : x1.length < 1000) (hg : ∀ w ∈ x1, w.1.length = 20 ∧ w.2.length ≤ 1000 ∧ ∀ k ∈ w.2, k.length = 4) (hk : 2000 < kF + 40) : ∀ (l : List Wm) (q i : Nat) (acc : List Nd), x1.drop i = l → i ≤ x1.length → l.length < q → acc.length + 1003 * l.length < 9000000 → tx_warm.l1 (kF + 40) x1 q (i : Int) acc = tx_warm.j1 (acc ++ (warmF l).flat) := by
  intro l
  induction l with
  | nil =>
    intro q i acc hd hi hq ha
    obtain ⟨q, rfl⟩ : ∃ m, q = m + 1 := ⟨q - 1, by omega⟩
    have : x1.length ≤ i := by simpa using hd
    show tx_warm.b1 (kF + 40) x1 _ _ _ = _
    unfold tx_warm.b1
    rw [if_neg (by simp; omega)]
    simp [warmF, Fst.flat]
  | cons w l ih =>
    intro q i acc hd hi hq ha
    simp only [List.length_cons] at hq ha
    obtain ⟨q, rfl⟩ : ∃ m, q = m + 1 := ⟨q - 1, by omega⟩
    obtain ⟨g, hi2, hr⟩ := gt_dropG hd
    have hm : w ∈ x1 := List.mem_of_mem_drop (i := i) (by rw [hd]; simp)
    obtain ⟨w1, w2, w3⟩ := hg w hm
    show tx_warm.b1 (kF + 40) x1 _ _ _ = _
    unfold tx_warm.b1 tx_item.f
    simp only [g]
    rw [if_pos (by simp; omega), if_pos (by omega), cut20 w1, Option.bind_some, if_pos (by simp; omega), wr_i64_id (by omega) (by omega)]
    have h2 := warm_keys (kF := kF) x1 i w.2 (by rw [g]) w3 (by omega) (tx_warm.l1 (kF + 40) x1 q) w.2.length (kF + 40) 0 (acc ++ [(true, [], ((w.2.length : Int) + 2)), (false, w.1, 0), (true, [], (w.2.length : Int))]) (by omega) (by omega) (by simp; omega)
    refine h2.trans ?_
    unfold tx_warm.j2
    rw [wr_i64_id (by omega) (by omega)]
    refine (ih q (i + 1) _ hr (by omega) (by omega) ?_).trans ?_
    · simp [keysF_len]; omega
    · have := warm_one w (warmF l).flat
      rw [List.drop_zero, List.append_assoc, List.append_assoc, ← this, show w :: l = [w] ++ l from rfl, warm_app, Fst.flat_app]
theorem warm_nodes (x1 : List Wm) (hx : x1.length < 1000) (hg : ∀ w ∈ x1, w.1.length = 20 ∧ w.2.length ≤ 1000 ∧ ∀ k ∈ w.2, k.length = 4) (hk : 2000 < kF + 40) (hw : (warmF x1).flat.length < 9000000) : tx_warm.f (kF + 40) x1 = some ((true, [], ((warmF x1).flat.length : Int)) :: (warmF x1).flat) := by
  unfold tx_warm.f
  have := warm_loop x1 hx hg hk x1 (kF + 40) 0 [(true, [], 0)] rfl (by omega) (by omega) (by simp; omega)
  refine this.trans ?_
  unfold tx_warm.j1
  have hg0 : gt ([(true, [], 0)] ++ (warmF x1).flat : List Nd) 0 = (true, [], 0) := rfl
  rw [hg0, if_pos (by simp <;> omega), wr_i64_id (by simp <;> omega) (by simp <;> omega)]
  simp
/-! ### The whole. -/
/-- A transaction as a tree. -/
def txF (x : TxT) : Fst := .node (.leaf x.1 (.leaf (numb [x.2.2.2.1, 0, 0, 0]) (.leaf (if x.2.2.1 = true then [] else x.2.1) (.leaf (numb x.2.2.2.2.1) (.leaf x.2.2.2.2.2.1 (.leaf (numb [x.2.2.2.2.2.2.1, 0, 0, 0]) (.leaf (numb x.2.2.2.2.2.2.2.1) (.leaf (numb x.2.2.2.2.2.2.2.2.1) (.node (warmF x.2.2.2.2.2.2.2.2.2) .nil))))))))) .nil
def Small (x : TxT) : Prop := x.2.2.2.2.2.1.length ≤ 3000 ∧ x.2.2.2.2.2.2.2.2.2.length ≤ 30 ∧ ∀ w ∈ x.2.2.2.2.2.2.2.2.2, w.2.length ≤ 30
theorem long_loop (x : TxT) (hx : x.2.2.2.2.2.2.2.2.2.length < 10000) : ∀ (l : List Wm) (q i : Nat), x.2.2.2.2.2.2.2.2.2.drop i = l → i ≤ x.2.2.2.2.2.2.2.2.2.length → l.length < q → (∀ w ∈ l, w.2.length ≤ 64) → tx_long.l1 x q (i : Int) = tx_long.j1 x := by
  intro l
  induction l with
  | nil =>
    intro q i hd hi hq hw
    obtain ⟨q, rfl⟩ : ∃ m, q = m + 1 := ⟨q - 1, by omega⟩
    have : x.2.2.2.2.2.2.2.2.2.length ≤ i := by simpa using hd
    show tx_long.b1 x _ _ = _
    unfold tx_long.b1
    rw [if_neg (by simp; omega)]
  | cons w l ih =>
    intro q i hd hi hq hw
    simp only [List.length_cons] at hq
    obtain ⟨q, rfl⟩ : ∃ m, q = m + 1 := ⟨q - 1, by omega⟩
    obtain ⟨g, hi2, hr⟩ := gt_dropG hd
    have := hw w (by simp)
    show tx_long.b1 x _ _ = _
    unfold tx_long.b1
    simp only [g]
    rw [if_pos (by simp; omega), if_pos (by omega), if_neg (by simp; omega), wr_i64_id (by omega) (by omega)]
    exact ih q (i + 1) hr (by omega) (by omega) fun w hw' => hw w (by simp [hw'])
theorem great_loop19 (x : TxT) (hx : x.2.2.2.2.2.2.2.2.2.length < 10000) : ∀ (l : List Wm) (q i : Nat), x.2.2.2.2.2.2.2.2.2.drop i = l → i ≤ x.2.2.2.2.2.2.2.2.2.length → l.length < q → smithyref19_Great.l1 x q (i : Int) = some true ∨ (smithyref19_Great.l1 x q (i : Int) = some false ∧ ∀ w ∈ l, w.2.length ≤ 30) := by
  intro l
  induction l with
  | nil =>
    intro q i hd hi hq
    obtain ⟨q, rfl⟩ : ∃ m, q = m + 1 := ⟨q - 1, by omega⟩
    have : x.2.2.2.2.2.2.2.2.2.length ≤ i := by simpa using hd
    right
    refine ⟨?_, by simp⟩
    show smithyref19_Great.b1 x _ _ = _
    unfold smithyref19_Great.b1
    rw [if_neg (by simp; omega)]
    rfl
  | cons w l ih =>
    intro q i hd hi hq
    simp only [List.length_cons] at hq
    obtain ⟨q, rfl⟩ : ∃ m, q = m + 1 := ⟨q - 1, by omega⟩
    obtain ⟨g, hi2, hr⟩ := gt_dropG hd
    have e : smithyref19_Great.l1 x (q + 1) (i : Int) = if (30 : Int) < (w.2.length : Int) then some true else smithyref19_Great.l1 x q ((i + 1 : Nat) : Int) := by
      show smithyref19_Great.b1 x _ _ = _
      unfold smithyref19_Great.b1
      simp only [g]
      rw [if_pos (by simp; omega), if_pos (by omega), wr_i64_id (by omega) (by omega)]
      by_cases c : (30 : Int) < (w.2.length : Int)
      · rw [if_pos (by simpa using c), if_pos c]
      · rw [if_neg (by simpa using c), if_neg c]; rfl
    rw [e]
    by_cases c : (30 : Int) < (w.2.length : Int)
    · rw [if_pos c]; exact Or.inl rfl
    · rw [if_neg c]
      rcases ih q (i + 1) hr (by omega) (by omega) with h | ⟨h1, h2⟩
      · exact Or.inl h
      · refine Or.inr ⟨h1, fun v hv => ?_⟩
        rcases List.mem_cons.1 hv with rfl | hv
        · omega
        · exact h2 v hv
theorem great19 (x : TxT) (k : Nat) (hk : 100 < k) : smithyref19_Great.f k x = some true ∨ (smithyref19_Great.f k x = some false ∧ Small x) := by
  unfold smithyref19_Great.f
  by_cases c1 : (3000 : Int) < (x.2.2.2.2.2.1.length : Int)
  · rw [if_pos (by simpa using c1)]; exact Or.inl rfl
  · rw [if_neg (by simpa using c1)]
    by_cases c2 : (30 : Int) < (x.2.2.2.2.2.2.2.2.2.length : Int)
    · rw [decide_eq_true c2]; exact Or.inl rfl
    · rw [decide_eq_false c2]
      unfold smithyref19_Great.j1
      rw [if_neg (by simp)]
      rcases great_loop19 x (by omega) x.2.2.2.2.2.2.2.2.2 k 0 rfl (by omega) (by omega) with h | ⟨h1, h2⟩
      · exact Or.inl h
      · exact Or.inr ⟨h1, by omega, by omega, h2⟩
theorem long_no (x : TxT) (h : Small x) (k : Nat) (hk : 100 < k) : tx_long.f k x = some false := by
  unfold tx_long.f
  obtain ⟨h1, h2, h3⟩ := h
  refine (long_loop x (by omega) x.2.2.2.2.2.2.2.2.2 k 0 rfl (by omega) (by omega) (fun w hw => by have := h3 w hw; omega)).trans ?_
  unfold tx_long.j1
  rw [if_neg (by simp; omega), decide_eq_false (by omega)]
theorem tx_flat (x : TxT) : (txF x).flat = (true, [], (((warmF x.2.2.2.2.2.2.2.2.2).flat.length + 9 : Nat) : Int)) :: (false, x.1, 0) :: (false, numb [x.2.2.2.1, 0, 0, 0], 0) :: (false, (if x.2.2.1 = true then [] else x.2.1), 0) :: (false, numb x.2.2.2.2.1, 0) :: (false, x.2.2.2.2.2.1, 0) :: (false, numb [x.2.2.2.2.2.2.1, 0, 0, 0], 0) :: (false, numb x.2.2.2.2.2.2.2.1, 0) :: (false, numb x.2.2.2.2.2.2.2.2.1, 0) :: (true, [], ((warmF x.2.2.2.2.2.2.2.2.2).flat.length : Int)) :: (warmF x.2.2.2.2.2.2.2.2.2).flat := by
  simp [txF, Fst.flat]
  omega
theorem tx_fits (x : TxT) (hs : Small x) (hg : Gd30 x) : (txF x).Fit ∧ (txF x).flat.length ≤ 1100 ∧ (txF x).enc.length ≤ 60000 ∧ (txF x).dep ≤ 64 := by
  obtain ⟨h1, h2, h3⟩ := hs
  obtain ⟨g0, g1, _, g3, g4, g5, g6, g7, g8, g9⟩ := hg
  have n3 := (numb_eq (gd_of g3)).1
  have n4 := (numb_eq g4).1
  have n6 := (numb_eq (gd_of g6)).1
  have n7 := (numb_eq g7).1
  have n8 := (numb_eq g8).1
  have hw : ∀ w ∈ x.2.2.2.2.2.2.2.2.2, w.1.length = 20 ∧ w.2.length ≤ 30 := fun w hw => ⟨(g9.1 w hw).1.1, h3 w hw⟩
  have wl := warm_len _ h3
  have we := warm_enc _ hw
  have wd := warm_dep x.2.2.2.2.2.2.2.2.2
  have wf := warm_fit _ fun w h => (hw w h).1
  have l0 := g0.1
  have l1 := g1.1
  have lto : (if x.2.2.1 = true then ([] : List Int) else x.2.1).length ≤ 20 := by
    split
    · simp
    · omega
  refine ⟨⟨⟨by omega, by omega, by omega, by omega, by omega, by omega, by omega, by omega, wf, trivial⟩, trivial⟩, ?_, ?_, ?_⟩
  · rw [tx_flat]; simp only [List.length_cons]; omega
  · have e0 := encL_len x.1
    have e1 := encL_len (numb [x.2.2.2.1, 0, 0, 0])
    have e2 := encL_len (if x.2.2.1 = true then ([] : List Int) else x.2.1)
    have e3 := encL_len (numb x.2.2.2.2.1)
    have e4 := encL_len x.2.2.2.2.2.1
    have e5 := encL_len (numb [x.2.2.2.2.2.2.1, 0, 0, 0])
    have e6 := encL_len (numb x.2.2.2.2.2.2.2.1)
    have e7 := encL_len (numb x.2.2.2.2.2.2.2.2.1)
    have e8 := fun n => hd_len n 64
    have e9 := e8 (warmF x.2.2.2.2.2.2.2.2.2).enc.length
    unfold txF
    simp only [Fst.enc, List.length_append, List.length_nil]
    have e10 := e8
    generalize hz : (encL x.1).length + _ = z
    have e11 := e8 z
    omega
  · simp only [txF, Fst.dep]; omega
theorem tx_enc (x : TxT) (hs : Small x) (hg : Gd30 x) (hk : 2000 < kF + 200) : rlp_Encode.f (kF + 200) (txF x).flat = some ((txF x).enc, 0) ∧ smithyref07_Encode.f (kF + 200) (txF x).flat = some ((txF x).enc, 0) := by
  obtain ⟨f1, f2, f3, f4⟩ := tx_fits x hs hg
  have a := encode_tree (txF x) trivial (kF + 200) (by omega) (by omega) f1 (by omega)
  have b := refEncode_tree (txF x) trivial (kF + 200) (by omega) (by omega) f1 (by omega)
  rw [if_pos f4] at a b
  exact ⟨a, b⟩
theorem hash_imp (x : TxT) (hs : Small x) (hg : Gd30 x) (hk : 2000 < kF + 200) : tx_Hash.f (kF + 200) x = keccak_Sum.f (kF + 200) (txF x).enc := by
  have hen := (tx_enc x hs hg hk).1
  obtain ⟨h1, h2, h3⟩ := hs
  obtain ⟨g0, g1, _, g3, g4, g5, g6, g7, g8, g9⟩ := id hg
  have n3 := ((numb_eq (gd_of g3)).2 (kF + 160)).1
  have n4 := ((numb_eq g4).2 (kF + 160)).1
  have n6 := ((numb_eq (gd_of g6)).2 (kF + 160)).1
  have n7 := ((numb_eq g7).2 (kF + 160)).1
  have n8 := ((numb_eq g8).2 (kF + 160)).1
  have wl := warm_len _ h3
  have wn := warm_nodes (kF := kF + 160) x.2.2.2.2.2.2.2.2.2 (by omega) (fun w hw => ⟨(g9.1 w hw).1.1, by have := h3 w hw; omega, fun k hk => ((g9.1 w hw).2.1 k hk).1⟩) (by omega) (by omega)
  rw [show kF + 160 + 40 = kF + 200 by omega] at n3 n4 n6 n7 n8 wn
  have lg := long_no x ⟨h1, h2, h3⟩ (kF + 200) (by omega)
  have key : ∀ y1 : List Int, y1 = (if x.2.2.1 = true then ([] : List Int) else x.2.1) → tx_Hash.j1 (kF + 200) x y1 = keccak_Sum.f (kF + 200) (txF x).enc := by
    intro y1 hy
    unfold tx_Hash.j1 tx_item.f word_Of.f tx_number.f tx_item.f
    simp only [Option.bind_some, n3, n4, n6, n7, n8, wn, cut20 g0.1]
    rw [if_pos (by simp; omega), if_pos (by simp; omega)]
    generalize hL : List.set _ _ _ = L
    have hL' : L = (txF x).flat := by
      rw [← hL, tx_flat, ← hy, wr_i64_id (by simp; omega) (by simp; omega)]
      simp [gt]
      omega
    rw [hL', hen, Option.bind_some]
    generalize keccak_Sum.f (kF + 200) (txF x).enc = z
    cases z <;> rfl
  unfold tx_Hash.f
  rw [show (x.1, x.2.1, x.2.2.1, x.2.2.2.1, x.2.2.2.2.1, x.2.2.2.2.2.1, x.2.2.2.2.2.2.1, x.2.2.2.2.2.2.2.1, x.2.2.2.2.2.2.2.2.1, x.2.2.2.2.2.2.2.2.2) = x from rfl, lg, Option.bind_some, if_neg (by simp)]
  by_cases c : x.2.2.1 = true
  · rw [if_pos c]; exact key _ (by rw [if_pos c])
  · rw [if_neg c, cut20 g1.1]; exact key _ (by rw [if_neg c])
theorem ref_keys (x : TxT) (i : Nat) (ks : List (List Int)) (hks : (gt x.2.2.2.2.2.2.2.2.2 (i : Int)).2 = ks) (hg : ∀ k ∈ ks, k.length = 4 ∧ ∀ y ∈ k, 0 ≤ y) (hl : ks.length < 10000000) (rec1 : Int → List Nd → Option (List Int)) : ∀ (d q j : Nat) (acc : List Nd), d < q → j + d = ks.length → acc.length + d < 10000000 → smithyref19_Hash.l2 (kF + 40) x (i : Int) rec1 q (j : Int) acc = smithyref19_Hash.j4 (i : Int) rec1 (acc ++ (keysF (ks.drop j)).flat) := by
  intro d
  induction d with
  | zero =>
    intro q j acc hq hj ha
    obtain ⟨q, rfl⟩ : ∃ m, q = m + 1 := ⟨q - 1, by omega⟩
    show smithyref19_Hash.b2 (kF + 40) x (i : Int) rec1 _ _ _ = _
    unfold smithyref19_Hash.b2
    simp only [hks]
    rw [if_neg (by simp; omega), List.drop_eq_nil_of_le (by omega)]
    simp [keysF, Fst.flat]
  | succ d ih =>
    intro q j acc hq hj ha
    obtain ⟨q, rfl⟩ : ∃ m, q = m + 1 := ⟨q - 1, by omega⟩
    show smithyref19_Hash.b2 (kF + 40) x (i : Int) rec1 _ _ _ = _
    have hd := List.drop_eq_getElem_cons (l := ks) (i := j) (by omega)
    have hm : ks[j]'(by omega) ∈ ks := List.getElem_mem _
    generalize ks[j]'(by omega) = k at hd hm
    obtain ⟨g, _, hr⟩ := gt_dropG hd
    unfold smithyref19_Hash.b2 smithyref19_item.f
    simp only [hks, g]
    rw [if_pos (by simp; omega), if_pos (by omega), of_f kF (hg k hm).1, Option.bind_some, dbytes_f kF (hg k hm).1 (hg k hm).2, Option.bind_some, cut32 (wbytes_len k), if_pos (by simp [wbytes_len]), Option.bind_some, if_pos (by simp; omega), wr_i64_id (by omega) (by omega)]
    refine (ih q (j + 1) _ (by omega) (by omega) (by simp; omega)).trans ?_
    rw [hd]
    simp [keysF, Fst.flat]
theorem ref_warm (x : TxT) (y3 : List Nd) (hx : x.2.2.2.2.2.2.2.2.2.length < 1000) (hg : ∀ w ∈ x.2.2.2.2.2.2.2.2.2, w.1.length = 20 ∧ w.2.length ≤ 1000 ∧ ∀ k ∈ w.2, k.length = 4 ∧ ∀ y ∈ k, 0 ≤ y) (hk : 2000 < kF + 40) : ∀ (l : List Wm) (q i : Nat) (acc : List Nd), x.2.2.2.2.2.2.2.2.2.drop i = l → i ≤ x.2.2.2.2.2.2.2.2.2.length → l.length < q → acc.length + 1003 * l.length < 9000000 → smithyref19_Hash.l1 (kF + 40) x y3 q (i : Int) acc = smithyref19_Hash.j3 (kF + 40) y3 (acc ++ (warmF l).flat) := by
  intro l
  induction l with
  | nil =>
    intro q i acc hd hi hq ha
    obtain ⟨q, rfl⟩ : ∃ m, q = m + 1 := ⟨q - 1, by omega⟩
    have : x.2.2.2.2.2.2.2.2.2.length ≤ i := by simpa using hd
    show smithyref19_Hash.b1 (kF + 40) x y3 _ _ _ = _
    unfold smithyref19_Hash.b1
    rw [if_neg (by simp; omega)]
    simp [warmF, Fst.flat]
  | cons w l ih =>
    intro q i acc hd hi hq ha
    simp only [List.length_cons] at hq ha
    obtain ⟨q, rfl⟩ : ∃ m, q = m + 1 := ⟨q - 1, by omega⟩
    obtain ⟨g, hi2, hr⟩ := gt_dropG hd
    have hm : w ∈ x.2.2.2.2.2.2.2.2.2 := List.mem_of_mem_drop (i := i) (by rw [hd]; simp)
    obtain ⟨w1, w2, w3⟩ := hg w hm
    show smithyref19_Hash.b1 (kF + 40) x y3 _ _ _ = _
    unfold smithyref19_Hash.b1 smithyref19_item.f smithyref19_Hash.j5
    simp only [g]
    rw [if_pos (by simp; omega), if_pos (by omega), cut20 w1, if_pos (by simp; omega), Option.bind_some, if_pos (by simp; omega), wr_i64_id (by omega) (by omega), List.nil_append]
    have h2 := ref_keys (kF := kF) x i w.2 (by rw [g]) w3 (by omega) (smithyref19_Hash.l1 (kF + 40) x y3 q) w.2.length (kF + 40) 0 (acc ++ [(true, [], ((w.2.length : Int) + 2)), (false, w.1, 0), (true, [], (w.2.length : Int))]) (by omega) (by omega) (by simp; omega)
    refine h2.trans ?_
    unfold smithyref19_Hash.j4
    rw [wr_i64_id (by omega) (by omega)]
    refine (ih q (i + 1) _ hr (by omega) (by omega) ?_).trans ?_
    · simp [keysF_len]; omega
    · have := warm_one w (warmF l).flat
      rw [List.drop_zero, List.append_assoc, List.append_assoc, ← this, show w :: l = [w] ++ l from rfl, warm_app, Fst.flat_app]
theorem hash_ref (x : TxT) (hs : Small x) (hg : Gd30 x) (hk : 2000 < kF + 200) : smithyref19_Hash.f (kF + 200) x = smithyref05_Sum.f (kF + 200) (txF x).enc := by
  have hen := (tx_enc x hs hg hk).2
  obtain ⟨h1, h2, h3⟩ := hs
  obtain ⟨g0, g1, _, g3, g4, g5, g6, g7, g8, g9⟩ := id hg
  have n3 := ((numb_eq (gd_of g3)).2 (kF + 160)).2
  have n4 := ((numb_eq g4).2 (kF + 160)).2
  have n6 := ((numb_eq (gd_of g6)).2 (kF + 160)).2
  have n7 := ((numb_eq g7).2 (kF + 160)).2
  have n8 := ((numb_eq g8).2 (kF + 160)).2
  have wl := warm_len _ h3
  have key : ∀ y2 : List Nd, y2 = [(true, [], 0), (false, x.1, 0), (false, numb [x.2.2.2.1, 0, 0, 0], 0), (false, (if x.2.2.1 = true then ([] : List Int) else x.2.1), 0)] → smithyref19_Hash.j1 (kF + 200) x y2 = smithyref05_Sum.f (kF + 200) (txF x).enc := by
    intro y2 hy
    rw [show kF + 160 + 40 = kF + 200 by omega] at n3 n4 n6 n7 n8
    unfold smithyref19_Hash.j1 smithyref19_item.f
    simp only [Option.bind_some, n4, n6, n7, n8]
    rw [if_pos (by rw [hy]; simp)]
    unfold smithyref19_Hash.j2
    have wn := fun y3 => ref_warm (kF := kF + 160) x y3 (by omega) (fun w hw => ⟨(g9.1 w hw).1.1, by have := h3 w hw; omega, fun k hk => ⟨((g9.1 w hw).2.1 k hk).1, fun y hy => (inK_u64 (((g9.1 w hw).2.1 k hk).2 y hy)).1⟩⟩) (by omega) x.2.2.2.2.2.2.2.2.2 (kF + 200) 0 [] rfl (by omega) (by omega) (by simp; omega)
    rw [show kF + 160 + 40 = kF + 200 by omega] at wn
    refine (wn _).trans ?_
    rw [List.nil_append, hy]
    unfold smithyref19_Hash.j3
    rw [if_pos (by simp), if_pos (by simp; omega), if_pos (by simp; omega)]
    generalize hL : List.set _ _ _ = L
    have hL' : L = (txF x).flat := by
      rw [← hL, tx_flat, wr_i64_id (by simp; omega) (by simp; omega)]
      simp [gt]
      omega
    rw [hL', hen, Option.bind_some]
    generalize smithyref05_Sum.f (kF + 200) (txF x).enc = z
    cases z <;> rfl
  rw [show kF + 160 + 40 = kF + 200 by omega] at n3
  unfold smithyref19_Hash.f smithyref19_item.f
  simp only [Option.bind_some, n3, cut20 g0.1]
  by_cases c : x.2.2.1 = true
  · rw [if_pos c, if_pos (by simp)]; exact key _ (by rw [if_pos c]; rfl)
  · rw [if_neg c, cut20 g1.1, if_pos (by simp)]; exact key _ (by rw [if_neg c]; rfl)
/-! ### What is too long. -/
def reWarm (x : TxT) (w : List Wm) : TxT := (x.1, x.2.1, x.2.2.1, x.2.2.2.1, x.2.2.2.2.1, x.2.2.2.2.2.1, x.2.2.2.2.2.2.1, x.2.2.2.2.2.2.2.1, x.2.2.2.2.2.2.2.2.1, w)
theorem long_end (x : TxT) (k : Nat) (h : tx_long.f k x = some true) : tx_Hash.f k x = some [0, 0, 0, 0, 0, 0, 0, 0, 0, 0, 0, 0, 0, 0, 0, 0, 0, 0, 0, 0, 0, 0, 0, 0, 0, 0, 0, 0, 0, 0, 0, 0] ∧ tx_May.f k x = some 4 := by
  constructor
  · unfold tx_Hash.f
    rw [show (x.1, x.2.1, x.2.2.1, x.2.2.2.1, x.2.2.2.2.1, x.2.2.2.2.2.1, x.2.2.2.2.2.2.1, x.2.2.2.2.2.2.2.1, x.2.2.2.2.2.2.2.2.1, x.2.2.2.2.2.2.2.2.2) = x from rfl, h]
    rfl
  · unfold tx_May.f
    rw [show (x.1, x.2.1, x.2.2.1, x.2.2.2.1, x.2.2.2.2.1, x.2.2.2.2.2.1, x.2.2.2.2.2.2.1, x.2.2.2.2.2.2.2.1, x.2.2.2.2.2.2.2.2.1, x.2.2.2.2.2.2.2.2.2) = x from rfl, h]
    rfl
theorem long_many (x : TxT) (w : List Wm) (hw : w.length < 10000) (h64 : 64 < w.length) (hs : ∀ v ∈ w, v.2.length ≤ 64) (hd : x.2.2.2.2.2.1.length ≤ 3000) (k : Nat) (hk : w.length < k) : tx_long.f k (reWarm x w) = some true := by
  unfold tx_long.f
  refine (long_loop (reWarm x w) hw w k 0 rfl (Nat.zero_le _) hk hs).trans ?_
  unfold tx_long.j1
  have e1 : (reWarm x w).2.2.2.2.2.1 = x.2.2.2.2.2.1 := rfl
  have e2 : (reWarm x w).2.2.2.2.2.2.2.2.2 = w := rfl
  rw [e1, e2, if_neg (by simp; omega), decide_eq_true (by omega)]
theorem long_keys (x : TxT) (a : List Int) (ks : List (List Int)) (hk : 64 < ks.length) (k : Nat) : tx_long.f (k + 1) (reWarm x [(a, ks)]) = some true := by
  unfold tx_long.f
  show tx_long.b1 (reWarm x [(a, ks)]) _ _ = _
  unfold tx_long.b1
  have e2 : (reWarm x [(a, ks)]).2.2.2.2.2.2.2.2.2 = [(a, ks)] := rfl
  have e3 : gt [(a, ks)] 0 = (a, ks) := rfl
  simp only [e2, e3]
  rw [if_pos (by simp), if_pos (by simp), if_pos (by simp; omega)]
def zw : Wm := ([0, 0, 0, 0, 0, 0, 0, 0, 0, 0, 0, 0, 0, 0, 0, 0, 0, 0, 0, 0], [])
theorem law_loop (k : Nat) (x : TxT) (n : Int) : ∀ (d q i : Nat) (w : List Wm), d < q → i + d = 65 → w.length + d < 100000 → smithylaw19_TxHashes.l1 k x n q (i : Int) w = smithylaw19_TxHashes.j1 k x n (w ++ List.replicate d zw) := by
  intro d
  induction d with
  | zero =>
    intro q i w hq hi hw
    obtain ⟨q, rfl⟩ : ∃ m, q = m + 1 := ⟨q - 1, by omega⟩
    show smithylaw19_TxHashes.b1 k x n _ _ _ = _
    unfold smithylaw19_TxHashes.b1
    rw [if_neg (by simp; omega)]
    simp
  | succ d ih =>
    intro q i w hq hi hw
    obtain ⟨q, rfl⟩ : ∃ m, q = m + 1 := ⟨q - 1, by omega⟩
    show smithylaw19_TxHashes.b1 k x n _ _ _ = _
    unfold smithylaw19_TxHashes.b1
    rw [if_pos (by simp; omega), if_pos (by simp; omega), wr_i64_id (by omega) (by omega)]
    refine (ih q (i + 1) _ (by omega) (by omega) ?_).trans ?_
    · simp; omega
    · rw [List.replicate_succ, List.append_assoc]; rfl
end
theorem smithylaw19_TxHashes_true (a0 : (List Int) × (List Int) × Bool × Int × (List Int) × (List Int) × Int × (List Int) × (List Int) × (List ((List Int) × (List (List Int))))) (a1 : Int) (w0 : Gd30 a0) (w1 : inK .u8 a1) : ∃ k : Nat, smithylaw19_TxHashes.f k a0 a1 = some true := by
  obtain ⟨kF, hkF⟩ : ∃ kF : Nat, kF = 199800 := ⟨_, rfl⟩
  refine ⟨kF + 200, ?_⟩
  have hfx : smithylaw19_fixed.f (kF + 200) = some true := fixed19_k (kF + 100)
  have g1 := inK_u8 w1
  unfold smithylaw19_TxHashes.f
  rw [show (a0.1, a0.2.1, a0.2.2.1, a0.2.2.2.1, a0.2.2.2.2.1, a0.2.2.2.2.2.1, a0.2.2.2.2.2.2.1, a0.2.2.2.2.2.2.2.1, a0.2.2.2.2.2.2.2.2.1, a0.2.2.2.2.2.2.2.2.2) = a0 from rfl]
  rcases great19 a0 (kF + 200) (by omega) with h | ⟨h, hs⟩
  · rw [h, Option.bind_some, if_pos rfl, hfx]; rfl
  · obtain ⟨s1, s2, s3⟩ := id hs
    rw [h, Option.bind_some, if_neg (by simp), if_pos (by simp; omega), List.nil_append]
    refine (law_loop (kF + 200) a0 a1 65 (kF + 200) 0 a0.2.2.2.2.2.2.2.2.2 (by omega) (by omega) (by omega)).trans ?_
    obtain ⟨z, z1, z2, _, _⟩ := sums_eq (kF := kF) (txF a0).enc (by have := (tx_fits a0 hs w0).2.2.1; omega) (by have := (tx_fits a0 hs w0).2.2.1; omega)
    have i1 := hash_imp (kF := kF) a0 hs w0 (by omega)
    have i2 := hash_ref (kF := kF) a0 hs w0 (by omega)
    rw [z1] at i1
    rw [z2] at i2
    have lm := long_end _ _ (long_many a0 (a0.2.2.2.2.2.2.2.2.2 ++ List.replicate 65 zw) (by simp <;> omega) (by simp <;> omega) (fun v hv => by
      rcases List.mem_append.1 hv with hv | hv
      · have := s3 v hv; omega
      · rw [List.eq_of_mem_replicate hv]; simp [zw]) s1 (kF + 200) (by simp; omega))
    unfold reWarm at lm
    have lk := fun ks hk => long_end _ _ (long_keys a0 [0, 0, 0, 0, 0, 0, 0, 0, 0, 0, 0, 0, 0, 0, 0, 0, 0, 0, 0, 0] ks hk (kF + 199))
    unfold reWarm at lk
    have ew : wr .i64 (65 + wr .i64 a1) = 65 + a1 := by rw [wr_i64_id (x := a1) (by omega) (by omega), wr_i64_id (by omega) (by omega)]
    unfold smithylaw19_TxHashes.j1
    simp only [ew]
    have lk' := lk (List.replicate (Int.toNat (65 + a1)) ([0, 0, 0, 0] : List Int)) (by simp; omega)
    rw [if_pos (by omega), hfx, Option.bind_some, if_pos rfl, show (a0.1, a0.2.1, a0.2.2.1, a0.2.2.2.1, a0.2.2.2.2.1, a0.2.2.2.2.2.1, a0.2.2.2.2.2.2.1, a0.2.2.2.2.2.2.2.1, a0.2.2.2.2.2.2.2.2.1, a0.2.2.2.2.2.2.2.2.2) = a0 from rfl, i1, Option.bind_some, i2, Option.bind_some, if_pos (by simp), lm.1, Option.bind_some, if_pos (by simp)]
    rw [show kF + 200 = kF + 199 + 1 from rfl, lk'.1, Option.bind_some, if_pos (by simp), show kF + 199 + 1 = kF + 200 from rfl, lm.2, Option.bind_some, if_pos (by simp)]
    rw [show kF + 200 = kF + 199 + 1 from rfl, lk'.2]
    rfl
end GW
