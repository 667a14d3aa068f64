/-
  The document's coder on the nodes of a forest.
-/
import Derived.Test.YtnloindmiejbeaaDoorPureRlpEnc
set_option linter.unusedVariables false
set_option linter.unusedSimpArgs false
namespace GW
open Go Go.RowKit
theorem drop_add {α : Type} {x : List α} {i : Nat} {a r : List α} (h : x.drop i = a ++ r) : x.drop (i + a.length) = r := by
  rw [← List.drop_drop, h, List.drop_left]
theorem drop_len {α : Type} {x : List α} {i : Nat} {a : List α} (hi : i ≤ x.length) (h : x.drop i = a) : i + a.length = x.length := by
  rw [← h, List.length_drop]; omega
/-- A head, the document's way. -/
theorem refHead_eq (n o : Nat) (hn : n < 16777216) (ho : o = 0 ∨ o = 64) (k : Nat) : smithyref07_Head.f (k + 40) (n : Int) (o : Int) = some (hd n o) := by
  have hb := beb_len n
  by_cases h : n ≤ 55
  · unfold smithyref07_Head.f hd
    rw [if_pos (by simpa using by omega), if_pos h, wr_i64_id (x := 128 + (o : Int)) (by omega) (by omega), wr_i64_id (by omega) (by omega)]
    rcases ho with rfl | rfl <;> (simp only [wr_u8]; refine congrArg (fun x => some [x]) ?_; omega)
  · obtain ⟨n1, n2⟩ := num_small n hn (by omega) k
    unfold smithyref07_Head.f hd
    rw [if_neg (by simpa using by omega), if_neg h, wr_u64_id (by omega) (by omega), n2, Option.bind_some, wr_i64_id (x := 183 + (o : Int)) (by omega) (by omega), wr_i64_id (by omega) (by omega), if_pos (by simp; omega)]
    rcases ho with rfl | rfl <;> (simp only [wr_u8, List.singleton_append]; refine congrArg (fun x => some (x :: beb n)) ?_; omega)
/-! ### Where a tree ends. -/
theorem end_leaf (k : Nat) (x : List Nd) (i : Nat) (b : List Int) (r : List Nd) (h : x.drop i = (false, b, 0) :: r) (hx : x.length < 1000000) : smithyref07_end.f (k + 1) x (i : Int) = some ((i + 1 : Nat) : Int) := by
  obtain ⟨g, hi, _⟩ := gt_drop h
  show smithyref07_end.body (smithyref07_end.f k) k x (i : Int) = _
  unfold smithyref07_end.body
  simp only [g]
  rw [if_neg (by simp; omega), if_pos (by omega), if_pos (by rfl), if_neg (by simp), wr_i64_id (by omega) (by omega)]
  rfl
theorem end_node0 (k : Nat) (x : List Nd) (i n : Nat) (r : List Nd) (h : x.drop i = (true, [], (n : Int)) :: r) (hx : x.length < 1000000) (hn : n ≤ r.length) : smithyref07_end.f (k + 1) x (i : Int) = smithyref07_end.l1 (smithyref07_end.f k) x (i : Int) k ((i + 1 : Nat) : Int) := by
  obtain ⟨g, hi, hr⟩ := gt_drop h
  have hl := drop_len (by omega) hr
  show smithyref07_end.body (smithyref07_end.f k) k x (i : Int) = _
  unfold smithyref07_end.body
  simp only [g]
  rw [if_neg (by simp; omega), if_pos (by omega), if_neg (by simp), if_neg (by simp), if_neg (by simp), wr_i64_id (x := (x.length : Int) - 1) (by omega) (by omega), wr_i64_id (by omega) (by omega)]
  unfold smithyref07_end.j1
  rw [if_neg (by simp; omega), wr_i64_id (by omega) (by omega)]
  rfl
theorem end_step (k : Nat) (x : List Nd) (i t j j' : Nat) (q : Nat) (ht : wr .i64 (wr .i64 ((i : Int) + 1) + (gt x (i : Int)).2.2) = (t : Int)) (hj : j < t) (e : Int) (hs : smithyref07_end.f k x (j : Int) = some e) : smithyref07_end.l1 (smithyref07_end.f k) x (i : Int) (q + 1) (j : Int) = smithyref07_end.l1 (smithyref07_end.f k) x (i : Int) q e := by
  show smithyref07_end.b1 (smithyref07_end.f k) x (i : Int) _ _ = _
  unfold smithyref07_end.b1
  simp only [ht]
  rw [if_pos (by simp), decide_eq_true (by omega)]
  unfold smithyref07_end.j3
  rw [if_pos rfl, hs]
  rfl
theorem end_last (k : Nat) (x : List Nd) (i t : Nat) (q : Nat) (ht : wr .i64 (wr .i64 ((i : Int) + 1) + (gt x (i : Int)).2.2) = (t : Int)) : smithyref07_end.l1 (smithyref07_end.f k) x (i : Int) (q + 1) (t : Int) = some (t : Int) := by
  show smithyref07_end.b1 (smithyref07_end.f k) x (i : Int) _ _ = _
  unfold smithyref07_end.b1
  simp only [ht]
  rw [if_pos (by simp), decide_eq_false (by omega)]
  unfold smithyref07_end.j3
  rw [if_neg (by simp)]
  unfold smithyref07_end.j2
  simp only [ht]
  rw [if_neg (by simp)]
theorem end_off (k : Nat) (x : List Nd) (i t : Nat) (e : Int) (q : Nat) (ht : wr .i64 (wr .i64 ((i : Int) + 1) + (gt x (i : Int)).2.2) = (t : Int)) (he : e < 0 ∨ (t : Int) < e) : smithyref07_end.l1 (smithyref07_end.f k) x (i : Int) (q + 1) e = some (-1) := by
  show smithyref07_end.b1 (smithyref07_end.f k) x (i : Int) _ _ = _
  unfold smithyref07_end.b1
  simp only [ht]
  have j3 : smithyref07_end.j3 (smithyref07_end.f k) x (i : Int) e (smithyref07_end.l1 (smithyref07_end.f k) x (i : Int) q) false = some (-1) := by
    unfold smithyref07_end.j3
    rw [if_neg (by simp)]
    unfold smithyref07_end.j2
    simp only [ht]
    rw [if_pos (by simp; omega)]
  rcases he with he | he
  · rw [if_neg (by simp; omega), j3]
  · rw [if_pos (by simp; omega), decide_eq_false (by omega), j3]
theorem end_tgt (x : List Nd) (i n : Nat) (b : List Int) (r : List Nd) (h : x.drop i = (true, b, (n : Int)) :: r) (hx : x.length < 1000000) (hn : n ≤ r.length) : wr .i64 (wr .i64 ((i : Int) + 1) + (gt x (i : Int)).2.2) = ((i + 1 + n : Nat) : Int) := by
  obtain ⟨g, hi, hr⟩ := gt_drop h
  have hl := drop_len (by omega) hr
  rw [g, wr_i64_id (x := (i : Int) + 1) (by omega) (by omega)]
  show wr .i64 ((i : Int) + 1 + (n : Int)) = _
  rw [wr_i64_id (by omega) (by omega)]
  omega
theorem end_items (c : Fst) : ∀ (k q : Nat) (x : List Nd) (i j : Nat) (r : List Nd), x.length < 1000000 → x.drop j = c.flat ++ r → wr .i64 (wr .i64 ((i : Int) + 1) + (gt x (i : Int)).2.2) = ((j + c.flat.length : Nat) : Int) → c.flat.length < k → c.flat.length < q →
    smithyref07_end.l1 (smithyref07_end.f k) x (i : Int) q (j : Int) = some ((j + c.flat.length : Nat) : Int) := by
  induction c with
  | nil =>
    intro k q x i j r hx h ht hk hq
    obtain ⟨q, rfl⟩ : ∃ m, q = m + 1 := ⟨q - 1, by omega⟩
    exact end_last k x i j q ht
  | leaf b f ih =>
    intro k q x i j r hx h ht hk hq
    simp only [Fst.flat, List.length_cons] at ht hk hq ⊢
    obtain ⟨q, rfl⟩ : ∃ m, q = m + 1 := ⟨q - 1, by omega⟩
    obtain ⟨k, rfl⟩ : ∃ m, k = m + 1 := ⟨k - 1, by omega⟩
    have h' : x.drop j = (false, b, 0) :: (f.flat ++ r) := h
    obtain ⟨_, _, hr⟩ := gt_drop h'
    rw [end_step (k + 1) x i _ j (j + 1) q ht (by omega) _ (end_leaf k x j b _ h' hx)]
    have e : j + (f.flat.length + 1) = j + 1 + f.flat.length := by omega
    rw [e] at ht ⊢
    exact ih (k + 1) q x i (j + 1) r hx hr ht (by omega) (by omega)
  | node c f ihc ihf =>
    intro k q x i j r hx h ht hk hq
    simp only [Fst.flat, List.length_cons, List.length_append] at ht hk hq ⊢
    obtain ⟨q, rfl⟩ : ∃ m, q = m + 1 := ⟨q - 1, by omega⟩
    obtain ⟨k, rfl⟩ : ∃ m, k = m + 1 := ⟨k - 1, by omega⟩
    have h' : x.drop j = (true, [], (c.flat.length : Int)) :: (c.flat ++ (f.flat ++ r)) := by rw [h]; simp [Fst.flat]
    obtain ⟨_, _, hr⟩ := gt_drop h'
    have he : smithyref07_end.f (k + 1) x (j : Int) = some ((j + 1 + c.flat.length : Nat) : Int) := by
      rw [end_node0 k x j _ _ h' hx (by simp)]
      exact ihc k k x j (j + 1) (f.flat ++ r) hx hr (end_tgt x j _ _ _ h' hx (by simp)) (by omega) (by omega)
    rw [end_step (k + 1) x i _ j (j + 1) q ht (by omega) _ he]
    have e : j + (c.flat.length + f.flat.length + 1) = j + 1 + c.flat.length + f.flat.length := by omega
    rw [e] at ht ⊢
    exact ihf (k + 1) q x i (j + 1 + c.flat.length) r hx (drop_add hr) ht (by omega) (by omega)
theorem end_node (k : Nat) (x : List Nd) (i : Nat) (c : Fst) (r : List Nd) (h : x.drop i = (true, [], (c.flat.length : Int)) :: (c.flat ++ r)) (hx : x.length < 1000000) (hk : c.flat.length < k) : smithyref07_end.f (k + 1) x (i : Int) = some ((i + 1 + c.flat.length : Nat) : Int) := by
  obtain ⟨_, _, hr⟩ := gt_drop h
  rw [end_node0 k x i _ _ h hx (by simp)]
  exact end_items c k k x i (i + 1) r hx hr (end_tgt x i _ _ _ h hx (by simp)) hk hk
theorem rest_lt {n m i : Nat} {s : Int} (h : m = n - (i + 1)) (c : ¬ n ≤ i) (g : ¬ s ≤ (m : Int)) : (n : Int) - 1 - (i : Int) < s := by omega
/-- Wherever it says an end, a tree stands there. -/
theorem end_spec (x : List Nd) (hx : x.length < 1000000) : ∀ (k i : Nat), x.length + 2 ≤ i + k → i ≤ x.length → 2 ≤ k → ∃ e : Int, smithyref07_end.f k x (i : Int) = some e ∧ (e = -1 ∨ ∃ (t : Fst) (n : Nat), t.One ∧ e = (n : Int) ∧ n = i + t.flat.length ∧ 1 ≤ t.flat.length ∧ n ≤ x.length ∧ x.drop i = t.flat ++ x.drop n) := by
  intro k
  induction k with
  | zero => intro i _ _ h; omega
  | succ k ih =>
    intro i hk hi hk2
    by_cases c0 : x.length ≤ i
    · refine ⟨-1, ?_, Or.inl rfl⟩
      show smithyref07_end.body (smithyref07_end.f k) k x (i : Int) = _
      unfold smithyref07_end.body
      rw [if_pos (by simpa using by omega)]
    · have hd := List.drop_eq_getElem_cons (l := x) (i := i) (by omega)
      generalize hnd : x[i]'(by omega) = nd at hd
      obtain ⟨g, _, _⟩ := gt_drop hd
      obtain ⟨li, b, s⟩ := nd
      cases li with
      | false =>
        by_cases c1 : s = 0
        · subst c1
          refine ⟨_, end_leaf k x i b _ hd hx, Or.inr ⟨.leaf b .nil, i + 1, trivial, rfl, rfl, by simp [Fst.flat], by omega, by rw [hd]; rfl⟩⟩
        · refine ⟨-1, ?_, Or.inl rfl⟩
          show smithyref07_end.body (smithyref07_end.f k) k x (i : Int) = _
          unfold smithyref07_end.body
          simp only [g]
          rw [if_neg (by simp; omega), if_pos (by omega), if_pos (by rfl), if_pos (by simpa using c1)]
      | true =>
        by_cases c1 : b = [] ∧ 0 ≤ s ∧ s ≤ ((x.drop (i + 1)).length : Int)
        · obtain ⟨rfl, s0, s1⟩ := c1
          obtain ⟨n, rfl⟩ := Int.eq_ofNat_of_zero_le s0
          have hn : n ≤ (x.drop (i + 1)).length := by omega
          have hln := List.length_drop (i := i + 1) (l := x)
          have ht := end_tgt x i n [] _ hd hx hn
          rw [end_node0 k x i n _ hd hx hn]
          have loop : ∀ (q j : Nat) (f : Fst), i + 1 + n + 2 ≤ j + q → 2 ≤ q → j = i + 1 + f.flat.length → j ≤ x.length → x.drop (i + 1) = f.flat ++ x.drop j →
              ∃ e : Int, smithyref07_end.l1 (smithyref07_end.f k) x (i : Int) q (j : Int) = some e ∧ (e = -1 ∨ e = ((i + 1 + n : Nat) : Int) ∧ ∃ f : Fst, f.flat.length = n ∧ x.drop (i + 1) = f.flat ++ x.drop (i + 1 + n)) := by
            intro q
            induction q with
            | zero => intro j f _ h2; omega
            | succ q ihq =>
              intro j f hq hq2 hj hjx hf
              by_cases c2 : j < i + 1 + n
              · obtain ⟨e, e1, e2⟩ := ih j (by omega) hjx (by omega)
                rw [end_step k x i _ j j q ht c2 e e1]
                rcases e2 with rfl | ⟨t, m, t1, rfl, t2, t3, t4, t5⟩
                · obtain ⟨q', rfl⟩ : ∃ m, q = m + 1 := ⟨q - 1, by omega⟩
                  exact ⟨-1, end_off k x i _ (-1) q' ht (by omega), Or.inl rfl⟩
                · by_cases c3 : m ≤ i + 1 + n
                  · exact ihq m (f.app t) (by omega) (by omega) (by rw [Fst.flat_app, List.length_append]; omega) t4 (by rw [Fst.flat_app, List.append_assoc, ← t5, hf])
                  · obtain ⟨q', rfl⟩ : ∃ m, q = m + 1 := ⟨q - 1, by omega⟩
                    exact ⟨-1, end_off k x i _ (m : Int) q' ht (by omega), Or.inl rfl⟩
              · by_cases c4 : j = i + 1 + n
                · rw [c4]
                  refine ⟨_, end_last k x i _ q ht, Or.inr ⟨rfl, f, by omega, ?_⟩⟩
                  rw [← c4]; exact hf
                · exact ⟨-1, end_off k x i _ (j : Int) q ht (by omega), Or.inl rfl⟩
          obtain ⟨e, e1, e2⟩ := loop k (i + 1) .nil (by omega) (by omega) (by simp [Fst.flat]) (by omega) rfl
          refine ⟨e, e1, ?_⟩
          rcases e2 with rfl | ⟨rfl, f, f1, f2⟩
          · exact Or.inl rfl
          · refine Or.inr ⟨.node f .nil, i + 1 + n, trivial, rfl, by simp [Fst.flat]; omega, by simp [Fst.flat], by omega, ?_⟩
            rw [hd, f2]
            simp [Fst.flat, f1]
        · refine ⟨-1, ?_, Or.inl rfl⟩
          show smithyref07_end.body (smithyref07_end.f k) k x (i : Int) = _
          unfold smithyref07_end.body
          simp only [g]
          have hln := List.length_drop (i := i + 1) (l := x)
          have hj : smithyref07_end.j1 k (smithyref07_end.f k) x (i : Int) true = some (-1) := rfl
          rw [if_neg (by simp; omega), if_pos (by omega), if_neg (by simp), wr_i64_id (x := (x.length : Int) - 1) (by omega) (by omega), wr_i64_id (by omega) (by omega)]
          by_cases d1 : b = []
          · subst d1
            rw [if_neg (by simp)]
            by_cases d2 : s < 0
            · rw [if_pos (by simpa using d2), hj]
            · rw [if_neg (by simpa using d2), decide_eq_true (rest_lt hln c0 (fun h => c1 ⟨rfl, by omega, h⟩)), hj]
          · rw [if_pos (by simp; exact List.length_pos_iff.2 d1), hj]
/-! ### The coding. -/
theorem wr_leaf (k : Nat) (x : List Nd) (i : Nat) (b : List Int) (r : List Nd) (h : x.drop i = (false, b, 0) :: r) (hx : x.length < 1000000) (hb : b.length < 16777216) : smithyref07_write.f (k + 41) x (i : Int) = some (encL b) := by
  obtain ⟨g, hi, _⟩ := gt_drop h
  have hl := hd_len b.length 0
  have hh : smithyref07_Head.f (k + 40) (b.length : Int) 0 = some (hd b.length 0) := refHead_eq b.length 0 hb (Or.inl rfl) k
  have j1f : smithyref07_write.j1 (k + 40) x (i : Int) false = some (hd b.length 0 ++ b) := by
    unfold smithyref07_write.j1
    simp only [g]
    rw [if_neg (by simp), hh, Option.bind_some, if_pos (by omega)]
  show smithyref07_write.body (smithyref07_write.f (k + 40)) (k + 40) x (i : Int) = _
  unfold smithyref07_write.body
  simp only [g]
  rw [if_pos (by omega), if_pos (by rfl)]
  unfold encL
  by_cases c : b.length = 1
  · rw [if_pos (by simpa using by omega), if_pos (by omega)]
    by_cases c2 : rd b 0 < 128
    · simp only [c2, decide_true]
      unfold smithyref07_write.j1
      simp only [g]
      rw [if_pos (by simp), if_pos (by omega), one_byte c, if_pos ⟨c, by simp⟩]
    · simp only [c2, decide_false]
      rw [j1f, if_neg (by simp)]
  · rw [if_neg (by simpa using by omega), j1f, if_neg (by simp [c])]
theorem wr_node0 (k : Nat) (x : List Nd) (i n : Nat) (b : List Int) (r : List Nd) (h : x.drop i = (true, b, (n : Int)) :: r) (hx : x.length < 1000000) : smithyref07_write.f (k + 1) x (i : Int) = smithyref07_write.l1 k (smithyref07_write.f k) x (i : Int) k ((i + 1 : Nat) : Int) [] := by
  obtain ⟨g, hi, _⟩ := gt_drop h
  show smithyref07_write.body (smithyref07_write.f k) k x (i : Int) = _
  unfold smithyref07_write.body
  simp only [g]
  rw [if_pos (by omega), if_neg (by simp), wr_i64_id (by omega) (by omega)]
  rfl
theorem wr_step (k : Nat) (x : List Nd) (i t j j' : Nat) (q : Nat) (acc : List Int) (ht : wr .i64 (wr .i64 ((i : Int) + 1) + (gt x (i : Int)).2.2) = (t : Int)) (hj : j < t) (w : List Int) (hs : smithyref07_write.f k x (j : Int) = some w) (hw : acc.length + w.length ≤ 100000000) (he : smithyref07_end.f k x (j : Int) = some (j' : Int)) : smithyref07_write.l1 k (smithyref07_write.f k) x (i : Int) (q + 1) (j : Int) acc = smithyref07_write.l1 k (smithyref07_write.f k) x (i : Int) q (j' : Int) (acc ++ w) := by
  show smithyref07_write.b1 k (smithyref07_write.f k) x (i : Int) _ _ _ = _
  unfold smithyref07_write.b1
  simp only [ht]
  rw [if_pos (by simpa using by omega), hs, Option.bind_some, if_pos (by omega), he]
  rfl
theorem wr_last (k : Nat) (x : List Nd) (i t : Nat) (q : Nat) (acc : List Int) (ht : wr .i64 (wr .i64 ((i : Int) + 1) + (gt x (i : Int)).2.2) = (t : Int)) : smithyref07_write.l1 k (smithyref07_write.f k) x (i : Int) (q + 1) (t : Int) acc = smithyref07_write.j2 k acc := by
  show smithyref07_write.b1 k (smithyref07_write.f k) x (i : Int) _ _ _ = _
  unfold smithyref07_write.b1
  simp only [ht]
  rw [if_neg (by simp)]
theorem wr_j2 (k : Nat) (w : List Int) (hw : w.length < 16777216) : smithyref07_write.j2 (k + 40) w = some (hd w.length 64 ++ w) := by
  have hl := hd_len w.length 64
  have hh : smithyref07_Head.f (k + 40) (w.length : Int) 64 = some (hd w.length 64) := refHead_eq w.length 64 hw (Or.inr rfl) k
  unfold smithyref07_write.j2
  rw [hh, Option.bind_some, if_pos (by omega)]
theorem wr_items (c : Fst) : ∀ (k q : Nat) (x : List Nd) (i j : Nat) (acc : List Int) (r : List Nd), x.length < 1000000 → x.drop j = c.flat ++ r → wr .i64 (wr .i64 ((i : Int) + 1) + (gt x (i : Int)).2.2) = ((j + c.flat.length : Nat) : Int) → 41 + c.flat.length < k → c.flat.length < q → c.Fit → acc.length + c.enc.length < 16777216 →
    smithyref07_write.l1 k (smithyref07_write.f k) x (i : Int) q (j : Int) acc = smithyref07_write.j2 k (acc ++ c.enc) := by
  induction c with
  | nil =>
    intro k q x i j acc r hx h ht hk hq hf ha
    obtain ⟨q, rfl⟩ : ∃ m, q = m + 1 := ⟨q - 1, by omega⟩
    rw [show acc ++ Fst.enc .nil = acc from List.append_nil acc]
    exact wr_last k x i j q acc ht
  | leaf b f ih =>
    intro k q x i j acc r hx h ht hk hq hf ha
    simp only [Fst.flat, Fst.enc, List.length_cons, List.length_append] at ht hk hq ha ⊢
    obtain ⟨q, rfl⟩ : ∃ m, q = m + 1 := ⟨q - 1, by omega⟩
    obtain ⟨k, rfl⟩ : ∃ m, k = m + 41 := ⟨k - 41, by omega⟩
    have h' : x.drop j = (false, b, 0) :: (f.flat ++ r) := h
    obtain ⟨_, _, hr⟩ := gt_drop h'
    rw [wr_step (k + 41) x i _ j (j + 1) q acc ht (by omega) _ (wr_leaf k x j b _ h' hx hf.1) (by omega) (end_leaf (k + 40) x j b _ h' hx)]
    have e : j + (f.flat.length + 1) = j + 1 + f.flat.length := by omega
    rw [e] at ht
    rw [ih (k + 41) q x i (j + 1) _ r hx hr ht (by omega) (by omega) hf.2 (by rw [List.length_append]; omega), List.append_assoc]
  | node c f ihc ihf =>
    intro k q x i j acc r hx h ht hk hq hf ha
    simp only [Fst.flat, Fst.enc, List.length_cons, List.length_append] at ht hk hq ha ⊢
    obtain ⟨q, rfl⟩ : ∃ m, q = m + 1 := ⟨q - 1, by omega⟩
    obtain ⟨k, rfl⟩ : ∃ m, k = m + 41 := ⟨k - 41, by omega⟩
    have h' : x.drop j = (true, [], (c.flat.length : Int)) :: (c.flat ++ (f.flat ++ r)) := by rw [h]; simp [Fst.flat]
    obtain ⟨_, _, hr⟩ := gt_drop h'
    have hw : smithyref07_write.f (k + 41) x (j : Int) = some (hd c.enc.length 64 ++ c.enc) := by
      rw [wr_node0 (k + 40) x j _ _ _ h' hx, ihc (k + 40) (k + 40) x j (j + 1) [] (f.flat ++ r) hx hr (end_tgt x j _ _ _ h' hx (by simp)) (by omega) (by omega) hf.1 (by simp; omega), List.nil_append, wr_j2 k _ (by omega)]
    rw [wr_step (k + 41) x i _ j (j + 1 + c.flat.length) q acc ht (by omega) _ hw (by simp; omega) (end_node (k + 40) x j c _ h' hx (by omega))]
    have e : j + (c.flat.length + f.flat.length + 1) = j + 1 + c.flat.length + f.flat.length := by omega
    rw [e] at ht
    rw [ihf (k + 41) q x i (j + 1 + c.flat.length) _ r hx (drop_add hr) ht (by omega) (by omega) hf.2 (by simp; omega)]
    simp
theorem wr_tree (t : Fst) (ht : t.One) (k : Nat) (hk : 50 + t.flat.length < k) (hx : t.flat.length < 1000000) (hf : t.Fit) (hl : t.enc.length < 16777216) : smithyref07_write.f k t.flat 0 = some t.enc := by
  match t, ht with
  | .leaf b .nil, _ =>
    obtain ⟨k, rfl⟩ : ∃ m, k = m + 41 := ⟨k - 41, by omega⟩
    have := wr_leaf k (Fst.leaf b .nil).flat 0 b [] rfl hx hf.1
    rw [show (Fst.leaf b .nil).enc = encL b from List.append_nil _]
    exact this
  | .node c .nil, _ =>
    simp only [Fst.flat, List.append_nil, List.length_cons, Fst.enc, List.length_append] at hk hx hl ⊢
    obtain ⟨k, rfl⟩ : ∃ m, k = m + 41 := ⟨k - 41, by omega⟩
    have h' : ((true, [], (c.flat.length : Int)) :: c.flat : List Nd).drop 0 = (true, [], (c.flat.length : Int)) :: (c.flat ++ []) := by simp
    obtain ⟨_, _, hr⟩ := gt_drop h'
    have := wr_node0 (k + 40) _ 0 _ _ _ h' (by simpa using hx)
    refine this.trans ((wr_items c (k + 40) (k + 40) _ 0 1 [] [] (by simpa using hx) hr (end_tgt _ 0 _ _ _ h' (by simpa using hx) (by simp)) (by omega) (by omega) hf.1 (by simp; omega)).trans ?_)
    rw [List.nil_append, wr_j2 k _ (by omega)]
/-! ### The depth. -/
/-- How many of the lists ahead hold the place that lies i on. -/
def cov : List Nd → Nat → Nat
  | [], _ => 0
  | nd :: l, i => (if nd.1 = true ∧ (i : Int) ≤ nd.2.2 then 1 else 0) + cov l (i - 1)
theorem cov_app (a b : List Nd) : ∀ i : Nat, cov (a ++ b) i = cov a i + cov b (i - a.length) := by
  induction a with
  | nil => intro i; simp [cov]
  | cons nd a ih =>
    intro i
    simp only [List.cons_append, cov, List.length_cons]
    rw [ih, show i - 1 - a.length = i - (a.length + 1) by omega]
    omega
theorem cov_out (f : Fst) : ∀ i : Nat, f.flat.length ≤ i → cov f.flat i = 0 := by
  induction f with
  | nil => intro i _; rfl
  | leaf b f ih =>
    intro i hi
    simp only [Fst.flat, List.length_cons] at hi
    simp only [Fst.flat, cov]
    rw [ih (i - 1) (by omega)]
    simp
  | node c f ihc ihf =>
    intro i hi
    simp only [Fst.flat, List.length_cons, List.length_append] at hi
    simp only [Fst.flat, cov]
    rw [cov_app, ihc (i - 1) (by omega), ihf _ (by omega), if_neg (by simp only [true_and]; omega)]
theorem deep_in (k : Nat) (x : List Nd) (hx : x.length < 1000000) (hz : ∀ nd ∈ x, -1000000 ≤ nd.2.2 ∧ nd.2.2 ≤ 1000000) (i : Nat) (m : Int) (hi : i < x.length) (rec1 : Int → Int → Option Int) : ∀ (d q j n : Nat), d < q → j + d = i + 1 → n ≤ j → smithyref07_deep.l2 x (i : Int) m rec1 q (j : Int) (n : Int) = smithyref07_deep.j3 (i : Int) m rec1 ((n + cov ((x.drop j).take d) (i - j) : Nat) : Int) := by
  intro d
  induction d with
  | zero =>
    intro q j n hq hj hn
    obtain ⟨q, rfl⟩ : ∃ m, q = m + 1 := ⟨q - 1, by omega⟩
    show smithyref07_deep.b2 x (i : Int) m rec1 _ _ _ = _
    unfold smithyref07_deep.b2
    rw [if_neg (by simp; omega)]
    simp [cov]
  | succ d ih =>
    intro q j n hq hj hn
    obtain ⟨q, rfl⟩ : ∃ m, q = m + 1 := ⟨q - 1, by omega⟩
    have hd := List.drop_eq_getElem_cons (l := x) (i := j) (by omega)
    have hm : x[j]'(by omega) ∈ x := List.getElem_mem _
    generalize x[j]'(by omega) = nd at hd hm
    obtain ⟨g, _, hr⟩ := gt_drop hd
    have hz' := hz nd hm
    rw [hd, List.take_succ_cons]
    show smithyref07_deep.b2 x (i : Int) m rec1 _ _ _ = _
    unfold smithyref07_deep.b2
    simp only [g]
    rw [if_pos (by simpa using by omega), if_pos (by omega), wr_i64_id (by omega) (by omega)]
    have j4 : ∀ y : Nat, y ≤ j + 1 → smithyref07_deep.j4 (j : Int) (smithyref07_deep.l2 x (i : Int) m rec1 q) (y : Int) = smithyref07_deep.j3 (i : Int) m rec1 ((y + cov ((x.drop (j + 1)).take d) (i - (j + 1)) : Nat) : Int) := by
      intro y hy
      unfold smithyref07_deep.j4
      rw [wr_i64_id (by omega) (by omega)]
      exact ih q (j + 1) y (by omega) (by omega) hy
    have j5t : smithyref07_deep.j5 (j : Int) (n : Int) (smithyref07_deep.l2 x (i : Int) m rec1 q) true = smithyref07_deep.j3 (i : Int) m rec1 ((n + 1 + cov ((x.drop (j + 1)).take d) (i - (j + 1)) : Nat) : Int) := by
      unfold smithyref07_deep.j5
      rw [if_pos rfl, wr_i64_id (by omega) (by omega)]
      exact j4 (n + 1) (by omega)
    have j5f : smithyref07_deep.j5 (j : Int) (n : Int) (smithyref07_deep.l2 x (i : Int) m rec1 q) false = smithyref07_deep.j3 (i : Int) m rec1 ((n + cov ((x.drop (j + 1)).take d) (i - (j + 1)) : Nat) : Int) := by
      unfold smithyref07_deep.j5
      rw [if_neg (by simp)]
      exact j4 n (by omega)
    simp only [cov]
    rw [show i - j - 1 = i - (j + 1) by omega]
    by_cases c1 : nd.1 = true
    · rw [if_pos c1]
      by_cases c2 : (i : Int) ≤ (j : Int) + nd.2.2
      · rw [decide_eq_true c2, j5t, if_pos ⟨c1, by omega⟩]
        exact congrArg (fun a : Nat => smithyref07_deep.j3 (i : Int) m rec1 (a : Int)) (by omega)
      · rw [decide_eq_false c2, j5f, if_neg (fun h => c2 (by omega)), Nat.zero_add]
    · rw [if_neg c1, j5f, if_neg (fun h => c1 h.1), Nat.zero_add]
theorem deep_step (k : Nat) (x : List Nd) (hx : x.length < 1000000) (hk : x.length < k) (hz : ∀ nd ∈ x, -1000000 ≤ nd.2.2 ∧ nd.2.2 ≤ 1000000) (pre : List Nd) (nd : Nd) (post : List Nd) (h : x = pre ++ nd :: post) (q m : Nat) : smithyref07_deep.l1 k x (q + 1) (pre.length : Int) (m : Int) = smithyref07_deep.l1 k x q ((pre.length + 1 : Nat) : Int) ((max m (cov pre pre.length + (if nd.1 = true ∧ 0 ≤ nd.2.2 then 1 else 0)) : Nat) : Int) := by
  have hl : x.length = pre.length + post.length + 1 := by rw [h]; simp; omega
  show smithyref07_deep.b1 k x _ _ _ = _
  unfold smithyref07_deep.b1
  have := deep_in k x hx hz pre.length (m : Int) (by omega) (smithyref07_deep.l1 k x q) (pre.length + 1) k 0 0 (by omega) (by omega) (by omega)
  rw [show ((0 : Nat) : Int) = 0 from rfl] at this
  rw [if_pos (by simp; omega), this]
  have e : (x.drop 0).take (pre.length + 1) = pre ++ [nd] := by
    rw [List.drop_zero, h, List.take_append, List.take_of_length_le (by omega), show pre.length + 1 - pre.length = 1 by omega]
    rfl
  rw [e, cov_app, Nat.sub_zero, Nat.sub_self]
  unfold smithyref07_deep.j3 smithyref07_deep.j2
  rw [wr_i64_id (by omega) (by omega)]
  have e2 : cov [nd] 0 = if nd.1 = true ∧ 0 ≤ nd.2.2 then 1 else 0 := by simp [cov]
  rw [e2, Nat.zero_add]
  generalize (cov pre pre.length + if nd.1 = true ∧ 0 ≤ nd.2.2 then 1 else 0) = z
  have e3 : imax (m : Int) (z : Int) = ((max m z : Nat) : Int) := by
    unfold imax
    by_cases c : (z : Int) > (m : Int)
    · rw [if_pos c, Nat.max_eq_right (by omega)]
    · rw [if_neg c, Nat.max_eq_left (by omega)]
  rw [e3]
  rfl
def mx (f : Fst) (m D : Nat) : Nat := if f.flat.length = 0 then m else max m (D + f.dep)
theorem nil_dep (f : Fst) (h : f.flat.length = 0) : f.dep = 0 := by
  match f with
  | .nil => rfl
  | .leaf _ _ => simp [Fst.flat] at h
  | .node _ _ => simp [Fst.flat] at h
theorem deep_items (f : Fst) : ∀ (k : Nat) (x : List Nd) (pre post : List Nd) (q m D : Nat), x.length < 1000000 → x.length < k → (∀ nd ∈ x, -1000000 ≤ nd.2.2 ∧ nd.2.2 ≤ 1000000) → x = pre ++ (f.flat ++ post) → (∀ r : Nat, r < f.flat.length → cov pre (pre.length + r) = D) →
    smithyref07_deep.l1 k x (q + f.flat.length) (pre.length : Int) (m : Int) = smithyref07_deep.l1 k x q ((pre.length + f.flat.length : Nat) : Int) ((mx f m D : Nat) : Int) := by
  induction f with
  | nil => intro k x pre post q m D hx hk hz h hD; rfl
  | leaf b f ih =>
    intro k x pre post q m D hx hk hz h hD
    simp only [Fst.flat, List.length_cons] at h hD ⊢
    have h' : x = pre ++ (false, b, 0) :: (f.flat ++ post) := h
    rw [show q + (f.flat.length + 1) = q + f.flat.length + 1 by omega, deep_step k x hx hk hz pre _ _ h', if_neg (by simp), show cov pre pre.length = D from hD 0 (by omega), Nat.add_zero D]
    have hn : (pre ++ [(false, b, 0)] : List Nd).length = pre.length + 1 := by simp
    have := ih k x (pre ++ [(false, b, 0)]) post q (max m D) D hx hk hz (by rw [h]; simp) (fun r hr => by
      rw [hn, cov_app, show pre.length + 1 + r = pre.length + (r + 1) by omega, hD (r + 1) (by omega)]
      simp [cov])
    rw [hn] at this
    rw [this, show pre.length + 1 + f.flat.length = pre.length + (f.flat.length + 1) by omega]
    refine congrArg (fun a : Nat => smithyref07_deep.l1 k x q ((pre.length + (f.flat.length + 1) : Nat) : Int) (a : Int)) ?_
    unfold mx
    rw [if_neg (by simp [Fst.flat] : ¬ (Fst.leaf b f).flat.length = 0)]
    simp only [Fst.dep]
    by_cases c : f.flat.length = 0
    · rw [if_pos c, nil_dep f c]; rfl
    · rw [if_neg c]; omega
  | node c f ihc ihf =>
    intro k x pre post q m D hx hk hz h hD
    simp only [Fst.flat, List.length_cons, List.length_append] at h hD ⊢
    have h' : x = pre ++ (true, [], (c.flat.length : Int)) :: (c.flat ++ (f.flat ++ post)) := by rw [h]; simp
    rw [show q + (c.flat.length + f.flat.length + 1) = q + f.flat.length + c.flat.length + 1 by omega, deep_step k x hx hk hz pre _ _ h', if_pos (by simp), show cov pre pre.length = D from hD 0 (by omega)]
    have hn : (pre ++ [(true, [], (c.flat.length : Int))] : List Nd).length = pre.length + 1 := by simp
    have e1 := ihc k x (pre ++ [(true, [], (c.flat.length : Int))]) (f.flat ++ post) (q + f.flat.length) (max m (D + 1)) (D + 1) hx hk hz (by rw [h']; simp) (fun r hr => by
      rw [hn, cov_app, show pre.length + 1 + r = pre.length + (r + 1) by omega, hD (r + 1) (by omega), show pre.length + (r + 1) - pre.length = r + 1 by omega]
      simp only [cov]
      rw [if_pos ⟨trivial, by omega⟩])
    rw [hn] at e1
    have hn2 : (pre ++ (true, [], (c.flat.length : Int)) :: c.flat : List Nd).length = pre.length + 1 + c.flat.length := by simp; omega
    have e2 := ihf k x (pre ++ (true, [], (c.flat.length : Int)) :: c.flat) post q (mx c (max m (D + 1)) (D + 1)) D hx hk hz (by rw [h']; simp) (fun r hr => by
      rw [hn2, cov_app, show pre.length + 1 + c.flat.length + r = pre.length + (1 + c.flat.length + r) by omega, hD _ (by omega), show pre.length + (1 + c.flat.length + r) - pre.length = 1 + c.flat.length + r by omega]
      simp only [cov]
      rw [if_neg (by simp only [true_and]; omega), cov_out c _ (by omega), Nat.add_zero])
    rw [hn2] at e2
    rw [e1, e2, show pre.length + 1 + c.flat.length + f.flat.length = pre.length + (c.flat.length + f.flat.length + 1) by omega]
    refine congrArg (fun a : Nat => smithyref07_deep.l1 k x q ((pre.length + (c.flat.length + f.flat.length + 1) : Nat) : Int) (a : Int)) ?_
    unfold mx
    rw [if_neg (by simp [Fst.flat] : ¬ (Fst.node c f).flat.length = 0)]
    simp only [Fst.dep]
    have hcd := nil_dep c
    have hfd := nil_dep f
    by_cases c1 : c.flat.length = 0
    · rw [if_pos c1]
      have := hcd c1
      by_cases c2 : f.flat.length = 0
      · rw [if_pos c2]; have := hfd c2; omega
      · rw [if_neg c2]; omega
    · rw [if_neg c1]
      by_cases c2 : f.flat.length = 0
      · rw [if_pos c2]; have := hfd c2; omega
      · rw [if_neg c2]; omega
theorem flat_size (f : Fst) : ∀ nd ∈ f.flat, 0 ≤ nd.2.2 ∧ nd.2.2 ≤ (f.flat.length : Int) := by
  induction f with
  | nil => intro nd h; simp [Fst.flat] at h
  | leaf b f ih =>
    intro nd h
    simp only [Fst.flat, List.length_cons, List.mem_cons] at h ⊢
    rcases h with rfl | h
    · simp; omega
    · have := ih nd h; omega
  | node c f ihc ihf =>
    intro nd h
    simp only [Fst.flat, List.length_cons, List.mem_cons, List.length_append, List.mem_append] at h ⊢
    rcases h with rfl | h | h
    · simp; omega
    · have := ihc nd h; omega
    · have := ihf nd h; omega
theorem deep_eq (f : Fst) (hx : f.flat.length < 1000000) (k : Nat) (hk : f.flat.length < k) : smithyref07_deep.f k f.flat = some (f.dep : Int) := by
  obtain ⟨q, rfl⟩ : ∃ q, k = q + 1 + f.flat.length := ⟨k - 1 - f.flat.length, by omega⟩
  have := deep_items f (q + 1 + f.flat.length) f.flat [] [] (q + 1) 0 0 hx hk (fun nd h => by have := flat_size f nd h; omega) (by simp) (fun r hr => rfl)
  unfold smithyref07_deep.f
  refine this.trans ?_
  show smithyref07_deep.b1 _ _ _ _ _ = _
  unfold smithyref07_deep.b1
  rw [if_neg (by simp)]
  unfold smithyref07_deep.j1 mx
  by_cases c : f.flat.length = 0
  · rw [if_pos c, nil_dep f c]
  · rw [if_neg c]
    exact congrArg (fun a : Nat => some (a : Int)) (by omega)
/-! ### The whole. -/
/-- The document's answer on one tree. -/
theorem refEncode_tree (t : Fst) (ht : t.One) (k : Nat) (hk : 60 + t.flat.length < k) (hx : t.flat.length < 1000000) (hf : t.Fit) (hl : t.enc.length ≤ 1048576) : smithyref07_Encode.f k t.flat = some (if t.dep ≤ 64 then (t.enc, 0) else ([], 4)) := by
  have he : smithyref07_end.f k t.flat 0 = some (t.flat.length : Int) := by
    obtain ⟨k, rfl⟩ : ∃ m, k = m + 1 := ⟨k - 1, by omega⟩
    match t, ht with
    | .leaf b .nil, _ => exact end_leaf k (Fst.leaf b .nil).flat 0 b [] rfl hx
    | .node c .nil, _ =>
      have h' : (Fst.node c .nil).flat.drop 0 = (true, [], (c.flat.length : Int)) :: (c.flat ++ []) := rfl
      have hl : (Fst.node c .nil).flat.length = c.flat.length + 1 := by simp [Fst.flat]
      have := end_node k _ 0 c [] h' hx (by omega)
      rw [hl]
      refine this.trans ?_
      exact congrArg (fun a : Nat => some (a : Int)) (by omega)
  have h0 : 0 < t.flat.length := by
    match t, ht with
    | .leaf b .nil, _ => simp [Fst.flat]
    | .node c .nil, _ => simp [Fst.flat]
  unfold smithyref07_Encode.f
  rw [he, Option.bind_some, if_neg (by simp)]
  unfold smithyref07_Encode.j1
  rw [if_neg (by simp [beq_iff_eq]; exact fun h => by rw [h] at h0; simp at h0), deep_eq t hx k (by omega), Option.bind_some]
  by_cases c : t.dep ≤ 64
  · rw [if_neg (by simpa using by omega), wr_tree t ht k (by omega) hx hf (by omega), Option.bind_some, if_neg (by simp; omega), if_pos c]
  · rw [if_pos (by simp; omega), if_neg c]
/-- Both answers on what is not one tree. -/
theorem encode_bad (x : List Nd) (hx : x.length < 1000000) (hn : ¬ ∃ t : Fst, t.One ∧ x = t.flat) (k : Nat) (hk : x.length + 2 < k) : rlp_Encode.f k x = some ([], 2) ∧ smithyref07_Encode.f k x = some ([], 2) := by
  constructor
  · unfold rlp_Encode.f
    rw [one_eq x hx k (by omega)]
    have : (decide (0 < x.length ∧ (gt x 0).2.2 = (x.length : Int) - 1) && chk x.length x 0 []) = false := by
      refine Bool.eq_false_iff.2 fun h => hn ?_
      simp only [Bool.and_eq_true, decide_eq_true_eq] at h
      exact one_conv x h.1.1 h.1.2 h.2
    rw [this]
    rfl
  · obtain ⟨e, e1, e2⟩ := end_spec x hx k 0 (by omega) (by omega) (by omega)
    unfold smithyref07_Encode.f
    rw [show ((0 : Nat) : Int) = 0 from rfl] at e1
    rw [e1, Option.bind_some]
    have j1 : smithyref07_Encode.j1 k x true = some ([], 2) := rfl
    by_cases c : e = (x.length : Int)
    · exfalso
      rcases e2 with h | ⟨t, n, t1, h1, h2, h3, h4, h5⟩
      · omega
      · refine hn ⟨t, t1, ?_⟩
        rw [List.drop_eq_nil_of_le (by omega : x.length ≤ n)] at h5
        simpa using h5
    · rw [if_pos (by simpa using c), j1]
end GW
