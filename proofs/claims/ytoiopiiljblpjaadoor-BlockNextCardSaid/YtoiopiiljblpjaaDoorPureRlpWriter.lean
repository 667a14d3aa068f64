import Derived.Test.YtoiopiiljblpjaaDoorPureRlpTree
set_option linter.unusedVariables false
set_option linter.unusedSimpArgs false
namespace GW
open Go Go.RowKit
theorem encL_len (b : List Int) : (encL b).length ≤ b.length + 4 := by
  unfold encL
  have := hd_len b.length 0
  split <;> simp <;> omega
theorem one_byte {b : List Int} (h : b.length = 1) : [rd b 0] = b := by
  match b, h with
  | [x], _ => rfl
theorem item_leaf (k : Nat) (b : List Int) (r : List Nd) (d : Int) (hb : b.length < 16777216) : rlp_writer_item.f (k + 41) ((false, b, 0) :: r, 0) d = some (encL b, (r, 0)) := by
  have g0 : gt ((false, b, 0) :: r : List Nd) 0 = (false, b, 0) := rfl
  have hh := head_eq b.length 0 hb (Or.inl rfl) k
  have hl := hd_len b.length 0
  show rlp_writer_item.body (rlp_writer_item.f (k + 40)) (k + 40) _ _ = _
  have j3t : b.length = 1 → rlp_writer_item.j3 (k + 40) (rlp_writer_item.f (k + 40)) ((false, b, 0) :: r, 0) d true = some (b, (r, 0)) := fun h => by
    unfold rlp_writer_item.j3
    simp only [g0]
    rw [if_pos (by simp), if_pos (by omega), one_byte h]
    rfl
  have j3f : rlp_writer_item.j3 (k + 40) (rlp_writer_item.f (k + 40)) ((false, b, 0) :: r, 0) d false = some (hd b.length 0 ++ b, (r, 0)) := by
    unfold rlp_writer_item.j3
    simp only [g0]
    have h1 : rlp_head.f (k + 40) (b.length : Int) 0 = some (hd b.length 0) := hh
    rw [if_neg (by simp), if_pos (by rfl), h1, Option.bind_some, if_pos (by omega)]
    rfl
  unfold rlp_writer_item.body
  rw [if_neg (by simp)]
  unfold rlp_writer_item.j1
  rw [if_neg (by simp <;> omega), if_pos (by simp <;> omega), if_pos (by simp <;> omega)]
  simp only [g0]
  rw [if_pos (by rfl)]
  unfold rlp_writer_item.j6
  simp only [g0]
  rw [if_neg (by simp), if_neg (by simp)]
  unfold rlp_writer_item.j7
  simp only [g0]
  rw [if_neg (by simp), if_neg (by simp)]
  unfold rlp_writer_item.j2
  simp only [g0]
  rw [if_neg (by simp <;> omega), if_pos (by rfl)]
  by_cases c : b.length = 1
  · rw [if_pos (by simpa using by omega), if_pos (by omega)]
    by_cases c2 : rd b 0 < 128
    · simp only [c2, decide_true]
      rw [j3t c]
      unfold encL
      rw [if_pos ⟨c, c2⟩]
    · simp only [c2, decide_false]
      rw [j3f]
      unfold encL
      rw [if_neg (by simp [c2])]
  · rw [if_neg (by simpa using by omega), j3f]
    unfold encL
    rw [if_neg (by simp [c])]
theorem fail_err (r : List Nd) (e : Int) : ∀ c : Int, rlp_writer_fail.f (r, e) c = some ([], (r, if e = 0 then c else e)) := by
  intro c
  unfold rlp_writer_fail.f rlp_writer_fail.j1
  by_cases h : e = 0
  · subst h; simp
  · simp [h]
theorem item_node (k : Nat) (n : Nat) (c r : List Nd) (d : Int) (hc : c.length = n) (hr : n + r.length < 1000000000) : rlp_writer_item.f (k + 1) ((true, [], (n : Int)) :: (c ++ r), 0) d =
    if d = 64 then some ([], (c ++ r, 4)) else rlp_writer_item.l1 k (rlp_writer_item.f k) ((true, [], (n : Int)) :: (c ++ r), 0) d k [] (c ++ r) 0 := by
  have g0 : gt ((true, [], (n : Int)) :: (c ++ r) : List Nd) 0 = (true, [], (n : Int)) := rfl
  show rlp_writer_item.body (rlp_writer_item.f k) k _ _ = _
  unfold rlp_writer_item.body
  rw [if_neg (by simp)]
  unfold rlp_writer_item.j1
  rw [if_neg (by simp <;> omega), if_pos (by simp <;> omega), if_pos (by simp <;> omega)]
  simp only [g0]
  rw [if_neg (by simp)]
  unfold rlp_writer_item.j6
  simp only [g0]
  rw [if_neg (by simp), if_pos (by simp)]
  unfold rlp_writer_item.j7
  simp only [g0]
  rw [if_neg (by simp), if_neg (by simp)]
  unfold rlp_writer_item.j2
  simp only [g0]
  rw [if_neg (by simp <;> omega), if_neg (by simp)]
  unfold rlp_writer_item.j3
  simp only [g0]
  rw [if_neg (by simp), if_neg (by simp)]
  by_cases h : d = 64
  · rw [if_pos (by simpa using h), if_pos h, fail_err, Option.bind_some]
    rfl
  · rw [if_neg (by simpa using h), if_neg h]
    rfl
theorem j4_ok (k : Nat) (x1 : List Nd × Int) (out : List Int) (r : List Nd) (hx : wr .i64 (((x1.1.drop (Int.toNat 1)).length : Int) - ((gt x1.1 0).2.2)) = (r.length : Int)) (ho : out.length < 16777216) : rlp_writer_item.j4 (k + 40) x1 out r 0 = some (hd out.length 64 ++ out, (r, 0)) := by
  have hl := hd_len out.length 64
  have h1 : rlp_head.f (k + 40) (out.length : Int) 64 = some (hd out.length 64) := head_eq out.length 64 ho (Or.inr rfl) k
  unfold rlp_writer_item.j4
  simp only [hx]
  rw [if_neg (by simp), h1, Option.bind_some, if_pos (by omega)]
theorem j4_err (k : Nat) (x1 : List Nd × Int) (out : List Int) (r : List Nd) (e : Int) (he : e ≠ 0) (ho : out.length < 16777216) : ∃ o, rlp_writer_item.j4 (k + 40) x1 out r e = some (o, (r, e)) ∧ o.length ≤ out.length + 4 := by
  have hl := hd_len out.length 64
  have h1 : rlp_head.f (k + 40) (out.length : Int) 64 = some (hd out.length 64) := head_eq out.length 64 ho (Or.inr rfl) k
  unfold rlp_writer_item.j4
  by_cases c : (decide ((r.length : Int) < wr .i64 (((x1.1.drop (Int.toNat 1)).length : Int) - ((gt x1.1 0).2.2)))) = true
  · rw [if_pos c, fail_err, Option.bind_some, if_neg he]
    exact ⟨_, rfl, by simp⟩
  · rw [if_neg c, h1, Option.bind_some, if_pos (by omega)]
    exact ⟨_, rfl, by simp; omega⟩
theorem step_more (k : Nat) (x1 : List Nd × Int) (d : Nat) (q : Nat) (acc : List Int) (n r : List Nd) (hd : d < 1000) (hx : wr .i64 (((x1.1.drop (Int.toNat 1)).length : Int) - ((gt x1.1 0).2.2)) = (r.length : Int)) (hn : r.length < n.length)
    (out : List Int) (n' : List Nd) (e : Int) (hs : rlp_writer_item.f k (n, 0) ((d + 1 : Nat) : Int) = some (out, (n', e))) (ho : acc.length + out.length ≤ 1048576) :
    rlp_writer_item.l1 k (rlp_writer_item.f k) x1 d (q + 1) acc n 0 = rlp_writer_item.l1 k (rlp_writer_item.f k) x1 d q (acc ++ out) n' e := by
  show rlp_writer_item.b1 k (rlp_writer_item.f k) x1 d _ acc n 0 = _
  unfold rlp_writer_item.b1
  simp only [hx]
  rw [if_pos (by simp <;> omega)]
  unfold rlp_writer_item.j5
  rw [if_pos (by simp), wr_i64_id (by omega) (by omega)]
  have hs' : rlp_writer_item.f k (n, 0) ((d : Int) + 1) = some (out, (n', e)) := hs
  rw [hs', Option.bind_some]
  show (if (acc.length + out.length) * 1 ≤ 140737488355328 then _ else _) = _
  rw [if_pos (by omega), if_neg (by simp <;> omega)]
theorem step_end (k : Nat) (x1 : List Nd × Int) (d : Nat) (q : Nat) (acc : List Int) (r : List Nd) (hx : wr .i64 (((x1.1.drop (Int.toNat 1)).length : Int) - ((gt x1.1 0).2.2)) = (r.length : Int)) :
    rlp_writer_item.l1 k (rlp_writer_item.f k) x1 d (q + 1) acc r 0 = rlp_writer_item.j4 k x1 acc r 0 := by
  show rlp_writer_item.b1 k (rlp_writer_item.f k) x1 d _ acc r 0 = _
  unfold rlp_writer_item.b1
  simp only [hx]
  rw [if_neg (by simp)]
  unfold rlp_writer_item.j5
  rw [if_neg (by simp)]
theorem step_err (k : Nat) (x1 : List Nd × Int) (d : Nat) (q : Nat) (acc : List Int) (r : List Nd) (e : Int) (he : e ≠ 0) :
    rlp_writer_item.l1 k (rlp_writer_item.f k) x1 d (q + 1) acc r e = rlp_writer_item.j4 k x1 acc r e := by
  show rlp_writer_item.b1 k (rlp_writer_item.f k) x1 d _ acc r e = _
  unfold rlp_writer_item.b1
  have : (e == 0) = false := by simpa using he
  rw [this, ite_self]
  unfold rlp_writer_item.j5
  rw [if_neg (by simp)]
theorem after_eq (n : Nat) (c r : List Nd) (hc : c.length = n) (hr : n + r.length < 1000000000) : wr .i64 ((((((true, [], (n : Int)) :: (c ++ r), 0) : List Nd × Int).1.drop (Int.toNat 1)).length : Int) - ((gt (((true, [], (n : Int)) :: (c ++ r), 0) : List Nd × Int).1 0).2.2)) = (r.length : Int) := by
  show wr .i64 (((c ++ r).length : Int) - (n : Int)) = _
  rw [List.length_append, wr_i64_id (by omega) (by omega)]
  omega
theorem items_ok (f : Fst) : ∀ (k q : Nat) (x1 : List Nd × Int) (d : Nat) (acc : List Int) (r : List Nd), wr .i64 (((x1.1.drop (Int.toNat 1)).length : Int) - ((gt x1.1 0).2.2)) = (r.length : Int) → d + 1 + f.dep ≤ 64 → 41 + f.flat.length < k → f.flat.length < q → f.flat.length + r.length < 1000000000 → f.Fit → acc.length + f.enc.length ≤ 1048576 →
    rlp_writer_item.l1 k (rlp_writer_item.f k) x1 d q acc (f.flat ++ r) 0 = rlp_writer_item.j4 k x1 (acc ++ f.enc) r 0 := by
  induction f with
  | nil =>
    intro k q x1 d acc r hx hp hk hq hr hf ha
    obtain ⟨q, rfl⟩ : ∃ m, q = m + 1 := ⟨q - 1, by omega⟩
    show rlp_writer_item.l1 k (rlp_writer_item.f k) x1 d (q + 1) acc r 0 = rlp_writer_item.j4 k x1 (acc ++ []) r 0
    rw [step_end k x1 d q acc r hx, List.append_nil]
  | leaf b f ih =>
    intro k q x1 d acc r hx hp hk hq hr hf ha
    simp only [Fst.flat, Fst.enc, Fst.dep, List.length_cons, List.length_append] at *
    obtain ⟨q, rfl⟩ : ∃ m, q = m + 1 := ⟨q - 1, by omega⟩
    obtain ⟨k', rfl⟩ : ∃ m, k = m + 41 := ⟨k - 41, by omega⟩
    show rlp_writer_item.l1 _ _ x1 d (q + 1) acc ((false, b, 0) :: (f.flat ++ r)) 0 = _
    rw [step_more (k' + 41) x1 d q acc _ r (by omega) hx (by simp <;> omega) _ _ _ (item_leaf k' b (f.flat ++ r) _ hf.1) (by omega), ih (k' + 41) q x1 d (acc ++ encL b) r hx hp (by omega) (by omega) (by omega) hf.2 (by rw [List.length_append]; omega), List.append_assoc]
  | node c f ihc ihf =>
    intro k q x1 d acc r hx hp hk hq hr hf ha
    simp only [Fst.flat, Fst.enc, Fst.dep, List.length_cons, List.length_append] at *
    obtain ⟨q, rfl⟩ : ∃ m, q = m + 1 := ⟨q - 1, by omega⟩
    obtain ⟨k', rfl⟩ : ∃ m, k = m + 41 := ⟨k - 41, by omega⟩
    have hi : rlp_writer_item.f (k' + 41) ((true, [], ((c.flat).length : Int)) :: (c.flat ++ (f.flat ++ r)), 0) ((d + 1 : Nat) : Int) = some (hd c.enc.length 64 ++ c.enc, (f.flat ++ r, 0)) := by
      rw [item_node (k' + 40) c.flat.length c.flat (f.flat ++ r) _ rfl (by simp <;> omega), if_neg (by omega), ihc (k' + 40) (k' + 40) _ (d + 1) [] (f.flat ++ r) (after_eq _ _ _ rfl (by simp <;> omega)) (by omega) (by omega) (by omega) (by simp <;> omega) hf.1 (by simp <;> omega), List.nil_append, j4_ok k' _ _ _ (after_eq _ _ _ rfl (by simp <;> omega)) (by omega)]
    have e : (true, [], ((c.flat).length : Int)) :: (c.flat ++ f.flat) ++ r = (true, [], ((c.flat).length : Int)) :: (c.flat ++ (f.flat ++ r)) := by simp
    rw [e, step_more (k' + 41) x1 d q acc _ r (by omega) hx (by simp <;> omega) _ _ _ hi (by simp <;> omega), ihf (k' + 41) q x1 d _ r hx (by omega) (by omega) (by omega) (by omega) hf.2 (by simp <;> omega)]
    simp
theorem items_deep (f : Fst) : ∀ (k q : Nat) (x1 : List Nd × Int) (d : Nat) (acc : List Int) (r : List Nd), wr .i64 (((x1.1.drop (Int.toNat 1)).length : Int) - ((gt x1.1 0).2.2)) = (r.length : Int) → d ≤ 63 → 64 < d + 1 + f.dep → 41 + f.flat.length < k → f.flat.length + 1 < q → f.flat.length + r.length < 1000000000 → f.Fit → acc.length + f.enc.length + 4 * (f.flat.length + 1) ≤ 1048576 →
    ∃ out n', rlp_writer_item.l1 k (rlp_writer_item.f k) x1 d q acc (f.flat ++ r) 0 = some (out, (n', 4)) ∧ out.length ≤ acc.length + f.enc.length + 4 * (f.flat.length + 1) := by
  induction f with
  | nil =>
    intro k q x1 d acc r hx hp hdd hk hq hr hf ha
    simp only [Fst.dep] at hdd
    omega
  | leaf b f ih =>
    intro k q x1 d acc r hx hp hdd hk hq hr hf ha
    simp only [Fst.flat, Fst.enc, Fst.dep, List.length_cons, List.length_append] at *
    obtain ⟨q, rfl⟩ : ∃ m, q = m + 1 := ⟨q - 1, by omega⟩
    obtain ⟨k', rfl⟩ : ∃ m, k = m + 41 := ⟨k - 41, by omega⟩
    obtain ⟨out, n', e, hl⟩ := ih (k' + 41) q x1 d (acc ++ encL b) r hx hp hdd (by omega) (by omega) (by omega) hf.2 (by rw [List.length_append]; omega)
    refine ⟨out, n', ?_, by rw [List.length_append] at hl; omega⟩
    show rlp_writer_item.l1 _ _ x1 d (q + 1) acc ((false, b, 0) :: (f.flat ++ r)) 0 = _
    rw [step_more (k' + 41) x1 d q acc _ r (by omega) hx (by simp <;> omega) _ _ _ (item_leaf k' b (f.flat ++ r) _ hf.1) (by omega), e]
  | node c f ihc ihf =>
    intro k q x1 d acc r hx hp hdd hk hq hr hf ha
    simp only [Fst.flat, Fst.enc, Fst.dep, List.length_cons, List.length_append] at *
    obtain ⟨q, rfl⟩ : ∃ m, q = m + 1 + 1 := ⟨q - 2, by omega⟩
    obtain ⟨k', rfl⟩ : ∃ m, k = m + 41 := ⟨k - 41, by omega⟩
    have e : (true, [], ((c.flat).length : Int)) :: (c.flat ++ f.flat) ++ r = (true, [], ((c.flat).length : Int)) :: (c.flat ++ (f.flat ++ r)) := by simp
    by_cases c1 : d + 1 + 1 + c.dep ≤ 64
    · have hi : rlp_writer_item.f (k' + 41) ((true, [], ((c.flat).length : Int)) :: (c.flat ++ (f.flat ++ r)), 0) ((d + 1 : Nat) : Int) = some (hd c.enc.length 64 ++ c.enc, (f.flat ++ r, 0)) := by
        rw [item_node (k' + 40) c.flat.length c.flat (f.flat ++ r) _ rfl (by simp <;> omega), if_neg (by omega), items_ok c (k' + 40) (k' + 40) _ (d + 1) [] (f.flat ++ r) (after_eq _ _ _ rfl (by simp <;> omega)) (by omega) (by omega) (by omega) (by simp <;> omega) hf.1 (by simp <;> omega), List.nil_append, j4_ok k' _ _ _ (after_eq _ _ _ rfl (by simp <;> omega)) (by omega)]
      obtain ⟨out, n', e2, hl⟩ := ihf (k' + 41) (q + 1) x1 d (acc ++ (hd c.enc.length 64 ++ c.enc)) r hx hp (by omega) (by omega) (by omega) (by omega) hf.2 (by simp <;> omega)
      refine ⟨out, n', ?_, by simp only [List.length_append] at hl; omega⟩
      rw [e, step_more (k' + 41) x1 d (q + 1) acc _ r (by omega) hx (by simp <;> omega) _ _ _ hi (by simp <;> omega), e2]
    · have hi : ∃ o n', rlp_writer_item.f (k' + 41) ((true, [], ((c.flat).length : Int)) :: (c.flat ++ (f.flat ++ r)), 0) ((d + 1 : Nat) : Int) = some (o, (n', 4)) ∧ o.length ≤ c.enc.length + 4 * (c.flat.length + 1) := by
        rw [item_node (k' + 40) c.flat.length c.flat (f.flat ++ r) _ rfl (by simp <;> omega)]
        by_cases c2 : d + 1 = 64
        · rw [if_pos (by omega)]
          exact ⟨_, _, rfl, by simp⟩
        · rw [if_neg (by omega)]
          obtain ⟨o, n', e2, hl⟩ := ihc (k' + 40) (k' + 40) ((true, [], ((c.flat).length : Int)) :: (c.flat ++ (f.flat ++ r)), 0) (d + 1) [] (f.flat ++ r) (after_eq _ _ _ rfl (by simp <;> omega)) (by omega) (by omega) (by omega) (by omega) (by simp <;> omega) hf.1 (by simp <;> omega)
          exact ⟨o, n', e2, by simpa using hl⟩
      obtain ⟨o, n', hi, hol⟩ := hi
      obtain ⟨o2, e2, hl⟩ := j4_err (k' + 1) x1 (acc ++ o) n' 4 (by omega) (by simp <;> omega)
      refine ⟨o2, n', ?_, by simp only [List.length_append] at hl; omega⟩
      rw [e, step_more (k' + 41) x1 d (q + 1) acc _ r (by omega) hx (by simp <;> omega) _ _ _ hi (by omega), step_err _ _ _ _ _ _ _ (by omega)]
      exact e2
end GW
