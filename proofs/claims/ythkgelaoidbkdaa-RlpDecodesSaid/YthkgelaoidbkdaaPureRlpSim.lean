/-
  Any bytes, read: the document's way and the program's say the same; what is read well was written so.
-/
import Derived.Test.YthkgelaoidbkdaaPureRlpDec
set_option linter.unusedVariables false
set_option linter.unusedSimpArgs false
namespace GW
open Go Go.RowKit
/-! ### The document's reading, step by step. -/
theorem rf_end (k : Nat) (x : List Int) (i : Nat) (e d : Int) (hi : x.length ≤ i) : smithyref07_read.f (k + 1) x (i : Int) e d = some ([], 0, 3) := by
  show smithyref07_read.body (smithyref07_read.f k) k _ _ _ _ = _
  unfold smithyref07_read.body
  rw [if_pos (by simpa using by omega)]
theorem rf_byte (k : Nat) (x : List Int) (i : Nat) (e d : Int) (b : Int) (r : List Int) (h : x.drop i = b :: r) (hb : b < 128) (hx : x.length < 1000000) : smithyref07_read.f (k + 1) x (i : Int) e d = some ([(false, [b], 0)], ((i + 1 : Nat) : Int), 0) := by
  obtain ⟨g, hi, hr, hl⟩ := rd_cons_drop h
  show smithyref07_read.body (smithyref07_read.f k) k _ _ _ _ = _
  unfold smithyref07_read.body
  simp only [g]
  rw [if_neg (by simp; omega), if_pos (by omega), if_pos (by simpa using hb), wr_i64_id (by omega) (by omega)]
  rfl
theorem rf_err (k : Nat) (x : List Int) (i : Nat) (e d : Int) (b : Int) (r : List Int) (h : x.drop i = b :: r) (hb0 : 128 ≤ b ∧ b < 256) (hb : ∀ x ∈ r, 0 ≤ x ∧ x < 256) (hx : x.length < 1000000) (he : (ps (b :: r)).1 ≠ 0) : smithyref07_read.f (k + 21) x (i : Int) e d = some ([], 0, (ps (b :: r)).1) := by
  obtain ⟨g, hi, hr, hl⟩ := rd_cons_drop h
  show smithyref07_read.body (smithyref07_read.f (k + 20)) (k + 20) _ _ _ _ = _
  unfold smithyref07_read.body
  simp only [g]
  rw [if_neg (by simp; omega), if_pos (by omega), if_neg (by simp; omega), head_ps k x i b r h hb0 hb hx, Option.bind_some]
  simp only
  rw [if_pos (by simpa using he)]
theorem rf_short (k : Nat) (x : List Int) (i : Nat) (e d : Int) (b : Int) (r : List Int) (h : x.drop i = b :: r) (hb0 : 128 ≤ b ∧ b < 256) (hb : ∀ x ∈ r, 0 ≤ x ∧ x < 256) (hx : x.length < 1000000) (v : Int) (s : List Int) (hs : s.length ≤ r.length) (he : ps (b :: r) = (0, v, s)) (hv : (s.length : Int) < v) : smithyref07_read.f (k + 21) x (i : Int) e d = some ([], 0, 3) := by
  obtain ⟨g, hi, hr, hl⟩ := rd_cons_drop h
  show smithyref07_read.body (smithyref07_read.f (k + 20)) (k + 20) _ _ _ _ = _
  unfold smithyref07_read.body
  simp only [g]
  rw [if_neg (by simp; omega), if_pos (by omega), if_neg (by simp; omega), head_ps k x i b r h hb0 hb hx, Option.bind_some, he]
  simp only [if_true]
  rw [if_neg (by simp), wr_i64_id (by omega) (by omega), if_pos (by
    have : (x.length : Int) - ((x.length - s.length : Nat) : Int) < imin v 1000000000 := by unfold imin; split <;> omega
    simpa using this)]
theorem rf_ok (k : Nat) (x : List Int) (i : Nat) (e d : Int) (b : Int) (r : List Int) (h : x.drop i = b :: r) (hb0 : 128 ≤ b ∧ b < 256) (hb : ∀ x ∈ r, 0 ≤ x ∧ x < 256) (hx : x.length < 1000000) (v : Nat) (s : List Int) (st : Nat) (hst : x.drop st = s) (hs2 : st + s.length = x.length) (he : ps (b :: r) = (0, (v : Int), s)) (hv : v ≤ s.length) :
    smithyref07_read.f (k + 21) x (i : Int) e d = if e < ((st + v : Nat) : Int) then some ([], 0, 2) else if 192 ≤ b then (if 64 ≤ d then some ([], 0, 4) else smithyref07_read.l1 (smithyref07_read.f (k + 20)) x d (true, (st : Int), (v : Int), 0) (k + 20) (st : Int) [(true, [], 0)]) else if v = 1 ∧ rd s 0 < 128 then some ([], 0, 2) else some ([(false, s.take v, 0)], ((st + v : Nat) : Int), 0) := by
  obtain ⟨g, hi, hr, hl⟩ := rd_cons_drop h
  have hstl : ((x.length - s.length : Nat) : Int) = (st : Int) := by omega
  show smithyref07_read.body (smithyref07_read.f (k + 20)) (k + 20) _ _ _ _ = _
  unfold smithyref07_read.body
  simp only [g]
  rw [if_neg (by simp; omega), if_pos (by omega), if_neg (by simp; omega), head_ps k x i b r h hb0 hb hx, Option.bind_some, he]
  simp only [if_true]
  rw [imin_id (by omega), if_neg (by simp), hstl, wr_i64_id (x := (x.length : Int) - (st : Int)) (by omega) (by omega), wr_i64_id (x := (st : Int) + (v : Int)) (by omega) (by omega), if_neg (by simp; omega)]
  rw [show (st : Int) + (v : Int) = ((st + v : Nat) : Int) by omega]
  by_cases c1 : e < ((st + v : Nat) : Int)
  · rw [if_pos (by simpa using c1), if_pos c1]
  · rw [if_neg (by simpa using c1), if_neg c1]
    by_cases c2 : 192 ≤ b
    · rw [if_neg (by simp [c2]), if_pos c2]
      by_cases c3 : 64 ≤ d
      · rw [if_pos (by simpa using c3), if_pos c3]
      · rw [if_neg (by simpa using c3), if_neg c3, decide_eq_true c2]
    · rw [if_pos (by simp [c2]), if_neg c2]
      have j1f : ∀ y : Bool, smithyref07_read.j1 x (decide (192 ≤ b), (st : Int), (v : Int), 0) y = if y = true then some ([], 0, 2) else some ([(false, s.take v, 0)], ((st + v : Nat) : Int), 0) := by
        intro y
        unfold smithyref07_read.j1
        cases y with
        | true => rfl
        | false =>
          simp only
          rw [if_neg (by simp), wr_i64_id (x := (st : Int) + (v : Int)) (by omega) (by omega), show (st : Int) + (v : Int) = ((st + v : Nat) : Int) by omega, if_pos (by omega), Int.toNat_natCast, Int.toNat_natCast]
          have : (x.take (st + v)).drop st = s.take v := by
            rw [List.drop_take, hst]
            exact congrArg (fun n => s.take n) (by omega)
          rw [this, List.nil_append, if_pos (by rw [List.length_take]; simp; omega), if_neg (by simp)]
      have hrd : rd x (st : Int) = rd s 0 := by
        have := rd_drop (x := x) (i := st) 0
        rw [hst] at this
        exact this
      by_cases c3 : v = 1
      · rw [if_pos (by simp [c3]), if_pos (by omega), hrd]
        refine (j1f _).trans ?_
        by_cases c4 : rd s 0 < 128
        · rw [if_pos (by simpa using c4), if_pos ⟨c3, c4⟩]
        · rw [if_neg (by simpa using c4), if_neg (fun h => c4 h.2)]
      · rw [if_neg (by simp; omega)]
        refine (j1f _).trans ?_
        rw [if_neg (by simp), if_neg (fun h => c3 h.1)]
theorem rl_end (k q : Nat) (x : List Int) (d : Int) (st v : Nat) (hx : x.length < 1000000) (hv : st + v ≤ x.length) (g : List Nd) (hg : g.length < 10000000) : smithyref07_read.l1 (smithyref07_read.f k) x d (true, (st : Int), (v : Int), 0) (q + 1) ((st + v : Nat) : Int) ((true, [], 0) :: g) = some ((true, [], (g.length : Int)) :: g, ((st + v : Nat) : Int), 0) := by
  show smithyref07_read.b1 (smithyref07_read.f k) x d _ _ _ _ = _
  unfold smithyref07_read.b1
  have hw : wr .i64 ((st : Int) + (v : Int)) = ((st + v : Nat) : Int) := by rw [wr_i64_id (by omega) (by omega)]; omega
  simp only [hw]
  rw [if_neg (by simp)]
  unfold smithyref07_read.j2
  simp only [hw]
  have hg0 : gt ((true, [], 0) :: g : List Nd) 0 = (true, [], 0) := rfl
  rw [if_pos (by simp <;> omega), hg0, wr_i64_id (by simp <;> omega) (by simp <;> omega)]
  simp
theorem rl_step (k q : Nat) (x : List Int) (d : Nat) (st v j : Nat) (hx : x.length < 1000000) (hv : st + v ≤ x.length) (hd : d ≤ 64) (hj : j < st + v) (y : List Nd) (hy : y.length < 10000000) (ns : List Nd) (e : Int) (c : Int) (hn : ns.length < 10000000) (hi : smithyref07_read.f k x (j : Int) ((st + v : Nat) : Int) ((d + 1 : Nat) : Int) = some (ns, e, c)) : smithyref07_read.l1 (smithyref07_read.f k) x (d : Int) (true, (st : Int), (v : Int), 0) (q + 1) (j : Int) y = if c ≠ 0 then some ([], 0, c) else smithyref07_read.l1 (smithyref07_read.f k) x (d : Int) (true, (st : Int), (v : Int), 0) q e (y ++ ns) := by
  show smithyref07_read.b1 (smithyref07_read.f k) x (d : Int) _ _ _ _ = _
  unfold smithyref07_read.b1
  have hw : wr .i64 ((st : Int) + (v : Int)) = ((st + v : Nat) : Int) := by rw [wr_i64_id (by omega) (by omega)]; omega
  simp only [hw]
  rw [if_pos (by simpa using by omega), wr_i64_id (x := (d : Int) + 1) (by omega) (by omega), show (d : Int) + 1 = ((d + 1 : Nat) : Int) from rfl, hi, Option.bind_some]
  simp only
  by_cases c1 : c = 0
  · rw [if_neg (by simpa using c1), if_pos (by omega), if_neg (by simpa using c1)]
  · rw [if_pos (by simpa using c1), if_pos c1]
/-! ### Both ways. -/
def Bad (A : Option (Int × List Int × List Nd)) (B : Option (List Nd × Int × Int)) : Prop := ∃ (c : Int) (r : List Int) (m : List Nd), c ≠ 0 ∧ A = some (c, (r, m)) ∧ B = some ([], 0, c)
def Good (x : List Int) (i l d : Nat) (n : List Nd) (A : Option (Int × List Int × List Nd)) (B : Option (List Nd × Int × Int)) : Prop :=
  ∃ (t : Fst) (j : Nat), t.One ∧ t.Fit ∧ t.dep + d ≤ 64 ∧ x.drop i = t.enc ++ x.drop j ∧ j = i + t.enc.length ∧ 1 ≤ t.enc.length ∧ j ≤ i + l ∧ j ≤ x.length ∧ A = some (0, (x.drop j, n ++ t.flat)) ∧ B = some (t.flat, (j : Int), 0)
theorem ps_rest : ∀ (l : List Int), (ps l).2.2.length ≤ l.length - 1 := by
  intro l
  match l with
  | [] => simp [ps]
  | b :: r =>
    unfold ps
    simp only
    generalize (if 192 ≤ b then b - 64 else b) = y
    by_cases c1 : y ≤ 183
    · rw [if_pos c1]; simp
    · rw [if_neg c1]
      by_cases c2 : r.length < (y - 183).toNat
      · rw [if_pos c2]; simp
      · rw [if_neg c2]
        by_cases c3 : rd r 0 = 0
        · rw [if_pos c3]; simp
        · rw [if_neg c3]
          by_cases c4 : val (r.take (y - 183).toNat) ≤ 55
          · rw [if_pos c4]; simp <;> omega
          · rw [if_neg c4]; simp <;> omega
theorem ps_val (b : Int) (r : List Int) (hb0 : 128 ≤ b ∧ b < 256) (hb : ∀ x ∈ r, 0 ≤ x ∧ x < 256) : 0 ≤ (ps (b :: r)).2.1 := by
  unfold ps
  simp only
  have hy : 128 ≤ (if 192 ≤ b then b - 64 else b) := by split <;> omega
  generalize (if 192 ≤ b then b - 64 else b) = y at hy
  by_cases c1 : y ≤ 183
  · rw [if_pos c1]; simp only; omega
  · rw [if_neg c1]
    by_cases c2 : r.length < (y - 183).toNat
    · rw [if_pos c2]; simp
    · rw [if_neg c2]
      by_cases c3 : rd r 0 = 0
      · rw [if_pos c3]; simp
      · rw [if_neg c3]
        by_cases c4 : val (r.take (y - 183).toNat) ≤ 55
        · rw [if_pos c4]; simp
        · rw [if_neg c4]; exact val_nonneg hb _
/-- What follows a head is the end of the bytes. -/
theorem ps_drop (x : List Int) (i : Nat) (b : Int) (r : List Int) (h : x.drop i = b :: r) : x.drop (x.length - (ps (b :: r)).2.2.length) = (ps (b :: r)).2.2 := by
  obtain ⟨g, hi, hr, hl⟩ := rd_cons_drop h
  have d0 : x.drop (x.length - r.length) = r := by rw [show x.length - r.length = i + 1 by omega]; exact hr
  have dm : ∀ m : Nat, m ≤ r.length → x.drop (x.length - (r.drop m).length) = r.drop m := by
    intro m hm
    rw [List.length_drop, show x.length - (r.length - m) = (i + 1) + m by omega, ← List.drop_drop, hr]
  unfold ps
  simp only
  generalize (if 192 ≤ b then b - 64 else b) = y
  by_cases c1 : y ≤ 183
  · rw [if_pos c1]; exact d0
  · rw [if_neg c1]
    by_cases c2 : r.length < (y - 183).toNat
    · rw [if_pos c2]; exact d0
    · rw [if_neg c2]
      by_cases c3 : rd r 0 = 0
      · rw [if_pos c3]; exact d0
      · rw [if_neg c3]
        by_cases c4 : val (r.take (y - 183).toNat) ≤ 55
        · rw [if_pos c4]; exact dm _ (by omega)
        · rw [if_neg c4]; exact dm _ (by omega)
theorem fit_app (f g : Fst) (hf : f.Fit) (hg : g.Fit) : (f.app g).Fit := by
  induction f with
  | nil => exact hg
  | leaf b f ih => exact ⟨hf.1, ih hf.2⟩
  | node c f _ ih => exact ⟨hf.1, ih hf.2⟩
theorem sim (x : List Int) (hx : x.length < 100000) (hu : ∀ b ∈ x, 0 ≤ b ∧ b < 256) : ∀ (m i l d ka kb : Nat) (n : List Nd), x.length - i ≤ m → i ≤ x.length → (i < x.length → 1 ≤ l) → d ≤ 64 → 2 * m + 60 ≤ ka → m + 60 ≤ kb → n.length ≤ i →
    Bad (rlp_reader_item.f ka (x.drop i, n) (l : Int) (d : Int)) (smithyref07_read.f kb x (i : Int) ((i + l : Nat) : Int) (d : Int)) ∨ Good x i l d n (rlp_reader_item.f ka (x.drop i, n) (l : Int) (d : Int)) (smithyref07_read.f kb x (i : Int) ((i + l : Nat) : Int) (d : Int)) := by
  intro m
  induction m with
  | zero =>
    intro i l d ka kb n hm hi hl hdd hka hkb hn
    obtain ⟨ka, rfl⟩ : ∃ m, ka = m + 1 := ⟨ka - 1, by omega⟩
    obtain ⟨kb, rfl⟩ : ∃ m, kb = m + 1 := ⟨kb - 1, by omega⟩
    refine Or.inl ⟨3, [], n, by omega, ?_, rf_end kb x i _ _ (by omega)⟩
    rw [List.drop_eq_nil_of_le (by omega : x.length ≤ i)]
    exact it_nil ka n l d
  | succ m ih =>
    intro i l d ka kb n hm hi hl hdd hka hkb hn
    obtain ⟨ka, rfl⟩ : ∃ m, ka = m + 21 := ⟨ka - 21, by omega⟩
    obtain ⟨kb, rfl⟩ : ∃ m, kb = m + 21 := ⟨kb - 21, by omega⟩
    match hdr : x.drop i with
    | [] =>
      have : x.length ≤ i := by simpa using hdr
      exact Or.inl ⟨3, [], n, by omega, it_nil (ka + 20) n l d, rf_end (kb + 20) x i _ _ this⟩
    | b :: r =>
      obtain ⟨g, hi2, hr, hlen⟩ := rd_cons_drop hdr
      have hmem : ∀ y ∈ b :: r, 0 ≤ y ∧ y < 256 := fun y hy => hu y (by rw [← hdr] at hy; exact List.mem_of_mem_drop hy)
      have hb := hmem b (by simp)
      have hur : ∀ y ∈ r, 0 ≤ y ∧ y < 256 := fun y hy => hmem y (by simp [hy])
      by_cases c1 : b < 128
      · refine Or.inr ⟨.leaf [b] .nil, i + 1, trivial, ⟨by simp, trivial⟩, by simp [Fst.dep]; omega, ?_, ?_, ?_, by have := hl hi2; omega, by omega, ?_, ?_⟩
        · have : encL [b] = [b] := by
            unfold encL
            rw [if_pos ⟨rfl, c1⟩]
          simp only [Fst.enc, this, hr]
          exact hdr
        · simp [Fst.enc, encL, rd, c1]
        · simp [Fst.enc, encL, rd, c1]
        · rw [hr]; exact it_byte (ka + 20) b r n l d c1 (by omega)
        · exact rf_byte (kb + 20) x i _ _ b r hdr c1 (by omega)
      · have hb0 : 128 ≤ b ∧ b < 256 := by omega
        have hsl := ps_rest (b :: r)
        have hv0 := ps_val b r hb0 hur
        have hdp := ps_drop x i b r hdr
        by_cases c2 : (ps (b :: r)).1 = 0
        · generalize hps : ps (b :: r) = p at c2 hsl hv0 hdp
          obtain ⟨p0, v, s⟩ := p
          simp only at c2 hsl hv0 hdp
          subst c2
          simp only [List.length_cons, Nat.add_sub_cancel] at hsl
          by_cases c3 : (s.length : Int) < v
          · exact Or.inl ⟨3, s, n, by omega, it_short ka b r n l d hb0 hur (by omega) v s hsl hps c3, rf_short kb x i _ _ b r hdr hb0 hur (by omega) v s hsl hps c3⟩
          · obtain ⟨v, rfl⟩ := Int.eq_ofNat_of_zero_le hv0
            have hvs : v ≤ s.length := by omega
            have A := it_ok ka b r n l d hb0 hur (by omega) v s hsl hps hvs (by omega)
            have B := rf_ok kb x i ((i + l : Nat) : Int) d b r hdr hb0 hur (by omega) v s (x.length - s.length) hdp (by omega) hps hvs
            have hinv := ps_inv b r hb0 hur v (by omega) s hps
            generalize hst : x.length - s.length = st at B hdp
            rw [A, B]
            by_cases c4 : (l : Int) < ((r.length + 1 - s.length + v : Nat) : Int)
            · have c4' : ((i + l : Nat) : Int) < ((st + v : Nat) : Int) := by omega
              rw [if_pos c4, if_pos c4']
              exact Or.inl ⟨2, s, n, by omega, rfl, rfl⟩
            · have c4' : ¬ ((i + l : Nat) : Int) < ((st + v : Nat) : Int) := by omega
              rw [if_neg c4, if_neg c4']
              have hsv : s.drop v = x.drop (st + v) := by rw [← hdp, List.drop_drop]
              by_cases c5 : 192 ≤ b
              · rw [if_pos c5, if_pos c5, li_top (ka + 19) s n v d (by omega)]
                by_cases c6 : d = 64
                · have c7 : (d : Int) = 64 := by omega
                  have c8 : (64 : Int) ≤ (d : Int) := by omega
                  rw [if_pos c7, if_pos c8]
                  exact Or.inl ⟨4, s, n, by omega, rfl, rfl⟩
                · have c7 : ¬ (d : Int) = 64 := by omega
                  have c8 : ¬ (64 : Int) ≤ (d : Int) := by omega
                  rw [if_neg c7, if_neg c8]
                  have loop : ∀ (w j : Nat) (f : Fst) (qa qb : Nat), st + v - j ≤ w → j ≤ st + v → j = st + f.enc.length → f.Fit → f.dep + d + 1 ≤ 64 → s = f.enc ++ x.drop j → w < qa → w < qb →
                      Bad (rlp_reader_list.l1 (rlp_reader_item.f (ka + 19)) (s, n) (v : Int) (d : Int) qa (x.drop j) (n ++ (true, [], 0) :: f.flat)) (smithyref07_read.l1 (smithyref07_read.f (kb + 20)) x (d : Int) (true, (st : Int), (v : Int), 0) qb (j : Int) ((true, [], 0) :: f.flat)) ∨
                      ∃ g : Fst, v = g.enc.length ∧ g.Fit ∧ g.dep + d + 1 ≤ 64 ∧ s = g.enc ++ x.drop (st + v) ∧ rlp_reader_list.l1 (rlp_reader_item.f (ka + 19)) (s, n) (v : Int) (d : Int) qa (x.drop j) (n ++ (true, [], 0) :: f.flat) = some (0, (x.drop (st + v), n ++ (true, [], (g.flat.length : Int)) :: g.flat)) ∧ smithyref07_read.l1 (smithyref07_read.f (kb + 20)) x (d : Int) (true, (st : Int), (v : Int), 0) qb (j : Int) ((true, [], 0) :: f.flat) = some ((true, [], (g.flat.length : Int)) :: g.flat, ((st + v : Nat) : Int), 0) := by
                    intro w
                    induction w with
                    | zero =>
                      intro j f qa qb h1 h2 h3 h4 h5 h6 h7 h8
                      obtain ⟨qa, rfl⟩ : ∃ m, qa = m + 1 := ⟨qa - 1, by omega⟩
                      obtain ⟨qb, rfl⟩ : ∃ m, qb = m + 1 := ⟨qb - 1, by omega⟩
                      have hj : j = st + v := by omega
                      have hfl := flat_le f
                      subst hj
                      refine Or.inr ⟨f, by omega, h4, h5, h6, ?_, rl_end (kb + 20) qb x d st v (by omega) (by omega) f.flat (by omega)⟩
                      rw [← hsv]
                      exact li_end (ka + 19) qa s n v d hvs (by omega) f.flat (by omega)
                    | succ w ihw =>
                      intro j f qa qb h1 h2 h3 h4 h5 h6 h7 h8
                      obtain ⟨qa, rfl⟩ : ∃ m, qa = m + 1 := ⟨qa - 1, by omega⟩
                      obtain ⟨qb, rfl⟩ : ∃ m, qb = m + 1 := ⟨qb - 1, by omega⟩
                      have hfl := flat_le f
                      by_cases hj : j = st + v
                      · subst hj
                        refine Or.inr ⟨f, by omega, h4, h5, h6, ?_, rl_end (kb + 20) qb x d st v (by omega) (by omega) f.flat (by omega)⟩
                        rw [← hsv]
                        exact li_end (ka + 19) qa s n v d hvs (by omega) f.flat (by omega)
                      · have hdl : (x.drop j).length = x.length - j := List.length_drop
                        have hlim : (x.drop j).length - (s.length - v) = st + v - j := by omega
                        have hnl : (n ++ (true, [], 0) :: f.flat : List Nd).length = n.length + f.flat.length + 1 := by simp; omega
                        have hsub := ih j (st + v - j) (d + 1) (ka + 19) (kb + 20) (n ++ (true, [], 0) :: f.flat) (by omega) (by omega) (fun _ => by omega) (by omega) (by omega) (by omega) (by omega)
                        rw [show j + (st + v - j) = st + v by omega] at hsub
                        rcases hsub with ⟨c, r', m', hc, A', B'⟩ | ⟨t, j', t1, t2, t3, t4, t5, t6, t7, t8, A', B'⟩
                        · rw [← hlim] at A'
                          refine Or.inl ⟨c, r', m', hc, ?_, ?_⟩
                          · rw [li_step (ka + 19) qa s n v d hvs (by omega) (by omega) (x.drop j) _ (by omega) (by omega) c r' m' A', if_pos hc]
                          · rw [rl_step (kb + 20) qb x d st v j (by omega) (by omega) (by omega) (by omega) _ (by simp; omega) [] 0 c (by simp) B', if_pos hc]
                        · rw [← hlim] at A'
                          have htl := flat_le t
                          have e1 := li_step (ka + 19) qa s n v d hvs (by omega) (by omega) (x.drop j) _ (by omega) (by omega) 0 _ _ A'
                          have e2 := rl_step (kb + 20) qb x d st v j (by omega) (by omega) (by omega) (by omega) ((true, [], 0) :: f.flat) (by simp; omega) t.flat (j' : Int) 0 (by omega) B'
                          rw [if_neg (by simp)] at e1 e2
                          have a1 : n ++ (true, [], 0) :: f.flat ++ t.flat = n ++ ((true, [], 0) : Nd) :: (f.app t).flat := by rw [Fst.flat_app]; simp
                          have a2 : ((true, [], 0) : Nd) :: f.flat ++ t.flat = (true, [], 0) :: (f.app t).flat := by rw [Fst.flat_app]; simp
                          rw [a1] at e1
                          rw [a2] at e2
                          rw [e1, e2]
                          exact ihw j' (f.app t) qa qb (by omega) (by omega) (by rw [Fst.enc_app, List.length_append]; omega) (fit_app f t h4 t2) (by rw [Fst.dep_app]; omega) (by rw [Fst.enc_app, List.append_assoc, ← t4, h6]) (by omega) (by omega)
                  have hst0 : st + s.length = x.length := by omega
                  rcases loop m st .nil (ka + 19) (kb + 20) (by omega) (by omega) (by simp [Fst.enc]) trivial (by simp [Fst.dep]; omega) (by simp [Fst.enc, hdp]) (by omega) (by omega) with hbad | ⟨f, f1, f2, f3, f4, A', B'⟩
                  · rw [hdp] at hbad
                    exact Or.inl hbad
                  · rw [hdp] at A'
                    rw [if_pos c5] at hinv
                    have hh := hd_len v 64
                    have hen : (Fst.node f .nil).enc = hd v 64 ++ f.enc := by simp [Fst.enc, f1]
                    have hl3 : (b :: r).length = (hd v 64).length + s.length := by rw [hinv, List.length_append]
                    simp only [List.length_cons] at hl3
                    have hnl : (Fst.node f .nil).flat = (true, [], (f.flat.length : Int)) :: f.flat := by simp [Fst.flat]
                    refine Or.inr ⟨.node f .nil, st + v, trivial, ⟨f2, trivial⟩, by simp [Fst.dep]; omega, ?_, ?_, ?_, by omega, by omega, ?_, ?_⟩
                    · rw [hen, hdr, hinv, List.append_assoc, ← f4]
                    · rw [hen, List.length_append]; omega
                    · rw [hen, List.length_append]; omega
                    · rw [hnl]; exact A'
                    · rw [hnl]; exact B'
              · rw [if_neg c5, if_neg c5]
                by_cases c6 : v = 1 ∧ rd s 0 < 128
                · rw [if_pos c6, if_pos c6]
                  exact Or.inl ⟨2, s, n, by omega, rfl, rfl⟩
                · rw [if_neg c6, if_neg c6]
                  rw [if_neg c5] at hinv
                  have hen : encL (s.take v) = hd v 0 ++ s.take v := by
                    unfold encL
                    have : (s.take v).length = v := by rw [List.length_take]; omega
                    rw [this, if_neg]
                    intro h
                    refine c6 ⟨h.1, ?_⟩
                    have h2 := h.2
                    rw [h.1] at h2
                    have : rd (s.take 1) 0 = rd s 0 := by
                      unfold rd
                      simp [List.getElem?_take]
                    rw [this] at h2
                    exact h2
                  have hl3 : (b :: r).length = (hd v 0).length + s.length := by rw [hinv, List.length_append]
                  simp only [List.length_cons] at hl3
                  have hh := hd_len v 0
                  have htl : (s.take v).length = v := by rw [List.length_take]; omega
                  refine Or.inr ⟨.leaf (s.take v) .nil, st + v, trivial, ⟨by rw [htl]; omega, trivial⟩, by simp [Fst.dep]; omega, ?_, ?_, ?_, by omega, by omega, ?_, rfl⟩
                  · simp only [Fst.enc, hen, List.append_nil]
                    rw [hdr, hinv, ← hsv, List.append_assoc, List.take_append_drop]
                  · simp only [Fst.enc, hen, List.append_nil, List.length_append, htl]
                    omega
                  · simp only [Fst.enc, hen, List.append_nil, List.length_append, htl]
                    omega
                  · rw [hsv]; rfl
        · exact Or.inl ⟨_, _, _, c2, it_err ka b r n l d hb0 hur (by omega) c2, rf_err kb x i _ _ b r hdr hb0 hur (by omega) c2⟩
end GW
