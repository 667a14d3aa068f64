/-
  The heads of codings, read: the program's way and the document's.
-/
import Derived.Test.YthkgelaoidbkdaaPureRlpTree
set_option linter.unusedVariables false
set_option linter.unusedSimpArgs false
namespace GW
open Go Go.RowKit
abbrev Rd := List Int × List Nd
/-- Digits to 256 as a number. -/
def val (l : List Int) : Int := l.foldl (fun a b => a * 256 + b) 0
theorem val_snoc (l : List Int) (b : Int) : val (l ++ [b]) = val l * 256 + b := by simp [val]
theorem take_succ_rd {l : List Int} {j : Nat} (h : j < l.length) : l.take (j + 1) = l.take j ++ [rd l (j : Int)] := by
  rw [List.take_add_one]
  simp [rd, List.getElem?_eq_getElem h]
theorem val_nonneg {l : List Int} (h : ∀ b ∈ l, 0 ≤ b ∧ b < 256) : ∀ j : Nat, 0 ≤ val (l.take j) := by
  intro j
  induction j with
  | zero => simp [val]
  | succ j ih =>
    by_cases c : j < l.length
    · rw [take_succ_rd c, val_snoc]
      have : rd l (j : Int) ∈ l := by simp [rd, List.getElem?_eq_getElem c]
      have := h _ this
      omega
    · rw [List.take_of_length_le (by omega)] at ih ⊢
      exact ih
theorem rd_mem {l : List Int} {j : Nat} (h : j < l.length) : rd l (j : Int) ∈ l := by simp [rd, List.getElem?_eq_getElem h]
/-- A head: whether it is bad, the length it says, what follows. -/
def ps : List Int → Int × Int × List Int
  | [] => (3, 0, [])
  | b :: r =>
    let y := if 192 ≤ b then b - 64 else b
    if y ≤ 183 then (0, y - 128, r) else
      let m := (y - 183).toNat
      if r.length < m then (3, 0, r) else if rd r 0 = 0 then (2, 0, r) else if val (r.take m) ≤ 55 then (2, 0, r.drop m) else (0, val (r.take m), r.drop m)
theorem imin_step (v c b : Int) (hv : 0 ≤ v) (hc : 0 < c) (hb : 0 ≤ b) : imin (256 * imin v c + b) c = imin (v * 256 + b) c := by
  unfold imin
  by_cases h : c < v
  · rw [if_pos h, if_pos (by omega), if_pos (by omega)]
  · rw [if_neg h]
    by_cases g : c < 256 * v + b
    · rw [if_pos g, if_pos (by omega)]
    · rw [if_neg g, if_neg (by omega)]; omega
theorem imin_le (v c : Int) (hv : 0 ≤ v) (hc : 0 ≤ c) : 0 ≤ imin v c ∧ imin v c ≤ c := by
  unfold imin
  by_cases h : c < v
  · rw [if_pos h]; omega
  · rw [if_neg h]; omega
theorem size_loop (b : Int) (r : List Int) (n : List Nd) (y : Int) (m : Nat) (hm : wr .i64 (wr .i64 y - 183) = (m : Int)) (hmr : m ≤ r.length) (hr : r.length < 1000000) (hb : ∀ x ∈ r, 0 ≤ x ∧ x < 256) (hz : rd r 0 ≠ 0) : ∀ (d q j : Nat), d < q → j + d = m → rlp_reader_size.l1 (b :: r, n) y q (j : Int) (imin (val (r.take j)) 1099511627776) = rlp_reader_size.j2 (b :: r, n) y (imin (val (r.take m)) 1099511627776) := by
  have hbs : (r.take m).length = m := by rw [List.length_take]; omega
  have e1 : (((b :: r, n) : Rd).1.drop (Int.toNat 1)) = r := rfl
  intro d
  induction d with
  | zero =>
    intro q j hq hj
    obtain ⟨q, rfl⟩ : ∃ m, q = m + 1 := ⟨q - 1, by omega⟩
    show rlp_reader_size.b1 _ _ _ _ _ = _
    unfold rlp_reader_size.b1
    simp only [hm, e1, Int.toNat_natCast, hbs]
    rw [if_neg (by simp; omega), show j = m by omega]
  | succ d ih =>
    intro q j hq hj
    obtain ⟨q, rfl⟩ : ∃ m, q = m + 1 := ⟨q - 1, by omega⟩
    show rlp_reader_size.b1 _ _ _ _ _ = _
    have hrd : rd (r.take m) (j : Int) = rd r (j : Int) := by
      unfold rd
      simp [List.getElem?_take, show j < m by omega]
    have j3 : rlp_reader_size.j3 (b :: r, n) y (j : Int) (imin (val (r.take j)) 1099511627776) (rlp_reader_size.l1 (b :: r, n) y q) false = rlp_reader_size.j2 (b :: r, n) y (imin (val (r.take m)) 1099511627776) := by
      unfold rlp_reader_size.j3
      simp only [hm, e1, Int.toNat_natCast]
      have hv := val_nonneg hb j
      have hbj := hb _ (rd_mem (l := r) (j := j) (by omega))
      have hi := imin_le (val (r.take j)) 1099511627776 hv (by omega)
      rw [if_neg (by simp), hrd, wr_i64_id (x := rd r (j : Int)) (by omega) (by omega), wr_i64_id (x := 256 * imin (val (r.take j)) 1099511627776) (by omega) (by omega), wr_i64_id (x := 256 * imin (val (r.take j)) 1099511627776 + rd r (j : Int)) (by omega) (by omega), imin_step _ _ _ hv (by omega) hbj.1, ← val_snoc, ← take_succ_rd (by omega), wr_i64_id (x := (j : Int) + 1) (by omega) (by omega)]
      exact ih q (j + 1) (by omega) (by omega)
    unfold rlp_reader_size.b1
    simp only [hm, e1, Int.toNat_natCast, hbs]
    rw [if_pos (by simp; omega), if_pos (by omega)]
    by_cases c : j = 0
    · rw [if_pos (by simp [c])]
      have : (rd (r.take m) (j : Int) == 0) = false := by
        rw [hrd]
        subst c
        simpa using hz
      rw [this, j3]
    · rw [if_neg (by simp; omega), j3]
/-- The program's reading of a head. -/
theorem size_ps (k : Nat) (b : Int) (r : List Int) (n : List Nd) (hb0 : 128 ≤ b ∧ b < 256) (hb : ∀ x ∈ r, 0 ≤ x ∧ x < 256) (hr : r.length < 1000000) : rlp_reader_size.f (k + 20) (b :: r, n) = some (decide (192 ≤ b), (if (ps (b :: r)).1 = 0 then imin (ps (b :: r)).2.1 1099511627776 else 0), (ps (b :: r)).1, ((ps (b :: r)).2.2, n)) := by
  have e1 : (((b :: r, n) : Rd).1.drop (Int.toNat 1)) = r := rfl
  have e0 : rd ((b :: r, n) : Rd).1 0 = b := rfl
  have en : ((b :: r, n) : Rd).2 = n := rfl
  have el : (((b :: r, n) : Rd).1.length : Int) = (r.length : Int) + 1 := by simp
  have main : ∀ y : Int, 128 ≤ y → y < 192 → y = (if 192 ≤ b then b - 64 else b) → rlp_reader_size.j1 (k + 20) (b :: r, n) y = some (decide (192 ≤ b), (if (ps (b :: r)).1 = 0 then imin (ps (b :: r)).2.1 1099511627776 else 0), (ps (b :: r)).1, ((ps (b :: r)).2.2, n)) := by
    intro y y1 y2 hy
    unfold rlp_reader_size.j1 ps
    simp only [e1, e0, en, ← hy]
    rw [if_pos (by rw [el]; omega)]
    by_cases c1 : y ≤ 183
    · rw [if_pos (by simpa using c1), if_pos c1, wr_i64_id (x := y) (by omega) (by omega), wr_i64_id (by omega) (by omega)]
      simp only [if_true]
      unfold imin
      rw [if_neg (by omega)]
    · rw [if_neg (by simpa using c1), if_neg c1]
      have hm : wr .i64 (wr .i64 y - 183) = (((y - 183).toNat : Nat) : Int) := by
        rw [wr_i64_id (x := y) (by omega) (by omega), wr_i64_id (by omega) (by omega)]
        omega
      have hm8 : (y - 183).toNat ≤ 8 ∧ 1 ≤ (y - 183).toNat := by omega
      generalize (y - 183).toNat = m at hm hm8 ⊢
      simp only [hm]
      by_cases c2 : r.length < m
      · rw [if_pos (by simp; omega), if_pos c2]
        rfl
      · rw [if_neg (by simp; omega), if_neg c2, if_pos (by omega)]
        by_cases c3 : rd r 0 = 0
        · rw [if_pos c3]
          show rlp_reader_size.b1 _ _ _ _ _ = _
          have hrd : rd (r.take m) 0 = rd r 0 := by
            unfold rd
            simp [List.getElem?_take, show 0 < m by omega]
          have hbs : (r.take m).length = m := by rw [List.length_take]; omega
          unfold rlp_reader_size.b1
          simp only [hm, e1, Int.toNat_natCast, hbs, hrd]
          rw [if_pos (by simp; omega), if_pos (by omega), if_pos (by simp), c3]
          rfl
        · rw [if_neg c3]
          have := size_loop b r n y m hm (by omega) hr hb c3 m (k + 20) 0 (by omega) (by omega)
          have hz : imin (val (r.take 0)) 1099511627776 = 0 := rfl
          rw [hz] at this
          refine this.trans ?_
          unfold rlp_reader_size.j2
          simp only [hm, e1, e0, en, Int.toNat_natCast]
          have hv : 0 ≤ val (r.take m) := val_nonneg hb m
          rw [if_pos (by omega)]
          by_cases c4 : val (r.take m) ≤ 55
          · have : imin (val (r.take m)) 1099511627776 ≤ 55 := by unfold imin; split <;> omega
            rw [if_pos (by simpa using this), if_pos c4]
            rfl
          · have : ¬ imin (val (r.take m)) 1099511627776 ≤ 55 := by unfold imin; split <;> omega
            rw [if_neg (by simpa using this), if_neg c4]
            rfl
  unfold rlp_reader_size.f
  simp only [e0]
  rw [if_pos (by rw [el]; omega)]
  by_cases c : 192 ≤ b
  · rw [if_pos (by simpa using c), wr_u8_id (by omega) (by omega)]
    exact main _ (by omega) (by omega) (by rw [if_pos c])
  · rw [if_neg (by simpa using c)]
    exact main _ (by omega) (by omega) (by rw [if_neg c])
theorem rd_drop {x : List Int} {i : Nat} (j : Nat) : rd x ((i + j : Nat) : Int) = rd (x.drop i) (j : Int) := by
  unfold rd
  rw [Int.toNat_natCast, Int.toNat_natCast]
  simp [List.getElem?_drop]
theorem rd_cons_drop {x : List Int} {i : Nat} {b : Int} {r : List Int} (h : x.drop i = b :: r) : rd x (i : Int) = b ∧ i < x.length ∧ x.drop (i + 1) = r ∧ i + 1 + r.length = x.length := by
  have hl : i < x.length := by
    refine Decidable.byContradiction fun c => ?_
    rw [List.drop_eq_nil_of_le (by omega)] at h
    cases h
  have h1 : x.drop (i + 1) = r := by
    rw [List.drop_eq_getElem_cons hl] at h
    simp only [List.cons.injEq] at h
    exact h.2
  refine ⟨?_, hl, h1, ?_⟩
  · have := rd_drop (x := x) (i := i) 0
    rw [h] at this
    exact this
  · rw [← h1, List.length_drop]; omega
theorem head_loop (x : List Int) (i : Nat) (r : List Int) (y : Int) (m : Nat) (hx : x.length < 1000000) (hr : x.drop (i + 1) = r) (hm : wr .i64 (y - 183) = (m : Int)) (hm8 : m ≤ 8) (hmr : i + 1 + m ≤ x.length) (hb : ∀ x ∈ r, 0 ≤ x ∧ x < 256) : ∀ (d q j : Nat), d < q → j + d = m → smithyref07_head.l1 x (i : Int) y q (j : Int) (imin (val (r.take j)) 1000000000) = smithyref07_head.j2 x (i : Int) y (imin (val (r.take m)) 1000000000) := by
  have hrl : i + 1 + r.length = x.length := by rw [← hr, List.length_drop]; omega
  intro d
  induction d with
  | zero =>
    intro q j hq hj
    obtain ⟨q, rfl⟩ : ∃ m, q = m + 1 := ⟨q - 1, by omega⟩
    show smithyref07_head.b1 _ _ _ _ _ _ = _
    unfold smithyref07_head.b1
    simp only [hm]
    rw [if_neg (by simp; omega), show j = m by omega]
  | succ d ih =>
    intro q j hq hj
    obtain ⟨q, rfl⟩ : ∃ m, q = m + 1 := ⟨q - 1, by omega⟩
    show smithyref07_head.b1 _ _ _ _ _ _ = _
    have hp : wr .i64 (wr .i64 ((i : Int) + 1) + (j : Int)) = ((i + 1 + j : Nat) : Int) := by
      rw [wr_i64_id (x := (i : Int) + 1) (by omega) (by omega), wr_i64_id (by omega) (by omega)]
      omega
    have hrd : rd x ((i + 1 + j : Nat) : Int) = rd r (j : Int) := by rw [rd_drop, hr]
    have hv := val_nonneg hb j
    have hbj := hb _ (rd_mem (l := r) (j := j) (by omega))
    have hi := imin_le (val (r.take j)) 1000000000 hv (by omega)
    have hst := imin_step (val (r.take j)) 1000000000 (rd r (j : Int)) hv (by omega) hbj.1
    rw [← val_snoc, ← take_succ_rd (by omega)] at hst
    unfold smithyref07_head.b1
    simp only [hm, hp, hrd]
    rw [if_pos (by simp; omega), if_pos (by omega), wr_i64_id (x := rd r (j : Int)) (by omega) (by omega), wr_i64_id (x := imin (val (r.take j)) 1000000000 * 256) (by omega) (by omega), wr_i64_id (x := imin (val (r.take j)) 1000000000 * 256 + rd r (j : Int)) (by omega) (by omega)]
    have hj3 : ∀ v : Int, v = imin (val (r.take (j + 1))) 1000000000 → smithyref07_head.j3 (j : Int) (smithyref07_head.l1 x (i : Int) y q) v = smithyref07_head.j2 x (i : Int) y (imin (val (r.take m)) 1000000000) := by
      intro v hv
      unfold smithyref07_head.j3
      rw [hv, wr_i64_id (by omega) (by omega)]
      exact ih q (j + 1) (by omega) (by omega)
    by_cases c : 1000000000 < imin (val (r.take j)) 1000000000 * 256 + rd r (j : Int)
    · rw [if_pos (by simpa using c)]
      refine hj3 _ ?_
      rw [← hst]
      unfold imin at c ⊢
      rw [if_pos (by omega)]
    · rw [if_neg (by simpa using c)]
      refine hj3 _ ?_
      rw [← hst]
      generalize imin (val (r.take j)) 1000000000 = w at c ⊢
      unfold imin
      rw [if_neg (by omega)]
      omega
/-- The document's reading of a head. -/
theorem head_ps (k : Nat) (x : List Int) (i : Nat) (b : Int) (r : List Int) (h : x.drop i = b :: r) (hb0 : 128 ≤ b ∧ b < 256) (hb : ∀ x ∈ r, 0 ≤ x ∧ x < 256) (hx : x.length < 1000000) : smithyref07_head.f (k + 20) x (i : Int) = some (decide (192 ≤ b), (if (ps (b :: r)).1 = 0 then ((x.length - (ps (b :: r)).2.2.length : Nat) : Int) else 0), (if (ps (b :: r)).1 = 0 then imin (ps (b :: r)).2.1 1000000000 else 0), (ps (b :: r)).1) := by
  obtain ⟨g, hi, hr, hl⟩ := rd_cons_drop h
  have main : ∀ y : Int, 128 ≤ y → y < 192 → y = (if 192 ≤ b then b - 64 else b) → smithyref07_head.j1 (k + 20) x (i : Int) y = some (decide (192 ≤ b), (if (ps (b :: r)).1 = 0 then ((x.length - (ps (b :: r)).2.2.length : Nat) : Int) else 0), (if (ps (b :: r)).1 = 0 then imin (ps (b :: r)).2.1 1000000000 else 0), (ps (b :: r)).1) := by
    intro y y1 y2 hy
    have e0 : wr .i64 (rd x (i : Int)) = b := by rw [g, wr_i64_id (by omega) (by omega)]
    have ei : wr .i64 ((i : Int) + 1) = ((i + 1 : Nat) : Int) := by rw [wr_i64_id (by omega) (by omega)]; rfl
    unfold smithyref07_head.j1 ps
    simp only [e0, ei, ← hy]
    by_cases c1 : y ≤ 183
    · rw [if_pos (by simpa using c1), if_pos c1, wr_i64_id (by omega) (by omega)]
      simp only [if_true]
      unfold imin
      rw [if_neg (by omega), show x.length - r.length = i + 1 by omega]
    · rw [if_neg (by simpa using c1), if_neg c1]
      have hm : wr .i64 (y - 183) = (((y - 183).toNat : Nat) : Int) := by
        rw [wr_i64_id (by omega) (by omega)]
        omega
      have hm8 : (y - 183).toNat ≤ 8 ∧ 1 ≤ (y - 183).toNat := by omega
      generalize (y - 183).toNat = m at hm hm8 ⊢
      simp only [hm]
      rw [wr_i64_id (x := ((i + 1 : Nat) : Int) + (m : Int)) (by omega) (by omega)]
      by_cases c2 : r.length < m
      · rw [if_pos (by simp; omega), if_pos c2]
        rfl
      · rw [if_neg (by simp; omega), if_neg c2, if_pos (by omega)]
        have hrd : rd x ((i + 1 : Nat) : Int) = rd r 0 := by
          have := rd_drop (x := x) (i := i + 1) 0
          rw [hr] at this
          exact this
        rw [hrd]
        by_cases c3 : rd r 0 = 0
        · rw [if_pos c3, if_pos (by simpa using c3)]
          rfl
        · rw [if_neg c3, if_neg (by simpa using c3)]
          have := head_loop x i r y m hx hr hm hm8.1 (by omega) hb m (k + 20) 0 (by omega) (by omega)
          have hz : imin (val (r.take 0)) 1000000000 = 0 := rfl
          rw [hz] at this
          refine this.trans ?_
          unfold smithyref07_head.j2
          simp only [hm, e0, ei]
          have hv : 0 ≤ val (r.take m) := val_nonneg hb m
          by_cases c4 : val (r.take m) ≤ 55
          · have : imin (val (r.take m)) 1000000000 ≤ 55 := by unfold imin; split <;> omega
            rw [if_pos (by simpa using this), if_pos c4]
            rfl
          · have : ¬ imin (val (r.take m)) 1000000000 ≤ 55 := by unfold imin; split <;> omega
            rw [if_neg (by simpa using this), if_neg c4, wr_i64_id (by omega) (by omega)]
            simp only [if_true]
            rw [List.length_drop, show x.length - (r.length - m) = i + 1 + m by omega]
            rfl
  unfold smithyref07_head.f
  have e0 : wr .i64 (rd x (i : Int)) = b := by rw [g, wr_i64_id (by omega) (by omega)]
  simp only [e0]
  rw [if_pos (by omega)]
  by_cases c : 192 ≤ b
  · rw [if_pos (by simpa using c), wr_i64_id (by omega) (by omega)]
    exact main _ (by omega) (by omega) (by rw [if_pos c])
  · rw [if_neg (by simpa using c)]
    exact main _ (by omega) (by omega) (by rw [if_neg c])
/-! ### Heads that were written. -/
theorem val_beb (n : Nat) (hn : n < 16777216) : val (beb n) = (n : Int) := by
  unfold beb
  by_cases h1 : n < 256
  · rw [if_pos h1]; simp [val]
  · rw [if_neg h1]
    by_cases h2 : n < 65536
    · rw [if_pos h2]; simp only [val, List.foldl]; omega
    · rw [if_neg h2]; simp only [val, List.foldl]; omega
theorem beb_u8 (n : Nat) (hn : n < 16777216) : ∀ b ∈ beb n, 0 ≤ b ∧ b < 256 := by
  intro b hb
  unfold beb at hb
  by_cases h1 : n < 256
  · rw [if_pos h1] at hb; simp at hb; omega
  · rw [if_neg h1] at hb
    by_cases h2 : n < 65536
    · rw [if_pos h2] at hb; simp at hb; omega
    · rw [if_neg h2] at hb; simp at hb; omega
theorem beb_first (n : Nat) (h : 0 < n) (r : List Int) : rd (beb n ++ r) 0 ≠ 0 := by
  unfold beb
  by_cases h1 : n < 256
  · rw [if_pos h1]; show (n : Int) ≠ 0; omega
  · rw [if_neg h1]
    by_cases h2 : n < 65536
    · rw [if_pos h2]; show ((n / 256 : Nat) : Int) ≠ 0; omega
    · rw [if_neg h2]; show ((n / 65536 : Nat) : Int) ≠ 0; omega
theorem hd_u8 (n o : Nat) (hn : n < 16777216) (ho : o = 0 ∨ o = 64) : ∀ b ∈ hd n o, 0 ≤ b ∧ b < 256 := by
  intro b hb
  unfold hd at hb
  have := beb_len n
  by_cases h : n ≤ 55
  · rw [if_pos h] at hb; simp at hb; omega
  · rw [if_neg h] at hb
    rcases List.mem_cons.1 hb with rfl | hb
    · omega
    · exact beb_u8 n hn b hb
/-- A head that was written, read. -/
theorem ps_hd (n o : Nat) (hn : n < 16777216) (ho : o = 0 ∨ o = 64) (r : List Int) : ∃ b s, hd n o ++ r = b :: s ∧ 128 ≤ b ∧ b < 256 ∧ decide (192 ≤ b) = decide (o = 64) ∧ ps (b :: s) = (0, (n : Int), r) := by
  have hl := beb_len n
  unfold hd
  by_cases h : n ≤ 55
  · rw [if_pos h]
    refine ⟨_, _, rfl, by omega, by omega, ?_, ?_⟩
    · rcases ho with rfl | rfl
      · rw [decide_eq_false (by omega)]; rfl
      · rw [decide_eq_true (by omega)]; rfl
    · unfold ps
      have : (if 192 ≤ ((128 + o + n : Nat) : Int) then ((128 + o + n : Nat) : Int) - 64 else ((128 + o + n : Nat) : Int)) = 128 + n := by
        rcases ho with rfl | rfl
        · rw [if_neg (by omega)]; omega
        · rw [if_pos (by omega)]; omega
      simp only [this]
      rw [if_pos (by omega), show (128 : Int) + n - 128 = n by omega]
      rfl
  · rw [if_neg h]
    refine ⟨_, _, rfl, by omega, by omega, ?_, ?_⟩
    · rcases ho with rfl | rfl
      · rw [decide_eq_false (by omega)]; rfl
      · rw [decide_eq_true (by omega)]; rfl
    · unfold ps
      have : (if 192 ≤ ((183 + o + (beb n).length : Nat) : Int) then ((183 + o + (beb n).length : Nat) : Int) - 64 else ((183 + o + (beb n).length : Nat) : Int)) = 183 + (beb n).length := by
        rcases ho with rfl | rfl
        · rw [if_neg (by omega)]; omega
        · rw [if_pos (by omega)]; omega
      have e2 : (((183 : Int) + (beb n).length) - 183).toNat = (beb n).length := by omega
      simp only [this, e2]
      rw [if_neg (by omega), if_neg (by show ¬ (beb n ++ r).length < _; simp)]
      have e3 : (beb n ++ r).take (beb n).length = beb n := by simp
      have e4 : (beb n ++ r).drop (beb n).length = r := by simp
      show (if rd (beb n ++ r) 0 = 0 then _ else if val ((beb n ++ r).take (beb n).length) ≤ 55 then _ else (0, val ((beb n ++ r).take (beb n).length), (beb n ++ r).drop (beb n).length)) = _
      rw [if_neg (beb_first n (by omega) r), e3, e4, val_beb n hn, if_neg (by omega)]
theorem val_beb_inv : ∀ (l : List Int), (∀ b ∈ l, 0 ≤ b ∧ b < 256) → rd l 0 ≠ 0 → ∀ n : Nat, n < 16777216 → val l = (n : Int) → l.length ≤ 8 → l = beb n := by
  intro l hb hz n hn hv h8
  match l, hb, hz, hv, h8 with
  | [], hb, hz, hv, _ => exact absurd rfl hz
  | [a], hb, hz, hv, _ =>
    have ha := hb a (by simp)
    have hv : 0 * 256 + a = (n : Int) := hv
    unfold beb
    rw [if_pos (by omega), show a = (n : Int) by omega]
  | [a, b], hb, hz, hv, _ =>
    have ha := hb a (by simp)
    have hb' := hb b (by simp)
    have hz : a ≠ 0 := hz
    have hv : (0 * 256 + a) * 256 + b = (n : Int) := hv
    unfold beb
    rw [if_neg (by omega), if_pos (by omega), show a = ((n / 256 : Nat) : Int) by omega, show b = ((n % 256 : Nat) : Int) by omega]
  | [a, b, c], hb, hz, hv, _ =>
    have ha := hb a (by simp)
    have hb' := hb b (by simp)
    have hc := hb c (by simp)
    have hz : a ≠ 0 := hz
    have hv : ((0 * 256 + a) * 256 + b) * 256 + c = (n : Int) := hv
    unfold beb
    rw [if_neg (by omega), if_neg (by omega), show a = ((n / 65536 : Nat) : Int) by omega, show b = ((n / 256 % 256 : Nat) : Int) by omega, show c = ((n % 256 : Nat) : Int) by omega]
  | a :: b :: c :: d :: l, hb, hz, hv, _ =>
    exfalso
    have ha := hb a (by simp)
    have hb' := hb b (by simp)
    have hc := hb c (by simp)
    have hd := hb d (by simp)
    have hz : a ≠ 0 := hz
    have mono : ∀ (l : List Int) (z : Int), (∀ b ∈ l, 0 ≤ b ∧ b < 256) → 0 ≤ z → z ≤ l.foldl (fun a b => a * 256 + b) z := by
      intro l
      induction l with
      | nil => intro z _ _; exact Int.le_refl z
      | cons e l ih =>
        intro z h hz
        have he := h e (by simp)
        have := ih (z * 256 + e) (fun b hb => h b (by simp [hb])) (by omega)
        show z ≤ l.foldl _ (z * 256 + e)
        omega
    have hm := mono l ((((0 * 256 + a) * 256 + b) * 256 + c) * 256 + d) (fun x hx => hb x (by simp [hx])) (by omega)
    have hv : l.foldl (fun a b => a * 256 + b) ((((0 * 256 + a) * 256 + b) * 256 + c) * 256 + d) = (n : Int) := hv
    omega
/-- A head that is read well was written so. -/
theorem ps_inv (b : Int) (r : List Int) (hb0 : 128 ≤ b ∧ b < 256) (hb : ∀ x ∈ r, 0 ≤ x ∧ x < 256) (n : Nat) (hn : n < 16777216) (s : List Int) (h : ps (b :: r) = (0, (n : Int), s)) : b :: r = hd n (if 192 ≤ b then 64 else 0) ++ s := by
  have key : ∀ y o : Int, 128 ≤ y → y < 192 → b = y + o → y = (if 192 ≤ b then b - 64 else b) → ∀ on : Nat, (on : Int) = o → b :: r = hd n on ++ s := by
    intro y o y1 y2 hbo hy on hon
    unfold ps at h
    simp only [← hy] at h
    by_cases c1 : y ≤ 183
    · rw [if_pos c1] at h
      simp only [Prod.mk.injEq, true_and] at h
      obtain ⟨h1, rfl⟩ := h
      unfold hd
      rw [if_pos (by omega), show b = ((128 + on + n : Nat) : Int) by omega]
      rfl
    · rw [if_neg c1] at h
      have hm8 : (y - 183).toNat ≤ 8 ∧ 1 ≤ (y - 183).toNat ∧ (((y - 183).toNat : Nat) : Int) = y - 183 := by omega
      generalize (y - 183).toNat = m at h hm8
      by_cases c2 : r.length < m
      · rw [if_pos c2] at h; cases h
      · rw [if_neg c2] at h
        by_cases c3 : rd r 0 = 0
        · rw [if_pos c3] at h; cases h
        · rw [if_neg c3] at h
          by_cases c4 : val (r.take m) ≤ 55
          · rw [if_pos c4] at h; cases h
          · rw [if_neg c4] at h
            simp only [Prod.mk.injEq, true_and] at h
            obtain ⟨h1, rfl⟩ := h
            have hlen : (r.take m).length = m := by rw [List.length_take]; omega
            have hrd : rd (r.take m) 0 = rd r 0 := by
              unfold rd
              simp [List.getElem?_take, show 0 < m by omega]
            have := val_beb_inv (r.take m) (fun x hx => hb x (List.mem_of_mem_take hx)) (by rw [hrd]; exact c3) n hn h1 (by omega)
            unfold hd
            rw [if_neg (by omega), ← this, hlen, show b = ((183 + on + m : Nat) : Int) by omega, List.cons_append, List.take_append_drop]
  by_cases c : 192 ≤ b
  · rw [if_pos c]; exact key (b - 64) 64 (by omega) (by omega) (by omega) (by rw [if_pos c]) 64 rfl
  · rw [if_neg c]; exact key b 0 (by omega) (by omega) (by omega) (by rw [if_neg c]) 0 rfl
end GW
