import Derived.Test.YtoiopiiljblpjaaDoorPureWRefD
set_option linter.unusedVariables false
set_option linter.unusedSimpArgs false
set_option maxRecDepth 100000
namespace GW
open Go Go.RowKit
theorem ofN_loop {d : List Int} (hl : d.length = 32) : ∀ (r i q : Nat) (acc : List Int), i + r = 32 → r < q → acc = d.take i → smithyref02_Of.l1 d q (i : Int) acc = some d
  | 0, i, q, acc, hi, hq, ha => by
    obtain ⟨q, rfl⟩ : ∃ m, q = m + 1 := ⟨q - 1, by omega⟩
    obtain rfl : i = 32 := by omega
    show smithyref02_Of.b1 d _ _ _ = _
    unfold smithyref02_Of.b1 smithyref02_Of.j1
    rw [if_neg (by simp), ha, List.take_of_length_le (by omega)]
  | r + 1, i, q, acc, hi, hq, ha => by
    obtain ⟨q, rfl⟩ : ∃ m, q = m + 1 := ⟨q - 1, by omega⟩
    have hal : acc.length = i := by rw [ha, List.length_take]; omega
    show smithyref02_Of.b1 d _ _ _ = _
    unfold smithyref02_Of.b1
    rw [if_pos (by simp; omega), if_pos (by omega), if_pos (by simp; omega), show wr .i64 ((i : Int) + 1) = ((i + 1 : Nat) : Int) from by rw [wr_i64_id (by omega) (by omega)]; omega]
    exact ofN_loop hl r (i + 1) q _ (by omega) (by omega) (by rw [ha, rd_getD, take_snoc (by omega)])
theorem ofN_eq (k : Nat) {a : List Int} (ha : Wd a) : ∃ d, smithyref02_Of.f (k + 40) a = some d ∧ d.length = 32 ∧ Dig 256 d ∧ dv 256 d = wv a := by
  obtain ⟨d, e, hl, hd, hv⟩ := ofD_eq k ha
  refine ⟨d, ?_, hl, hd, hv⟩
  unfold smithyref02_Of.f
  rw [e, Option.bind_some]
  exact ofN_loop hl 32 0 (k + 40) [] (by omega) (by omega) rfl
theorem atN_eq (x : List Int) (i : Nat) : smithyref02_at.f x (i : Int) = some (x.getD i 0) := by
  unfold smithyref02_at.f
  by_cases h : i < x.length
  · rw [if_pos (by simp; omega), if_pos (by omega), rd_getD]
  · rw [if_neg (by simp; omega), List.getD_eq_getElem?_getD, List.getElem?_eq_none (by omega)]; rfl
theorem plus_loop {x y : List Int} (hx : Dig 256 x) (hy : Dig 256 y) (hxl : x.length < 1000000) (hyl : y.length < 1000000) : ∀ (r i q : Nat) (c : Int) (acc : List Int), i + r = max x.length y.length + 1 → r < q → acc.length = i → Dig 256 acc → (0 ≤ c ∧ c ≤ 1) → dv 256 acc + c * 256 ^ i = dv 256 (x.take i) + dv 256 (y.take i) →
    ∃ z, smithyref02_Plus.l1 x y q (i : Int) c acc = some z ∧ z.length = max x.length y.length + 1 ∧ Dig 256 z ∧ (∃ c', (0 ≤ c' ∧ c' ≤ 1) ∧ dv 256 z + c' * 256 ^ (max x.length y.length + 1) = dv 256 x + dv 256 y)
  | 0, i, q, c, acc, hi, hq, hal, hd, hc, he => by
    obtain ⟨q, rfl⟩ : ∃ m, q = m + 1 := ⟨q - 1, by omega⟩
    refine ⟨acc, ?_, by omega, hd, c, hc, ?_⟩
    · show smithyref02_Plus.b1 x y _ _ _ _ = _
      unfold smithyref02_Plus.b1 smithyref02_Plus.j1
      rw [if_neg]
      have : imax (x.length : Int) (y.length : Int) = ((max x.length y.length : Nat) : Int) := by unfold imax; split <;> omega
      rw [this, wr_i64_id (by omega) (by omega)]
      simp; omega
    · rw [List.take_of_length_le (by omega), List.take_of_length_le (by omega)] at he
      rw [← he, show max x.length y.length + 1 = i by omega]
  | r + 1, i, q, c, acc, hi, hq, hal, hd, hc, he => by
    obtain ⟨q, rfl⟩ : ∃ m, q = m + 1 := ⟨q - 1, by omega⟩
    have hm : imax (x.length : Int) (y.length : Int) = ((max x.length y.length : Nat) : Int) := by unfold imax; split <;> omega
    have h1 := hx.rd (by omega) i
    have h2 := hy.rd (by omega) i
    have e : smithyref02_Plus.l1 x y (q + 1) (i : Int) c acc = smithyref02_Plus.l1 x y q ((i + 1 : Nat) : Int) ((x.getD i 0 + y.getD i 0 + c) / 256) (acc ++ [(x.getD i 0 + y.getD i 0 + c) % 256]) := by
      show smithyref02_Plus.b1 x y _ _ _ _ = _
      unfold smithyref02_Plus.b1
      rw [if_pos (by rw [hm, wr_i64_id (by omega) (by omega)]; simp; omega), atN_eq, Option.bind_some, atN_eq, Option.bind_some, if_pos (by simp; omega), show wr .i64 ((i : Int) + 1) = ((i + 1 : Nat) : Int) from by rw [wr_i64_id (by omega) (by omega)]; omega]
      rw [wr_i64_id (x := x.getD i 0 + y.getD i 0) (by omega) (by omega), wr_i64_id (x := x.getD i 0 + y.getD i 0 + c) (by omega) (by omega), tdiv_pos (by omega), tmod_pos (by omega), wr_i64_id (by omega) (by omega)]
    rw [e]
    refine plus_loop hx hy hxl hyl r (i + 1) q _ _ (by omega) (by omega) (by simp [hal]) (hd.snoc (by omega)) (by omega) ?_
    have tk : ∀ w : List Int, dv 256 (w.take (i + 1)) = dv 256 (w.take i) + w.getD i 0 * 256 ^ i := fun w => by
      by_cases h : i < w.length
      · exact dv_take_succ 256 h
      · rw [List.take_of_length_le (by omega), List.take_of_length_le (by omega), List.getD_eq_getElem?_getD, List.getElem?_eq_none (by omega)]; simp
    rw [dv_append, tk x, tk y, hal]
    simp only [dv, Int.mul_zero, Int.add_zero]
    have h5 : (x.getD i 0 + y.getD i 0 + c) = (x.getD i 0 + y.getD i 0 + c) % 256 + 256 * ((x.getD i 0 + y.getD i 0 + c) / 256) := by omega
    generalize (x.getD i 0 + y.getD i 0 + c) % 256 = u at *
    generalize (x.getD i 0 + y.getD i 0 + c) / 256 = v at *
    rw [Int.pow_succ]
    grind
theorem pow_le_pow {B : Int} (hB : 0 < B) {m n : Nat} (h : m ≤ n) : B ^ m ≤ B ^ n := by
  obtain ⟨d, rfl⟩ := Nat.exists_eq_add_of_le h
  rw [Int.pow_add]
  have := Int.pow_pos (n := B) (m := d) hB
  have h4 : B ^ m * 1 ≤ B ^ m * B ^ d := Int.mul_le_mul_of_nonneg_left (by omega) (Int.le_of_lt (Int.pow_pos hB))
  omega
theorem plusN_eq (k : Nat) {x y : List Int} (hx : Dig 256 x) (hy : Dig 256 y) (hxl : x.length < 1000000) (hyl : y.length < 1000000) (hk : max x.length y.length + 1 < k) : ∃ z, smithyref02_Plus.f k x y = some z ∧ z.length = max x.length y.length + 1 ∧ Dig 256 z ∧ dv 256 z = dv 256 x + dv 256 y := by
  obtain ⟨z, e, hl, hd, c', hc, hv⟩ := plus_loop hx hy hxl hyl (max x.length y.length + 1) 0 k 0 [] (by omega) hk rfl (Dig.nil _) (by omega) (by simp [dv])
  refine ⟨z, e, hl, hd, ?_⟩
  have h1 := dv_lt (by omega) hx
  have h2 := dv_lt (by omega) hy
  have h3 := dv_lt (by omega) hd
  have h4 : (256 : Int) ^ x.length ≤ 256 ^ (max x.length y.length) := pow_le_pow (by omega) (by omega)
  have h5 : (256 : Int) ^ y.length ≤ 256 ^ (max x.length y.length) := pow_le_pow (by omega) (by omega)
  rw [Int.pow_succ] at hv
  generalize (256 : Int) ^ (max x.length y.length) = p at *
  have : c' = 0 ∨ c' = 1 := by omega
  rcases this with rfl | rfl <;> omega
theorem zero_loop {x : List Int} (hx : Dig 256 x) (hxl : x.length < 1000000) : ∀ (r i q : Nat), i + r = x.length → r < q → dv 256 (x.take i) = 0 → smithyref02_Zero.l1 x q (i : Int) = some (decide (dv 256 x = 0))
  | 0, i, q, hi, hq, he => by
    obtain ⟨q, rfl⟩ : ∃ m, q = m + 1 := ⟨q - 1, by omega⟩
    show smithyref02_Zero.b1 x _ _ = _
    unfold smithyref02_Zero.b1 smithyref02_Zero.j1
    rw [List.take_of_length_le (by omega)] at he
    rw [if_neg (by simp; omega), he]; rfl
  | r + 1, i, q, hi, hq, he => by
    obtain ⟨q, rfl⟩ : ∃ m, q = m + 1 := ⟨q - 1, by omega⟩
    show smithyref02_Zero.b1 x _ _ = _
    unfold smithyref02_Zero.b1
    rw [if_pos (by simp; omega), if_pos (by omega), rd_getD]
    by_cases c : x.getD i 0 = 0
    · rw [if_neg (by simpa using c), show wr .i64 ((i : Int) + 1) = ((i + 1 : Nat) : Int) from by rw [wr_i64_id (by omega) (by omega)]; omega]
      exact zero_loop hx hxl r (i + 1) q (by omega) (by omega) (by rw [dv_take_succ 256 (by omega), he, c]; simp)
    · rw [if_pos (by simpa using c)]
      refine congrArg some (Eq.symm (decide_eq_false ?_))
      have h1 := dv_split 256 x i
      have h2 := hx.rd (by omega) i
      have h3 := (dv_lt (by omega) (hx.drop (i + 1))).1
      have h4 : (0 : Int) < 256 ^ i := Int.pow_pos (by omega)
      have h5 : (0 : Int) < 256 ^ (i + 1) := Int.pow_pos (by omega)
      have h6 : 1 * 256 ^ i ≤ x.getD i 0 * 256 ^ i := Int.mul_le_mul_of_nonneg_right (by omega) (by omega)
      have h7 : 0 ≤ 256 ^ (i + 1) * dv 256 (x.drop (i + 1)) := Int.mul_nonneg (by omega) h3
      omega
theorem zeroN_eq (k : Nat) {x : List Int} (hx : Dig 256 x) (hxl : x.length < 1000000) (hk : x.length < k) : smithyref02_Zero.f k x = some (decide (dv 256 x = 0)) :=
  zero_loop hx hxl x.length 0 k (by omega) hk rfl
theorem highN_eq (x : List Int) (hx : Dig 256 x) : smithyref02_N_High.f x = some (x.drop 32) ∧ Dig 256 (x.drop 32) ∧ dv 256 x = dv 256 (x.take 32) + 256 ^ 32 * dv 256 (x.drop 32) ∧ (0 ≤ dv 256 (x.take 32) ∧ dv 256 (x.take 32) < 256 ^ 32) := by
  refine ⟨?_, hx.drop 32, ?_, ?_⟩
  · unfold smithyref02_N_High.f
    by_cases h : x.length ≤ 32
    · rw [if_pos (by simp; omega), List.drop_eq_nil_of_le h]
    · rw [if_neg (by simp; omega), if_pos (by omega)]; rfl
  · by_cases h : 32 ≤ x.length
    · have := dv_append 256 (x.take 32) (x.drop 32)
      rw [List.take_append_drop, List.length_take, Nat.min_eq_left h] at this
      exact this
    · rw [List.take_of_length_le (by omega), List.drop_eq_nil_of_le (by omega)]; simp [dv]
  · obtain ⟨h1, h2⟩ := dv_lt (by omega) (hx.take 32)
    exact ⟨h1, Int.lt_of_lt_of_le h2 (pow_le_pow (by omega) (by rw [List.length_take]; omega))⟩
theorem less_loop {x y : List Int} (hx : Dig 256 x) (hy : Dig 256 y) : ∀ (r q : Nat), r ≤ 10000000 → r < q → (∀ j, r ≤ j → x.getD j 0 = y.getD j 0) → smithyref02_Less.l1 x y q ((r : Int) - 1) = some (decide (dv 256 x < dv 256 y))
  | 0, q, hr, hq, h => by
    obtain ⟨q, rfl⟩ : ∃ m, q = m + 1 := ⟨q - 1, by omega⟩
    show smithyref02_Less.b1 x y _ _ = _
    unfold smithyref02_Less.b1 smithyref02_Less.j1
    rw [if_neg (by simp), dv_ext 256 x y (fun j => h j (by omega))]
    simp
  | r + 1, q, hr, hq, h => by
    obtain ⟨q, rfl⟩ : ∃ m, q = m + 1 := ⟨q - 1, by omega⟩
    rw [show ((r + 1 : Nat) : Int) - 1 = (r : Int) from by omega]
    show smithyref02_Less.b1 x y _ _ = _
    unfold smithyref02_Less.b1
    rw [if_pos (by simp)]
    simp only [atN_eq, Option.bind_some]
    by_cases c : x.getD r 0 = y.getD r 0
    · rw [if_neg (by simpa using c), wr_i64_id (by omega) (by omega)]
      refine less_loop hx hy r q (by omega) (by omega) (fun j hj => ?_)
      by_cases e : j = r
      · subst e; exact c
      · exact h j (by omega)
    rw [if_pos (by simpa using c)]
    by_cases c1 : x.getD r 0 < y.getD r 0
    · have := dv_at (by omega) hx hy r (fun j hj => h j (by omega)) c1
      rw [decide_eq_true c1, decide_eq_true this]
    · have := dv_at (by omega) hy hx r (fun j hj => (h j (by omega)).symm) (by omega)
      rw [decide_eq_false c1, decide_eq_false (by omega)]
theorem lessN_eq (k : Nat) {x y : List Int} (hx : Dig 256 x) (hy : Dig 256 y) (hxl : x.length < 1000000) (hyl : y.length < 1000000) (hk : max x.length y.length < k) : smithyref02_Less.f k x y = some (decide (dv 256 x < dv 256 y)) := by
  unfold smithyref02_Less.f
  have hm : imax (x.length : Int) (y.length : Int) = ((max x.length y.length : Nat) : Int) := by unfold imax; split <;> omega
  rw [hm, wr_i64_id (by omega) (by omega)]
  exact less_loop hx hy (max x.length y.length) k (by omega) hk (fun j hj => by rw [List.getD_eq_getElem?_getD, List.getD_eq_getElem?_getD, List.getElem?_eq_none (by omega), List.getElem?_eq_none (by omega)])
end GW
