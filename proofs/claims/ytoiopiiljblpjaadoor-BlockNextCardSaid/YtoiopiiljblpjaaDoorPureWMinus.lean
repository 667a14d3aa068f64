import Derived.Test.YtoiopiiljblpjaaDoorPureWRefN
set_option linter.unusedVariables false
set_option linter.unusedSimpArgs false
set_option maxRecDepth 100000
namespace GW
open Go Go.RowKit
theorem dvt (B : Int) (w : List Int) (i : Nat) : dv B (w.take (i + 1)) = dv B (w.take i) + w.getD i 0 * B ^ i := by
  by_cases h : i < w.length
  · exact dv_take_succ B h
  · rw [List.take_of_length_le (by omega), List.take_of_length_le (by omega), List.getD_eq_getElem?_getD, List.getElem?_eq_none (by omega)]; simp
theorem minus_loop {x y : List Int} (hx : Dig 256 x) (hy : Dig 256 y) (hxl : x.length < 1000000) : ∀ (r i q : Nat) (c : Int) (acc : List Int), i + r = x.length → r < q → acc.length = i → Dig 256 acc → (0 ≤ c ∧ c ≤ 1) → dv 256 acc = dv 256 (x.take i) - dv 256 (y.take i) + c * 256 ^ i →
    ∃ z c', smithyref02_Minus.l1 x y q (i : Int) c acc = some z ∧ z.length = x.length ∧ Dig 256 z ∧ (0 ≤ c' ∧ c' ≤ 1) ∧ dv 256 z = dv 256 x - dv 256 (y.take x.length) + c' * 256 ^ x.length
  | 0, i, q, c, acc, hi, hq, hal, hd, hc, he => by
    obtain ⟨q, rfl⟩ : ∃ m, q = m + 1 := ⟨q - 1, by omega⟩
    obtain rfl : i = x.length := by omega
    refine ⟨acc, c, ?_, hal, hd, hc, by rw [he, List.take_length]⟩
    show smithyref02_Minus.b1 x y _ _ _ _ = _
    unfold smithyref02_Minus.b1 smithyref02_Minus.j1
    rw [if_neg (by simp)]
  | r + 1, i, q, c, acc, hi, hq, hal, hd, hc, he => by
    obtain ⟨q, rfl⟩ : ∃ m, q = m + 1 := ⟨q - 1, by omega⟩
    have h1 := hx.rd (by omega) i
    have h2 := hy.rd (by omega) i
    have e : ∃ u v : Int, (0 ≤ u ∧ u < 256) ∧ (0 ≤ v ∧ v ≤ 1) ∧ x.getD i 0 - y.getD i 0 - c + 256 * v = u ∧ smithyref02_Minus.l1 x y (q + 1) (i : Int) c acc = smithyref02_Minus.l1 x y q ((i + 1 : Nat) : Int) v (acc ++ [u]) := by
      have es : smithyref02_Minus.l1 x y (q + 1) (i : Int) c acc = smithyref02_Minus.b1 x y (smithyref02_Minus.l1 x y q) (i : Int) c acc := rfl
      rw [es]
      unfold smithyref02_Minus.b1 smithyref02_Minus.j2
      rw [if_pos (by simp; omega), if_pos (by omega), atN_eq, Option.bind_some, rd_getD, wr_i64_id (x := x.getD i 0 - y.getD i 0) (by omega) (by omega), wr_i64_id (x := x.getD i 0 - y.getD i 0 - c) (by omega) (by omega), show wr .i64 ((i : Int) + 1) = ((i + 1 : Nat) : Int) from by rw [wr_i64_id (by omega) (by omega)]; omega]
      by_cases cc : x.getD i 0 - y.getD i 0 - c < 0
      · rw [if_pos (by simpa using cc), if_pos (by simp; omega), wr_i64_id (by omega) (by omega)]
        exact ⟨_, 1, by omega, by omega, by omega, rfl⟩
      · rw [if_neg (by simpa using cc), if_pos (by simp; omega)]
        exact ⟨_, 0, by omega, by omega, by omega, rfl⟩
    obtain ⟨u, v, hu, hv, huv, e⟩ := e
    rw [e]
    refine minus_loop hx hy hxl r (i + 1) q v _ (by omega) (by omega) (by simp [hal]) (hd.snoc hu) hv ?_
    rw [dv_append, dvt, dvt, hal, he]
    simp only [dv, Int.mul_zero, Int.add_zero]
    rw [Int.pow_succ, ← huv]
    grind
theorem minusN_eq (k : Nat) {x y : List Int} (hx : Dig 256 x) (hy : Dig 256 y) (hxl : x.length < 1000000) (hk : x.length < k) (hle : dv 256 y ≤ dv 256 x) : ∃ z, smithyref02_Minus.f k x y = some z ∧ z.length = x.length ∧ Dig 256 z ∧ dv 256 z = dv 256 x - dv 256 y := by
  obtain ⟨z, c', e, hl, hd, hc, hv⟩ := minus_loop hx hy hxl x.length 0 k 0 [] (by omega) hk rfl (Dig.nil _) (by omega) (by simp [dv])
  refine ⟨z, e, hl, hd, ?_⟩
  have h1 := dv_lt (by omega) hx
  have h3 := dv_lt (by omega) hd
  rw [hl] at h3
  have hy2 : dv 256 y = dv 256 (y.take x.length) + 256 ^ x.length * dv 256 (y.drop x.length) := by
    by_cases h : x.length ≤ y.length
    · have := dv_append 256 (y.take x.length) (y.drop x.length)
      rw [List.take_append_drop, List.length_take, Nat.min_eq_left h] at this
      exact this
    · rw [List.take_of_length_le (by omega), List.drop_eq_nil_of_le (by omega)]; simp [dv]
  have h4 := (dv_lt (by omega) (hy.take x.length)).1
  have h5 := (dv_lt (by omega) (hy.drop x.length)).1
  have hz : dv 256 (y.drop x.length) = 0 := by
    refine Decidable.byContradiction fun hn => ?_
    have : 256 ^ x.length * 1 ≤ 256 ^ x.length * dv 256 (y.drop x.length) := Int.mul_le_mul_of_nonneg_left (by omega) (Int.le_of_lt (Int.pow_pos (by omega)))
    omega
  rw [hz, Int.mul_zero, Int.add_zero] at hy2
  rw [hy2]
  have : c' = 0 ∨ c' = 1 := by omega
  rcases this with rfl | rfl <;> omega
theorem strip_loop (y33 : Int) (rec1 : List Int → Int → List Int → Option (List Int × List Int)) (y53 : List Int) : ∀ (n q : Nat) (y : List Int), y.length = n → n < q → n < 1000000 → Dig 256 y → ∃ y', smithyref02_Div.l2 y33 rec1 y53 q y = smithyref02_Div.j2 y33 rec1 y' y53 ∧ Dig 256 y' ∧ dv 256 y' = dv 256 y ∧ (y' = [] ∨ 256 ^ (y'.length - 1) ≤ dv 256 y')
  | 0, q, y, hl, hq, hn, hd => by
    obtain ⟨q, rfl⟩ : ∃ m, q = m + 1 := ⟨q - 1, by omega⟩
    refine ⟨y, ?_, hd, rfl, .inl (List.eq_nil_of_length_eq_zero hl)⟩
    show smithyref02_Div.b2 _ _ _ _ _ = _
    unfold smithyref02_Div.b2 smithyref02_Div.j4
    rw [if_neg (by rw [hl]; simp), if_neg (by simp)]
  | n + 1, q, y, hl, hq, hn, hd => by
    obtain ⟨q, rfl⟩ : ∃ m, q = m + 1 := ⟨q - 1, by omega⟩
    have hw : wr .i64 ((y.length : Int) - 1) = ((n : Nat) : Int) := by rw [wr_i64_id (by omega) (by omega)]; omega
    have hg := hd.rd (by omega) n
    have hs : dv 256 y = dv 256 (y.take n) + y.getD n 0 * 256 ^ n := by
      have := dvt 256 y n
      rw [List.take_of_length_le (by omega)] at this
      exact this
    by_cases c : y.getD n 0 = 0
    · obtain ⟨y', e, h1, h2, h3⟩ := strip_loop y33 rec1 y53 n q (y.take n) (by rw [List.length_take]; omega) (by omega) (by omega) (hd.take n)
      refine ⟨y', ?_, h1, by rw [h2, hs, c]; simp, h3⟩
      refine Eq.trans ?_ e
      show smithyref02_Div.b2 _ _ _ _ _ = _
      unfold smithyref02_Div.b2 smithyref02_Div.j4
      rw [if_pos (by simp; omega), hw, if_pos (by omega), rd_getD, c, if_pos (by simp), if_pos (by omega), Int.toNat_natCast]
    · refine ⟨y, ?_, hd, rfl, .inr ?_⟩
      · show smithyref02_Div.b2 _ _ _ _ _ = _
        unfold smithyref02_Div.b2 smithyref02_Div.j4
        rw [if_pos (by simp; omega), hw, if_pos (by omega), rd_getD, if_neg (by simpa using c)]
      · rw [hl, Nat.add_sub_cancel, hs]
        have h1 := (dv_lt (by omega) (hd.take n)).1
        have h2 : 1 * 256 ^ n ≤ y.getD n 0 * 256 ^ n := Int.mul_le_mul_of_nonneg_right (by omega) (Int.le_of_lt (Int.pow_pos (by omega)))
        omega
theorem off_loop (k : Nat) {m : List Int} (hm : Dig 256 m) (hml : m.length < 1000) (hm0 : 0 < dv 256 m) (i : Nat) (rec1 : List Int → Int → List Int → Option (List Int × List Int)) (n0 : Nat) (hn0 : n0 < 2000) (hk : 3000 < k) : ∀ (c q : Nat) (y z : List Int) (r : Int), dv 256 y = c * dv 256 m + r → (0 ≤ r ∧ r < dv 256 m) → c < q → y.length = n0 → Dig 256 y → i < z.length → (0 ≤ z.getD i 0 ∧ z.getD i 0 + c < 256) →
    ∃ y' z', smithyref02_Div.l3 k m (i : Int) rec1 q y z = smithyref02_Div.j3 k (i : Int) rec1 y' z' ∧ y'.length = n0 ∧ Dig 256 y' ∧ dv 256 y' = r ∧ z' = z.set i (z.getD i 0 + c)
  | 0, q, y, z, r, he, hr, hq, hl, hd, hi, hz => by
    obtain ⟨q, rfl⟩ : ∃ m, q = m + 1 := ⟨q - 1, by omega⟩
    have he' : dv 256 y = r := by rw [he]; simp
    refine ⟨y, z, ?_, hl, hd, he', ?_⟩
    · show smithyref02_Div.b3 _ _ _ _ _ _ _ = _
      unfold smithyref02_Div.b3
      rw [lessN_eq k hd hm (by omega) (by omega) (by omega), Option.bind_some, decide_eq_true (by omega), if_neg (by simp)]
    · refine List.ext_getElem (by simp) fun j h1 h2 => ?_
      by_cases c : i = j
      · subst c; rw [List.getElem_set_self, List.getD_eq_getElem?_getD, List.getElem?_eq_getElem h1]; simp
      · rw [List.getElem_set_ne c]
  | c + 1, q, y, z, r, he, hr, hq, hl, hd, hi, hz => by
    obtain ⟨q, rfl⟩ : ∃ m, q = m + 1 := ⟨q - 1, by omega⟩
    have hc : ((c + 1 : Nat) : Int) * dv 256 m = (c : Int) * dv 256 m + dv 256 m := by
      rw [show ((c + 1 : Nat) : Int) = (c : Int) + 1 by omega, Int.add_mul, Int.one_mul]
    have hcm : 0 ≤ (c : Int) * dv 256 m := Int.mul_nonneg (by omega) (by omega)
    rw [hc] at he
    obtain ⟨y1, m1, m2, m3, m4⟩ := minusN_eq k hd hm (by omega) (by omega) (by omega)
    obtain ⟨y', z', e, f1, f2, f3, f4⟩ := off_loop k hm hml hm0 i rec1 n0 hn0 hk c q y1 (z.set i (z.getD i 0 + 1)) r (by omega) hr (by omega) (by omega) m3 (by simpa using hi) (by rw [List.getD_eq_getElem?_getD, List.getElem?_set_self hi]; show 0 ≤ z.getD i 0 + 1 ∧ z.getD i 0 + 1 + (c : Int) < 256; omega)
    refine ⟨y', z', ?_, f1, f2, f3, ?_⟩
    · refine Eq.trans ?_ e
      show smithyref02_Div.b3 _ _ _ _ _ _ _ = _
      unfold smithyref02_Div.b3
      rw [lessN_eq k hd hm (by omega) (by omega) (by omega), Option.bind_some, decide_eq_false (by omega), if_pos (by simp), m1, Option.bind_some, if_pos (by omega), rd_getD, wr_i64_id (by omega) (by omega), Int.toNat_natCast]
    · rw [f4, List.set_set, List.getD_eq_getElem?_getD (l := z.set i _), List.getElem?_set_self hi]
      simp only [Option.getD_some]
      refine congrArg _ ?_
      omega
theorem ediv_step (a N m : Int) (hm : 0 < m) (ha : 0 ≤ a ∧ a < 256) (hN : 0 ≤ N) : (a + 256 * N) / m = 256 * (N / m) + (a + 256 * (N % m)) / m ∧ (a + 256 * N) % m = (a + 256 * (N % m)) % m ∧ 0 ≤ (a + 256 * (N % m)) / m ∧ (a + 256 * (N % m)) / m < 256 := by
  have h1 : a + 256 * N = (a + 256 * (N % m)) + m * (256 * (N / m)) := by
    have := Int.mul_ediv_add_emod N m
    grind
  have h2 := Int.emod_nonneg N (show m ≠ 0 by omega)
  have h3 := Int.emod_lt_of_pos N hm
  refine ⟨?_, ?_, Int.ediv_nonneg (by omega) (by omega), ?_⟩
  · rw [h1, Int.add_mul_ediv_left _ _ (by omega)]; omega
  · rw [h1, Int.add_mul_emod_self_left]
  · refine Int.ediv_lt_of_lt_mul hm ?_
    omega
theorem div_loop (k : Nat) {x m : List Int} (hx : Dig 256 x) (hxl : x.length < 1000) (hm : Dig 256 m) (hml : m.length < 1000) (hm0 : 0 < dv 256 m) (hk : 3000 < k) : ∀ (r q : Nat) (y z : List Int), r ≤ x.length → r < q → Dig 256 y → (y = [] ∨ 256 ^ (y.length - 1) ≤ dv 256 y) → dv 256 y = dv 256 (x.drop r) % dv 256 m → z.length = x.length → Dig 256 z → (∀ j, j < r → z.getD j 0 = 0) → dv 256 (z.drop r) = dv 256 (x.drop r) / dv 256 m →
    ∃ z' y', smithyref02_Div.l1 k x m q y ((r : Int) - 1) z = some (z', y') ∧ z'.length = x.length ∧ Dig 256 z' ∧ dv 256 z' = dv 256 x / dv 256 m
  | 0, q, y, z, hr, hq, hy, hys, he, hzl, hz, hz0, hze => by
    obtain ⟨q, rfl⟩ : ∃ m, q = m + 1 := ⟨q - 1, by omega⟩
    refine ⟨z, y, ?_, hzl, hz, hze⟩
    show smithyref02_Div.b1 _ _ _ _ _ _ _ = _
    unfold smithyref02_Div.b1 smithyref02_Div.j1
    rw [if_neg (by simp)]
  | r + 1, q, y, z, hr, hq, hy, hys, he, hzl, hz, hz0, hze => by
    obtain ⟨q, rfl⟩ : ∃ m, q = m + 1 := ⟨q - 1, by omega⟩
    rw [show ((r + 1 : Nat) : Int) - 1 = (r : Int) by omega]
    have hxr := hx.rd (by omega) r
    have hN := (dv_lt (by omega) (hx.drop (r + 1))).1
    have hdrop : dv 256 (x.drop r) = x.getD r 0 + 256 * dv 256 (x.drop (r + 1)) := by
      rw [List.drop_eq_getElem_cons (by omega), dv, List.getD_eq_getElem?_getD, List.getElem?_eq_getElem (by omega)]; rfl
    have hzdrop : dv 256 (z.drop r) = z.getD r 0 + 256 * dv 256 (z.drop (r + 1)) := by
      rw [List.drop_eq_getElem_cons (by omega), dv, List.getD_eq_getElem?_getD, List.getElem?_eq_getElem (by omega)]; rfl
    obtain ⟨d1, d2, d3, d4⟩ := ediv_step (x.getD r 0) (dv 256 (x.drop (r + 1))) (dv 256 m) hm0 hxr hN
    have hmlt := dv_lt (by omega) hm
    have hyl : y.length ≤ m.length := by
      rcases hys with rfl | h
      · simp
      · refine Decidable.byContradiction fun hc => ?_
        have h1 := Int.emod_lt_of_pos (dv 256 (x.drop (r + 1))) hm0
        have h2 : (256 : Int) ^ m.length ≤ 256 ^ (y.length - 1) := pow_le_pow (by omega) (by omega)
        omega
    obtain ⟨c, hc⟩ := Int.eq_ofNat_of_zero_le d3
    have hnd : Dig 256 (x.getD r 0 :: y) := fun v hv => by
      rcases List.mem_cons.1 hv with rfl | hv
      · exact hxr
      · exact hy v hv
    have hnv : dv 256 (x.getD r 0 :: y) = c * dv 256 m + dv 256 (x.drop r) % dv 256 m := by
      rw [dv, he, hdrop, d2, ← hc]
      have := Int.mul_ediv_add_emod (x.getD r 0 + 256 * (dv 256 (x.drop (r + 1)) % dv 256 m)) (dv 256 m)
      grind
    have hz00 := hz0 r (by omega)
    obtain ⟨y1, z1, e1, f1, f2, f3, f4⟩ := off_loop k hm hml hm0 r (smithyref02_Div.l1 k x m q) (y.length + 1) (by omega) hk c k (x.getD r 0 :: y) z _ hnv ⟨Int.emod_nonneg _ (by omega), Int.emod_lt_of_pos _ hm0⟩ (by omega) rfl hnd (by omega) (by rw [hz00]; omega)
    obtain ⟨y2, e2, g1, g2, g3⟩ := strip_loop (r : Int) (smithyref02_Div.l1 k x m q) z1 y1.length k y1 rfl (by omega) (by omega) f2
    rw [hz00, Int.zero_add] at f4
    have hzs : Dig 256 z1 := by rw [f4]; exact hz.set r (by omega)
    have hz1d : z1.drop (r + 1) = z.drop (r + 1) := by rw [f4, List.drop_set_of_lt (by omega)]
    have hz1r : z1.getD r 0 = (c : Int) := by rw [f4, List.getD_eq_getElem?_getD, List.getElem?_set_self (by omega)]; rfl
    have hz1l : z1.length = x.length := by rw [f4, List.length_set, hzl]
    have hz1drop : dv 256 (z1.drop r) = z1.getD r 0 + 256 * dv 256 (z1.drop (r + 1)) := by
      rw [List.drop_eq_getElem_cons (by omega), dv, List.getD_eq_getElem?_getD, List.getElem?_eq_getElem (by omega)]; rfl
    obtain ⟨z', y', e3, h1, h2, h3⟩ := div_loop k hx hxl hm hml hm0 hk r q y2 z1 (by omega) (by omega) g1 g3 (by rw [g2, f3]) hz1l hzs
      (fun j hj => by rw [f4, List.getD_eq_getElem?_getD, List.getElem?_set_ne (by omega), ← List.getD_eq_getElem?_getD, hz0 j (by omega)])
      (by rw [hz1drop, hz1d, hze, hz1r, hdrop, d1, hc]; omega)
    refine ⟨z', y', ?_, h1, h2, h3⟩
    refine Eq.trans ?_ e3
    show smithyref02_Div.b1 _ _ _ _ _ _ _ = _
    unfold smithyref02_Div.b1
    rw [if_pos (by simp), if_pos (by omega), rd_getD, if_pos (by simp; omega)]
    refine e1.trans ?_
    unfold smithyref02_Div.j3
    refine e2.trans ?_
    unfold smithyref02_Div.j2
    rw [wr_i64_id (by omega) (by omega)]
theorem divN_eq (k : Nat) {x m : List Int} (hx : Dig 256 x) (hxl : x.length < 1000) (hm : Dig 256 m) (hml : m.length < 1000) (hm0 : 0 < dv 256 m) (hk : 3000 < k) : ∃ z y, smithyref02_Div.f k x m = some (z, y) ∧ z.length = x.length ∧ Dig 256 z ∧ dv 256 z = dv 256 x / dv 256 m := by
  have hrep : Dig 256 (List.replicate x.length (0 : Int)) := fun y hy => by rw [List.eq_of_mem_replicate hy]; omega
  have hrg : ∀ j, (List.replicate x.length (0 : Int)).getD j 0 = 0 := fun j => by rw [List.getD_eq_getElem?_getD, List.getElem?_replicate]; split <;> rfl
  obtain ⟨z, y, e, h1, h2, h3⟩ := div_loop k hx hxl hm hml hm0 hk x.length k [] (List.replicate x.length 0) (Nat.le_refl _) (by omega) (Dig.nil _) (.inl rfl) (by rw [List.drop_length]; simp [dv]) (by simp) hrep (fun j _ => hrg j) (by rw [List.drop_of_length_le (by simp), List.drop_length]; simp [dv])
  refine ⟨z, y, ?_, h1, h2, h3⟩
  unfold smithyref02_Div.f
  rw [if_pos (by omega), zeroN_eq k hm (by omega) (by omega), Option.bind_some, decide_eq_false (by omega), if_neg (by simp), wr_i64_id (by omega) (by omega), Int.toNat_natCast]
  exact e
end GW
