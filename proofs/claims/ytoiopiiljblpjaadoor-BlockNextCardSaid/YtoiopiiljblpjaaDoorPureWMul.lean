import Derived.Test.YtoiopiiljblpjaaDoorPureWBase
import Derived.Laws.Bits64b
set_option linter.unusedVariables false
set_option linter.unusedSimpArgs false
set_option maxRecDepth 100000
namespace GW
open Go Go.RowKit
theorem half_hi (x : Int) (h : 0 ≤ x) : shr x 32 = x / 4294967296 := by
  unfold shr
  rw [Int.fdiv_eq_ediv_of_nonneg _ (by decide)]
  rfl
theorem half_lo (x : Int) (h : 0 ≤ x) (h1 : x < 18446744073709551616) : bits .and .u64 x 4294967295 = x % 4294967296 := by
  obtain ⟨n, rfl⟩ := Int.eq_ofNat_of_zero_le h
  rw [show (4294967295 : Int) = ((4294967295 : Nat) : Int) from rfl, bits_and_u64_nat n 4294967295 (by omega) (by omega)]
  have : n &&& 4294967295 = n % 4294967296 := Nat.and_two_pow_sub_one_eq_mod n 32
  rw [this]
  omega
theorem prod_le (a b A B : Int) (ha : 0 ≤ a ∧ a ≤ A) (hb : 0 ≤ b ∧ b ≤ B) : 0 ≤ a * b ∧ a * b ≤ A * B :=
  ⟨Int.mul_nonneg ha.1 hb.1, Int.mul_le_mul ha.2 hb.2 hb.1 (by omega)⟩
theorem mul64_eq {x y : Int} (hx : 0 ≤ x ∧ x < 18446744073709551616) (hy : 0 ≤ y ∧ y < 18446744073709551616) :
    bits_Mul64.f x y = some (x * y / 18446744073709551616, x * y % 18446744073709551616) ∧ 0 ≤ x * y ∧ x * y ≤ 340282366920938463426481119284349108225 := by
  have hP := prod_le x y 18446744073709551615 18446744073709551615 (by omega) (by omega)
  refine ⟨?_, hP.1, by omega⟩
  unfold bits_Mul64.f
  rw [half_hi x hx.1, half_hi y hy.1, half_lo x hx.1 hx.2, half_lo y hy.1 hy.2]
  have ex : x = x % 4294967296 + 4294967296 * (x / 4294967296) := by omega
  have ey : y = y % 4294967296 + 4294967296 * (y / 4294967296) := by omega
  have bx0 : 0 ≤ x % 4294967296 ∧ x % 4294967296 ≤ 4294967295 := by omega
  have bx1 : 0 ≤ x / 4294967296 ∧ x / 4294967296 ≤ 4294967295 := by omega
  have by0 : 0 ≤ y % 4294967296 ∧ y % 4294967296 ≤ 4294967295 := by omega
  have by1 : 0 ≤ y / 4294967296 ∧ y / 4294967296 ≤ 4294967295 := by omega
  generalize x % 4294967296 = x0 at *
  generalize x / 4294967296 = x1 at *
  generalize y % 4294967296 = y0 at *
  generalize y / 4294967296 = y1 at *
  have pa := prod_le x0 y0 4294967295 4294967295 bx0 by0
  have pb := prod_le x1 y0 4294967295 4294967295 bx1 by0
  have pc := prod_le x0 y1 4294967295 4294967295 bx0 by1
  have pd := prod_le x1 y1 4294967295 4294967295 bx1 by1
  have e : x * y = x0 * y0 + 4294967296 * (x1 * y0 + x0 * y1) + 18446744073709551616 * (x1 * y1) := by rw [ex, ey]; grind
  rw [e] at hP
  rw [e]
  clear e ex ey hx hy
  generalize x0 * y0 = a at *
  generalize x1 * y0 = b at *
  generalize x0 * y1 = c at *
  generalize x1 * y1 = d at *
  rw [wr_u64_id (x := d) (by omega) (by omega), wr_u64_id (x := b) (by omega) (by omega), wr_u64_id (x := a) (by omega) (by omega), wr_u64_id (x := c) (by omega) (by omega), half_hi a pa.1]
  rw [wr_u64_id (x := b + a / 4294967296) (by omega) (by omega)]
  have ht : 0 ≤ b + a / 4294967296 ∧ b + a / 4294967296 < 18446744073709551616 := by omega
  generalize htt : b + a / 4294967296 = t at *
  rw [half_hi t ht.1, half_lo t ht.1 ht.2, wr_u64_id (x := t % 4294967296 + c) (by omega) (by omega), half_hi _ (by omega)]
  rw [wr_u64_id (x := d + t / 4294967296) (by omega) (by omega), wr_u64_id (x := d + t / 4294967296 + _) (by omega) (by omega), wr_u64]
  refine congrArg some (Prod.ext ?_ rfl)
  show d + t / 4294967296 + (t % 4294967296 + c) / 4294967296 = _
  omega
def BB : Int := 18446744073709551616
theorem prow_step (x y all : List Int) (rec1 : Int → List Int → Option (List Int × List Int)) (q i j : Nat) (c : Int) (hi : i < 4) (hj : j < 4) (hx : Dig BB x) (hy : Dig BB y) (ha : Dig BB all) (hc : 0 ≤ c ∧ c < BB) :
    ∃ c' v, wide_Product.l2 x y (i : Int) rec1 (q + 1) (j : Int) c all = wide_Product.l2 x y (i : Int) rec1 q ((j + 1 : Nat) : Int) c' (all.set (i + j) v) ∧ (0 ≤ c' ∧ c' < BB) ∧ (0 ≤ v ∧ v < BB) ∧ v + BB * c' = x.getD i 0 * y.getD j 0 + all.getD (i + j) 0 + c := by
  have hB : (0 : Int) < BB := by decide
  have h1 := hx.rd hB i
  have h2 := hy.rd hB j
  have h3 := ha.rd hB (i + j)
  unfold BB at h1 h2 h3 hc ⊢
  obtain ⟨m1, m2, m3⟩ := mul64_eq h1 h2
  have hw : wr .i64 ((i : Int) + (j : Int)) = ((i + j : Nat) : Int) := by rw [wr_i64_id (by omega) (by omega)]; omega
  have e : wide_Product.l2 x y (i : Int) rec1 (q + 1) (j : Int) c all = wide_Product.b2 x y (i : Int) rec1 (wide_Product.l2 x y (i : Int) rec1 q) (j : Int) c all := rfl
  rw [e]
  unfold wide_Product.b2
  rw [if_pos (by simp; omega), if_pos (by omega), if_pos (by omega), rd_getD, rd_getD, m1, Option.bind_some, hw, rd_getD, if_pos (by omega)]
  simp only []
  generalize x.getD i 0 * y.getD j 0 = p at *
  generalize all.getD (i + j) 0 = u at *
  rw [if_pos (by omega), if_pos (by omega), Int.toNat_natCast, show wr .i64 ((j : Int) + 1) = ((j + 1 : Nat) : Int) from by rw [wr_i64_id (by omega) (by omega)]; omega]
  rw [wr_u64_id (x := p / 18446744073709551616 + _) (by omega) (by omega), wr_u64_id (by omega) (by omega)]
  exact ⟨_, _, rfl, by omega, by omega, by omega⟩
theorem prow (x y : List Int) (rec1 : Int → List Int → Option (List Int × List Int)) (i : Nat) (hi : i < 4) (hx : Dig BB x) (hy : Dig BB y) (hyl : y.length = 4) : ∀ (r j q : Nat) (c : Int) (all : List Int), j + r = 4 → r < q → all.length = 8 → Dig BB all → (0 ≤ c ∧ c < BB) →
    ∃ c' all', wide_Product.l2 x y (i : Int) rec1 q (j : Int) c all = wide_Product.j3 (i : Int) rec1 c' all' ∧ (0 ≤ c' ∧ c' < BB) ∧ all'.length = 8 ∧ Dig BB all' ∧ (∀ p, i + 4 ≤ p → all'.getD p 0 = all.getD p 0) ∧
      dv BB all' + c' * BB ^ (i + 4) = dv BB all + c * BB ^ (i + j) + x.getD i 0 * (dv BB y - dv BB (y.take j)) * BB ^ i
  | 0, j, q, c, all, hj, hq, hl, ha, hc => by
    obtain ⟨q, rfl⟩ : ∃ m, q = m + 1 := ⟨q - 1, by omega⟩
    obtain rfl : j = 4 := by omega
    refine ⟨c, all, ?_, hc, hl, ha, fun p _ => rfl, ?_⟩
    · show wide_Product.b2 x y _ _ _ _ _ _ = _
      unfold wide_Product.b2
      rw [if_neg (by simp)]
    · rw [List.take_of_length_le (by omega), Int.sub_self, Int.mul_zero, Int.zero_mul, Int.add_zero]
  | r + 1, j, q, c, all, hj, hq, hl, ha, hc => by
    obtain ⟨q, rfl⟩ : ∃ m, q = m + 1 := ⟨q - 1, by omega⟩
    obtain ⟨c1, v, e1, hc1, hv, e2⟩ := prow_step x y all rec1 q i j c hi (by omega) hx hy ha hc
    obtain ⟨c', all', f1, f2, f3, f4, f5, f6⟩ := prow x y rec1 i hi hx hy hyl r (j + 1) q c1 (all.set (i + j) v) (by omega) (by omega) (by simpa using hl) (ha.set _ hv) hc1
    refine ⟨c', all', e1.trans f1, f2, f3, f4, fun p hp => ?_, ?_⟩
    · rw [f5 p hp, List.getD_eq_getElem?_getD, List.getElem?_set_ne (by omega), ← List.getD_eq_getElem?_getD]
    · rw [f6, dv_set _ _ _ _ (by omega), dv_take_succ BB (a := y) (i := j) (by omega)]
      have e3 : BB ^ (i + (j + 1)) = BB * BB ^ (i + j) := by rw [← Nat.add_assoc, Int.pow_succ, Int.mul_comm]
      have e4 : BB ^ (i + j) = BB ^ i * BB ^ j := Int.pow_add _ _ _
      rw [e3, e4]
      have e5 : v = x.getD i 0 * y.getD j 0 + all.getD (i + j) 0 + c - BB * c1 := by omega
      rw [e5]
      grind
theorem prod_loop (k : Nat) (hk : 5 ≤ k) (x y : List Int) (hx : Dig BB x) (hy : Dig BB y) (hxl : x.length = 4) (hyl : y.length = 4) : ∀ (r i q : Nat) (all : List Int), i + r = 4 → r < q → all.length = 8 → Dig BB all → (∀ p, i + 4 ≤ p → all.getD p 0 = 0) → dv BB all = dv BB (x.take i) * dv BB y →
    ∃ all', wide_Product.l1 k x y q (i : Int) all = wide_Product.j1 all' ∧ all'.length = 8 ∧ Dig BB all' ∧ dv BB all' = dv BB x * dv BB y
  | 0, i, q, all, hi, hq, hl, ha, hz, he => by
    obtain ⟨q, rfl⟩ : ∃ m, q = m + 1 := ⟨q - 1, by omega⟩
    obtain rfl : i = 4 := by omega
    refine ⟨all, ?_, hl, ha, ?_⟩
    · show wide_Product.b1 k x y _ _ _ = _
      unfold wide_Product.b1
      rw [if_neg (by simp)]
    · rw [he, List.take_of_length_le (by omega)]
  | r + 1, i, q, all, hi, hq, hl, ha, hz, he => by
    obtain ⟨q, rfl⟩ : ∃ m, q = m + 1 := ⟨q - 1, by omega⟩
    obtain ⟨c', all1, f1, f2, f3, f4, f5, f6⟩ := prow x y (wide_Product.l1 k x y q) i (by omega) hx hy hyl 4 0 k 0 all rfl (by omega) hl ha (by decide)
    have e1 : wide_Product.l1 k x y (q + 1) (i : Int) all = wide_Product.l1 k x y q ((i + 1 : Nat) : Int) (all1.set (i + 4) c') := by
      show wide_Product.b1 k x y _ _ _ = _
      unfold wide_Product.b1
      rw [if_pos (by simp; omega)]
      refine f1.trans ?_
      unfold wide_Product.j3
      have hw : wr .i64 ((i : Int) + 4) = ((i + 4 : Nat) : Int) := by rw [wr_i64_id (by omega) (by omega)]; omega
      rw [hw, if_pos (by omega), Int.toNat_natCast]
      unfold wide_Product.j2
      rw [show wr .i64 ((i : Int) + 1) = ((i + 1 : Nat) : Int) from by rw [wr_i64_id (by omega) (by omega)]; omega]
    have hz1 : all1.getD (i + 4) 0 = 0 := (f5 (i + 4) (by omega)).trans (hz (i + 4) (by omega))
    obtain ⟨all', g1, g2, g3, g4⟩ := prod_loop k hk x y hx hy hxl hyl r (i + 1) q (all1.set (i + 4) c') (by omega) (by omega) (by simpa using f3) (f4.set _ f2)
      (fun p hp => by rw [List.getD_eq_getElem?_getD, List.getElem?_set_ne (by omega), ← List.getD_eq_getElem?_getD, f5 p (by omega), hz p (by omega)])
      (by
        rw [dv_set _ _ _ _ (by omega), hz1, dv_take_succ BB (a := x) (i := i) (by omega)]
        rw [he] at f6
        simp only [List.take_zero, dv] at f6
        grind)
    exact ⟨all', e1.trans g1, g2, g3, g4⟩
theorem product_eq (k : Nat) {a b : List Int} (ha : Wd a) (hb : Wd b) : ∃ lo hi, wide_Product.f (k + 5) a b = some (lo, hi) ∧ Wd lo ∧ Wd hi ∧ wv lo + 115792089237316195423570985008687907853269984665640564039457584007913129639936 * wv hi = wv a * wv b := by
  have dg : ∀ {x : List Int}, Wd x → Dig BB x := fun h y hy => inK_u64 (h.2 y hy)
  obtain ⟨all, e, hl, hd, hv⟩ := prod_loop (k + 5) (by omega) a b (dg ha) (dg hb) ha.1 hb.1 4 0 (k + 5) [0, 0, 0, 0, 0, 0, 0, 0] rfl (by omega) rfl (by unfold Dig; decide)
    (fun p hp => by
      match p with
      | 0 | 1 | 2 | 3 => omega
      | 4 | 5 | 6 | 7 => rfl
      | p + 8 => rfl)
    (by simp only [List.take_zero, dv]; omega)
  refine ⟨(all.drop 0).take 4, (all.drop 4).take 4, ?_, ⟨by simp [hl], fun y hy => ?_⟩, ⟨by simp [hl], fun y hy => ?_⟩, ?_⟩
  · unfold wide_Product.f
    exact e
  · obtain ⟨h0, h1⟩ := hd y (List.drop_subset _ _ (List.take_subset _ _ hy))
    exact inK_of_u64 h0 h1
  · obtain ⟨h0, h1⟩ := hd y (List.drop_subset _ _ (List.take_subset _ _ hy))
    exact inK_of_u64 h0 h1
  · rw [wv_dv (by simp [hl]), wv_dv (by simp [hl]), wv_dv ha.1, wv_dv hb.1]
    have h1 : dv BB all = dv BB (all.take 4) + BB ^ 4 * dv BB (all.drop 4) := by
      have := dv_append BB (all.take 4) (all.drop 4)
      rw [List.take_append_drop, List.length_take, Nat.min_eq_left (by omega)] at this
      exact this
    rw [List.drop_zero, List.take_of_length_le (l := all.drop 4) (by simp [hl])]
    rw [show (18446744073709551616 : Int) = BB from rfl, ← hv, h1]
    rfl
end GW
