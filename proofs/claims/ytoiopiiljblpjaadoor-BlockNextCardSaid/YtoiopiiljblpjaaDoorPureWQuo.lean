import Derived.Test.YtoiopiiljblpjaaDoorPureWAdd
import Derived.Test.YtoiopiiljblpjaaDoorPureWSub
import Derived.Test.YtoiopiiljblpjaaDoorPureWCmp
import Derived.Laws.Bits64b
set_option linter.unusedVariables false
set_option linter.unusedSimpArgs false
set_option maxRecDepth 100000
namespace GW
open Go Go.RowKit
theorem wv_limb {a : List Int} (h : Wd a) (j : Nat) (hj : j < 4) : a.getD j 0 = wv a / 18446744073709551616 ^ j % 18446744073709551616 := by
  obtain ⟨a0, a1, a2, a3, rfl, h0, h1, h2, h3⟩ := h.lanes
  rw [wv_lanes]
  match j, hj with
  | 0, _ => show a0 = _; simp only [Int.pow_zero, Int.ediv_one]; omega
  | 1, _ => show a1 = _; rw [Int.pow_one]; omega
  | 2, _ => show a2 = _; rw [show (18446744073709551616 : Int) ^ 2 = 340282366920938463463374607431768211456 from rfl]; omega
  | 3, _ => show a3 = _; rw [show (18446744073709551616 : Int) ^ 3 = 6277101735386680763835789423207666416102355444464034512896 from rfl]; omega
theorem shr63 (x : Int) (h : 0 ≤ x) : shr x 63 = x / 9223372036854775808 := by
  unfold shr
  rw [Int.fdiv_eq_ediv_of_nonneg _ (by decide)]
  rfl
theorem shl1 (x : Int) : shl .u64 x 1 = (x * 2) % 18446744073709551616 := by
  unfold shl
  exact wr_u64 _
theorem or_low (x b : Int) (hx : 0 ≤ x ∧ x < 18446744073709551616) (he : x % 2 = 0) (hb : 0 ≤ b ∧ b < 2) : bits .or .u64 x b = x + b := by
  obtain ⟨n, rfl⟩ := Int.eq_ofNat_of_zero_le hx.1
  obtain ⟨m, rfl⟩ := Int.eq_ofNat_of_zero_le hb.1
  rw [bits_or_u64_nat n m (by omega) (by omega)]
  have : n ||| m = n + m := by
    have h := Nat.shiftLeft_add_eq_or_of_lt (i := 1) (b := m) (by omega) (n / 2)
    rw [Nat.shiftLeft_eq, show n / 2 * 2 ^ 1 = n by omega] at h
    exact h.symm
  rw [this]; omega
theorem part_eq (a : List Int) (i : Int) : word_part.f a i = if 0 ≤ i ∧ i ≤ 3 then some (rd a i) else some 0 := by
  unfold word_part.f word_part.j1
  by_cases c : i < 0
  · rw [if_pos (by simpa using c), if_pos rfl, if_neg (by omega)]
  · rw [if_neg (by simpa using c)]
    by_cases c2 : 3 < i
    · rw [if_pos (by simpa using c2), if_neg (by omega)]
    · rw [if_neg (by simpa using c2), if_pos (by omega), if_pos (by omega)]
theorem shl_step (a acc : List Int) (q i : Nat) (hi : i < 4) (hx : 0 ≤ rd a i ∧ rd a i < 18446744073709551616) (p : Int) (hp : (if i = 0 then 0 else rd a ((i - 1 : Nat) : Int)) = p) (hpb : 0 ≤ p ∧ p < 18446744073709551616) :
    word_Shl.l1 a 1 (q + 1) (i : Int) acc = word_Shl.l1 a 1 q ((i + 1 : Nat) : Int) (acc.set i ((rd a i * 2) % 18446744073709551616 + p / 9223372036854775808)) := by
  show word_Shl.b1 _ _ _ _ _ = _
  unfold word_Shl.b1
  have e0 : wr .i64 (wr .u64 (Int.tdiv 1 64)) = 0 := by decide
  have e1 : wr .i64 ((i : Int) - 0) = (i : Int) := by rw [wr_i64_id (by omega) (by omega)]; omega
  have e2 : Int.tmod 1 64 = 1 := by decide
  have e3 : wr .u64 (64 - 1) = 63 := by decide
  have e4 : wr .i64 ((i : Int) - 1) = (i : Int) - 1 := wr_i64_id (by omega) (by omega)
  rw [if_pos (by simp; omega), e0, e1, e2, e3, e4, part_eq, if_pos (by omega), Option.bind_some, if_pos (by omega), part_eq]
  have hpp : (if 0 ≤ (i : Int) - 1 ∧ (i : Int) - 1 ≤ 3 then some (rd a ((i : Int) - 1)) else some 0) = some p := by
    by_cases c : i = 0
    · rw [if_neg (by omega)]; rw [if_pos c] at hp; rw [hp]
    · rw [if_pos (by omega)]; rw [if_neg c] at hp; rw [← hp, show ((i - 1 : Nat) : Int) = (i : Int) - 1 by omega]
  rw [hpp, Option.bind_some, if_pos (by omega), if_pos (by omega), show min (Int.toNat 1) 64 = 1 from rfl, show min (Int.toNat 63) 64 = 63 from rfl, shl1, shr63 p hpb.1, or_low _ _ (by omega) (by omega) (by omega), Int.toNat_natCast, show wr .i64 ((i : Int) + 1) = ((i + 1 : Nat) : Int) from by rw [wr_i64_id (by omega) (by omega)]; omega]
theorem shl1_eq (k : Nat) {a : List Int} (ha : Wd a) : ∃ c, word_Shl.f (k + 5) a 1 = some c ∧ Wd c ∧ wv c = (2 * wv a) % 115792089237316195423570985008687907853269984665640564039457584007913129639936 := by
  obtain ⟨a0, a1, a2, a3, rfl, h0, h1, h2, h3⟩ := ha.lanes
  have r0 : ∀ x0 x1 x2 x3 : Int, rd [x0, x1, x2, x3] ((0 : Nat) : Int) = x0 := fun _ _ _ _ => rfl
  have r1 : ∀ x0 x1 x2 x3 : Int, rd [x0, x1, x2, x3] ((1 : Nat) : Int) = x1 := fun _ _ _ _ => rfl
  have r2 : ∀ x0 x1 x2 x3 : Int, rd [x0, x1, x2, x3] ((2 : Nat) : Int) = x2 := fun _ _ _ _ => rfl
  have r3 : ∀ x0 x1 x2 x3 : Int, rd [x0, x1, x2, x3] ((3 : Nat) : Int) = x3 := fun _ _ _ _ => rfl
  unfold word_Shl.f
  rw [if_neg (by simp), show (word_Shl.l1 [a0, a1, a2, a3] 1 (k + 5) 0 [0, 0, 0, 0]) = word_Shl.l1 [a0, a1, a2, a3] 1 (k + 4 + 1) ((0 : Nat) : Int) [0, 0, 0, 0] from rfl]
  rw [shl_step _ _ _ 0 (by omega) (by rw [r0]; exact h0) 0 rfl (by omega), r0]
  rw [show k + 4 = k + 3 + 1 from rfl, shl_step _ _ _ 1 (by omega) (by rw [r1]; exact h1) a0 rfl h0, r1]
  rw [show k + 3 = k + 2 + 1 from rfl, shl_step _ _ _ 2 (by omega) (by rw [r2]; exact h2) a1 rfl h1, r2]
  rw [show k + 2 = k + 1 + 1 from rfl, shl_step _ _ _ 3 (by omega) (by rw [r3]; exact h3) a2 rfl h2, r3]
  refine ⟨_, rfl, Wd.mk ?_ ?_ ?_ ?_, ?_⟩
  · omega
  · omega
  · omega
  · omega
  · refine (wv_lanes _ _ _ _).trans ?_
    rw [wv_lanes]
    omega
theorem pow64 (i : Nat) : (2 : Int) ^ i = 18446744073709551616 ^ (i / 64) * 2 ^ (i % 64) := by
  rw [show (18446744073709551616 : Int) = 2 ^ 64 from rfl, ← Int.pow_mul, ← Int.pow_add, Nat.div_add_mod]
theorem pow2_le {m : Nat} (h : m < 64) : (0 : Int) < 2 ^ m ∧ (2 : Int) ^ m ≤ 9223372036854775808 := by
  refine ⟨Int.pow_pos (by omega), ?_⟩
  have : (2 : Nat) ^ m ≤ 2 ^ 63 := Nat.pow_le_pow_right (by omega) (by omega)
  have e : ((2 ^ m : Nat) : Int) = 2 ^ m := by simp
  rw [← e]; omega
theorem bitW_eq {a : List Int} (ha : Wd a) (i : Nat) (hi : i < 256) : word_Bit.f a (wr .u64 (i : Int)) = some (decide (wv a / 2 ^ i % 2 = 1)) := by
  have hj : i / 64 < 4 := by omega
  have hl := wv_limb ha (i / 64) hj
  have hb : 0 ≤ a.getD (i / 64) 0 ∧ a.getD (i / 64) 0 < 18446744073709551616 := by rw [hl]; omega
  have hp := pow2_le (show i % 64 < 64 by omega)
  unfold word_Bit.f
  rw [wr_u64_id (x := (i : Int)) (by omega) (by omega), if_pos (by simp; omega), tdiv_pos (by omega), tmod_pos (by omega), wr_u64_id (by omega) (by omega), show (i : Int) / 64 = ((i / 64 : Nat) : Int) by omega, if_pos (by omega), if_pos (by omega), show min (Int.toNat ((i : Int) % 64)) 64 = i % 64 by omega, rd_getD]
  have es : shr (a.getD (i / 64) 0) (i % 64) = a.getD (i / 64) 0 / 2 ^ (i % 64) := by
    unfold shr
    rw [Int.fdiv_eq_ediv_of_nonneg _ (by omega)]
  have hq : 0 ≤ a.getD (i / 64) 0 / 2 ^ (i % 64) ∧ a.getD (i / 64) 0 / 2 ^ (i % 64) < 18446744073709551616 := by
    refine ⟨Int.ediv_nonneg hb.1 (by omega), Int.lt_of_le_of_lt (Int.ediv_le_self _ hb.1) hb.2⟩
  rw [es]
  have key : a.getD (i / 64) 0 / 2 ^ (i % 64) % 2 = wv a / 2 ^ i % 2 := by
    rw [hl, pow64 i, ← Int.ediv_ediv_of_nonneg (Int.le_of_lt (Int.pow_pos (by omega)))]
    generalize wv a / 18446744073709551616 ^ (i / 64) = z
    have e64 : (18446744073709551616 : Int) = 2 ^ (i % 64) * (2 * 2 ^ (63 - i % 64)) := by
      have : (18446744073709551616 : Int) = 2 ^ (i % 64 + (1 + (63 - i % 64))) := by rw [show i % 64 + (1 + (63 - i % 64)) = 64 by omega]; rfl
      rw [this, Int.pow_add, Int.pow_add, Int.pow_one]
    have h1 : z = z % 18446744073709551616 + 2 ^ (i % 64) * (2 * (2 ^ (63 - i % 64) * (z / 18446744073709551616))) := by
      have := Int.emod_add_mul_ediv z 18446744073709551616
      have h2 : 18446744073709551616 * (z / 18446744073709551616) = 2 ^ (i % 64) * (2 * (2 ^ (63 - i % 64) * (z / 18446744073709551616))) := by
        rw [e64, Int.mul_assoc, Int.mul_assoc]
      omega
    have h3 : z / 2 ^ (i % 64) = z % 18446744073709551616 / 2 ^ (i % 64) + 2 * (2 ^ (63 - i % 64) * (z / 18446744073709551616)) := by
      have := Int.add_mul_ediv_left (z % 18446744073709551616) (2 * (2 ^ (63 - i % 64) * (z / 18446744073709551616))) (show (2 : Int) ^ (i % 64) ≠ 0 by omega)
      rw [← h1] at this
      exact this
    rw [h3]; omega
  generalize a.getD (i / 64) 0 / 2 ^ (i % 64) = v at *
  obtain ⟨n, rfl⟩ := Int.eq_ofNat_of_zero_le hq.1
  rw [show (1 : Int) = ((1 : Nat) : Int) from rfl, bits_and_u64_nat n 1 (by omega) (by omega), Nat.and_one_is_mod, ← key]
  refine congrArg some ?_
  by_cases c : n % 2 = 1
  · rw [c, decide_eq_true (by omega)]; rfl
  · rw [show n % 2 = 0 by omega, decide_eq_false (by omega)]; rfl
theorem setbit {q : List Int} (hq : Wd q) (i : Nat) (hi : i < 256) (Q : Int) (hQ : wv q = Q * 2 ^ (i + 1)) : ∃ q', q.set (i / 64) (bits .or .u64 (q.getD (i / 64) 0) (shl .u64 1 (i % 64))) = q' ∧ Wd q' ∧ wv q' = (2 * Q + 1) * 2 ^ i := by
  have hj : i / 64 < 4 := by omega
  have hl := wv_limb hq (i / 64) hj
  have hb : 0 ≤ q.getD (i / 64) 0 ∧ q.getD (i / 64) 0 < 18446744073709551616 := by rw [hl]; omega
  have hp := pow2_le (show i % 64 < 64 by omega)
  have es : shl .u64 1 (i % 64) = 2 ^ (i % 64) := by
    unfold shl
    rw [Int.one_mul]
    exact wr_u64_id (by omega) (by omega)
  have hz : ∃ n : Nat, q.getD (i / 64) 0 = ((n * 2 ^ (i % 64 + 1) : Nat) : Int) := by
    have e64 : (18446744073709551616 : Int) = 2 ^ (i % 64 + 1) * 2 ^ (63 - i % 64) := by
      have : (18446744073709551616 : Int) = 2 ^ (i % 64 + 1 + (63 - i % 64)) := by rw [show i % 64 + 1 + (63 - i % 64) = 64 by omega]; rfl
      rw [this, Int.pow_add]
    have e1 : wv q / 18446744073709551616 ^ (i / 64) = Q * 2 ^ (i % 64 + 1) := by
      rw [hQ, Int.pow_succ, pow64 i]
      have : Q * (18446744073709551616 ^ (i / 64) * 2 ^ (i % 64) * 2) = Q * 2 ^ (i % 64 + 1) * 18446744073709551616 ^ (i / 64) := by rw [Int.pow_succ]; grind
      rw [this, Int.mul_ediv_cancel _ (Int.ne_of_gt (Int.pow_pos (by omega)))]
    have e2 : q.getD (i / 64) 0 = (Q % 2 ^ (63 - i % 64)) * 2 ^ (i % 64 + 1) := by
      rw [hl, e1, Int.mul_comm Q, e64, Int.mul_emod_mul_of_pos _ _ (Int.pow_pos (by omega)), Int.mul_comm]
    have e3 : 0 ≤ Q % 2 ^ (63 - i % 64) := Int.emod_nonneg _ (Int.ne_of_gt (Int.pow_pos (by omega)))
    obtain ⟨n, hn⟩ := Int.eq_ofNat_of_zero_le e3
    exact ⟨n, by rw [e2, hn]; simp⟩
  obtain ⟨n, hn⟩ := hz
  have ho : bits .or .u64 (q.getD (i / 64) 0) (2 ^ (i % 64)) = q.getD (i / 64) 0 + 2 ^ (i % 64) ∧ q.getD (i / 64) 0 + 2 ^ (i % 64) < 18446744073709551616 := by
    have e2 : ((2 ^ (i % 64) : Nat) : Int) = 2 ^ (i % 64) := by simp
    rw [hn, ← e2]
    have hlt : n * 2 ^ (i % 64 + 1) < 18446744073709551616 := by have := hb.2; rw [hn] at this; omega
    have hlt2 : 2 ^ (i % 64) < 18446744073709551616 := by have := hp.2; rw [← e2] at this; omega
    have hor : n * 2 ^ (i % 64 + 1) ||| 2 ^ (i % 64) = n * 2 ^ (i % 64 + 1) + 2 ^ (i % 64) := by
      have h := Nat.shiftLeft_add_eq_or_of_lt (i := i % 64 + 1) (b := 2 ^ (i % 64)) (Nat.pow_lt_pow_right (by omega) (by omega)) n
      rw [Nat.shiftLeft_eq] at h
      exact h.symm
    have hlt3 : n * 2 ^ (i % 64 + 1) ||| 2 ^ (i % 64) < 2 ^ 64 := Nat.or_lt_two_pow (by omega) (by omega)
    rw [hor] at hlt3
    refine ⟨by rw [bits_or_u64_nat _ _ hlt hlt2, hor]; simp, by omega⟩
  refine ⟨_, rfl, ?_, ?_⟩
  · rw [es, ho.1]
    refine ⟨by simpa using hq.1, fun y hy => ?_⟩
    rcases List.mem_or_eq_of_mem_set hy with h | rfl
    · exact hq.2 y h
    · exact inK_of_u64 (by omega) (by omega)
  · rw [es, ho.1, wv_dv (by simpa using hq.1), dv_set _ _ _ _ (by rw [hq.1]; exact hj), ← wv_dv hq.1, hQ, Int.add_comm (q.getD (i / 64) 0), Int.add_sub_cancel, Int.pow_succ, pow64 i]
    grind
theorem two_step (N by_ : Int) (hb : 0 < by_) (hN : 0 ≤ N) (b : Int) (h2 : 0 ≤ b ∧ b < 2) :
    (2 * N + b) / by_ = 2 * (N / by_) + (if by_ ≤ 2 * (N % by_) + b then 1 else 0) ∧ (2 * N + b) % by_ = 2 * (N % by_) + b - (if by_ ≤ 2 * (N % by_) + b then by_ else 0) := by
  have h1 := Int.emod_nonneg N (show by_ ≠ 0 by omega)
  have h3 := Int.emod_lt_of_pos N hb
  have e := Int.mul_ediv_add_emod N by_
  generalize N % by_ = r at *
  generalize N / by_ = d at *
  have e2 : 2 * N + b = 2 * r + b + by_ * (2 * d) := by grind
  rw [e2, Int.add_mul_ediv_left _ _ (by omega), Int.add_mul_emod_self_left]
  by_cases c : by_ ≤ 2 * r + b
  · rw [if_pos c, if_pos c]
    have e3 : 2 * r + b = (2 * r + b - by_) + by_ * 1 := by omega
    constructor
    · rw [e3, Int.add_mul_ediv_left _ _ (by omega), Int.ediv_eq_zero_of_lt (by omega) (by omega)]; omega
    · rw [e3, Int.add_mul_emod_self_left, Int.emod_eq_of_lt (by omega) (by omega)]; omega
  · rw [if_neg c, if_neg c]
    constructor
    · rw [Int.ediv_eq_zero_of_lt (by omega) (by omega)]; omega
    · rw [Int.emod_eq_of_lt (by omega) (by omega)]; omega
theorem ediv_two (N : Int) (i : Nat) (hN : 0 ≤ N) : N / 2 ^ i = 2 * (N / 2 ^ (i + 1)) + N / 2 ^ i % 2 := by
  rw [Int.pow_succ, ← Int.ediv_ediv_of_nonneg (Int.le_of_lt (Int.pow_pos (by omega)))]
  omega
theorem quo_loop (k : Nat) (hk : 20 ≤ k) {low by_ : List Int} (hl : Wd low) (hb : Wd by_) (hb0 : 0 < wv by_) (hbs : wv by_ < 57896044618658097711785492504343953926634992332820282019728792003956564819968) (N : Int) (hN : 0 ≤ N) (hNl : ∀ i : Nat, i < 256 → N / 2 ^ i % 2 = wv low / 2 ^ i % 2) : ∀ (r q : Nat) (left quo : List Int), r ≤ 256 → r < q → Wd left → wv left = N / 2 ^ r % wv by_ → Wd quo → wv quo = N / 2 ^ r / wv by_ * 2 ^ r →
    ∃ z, fee_quotient.l1 k low by_ q ((r : Int) - 1) left quo = some z ∧ Wd z ∧ wv z = N / wv by_
  | 0, q, left, quo, hr, hq, hle, hlv, hqu, hqv => by
    obtain ⟨q, rfl⟩ : ∃ m, q = m + 1 := ⟨q - 1, by omega⟩
    refine ⟨quo, ?_, hqu, by rw [hqv]; simp⟩
    show fee_quotient.b1 _ _ _ _ _ _ _ = _
    unfold fee_quotient.b1 fee_quotient.j1
    rw [if_neg (by simp)]
  | r + 1, q, left, quo, hr, hq, hle, hlv, hqu, hqv => by
    obtain ⟨q, rfl⟩ : ∃ m, q = m + 1 := ⟨q - 1, by omega⟩
    rw [show ((r + 1 : Nat) : Int) - 1 = (r : Int) by omega]
    obtain ⟨k, rfl⟩ : ∃ m, k = m + 5 := ⟨k - 5, by omega⟩
    have hNr : 0 ≤ N / 2 ^ (r + 1) := Int.ediv_nonneg hN (Int.le_of_lt (Int.pow_pos (by omega)))
    have hm0 := Int.emod_nonneg (N / 2 ^ (r + 1)) (show wv by_ ≠ 0 by omega)
    have hm1 := Int.emod_lt_of_pos (N / 2 ^ (r + 1)) hb0
    obtain ⟨l2, a1, a2, a3⟩ := shl1_eq k hle
    have e2 := ediv_two N r hN
    have hbit : 0 ≤ N / 2 ^ r % 2 ∧ N / 2 ^ r % 2 < 2 := by omega
    obtain ⟨t1, t2⟩ := two_step (N / 2 ^ (r + 1)) (wv by_) hb0 hNr (N / 2 ^ r % 2) hbit
    rw [← e2] at t1 t2
    rw [hlv, Int.emod_eq_of_lt (by omega) (by omega)] at a3
    have key : ∃ l3, Wd l3 ∧ wv l3 = 2 * (N / 2 ^ (r + 1) % wv by_) + N / 2 ^ r % 2 ∧ fee_quotient.l1 (k + 5) low by_ (q + 1) (r : Int) left quo = fee_quotient.j3 (k + 5) by_ (r : Int) quo (fee_quotient.l1 (k + 5) low by_ q) l3 := by
      have eb : fee_quotient.l1 (k + 5) low by_ (q + 1) (r : Int) left quo = fee_quotient.b1 (k + 5) low by_ (fee_quotient.l1 (k + 5) low by_ q) (r : Int) left quo := rfl
      rw [eb]
      unfold fee_quotient.b1
      rw [if_pos (by simp), a1, Option.bind_some, bitW_eq hl r (by omega), Option.bind_some, ← hNl r (by omega)]
      by_cases c : N / 2 ^ r % 2 = 1
      · rw [decide_eq_true c, if_pos rfl]
        obtain ⟨x0, x1, x2, x3, rfl, g0, g1, g2, g3⟩ := a2.lanes
        rw [wv_lanes] at a3
        have er : rd [x0, x1, x2, x3] 0 = x0 := rfl
        rw [er, or_low x0 1 g0 (by omega) (by omega)]
        refine ⟨[x0 + 1, x1, x2, x3], Wd.mk (by omega) g1 g2 g3, ?_, rfl⟩
        rw [wv_lanes]; omega
      · rw [decide_eq_false c, if_neg (by simp)]
        exact ⟨l2, a2, by omega, rfl⟩
    obtain ⟨l3, b1, b2, b3⟩ := key
    rw [b3]
    unfold fee_quotient.j3
    rw [cmp_eq k b1 hb, Option.bind_some]
    have hc : decide (0 ≤ cmpI (wv l3) (wv by_)) = decide (wv by_ ≤ wv l3) := by
      unfold cmpI
      by_cases h : wv l3 = wv by_
      · rw [if_pos h]; simp [h]
      · rw [if_neg h]
        by_cases k : wv l3 < wv by_
        · rw [if_pos k]; simp; omega
        · rw [if_neg k]; simp; omega
    rw [hc, b2]
    unfold fee_quotient.j2
    rw [wr_i64_id (x := (r : Int) - 1) (by omega) (by omega)]
    by_cases c : wv by_ ≤ 2 * (N / 2 ^ (r + 1) % wv by_) + N / 2 ^ r % 2
    · rw [if_pos c] at t1 t2
      rw [decide_eq_true c, if_pos rfl]
      obtain ⟨s, s1, s2, s3⟩ := sub_eq k b1 hb
      rw [Int.emod_eq_of_lt (by omega) (by omega)] at s3
      obtain ⟨q2, c1, c2, c3⟩ := setbit hqu r (by omega) (N / 2 ^ (r + 1) / wv by_) hqv
      rw [s1, Option.bind_some, tdiv_pos (by omega), tmod_pos (by omega), wr_i64_id (by omega) (by omega), show (r : Int) / 64 = ((r / 64 : Nat) : Int) by omega, if_pos (by omega), if_pos (by omega), show min (Int.toNat ((r : Int) % 64)) 64 = r % 64 by omega, Int.toNat_natCast, rd_getD, c1]
      exact quo_loop (k + 5) hk hl hb hb0 hbs N hN hNl r q s q2 (by omega) (by omega) s2 (by rw [s3, b2, t2]) c2 (by rw [c3, t1])
    · rw [if_neg c] at t1 t2
      rw [decide_eq_false c, if_neg (by simp)]
      refine quo_loop (k + 5) hk hl hb hb0 hbs N hN hNl r q l3 quo (by omega) (by omega) b1 (by rw [b2, t2]; omega) hqu ?_
      rw [hqv, t1, Int.pow_succ, Int.add_zero]; grind
theorem quo_eq (k : Nat) {low high by_ : List Int} (hl : Wd low) (hh : Wd high) (hb : Wd by_) (hbs : wv by_ < 57896044618658097711785492504343953926634992332820282019728792003956564819968) (hlt : wv high < wv by_) : ∃ z, fee_quotient.l1 (k + 300) low by_ (k + 300) 255 high [0, 0, 0, 0] = some z ∧ Wd z ∧ wv z = (wv low + 115792089237316195423570985008687907853269984665640564039457584007913129639936 * wv high) / wv by_ := by
  have h1 := hl.lt
  have h2 := hh.lt
  have hd : (wv low + 115792089237316195423570985008687907853269984665640564039457584007913129639936 * wv high) / 2 ^ 256 = wv high := by
    rw [show (2 : Int) ^ 256 = 115792089237316195423570985008687907853269984665640564039457584007913129639936 from rfl]; omega
  obtain ⟨z, e, z1, z2⟩ := quo_loop (k + 300) (by omega) hl hb (by omega) hbs (wv low + 115792089237316195423570985008687907853269984665640564039457584007913129639936 * wv high) (by omega) (fun i hi => by
      have e : (115792089237316195423570985008687907853269984665640564039457584007913129639936 : Int) = 2 ^ i * (2 * 2 ^ (255 - i)) := by
        have : (115792089237316195423570985008687907853269984665640564039457584007913129639936 : Int) = 2 ^ (i + (1 + (255 - i))) := by rw [show i + (1 + (255 - i)) = 256 by omega]; rfl
        rw [this, Int.pow_add, Int.pow_add, Int.pow_one]
      rw [e, Int.mul_assoc, Int.add_mul_ediv_left _ _ (Int.ne_of_gt (Int.pow_pos (by omega))), Int.mul_assoc]
      omega) 256 (k + 300) high [0, 0, 0, 0] (by omega) (by omega) hh (by rw [hd, Int.emod_eq_of_lt (by omega) hlt]) Wd.zero (by rw [hd, Int.ediv_eq_zero_of_lt (by omega) hlt]; simp; rfl)
  exact ⟨z, e, z1, z2⟩
end GW
