import Derived.Test.YtoiopiiljblpjaaDoorPureWQuo
import Derived.Test.YtoiopiiljblpjaaDoorPureWMul
import Derived.Test.YtoiopiiljblpjaaDoorPureWMinus
import Derived.Test.YtoiopiiljblpjaaDoorPureWTimes
import Derived.Test.YtoiopiiljblpjaaDoorPureWRefW
set_option linter.unusedVariables false
set_option linter.unusedSimpArgs false
set_option maxRecDepth 100000
namespace GW
open Go Go.RowKit
def capI (x : Int) : Int := if x < 115792089237316195423570985008687907853269984665640564039457584007913129639936 then x else 115792089237316195423570985008687907853269984665640564039457584007913129639935
def ones4 : List Int := [18446744073709551615, 18446744073709551615, 18446744073709551615, 18446744073709551615]
theorem wd_ones : Wd ones4 := Wd.mk (by omega) (by omega) (by omega) (by omega)
theorem wv_ones : wv ones4 = 115792089237316195423570985008687907853269984665640564039457584007913129639935 := by unfold ones4; rw [wv_lanes]; omega
theorem ones_f : fee_ones.f = some ones4 := by kernel_rfl
theorem most_eq (k : Nat) {n : List Int} (hl : n.length < 1000) (hd : Dig 256 n) : ∃ w, smithyref21_most.f (k + 2000) n = some w ∧ Wd w ∧ wv w = capI (dv 256 n) := by
  obtain ⟨h1, h2, h3, h4⟩ := highN_eq n hd
  have h5 := (dv_lt (by omega) h2).1
  rw [show (256 : Int) ^ 32 = 115792089237316195423570985008687907853269984665640564039457584007913129639936 from rfl] at h3 h4
  obtain ⟨w, w1, w2, w3⟩ := wordN_eq (k + 1960) hd
  unfold smithyref21_most.f capI
  rw [h1, Option.bind_some, zeroN_eq (k + 2000) h2 (by rw [List.length_drop]; omega) (by rw [List.length_drop]; omega), Option.bind_some]
  by_cases c : dv 256 (n.drop 32) = 0
  · rw [decide_eq_true c, if_neg (by simp), show k + 2000 = k + 1960 + 40 from rfl, w1, Option.bind_some]
    refine ⟨w, rfl, w2, ?_⟩
    rw [if_pos (by omega)]; omega
  · rw [decide_eq_false c, if_pos (by simp), show smithyref21_Top.f = some ones4 from rfl, Option.bind_some]
    refine ⟨_, rfl, wd_ones, ?_⟩
    rw [wv_ones, if_neg (by omega)]
theorem step_imp (k : Nat) {base : List Int} (hb : Wd base) {g t : Int} (hg : 0 ≤ g ∧ g < 18446744073709551616) (ht : 0 < t ∧ t < 18446744073709551616) : ∃ s, fee_Step.f (k + 300) base g t = some s ∧ Wd s ∧ wv s = capI (wv base * g / (t * 8)) := by
  obtain ⟨lo, hi, e1, hlo, hhi, e2⟩ := product_eq (k + 295) hb (Wd.of' hg.1 hg.2)
  obtain ⟨bl, bh, f1, hbl, hbh, f2⟩ := product_eq (k + 295) (Wd.of' (x := t) (by omega) ht.2) (Wd.of' (x := 8) (by omega) (by omega))
  rw [wv_of] at e2
  rw [wv_of, wv_of] at f2
  have b1 := hlo.lt
  have b2 := hhi.lt
  have b3 := hbl.lt
  have b4 := hbh.lt
  have hbh0 : wv bh = 0 := by omega
  have hbl8 : wv bl = t * 8 := by omega
  have hz : bh = [0, 0, 0, 0] := hbh.eq0.2 hbh0
  unfold fee_Step.f
  rw [if_neg (by simp; omega), show word_Of.f g = some [g, 0, 0, 0] from rfl, Option.bind_some, show k + 300 = k + 295 + 5 from rfl, e1, Option.bind_some]
  unfold fee_Step.j1
  rw [show word_Of.f t = some [t, 0, 0, 0] from rfl, Option.bind_some, show word_Of.f 8 = some [8, 0, 0, 0] from rfl, Option.bind_some, f1, Option.bind_some, if_neg (by simpa using hz)]
  unfold fee_quotient.f
  rw [cmp_eq (k + 295) hhi hbl, Option.bind_some]
  have hc : decide (0 ≤ cmpI (wv hi) (wv bl)) = decide (wv bl ≤ wv hi) := by
    unfold cmpI
    by_cases h : wv hi = wv bl
    · rw [if_pos h]; simp [h]
    · rw [if_neg h]
      by_cases k : wv hi < wv bl
      · rw [if_pos k]; simp; omega
      · rw [if_neg k]; simp; omega
  rw [hc, ← hbl8, ← e2]
  unfold capI
  by_cases c : wv bl ≤ wv hi
  · rw [decide_eq_true c, if_pos rfl, ones_f]
    refine ⟨ones4, rfl, wd_ones, ?_⟩
    rw [wv_ones, if_neg]
    have h1 : 115792089237316195423570985008687907853269984665640564039457584007913129639936 * wv bl ≤ wv lo + 115792089237316195423570985008687907853269984665640564039457584007913129639936 * wv hi := by omega
    have h2 := Int.le_ediv_of_mul_le (a := 115792089237316195423570985008687907853269984665640564039457584007913129639936) (show 0 < wv bl by omega) h1
    omega
  · rw [decide_eq_false c, if_neg (by simp)]
    obtain ⟨z, z1, z2, z3⟩ := quo_eq k hlo hhi hbl (by omega) (by omega)
    rw [show k + 295 + 5 = k + 300 from rfl, z1, Option.bind_some]
    refine ⟨z, rfl, z2, ?_⟩
    have := z2.lt
    rw [← z3, if_pos (by omega)]
theorem step_ref (k : Nat) {base : List Int} (hb : Wd base) {g t : Int} (hg : 0 ≤ g ∧ g < 18446744073709551616) (ht : 0 < t ∧ t < 18446744073709551616) : ∃ s, smithyref21_Step.f (k + 4000) base g t = some s ∧ Wd s ∧ wv s = capI (wv base * g / (t * 8)) := by
  obtain ⟨a, a1, a2, a3, a4⟩ := ofN_eq (k + 3960) hb
  obtain ⟨b, b1, b2, b3, b4⟩ := ofN_eq (k + 3960) (Wd.of' hg.1 hg.2)
  obtain ⟨c, c1, c2, c3, c4⟩ := ofN_eq (k + 3960) (Wd.of' (x := t) (by omega) ht.2)
  obtain ⟨d, d1, d2, d3, d4⟩ := ofN_eq (k + 3960) (Wd.of' (x := 8) (by omega) (by omega))
  rw [wv_of] at b4 c4 d4
  obtain ⟨p, p1, p2, p3, p4⟩ := timesN_eq (k + 4000) a3 b3 (by omega) (by omega) (by omega)
  obtain ⟨q, y, q1, q2, q3, q4⟩ := divN_eq (k + 4000) p3 (by omega) c3 (by omega) (by omega) (by omega)
  obtain ⟨r, z, r1, r2, r3, r4⟩ := divN_eq (k + 4000) q3 (by omega) d3 (by omega) (by omega) (by omega)
  obtain ⟨w, w1, w2, w3⟩ := most_eq (k + 2000) (n := r) (by omega) r3
  unfold smithyref21_Step.f
  rw [if_neg (by simp; omega), show k + 4000 = k + 3960 + 40 from rfl, a1, Option.bind_some, b1, Option.bind_some, show k + 3960 + 40 = k + 4000 from rfl, p1, Option.bind_some, show k + 4000 = k + 3960 + 40 from rfl, c1, Option.bind_some, show k + 3960 + 40 = k + 4000 from rfl, q1, Option.bind_some, show k + 4000 = k + 3960 + 40 from rfl, d1, Option.bind_some, show k + 3960 + 40 = k + 4000 from rfl, r1, Option.bind_some, show k + 4000 = k + 2000 + 2000 from rfl, w1]
  refine ⟨w, rfl, w2, ?_⟩
  rw [w3, r4, q4, p4, a4, b4, c4, d4, Int.ediv_ediv_of_nonneg (by omega)]
theorem feeNext_eq (k : Nat) {base : List Int} (hb : Wd base) {used limit : Int} (hu : 0 ≤ used ∧ used < 18446744073709551616) (hl : 0 ≤ limit ∧ limit < 18446744073709551616) : ∃ w, fee_Next.f (k + 5000) base used limit = some w ∧ smithyref21_Next.f (k + 5000) base used limit = some w ∧ Wd w := by
  have et : wr .u64 (Int.tdiv limit 2) = limit / 2 := by rw [tdiv_pos hl.1, wr_u64_id (by omega) (by omega)]
  have bb := hb.lt
  unfold fee_Next.f smithyref21_Next.f
  rw [et]
  generalize ht : limit / 2 = t
  have hts : 0 ≤ t ∧ t < 9223372036854775808 := by omega
  by_cases c0 : t = 0
  · rw [if_pos (by simpa using c0), if_pos (by simpa using c0)]
    unfold fee_Next.j1 smithyref21_Next.j1
    exact ⟨base, by rw [if_pos rfl], by rw [if_pos rfl], hb⟩
  rw [if_neg (by simpa using c0), if_neg (by simpa using c0)]
  unfold fee_Next.j1 smithyref21_Next.j1
  by_cases c1 : used = t
  · have : (used == t) = true := by simpa using c1
    rw [this]
    exact ⟨base, by rw [if_pos rfl], by rw [if_pos rfl], hb⟩
  have hne : (used == t) = false := by simpa using c1
  rw [hne, if_neg (show ¬ (false = true) by simp), if_neg (show ¬ (false = true) by simp), et, ht]
  obtain ⟨a, a1, a2, a3, a4⟩ := ofN_eq (k + 4960) hb
  have a1' : smithyref02_Of.f (k + 5000) base = some a := a1
  rw [a1', Option.bind_some]
  by_cases c2 : used < t
  · rw [if_pos (decide_eq_true c2), if_pos (decide_eq_true c2), wr_u64_id (x := t - used) (by omega) (by omega)]
    obtain ⟨s, s1, s2, s3⟩ := step_imp (k + 4700) hb (g := t - used) (t := t) (by omega) (by omega)
    obtain ⟨u, u1, u2, u3⟩ := step_ref (k + 1000) hb (g := t - used) (t := t) (by omega) (by omega)
    have hsu : s = u := s2.inj u2 (by rw [s3, u3])
    subst hsu
    obtain ⟨d, d1, d2, d3, d4⟩ := ofN_eq (k + 4960) s2
    have d1' : smithyref02_Of.f (k + 5000) s = some d := d1
    rw [show fee_Step.f (k + 5000) base (t - used) t = some s from s1, Option.bind_some, show k + 5000 = k + 4995 + 5 from rfl, cmp_eq (k + 4995) s2 hb, Option.bind_some, cmpI_gt, show k + 4995 + 5 = k + 5000 from rfl, show smithyref21_Step.f (k + 5000) base (t - used) t = some s from u1, Option.bind_some, d1', Option.bind_some, lessN_eq (k + 5000) a3 d3 (by omega) (by omega) (by omega), Option.bind_some, a4, d4]
    by_cases c3 : wv base < wv s
    · rw [decide_eq_true c3, if_pos rfl, if_pos rfl]
      exact ⟨_, rfl, rfl, Wd.zero⟩
    · rw [decide_eq_false c3, if_neg (by simp), if_neg (by simp)]
      obtain ⟨e, e1, e2, e3⟩ := sub_eq (k + 4995) hb s2
      obtain ⟨m, m1, m2, m3, m4⟩ := minusN_eq (k + 5000) a3 d3 (by omega) (by omega) (by omega)
      obtain ⟨w, w1, w2, w3⟩ := wordN_eq (k + 4960) m3
      have hs := s2.lt
      have hwe : e = w := e2.inj w2 (by rw [e3, w3, List.take_of_length_le (by omega), m4, a4, d4]; omega)
      refine ⟨e, ?_, ?_, e2⟩
      · rw [show k + 5000 = k + 4995 + 5 from rfl, e1]; rfl
      · rw [m1, Option.bind_some, show smithyref02_N_Word.f (k + 5000) m = some w from w1, hwe]; rfl
  · rw [if_neg (by simpa using c2), if_neg (by simpa using c2), wr_u64_id (x := used - t) (by omega) (by omega)]
    obtain ⟨s, s1, s2, s3⟩ := step_imp (k + 4700) hb (g := used - t) (t := t) (by omega) (by omega)
    obtain ⟨u, u1, u2, u3⟩ := step_ref (k + 1000) hb (g := used - t) (t := t) (by omega) (by omega)
    have hsu : s = u := s2.inj u2 (by rw [s3, u3])
    subst hsu
    rw [show fee_Step.f (k + 5000) base (used - t) t = some s from s1, Option.bind_some, show smithyref21_Step.f (k + 5000) base (used - t) t = some s from u1, Option.bind_some]
    have fin : ∀ v : List Int, Wd v → ∃ w, fee_Next.j2 (k + 5000) base v = some w ∧ smithyref21_Next.j2 (k + 5000) a v = some w ∧ Wd w := fun v hv => by
      have hvl := hv.lt
      obtain ⟨d, d1, d2, d3, d4⟩ := ofN_eq (k + 4960) hv
      obtain ⟨p, p1, p2, p3, p4⟩ := plusN_eq (k + 5000) a3 d3 (by omega) (by omega) (by omega)
      obtain ⟨m, m1, m2, m3⟩ := most_eq (k + 3000) (n := p) (by omega) p3
      obtain ⟨e, e1, e2, e3⟩ := add_eq (k + 4995) hb hv
      have e1' : word_Add.f (k + 5000) base v = some e := e1
      have hcmp : word_Compare.f (k + 5000) e base = some (cmpI (wv e) (wv base)) := cmp_eq (k + 4995) e2 hb
      unfold fee_Next.j2 smithyref21_Next.j2
      rw [e1', Option.bind_some, hcmp, Option.bind_some, cmpI_lt, show smithyref02_Of.f (k + 5000) v = some d from d1, Option.bind_some, p1, Option.bind_some, show smithyref21_most.f (k + 5000) p = some m from m1, Option.bind_some]
      rw [p4, a4, d4] at m3
      unfold capI at m3
      by_cases c3 : wv e < wv base
      · rw [decide_eq_true c3, if_pos rfl, ones_f, Option.bind_some]
        refine ⟨ones4, rfl, ?_, wd_ones⟩
        rw [if_neg (by omega)] at m3
        rw [m2.inj wd_ones (by rw [m3, wv_ones])]
      · rw [decide_eq_false c3, if_neg (by simp)]
        refine ⟨e, rfl, ?_, e2⟩
        rw [if_pos (by omega)] at m3
        rw [m2.inj e2 (by rw [m3, e3]; omega)]
    by_cases c3 : s = [0, 0, 0, 0]
    · rw [if_pos (decide_eq_true c3), if_pos (decide_eq_true c3), show word_Of.f 1 = some [1, 0, 0, 0] from rfl, Option.bind_some]
      exact fin _ (Wd.of' (by omega) (by omega))
    · rw [if_neg (by simpa using c3), if_neg (by simpa using c3)]
      exact fin _ s2
end GW
