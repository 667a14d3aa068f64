/-
  The document's digits of a word, one bit of them, and how long they are.
-/
import Derived.Test.YtfebengelehglaaPureWords
set_option linter.unusedVariables false
set_option linter.unusedSimpArgs false
namespace GW
open Go Go.RowKit
/-- Digit i of a word. -/
def dig (x : List Nat) (i : Nat) : Nat := x.getD (i / 8) 0 / 2 ^ (8 * (i % 8)) % 256
def ofNats (x : List Nat) : List Int := x.map (fun (n : Nat) => (n : Int))
theorem rd_ofNats (x : List Nat) (i : Nat) : rd (ofNats x) (i : Int) = ((x.getD i 0 : Nat) : Int) := by
  unfold rd ofNats
  simp only [Int.toNat_natCast, List.getD_eq_getElem?_getD, List.getElem?_map]
  cases x[i]? <;> rfl
theorem of_loop (x : List Nat) (hl : x.length = 4) (d : Nat) : ∀ (k i : Nat) (y : List Int), i + d = 32 → d < k → y = (List.range i).map (fun j => ((dig x j : Nat) : Int)) ++ List.replicate (32 - i) 0 →
    smithyref01_Of.l1 (ofNats x) k i y = some ((List.range 32).map (fun j => ((dig x j : Nat) : Int))) := by
  induction d with
  | zero =>
    intro k i y hi hk hy
    obtain ⟨k, rfl⟩ : ∃ m, k = m + 1 := ⟨k - 1, by omega⟩
    obtain rfl : i = 32 := by omega
    show smithyref01_Of.b1 _ _ _ y = _
    unfold smithyref01_Of.b1 smithyref01_Of.j1
    rw [if_neg (by simp)]
    simp [hy]
  | succ d ih =>
    intro k i y hi hk hy
    obtain ⟨k, rfl⟩ : ∃ m, k = m + 1 := ⟨k - 1, by omega⟩
    show smithyref01_Of.b1 _ _ _ y = _
    unfold smithyref01_Of.b1
    have e0 : wr .i64 (Int.tdiv (i : Int) 8) = ((i / 8 : Nat) : Int) := by
      rw [tdiv_pos (by omega), wr_i64_id (by omega) (by omega)]; omega
    have e1 : wr .i64 (8 * Int.tmod (i : Int) 8) = ((8 * (i % 8) : Nat) : Int) := by
      rw [tmod_pos (by omega), wr_i64_id (by omega) (by omega)]; omega
    have e2 : wr .i64 ((i : Int) + 1) = ((i + 1 : Nat) : Int) := by rw [wr_i64_id (by omega) (by omega)]; omega
    rw [e0, e1, e2, rd_ofNats, Int.toNat_natCast, Int.toNat_natCast, shr_nat, Nat.min_eq_left (by omega), if_pos (by simp; omega), if_pos ⟨by omega, by omega⟩, if_pos (by omega), if_pos ⟨by omega, by omega⟩]
    refine ih k (i + 1) _ (by omega) (by omega) ?_
    rw [tmod_pos (Int.natCast_nonneg _)]
    have e3 : wr .i64 (((x.getD (i / 8) 0 / 2 ^ (8 * (i % 8)) : Nat) : Int) % 256) = ((dig x i : Nat) : Int) := by
      unfold dig
      generalize x.getD (i / 8) 0 / 2 ^ (8 * (i % 8)) = z
      rw [wr_i64_id (by omega) (by omega)]; omega
    rw [e3, hy, List.set_append_right _ _ (by simp)]
    have e4 : 32 - i = (32 - (i + 1)) + 1 := by omega
    simp only [List.length_map, List.length_range, Nat.sub_self, e4, List.replicate_succ, List.set_cons_zero, List.range_succ, List.map_append, List.map_cons, List.map_nil, List.append_assoc, List.cons_append, List.nil_append]
theorem of_eq (x : List Nat) (hl : x.length = 4) (k : Nat) (hk : 32 < k) : smithyref01_Of.f k (ofNats x) = some (ofNats ((List.range 32).map (dig x))) := by
  refine (of_loop x hl 32 k 0 _ (by omega) (by omega) ?_).trans ?_
  · rfl
  · simp [ofNats]
theorem bit_loop (r : Nat) (hr : r < 8) (x2 : Int) (h2 : Int.tmod x2 8 = (r : Int)) (d : Nat) : ∀ (k i v : Nat), i + d = r → d < k → v < 256 →
    smithyref01_D_Bit.l1 x2 k i v = some (((v / 2 ^ d % 2 : Nat) : Int)) := by
  induction d with
  | zero =>
    intro k i v hi hk hv
    obtain ⟨k, rfl⟩ : ∃ m, k = m + 1 := ⟨k - 1, by omega⟩
    show smithyref01_D_Bit.b1 _ _ _ _ = _
    unfold smithyref01_D_Bit.b1 smithyref01_D_Bit.j2
    rw [h2, if_neg (by simp; omega), tmod_pos (by omega)]
    refine congrArg some ?_
    omega
  | succ d ih =>
    intro k i v hi hk hv
    obtain ⟨k, rfl⟩ : ∃ m, k = m + 1 := ⟨k - 1, by omega⟩
    show smithyref01_D_Bit.b1 _ _ _ _ = _
    unfold smithyref01_D_Bit.b1
    have e2 : wr .i64 ((i : Int) + 1) = ((i + 1 : Nat) : Int) := by rw [wr_i64_id (by omega) (by omega)]; omega
    have e3 : wr .i64 (Int.tdiv (v : Int) 2) = ((v / 2 : Nat) : Int) := by rw [tdiv_pos (by omega), wr_i64_id (by omega) (by omega)]; omega
    rw [h2, if_pos (by simp; omega), e2, e3, ih k (i + 1) (v / 2) (by omega) (by omega) (by omega), Nat.div_div_eq_div_mul]
    have : 2 * 2 ^ d = 2 ^ (d + 1) := by rw [Nat.pow_succ]; omega
    rw [this]
theorem bit_eq (ds : List Nat) (hd : ∀ j, ds.getD j 0 < 256) (i : Nat) (hi : i < 256) (k : Nat) (hk : 8 ≤ k) :
    smithyref01_D_Bit.f k (ofNats ds) (i : Int) = some (((ds.getD (i / 8) 0 / 2 ^ (i % 8) % 2 : Nat) : Int)) := by
  unfold smithyref01_D_Bit.f smithyref01_D_Bit.j1
  have e0 : wr .i64 (Int.tdiv (i : Int) 8) = ((i / 8 : Nat) : Int) := by
    rw [tdiv_pos (by omega), wr_i64_id (by omega) (by omega)]; omega
  have h1 : ¬ (i : Int) < 0 := by omega
  have h2 : ¬ 255 < (i : Int) := by omega
  simp only [h1, h2, decide_false, Bool.false_eq_true, if_false]
  rw [e0, if_pos ⟨by omega, by omega⟩, rd_ofNats]
  exact bit_loop (i % 8) (by omega) i (by rw [tmod_pos (by omega)]; omega) (i % 8) k 0 _ (by omega) (by omega) (hd _)
theorem dlen_loop (ds : List Nat) (hd : ∀ j, ds.getD j 0 < 256) (V : Nat) (hV : ∀ i, i < 256 → ds.getD (i / 8) 0 / 2 ^ (i % 8) % 2 = V / 2 ^ i % 2) (f : Nat) (hf : 8 ≤ f) (d : Nat) :
    ∀ (k i n : Nat), i + d = 256 → d < k → n ≤ i → LenIs (V % 2 ^ i) n → ∃ m : Nat, m ≤ 256 ∧ LenIs (V % 2 ^ 256) m ∧ smithyref01_D_Len.l1 f (ofNats ds) k i n = some (m : Int) := by
  induction d with
  | zero =>
    intro k i n hi hk hn hl
    obtain ⟨k, rfl⟩ : ∃ m, k = m + 1 := ⟨k - 1, by omega⟩
    obtain rfl : i = 256 := by omega
    refine ⟨n, hn, hl, ?_⟩
    show smithyref01_D_Len.b1 _ _ _ _ _ = _
    unfold smithyref01_D_Len.b1 smithyref01_D_Len.j1
    rw [if_neg (by simp)]
  | succ d ih =>
    intro k i n hi hk hn hl
    obtain ⟨k, rfl⟩ : ∃ m, k = m + 1 := ⟨k - 1, by omega⟩
    have e2 : wr .i64 ((i : Int) + 1) = ((i + 1 : Nat) : Int) := by rw [wr_i64_id (by omega) (by omega)]; omega
    have st : smithyref01_D_Len.l1 f (ofNats ds) (k + 1) i n = smithyref01_D_Len.l1 f (ofNats ds) k ((i + 1 : Nat) : Int) (if V / 2 ^ i % 2 = 1 then ((i + 1 : Nat) : Int) else (n : Int)) := by
      show smithyref01_D_Len.b1 _ _ _ _ _ = _
      unfold smithyref01_D_Len.b1 smithyref01_D_Len.j2
      rw [if_pos (by simp; omega), bit_eq ds hd i (by omega) f hf, hV i (by omega), Option.bind_some, e2]
      rcases Nat.mod_two_eq_zero_or_one (V / 2 ^ i) with h | h <;> simp [h]
    rw [st]
    have hm : V % 2 ^ (i + 1) = V % 2 ^ i + 2 ^ i * (V / 2 ^ i % 2) := by
      rw [Nat.pow_succ, Nat.mod_mul]
    have hlt : V % 2 ^ i < 2 ^ i := Nat.mod_lt _ (Nat.two_pow_pos i)
    rcases Nat.mod_two_eq_zero_or_one (V / 2 ^ i) with h | h
    · rw [if_neg (by omega)]
      exact ih k (i + 1) n (by omega) (by omega) (by omega) (by rw [hm, h]; simpa using hl)
    · rw [if_pos h]
      refine ih k (i + 1) (i + 1) (by omega) (by omega) (by omega) ⟨Nat.mod_lt _ (Nat.two_pow_pos _), Or.inr ?_⟩
      rw [hm, h]
      simp
theorem dlen_eq (ds : List Nat) (hd : ∀ j, ds.getD j 0 < 256) (V : Nat) (hb : V < 2 ^ 256) (hV : ∀ i, i < 256 → ds.getD (i / 8) 0 / 2 ^ (i % 8) % 2 = V / 2 ^ i % 2) (k : Nat) (hk : 256 < k) :
    ∃ m : Nat, m ≤ 256 ∧ LenIs V m ∧ smithyref01_D_Len.f k (ofNats ds) = some (m : Int) := by
  obtain ⟨m, h1, h2, h3⟩ := dlen_loop ds hd V hV k (by omega) 256 k 0 0 (by omega) (by omega) (by omega) (by simpa [Nat.mod_one] using LenIs.zero)
  rw [Nat.mod_eq_of_lt hb] at h2
  exact ⟨m, h1, h2, h3⟩
theorem div_mod_bit (v m r : Nat) (hr : r < 8) : v / 2 ^ m % 256 / 2 ^ r % 2 = v / 2 ^ (m + r) % 2 := by
  have e : (256 : Nat) = 2 ^ r * 2 ^ (8 - r) := by rw [← Nat.pow_add, show r + (8 - r) = 8 by omega]
  have e8 : 2 ^ (8 - r) = 2 * 2 ^ (7 - r) := by rw [← Nat.pow_succ', show (7 - r).succ = 8 - r by omega]
  rw [e, Nat.mod_mul_right_div_self, e8, Nat.mod_mul_right_mod, Nat.div_div_eq_div_mul, ← Nat.pow_add]
theorem num4_bit (a b c d : Nat) (ha : a < 18446744073709551616) (hb : b < 18446744073709551616) (hc : c < 18446744073709551616) (i : Nat) (hi : i < 256) :
    [a, b, c, d].getD (i / 64) 0 / 2 ^ (i % 64) % 2 = num4 a b c d / 2 ^ i % 2 := by
  have step : ∀ (lo hi' s : Nat), s < 64 → lo < 18446744073709551616 → (lo + 18446744073709551616 * hi') / 2 ^ s % 2 = lo / 2 ^ s % 2 := by
    intro lo h s hs hlo
    have e : (18446744073709551616 : Nat) = 2 ^ s * 2 ^ (64 - s) := by rw [← Nat.pow_add, show s + (64 - s) = 64 by omega]
    have e8 : 2 ^ (64 - s) = 2 * 2 ^ (63 - s) := by rw [← Nat.pow_succ', show (63 - s).succ = 64 - s by omega]
    rw [e, Nat.mul_assoc, Nat.add_mul_div_left _ _ (Nat.two_pow_pos s), e8, Nat.mul_assoc, Nat.add_mul_mod_self_left]
  have up : ∀ (lo h s : Nat), lo < 18446744073709551616 → (lo + 18446744073709551616 * h) / 2 ^ (64 + s) = h / 2 ^ s := by
    intro lo h s hlo
    rw [Nat.pow_add, ← Nat.div_div_eq_div_mul]
    congr 1
    omega
  have e0 : num4 a b c d = a + 18446744073709551616 * (b + 18446744073709551616 * (c + 18446744073709551616 * d)) := by unfold num4; omega
  rw [e0]
  have hs : i % 64 < 64 := Nat.mod_lt _ (by omega)
  have hq : i / 64 = 0 ∨ i / 64 = 1 ∨ i / 64 = 2 ∨ i / 64 = 3 := by omega
  rcases hq with q | q | q | q <;> rw [q]
  · have : i = i % 64 := by omega
    generalize i % 64 = s at *
    subst this
    exact (step _ _ _ hs ha).symm
  · have : i = 64 + i % 64 := by omega
    generalize i % 64 = s at *
    subst this
    rw [up _ _ _ ha]
    exact (step _ _ _ hs hb).symm
  · have : i = 64 + (64 + i % 64) := by omega
    generalize i % 64 = s at *
    subst this
    rw [up _ _ _ ha, up _ _ _ hb]
    exact (step _ _ _ hs hc).symm
  · have : i = 64 + (64 + (64 + i % 64)) := by omega
    generalize i % 64 = s at *
    subst this
    rw [up _ _ _ ha, up _ _ _ hb, up _ _ _ hc]
    rfl
theorem reflen_eq (a b c d : Nat) (ha : a < 18446744073709551616) (hb : b < 18446744073709551616) (hc : c < 18446744073709551616) (hd : d < 18446744073709551616) (k : Nat) (hk : 256 < k) :
    ∃ n : Nat, n ≤ 256 ∧ LenIs (num4 a b c d) n ∧ (smithyref01_Of.f k [(a : Int), b, c, d]).bind (smithyref01_D_Len.f k) = some (n : Int) := by
  have e : [(a : Int), b, c, d] = ofNats [a, b, c, d] := rfl
  rw [e, of_eq _ rfl k (by omega), Option.bind_some]
  have hg : ∀ j, j < 32 → ((List.range 32).map (dig [a, b, c, d])).getD j 0 = dig [a, b, c, d] j := by
    intro j hj
    simp [List.getD_eq_getElem?_getD, hj]
  refine dlen_eq _ ?_ _ ?_ ?_ k hk
  · intro j
    rcases Nat.lt_or_ge j 32 with h | h
    · rw [hg j h]; exact Nat.mod_lt _ (by omega)
    · simp [List.getD_eq_getElem?_getD, Nat.not_lt.mpr h]
  · unfold num4; omega
  · intro i hi
    rw [hg _ (by omega)]
    unfold dig
    rw [div_mod_bit _ _ _ (by omega), ← num4_bit a b c d ha hb hc i hi]
    have e1 : i / 8 / 8 = i / 64 := by omega
    have e2 : 8 * (i / 8 % 8) + i % 8 = i % 64 := by omega
    rw [e1, e2]
end GW
