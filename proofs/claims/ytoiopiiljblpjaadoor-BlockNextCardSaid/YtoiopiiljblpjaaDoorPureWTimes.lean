import Derived.Test.YtoiopiiljblpjaaDoorPureWRefN
set_option linter.unusedVariables false
set_option linter.unusedSimpArgs false
set_option maxRecDepth 100000
namespace GW
open Go Go.RowKit
theorem getD_nil_ge (x : List Int) (i : Nat) (h : x.length ≤ i) : x.getD i 0 = 0 := by rw [List.getD_eq_getElem?_getD, List.getElem?_eq_none h]; rfl
theorem dv_take_succ' (B : Int) (w : List Int) (i : Nat) : dv B (w.take (i + 1)) = dv B (w.take i) + w.getD i 0 * B ^ i := by
  by_cases h : i < w.length
  · exact dv_take_succ B h
  · rw [List.take_of_length_le (by omega), List.take_of_length_le (by omega), getD_nil_ge _ _ (by omega)]; simp
theorem trow {x y : List Int} (hx : Dig 256 x) (hy : Dig 256 y) (hxl : x.length < 1000000) (hyl : y.length < 1000000) (i : Nat) (hi : i < x.length) (rec1 : Int → List Int → Option (List Int)) (T : Int) (hT : T < 256 ^ (i + 1 + y.length)) :
    ∀ (r j q : Nat) (c : Int) (out : List Int), j + r = y.length + 1 → r < q → out.length = x.length + y.length + 1 → Dig 256 out → (0 ≤ c ∧ c < 256) → dv 256 out + c * 256 ^ (i + j) + x.getD i 0 * (dv 256 y - dv 256 (y.take j)) * 256 ^ i = T →
    ∃ out', smithyref02_Times.l2 x y (i : Int) rec1 q (j : Int) c out = smithyref02_Times.j2 (i : Int) rec1 out' ∧ out'.length = x.length + y.length + 1 ∧ Dig 256 out' ∧ dv 256 out' = T
  | r, j, q, c, out, hj, hq, hl, hd, hc, he => by
    obtain ⟨q, rfl⟩ : ∃ m, q = m + 1 := ⟨q - 1, by omega⟩
    have hpi : (0 : Int) < 256 ^ i := Int.pow_pos (by omega)
    have hxi := hx.rd (by omega) i
    have hyj := hy.rd (by omega) j
    have hoj := hd.rd (by omega) (i + j)
    have hcase : y.length ≤ j ∧ c = 0 ∨ (j < y.length ∨ 0 < c) := by omega
    rcases hcase with ⟨h1, h2⟩ | hgo
    · refine ⟨out, ?_, hl, hd, ?_⟩
      · show smithyref02_Times.b2 x y _ _ _ _ _ _ = _
        unfold smithyref02_Times.b2
        rw [if_neg (by simp; omega), h2]
        unfold smithyref02_Times.j3
        rw [if_neg (by simp)]
      · rw [← he, h2, List.take_of_length_le h1]; simp
    ·
      have hjy : j ≤ y.length := by
        rcases hgo with h | h
        · omega
        · refine Decidable.byContradiction fun hn => ?_
          have h1 : j = y.length + 1 := by omega
          rw [List.take_of_length_le (by omega), Int.sub_self, Int.mul_zero, Int.zero_mul, Int.add_zero] at he
          have h2 := (dv_lt (by omega) hd).1
          have h3 : 1 * 256 ^ (i + j) ≤ c * 256 ^ (i + j) := Int.mul_le_mul_of_nonneg_right (by omega) (Int.le_of_lt (Int.pow_pos (by omega)))
          rw [show i + 1 + y.length = i + j by omega] at hT
          omega
      match r, hj with
      | 0, hj => omega
      | r + 1, hj =>
      have hb := prod_leT (x.getD i 0) (y.getD j 0) 255 255 (by omega) (by omega)
      have hw : wr .i64 ((i : Int) + (j : Int)) = ((i + j : Nat) : Int) := by rw [wr_i64_id (by omega) (by omega)]; omega
      have e : smithyref02_Times.l2 x y (i : Int) rec1 (q + 1) (j : Int) c out = smithyref02_Times.l2 x y (i : Int) rec1 q ((j + 1 : Nat) : Int) ((out.getD (i + j) 0 + x.getD i 0 * y.getD j 0 + c) / 256) (out.set (i + j) ((out.getD (i + j) 0 + x.getD i 0 * y.getD j 0 + c) % 256)) := by
        have e3 : ∀ R : Int → Int → List Int → Option (List Int), smithyref02_Times.j3 x y (i : Int) rec1 (j : Int) c out R true = R ((j + 1 : Nat) : Int) ((out.getD (i + j) 0 + x.getD i 0 * y.getD j 0 + c) / 256) (out.set (i + j) ((out.getD (i + j) 0 + x.getD i 0 * y.getD j 0 + c) % 256)) := fun R => by
          unfold smithyref02_Times.j3
          rw [if_pos rfl, hw, if_pos (by omega), if_pos (by omega), atN_eq, Option.bind_some, rd_getD, rd_getD, Int.toNat_natCast, show wr .i64 ((j : Int) + 1) = ((j + 1 : Nat) : Int) from by rw [wr_i64_id (by omega) (by omega)]; omega]
          generalize x.getD i 0 * y.getD j 0 = p at *
          rw [wr_i64_id (x := p) (by omega) (by omega), wr_i64_id (x := out.getD (i + j) 0 + p) (by omega) (by omega), wr_i64_id (x := out.getD (i + j) 0 + p + c) (by omega) (by omega), tdiv_pos (by omega), tmod_pos (by omega), wr_i64_id (by omega) (by omega)]
        show smithyref02_Times.b2 x y _ _ _ _ _ _ = _
        unfold smithyref02_Times.b2
        by_cases c1 : j < y.length
        · rw [if_pos (by simp; omega), e3]
        · rw [if_neg (by simp; omega), decide_eq_true (by omega), e3]
      rw [e]
      have hs := dv_set 256 out (i + j) ((out.getD (i + j) 0 + x.getD i 0 * y.getD j 0 + c) % 256) (by omega)
      have hb2 : 0 ≤ out.getD (i + j) 0 + x.getD i 0 * y.getD j 0 + c ∧ out.getD (i + j) 0 + x.getD i 0 * y.getD j 0 + c < 65536 := by omega
      refine trow hx hy hxl hyl i hi rec1 T hT r (j + 1) q _ _ (by omega) (by omega) (by simpa using hl) (hd.set _ (by omega)) (by omega) ?_
      rw [hs, dv_take_succ' 256 y j, ← he]
      have h5 : out.getD (i + j) 0 + x.getD i 0 * y.getD j 0 + c = (out.getD (i + j) 0 + x.getD i 0 * y.getD j 0 + c) % 256 + 256 * ((out.getD (i + j) 0 + x.getD i 0 * y.getD j 0 + c) / 256) := by omega
      generalize (out.getD (i + j) 0 + x.getD i 0 * y.getD j 0 + c) % 256 = u at *
      generalize (out.getD (i + j) 0 + x.getD i 0 * y.getD j 0 + c) / 256 = v at *
      have e3 : (256 : Int) ^ (i + (j + 1)) = 256 * 256 ^ (i + j) := by rw [← Nat.add_assoc, Int.pow_succ, Int.mul_comm]
      have e4 : (256 : Int) ^ (i + j) = 256 ^ i * 256 ^ j := Int.pow_add _ _ _
      rw [e3, e4]
      grind
where prod_leT (a b A B : Int) (ha : 0 ≤ a ∧ a ≤ A) (hb : 0 ≤ b ∧ b ≤ B) : 0 ≤ a * b ∧ a * b ≤ A * B :=
  ⟨Int.mul_nonneg ha.1 hb.1, Int.mul_le_mul ha.2 hb.2 hb.1 (by omega)⟩
theorem times_loop (k : Nat) {x y : List Int} (hk : y.length + 2 < k) (hx : Dig 256 x) (hy : Dig 256 y) (hxl : x.length < 1000000) (hyl : y.length < 1000000) : ∀ (r i q : Nat) (out : List Int), i + r = x.length → r < q → out.length = x.length + y.length + 1 → Dig 256 out → dv 256 out = dv 256 (x.take i) * dv 256 y →
    ∃ z, smithyref02_Times.l1 k x y q (i : Int) out = some z ∧ z.length = x.length + y.length + 1 ∧ Dig 256 z ∧ dv 256 z = dv 256 x * dv 256 y
  | 0, i, q, out, hi, hq, hl, hd, he => by
    obtain ⟨q, rfl⟩ : ∃ m, q = m + 1 := ⟨q - 1, by omega⟩
    refine ⟨out, ?_, hl, hd, ?_⟩
    · show smithyref02_Times.b1 k x y _ _ _ = _
      unfold smithyref02_Times.b1 smithyref02_Times.j1
      rw [if_neg (by simp; omega)]
    · rw [he, List.take_of_length_le (by omega)]
  | r + 1, i, q, out, hi, hq, hl, hd, he => by
    obtain ⟨q, rfl⟩ : ∃ m, q = m + 1 := ⟨q - 1, by omega⟩
    have e1 : dv 256 (x.take (i + 1)) = dv 256 (x.take i) + x.getD i 0 * 256 ^ i := dv_take_succ' 256 x i
    have b1 := dv_lt (by omega) (hx.take (i + 1))
    have b2 := dv_lt (by omega) hy
    rw [List.length_take, Nat.min_eq_left (by omega)] at b1
    have hT : dv 256 (x.take (i + 1)) * dv 256 y < 256 ^ (i + 1 + y.length) := by
      rw [Int.pow_add]
      have h1 : dv 256 (x.take (i + 1)) * dv 256 y ≤ (256 ^ (i + 1) - 1) * dv 256 y := Int.mul_le_mul_of_nonneg_right (by omega) b2.1
      have h2 : (256 ^ (i + 1) - 1) * dv 256 y ≤ (256 ^ (i + 1) - 1) * 256 ^ y.length := Int.mul_le_mul_of_nonneg_left (by omega) (by have := Int.pow_pos (n := 256) (m := i + 1) (by omega); omega)
      have h3 : ((256 : Int) ^ (i + 1) - 1) * 256 ^ y.length = 256 ^ (i + 1) * 256 ^ y.length - 256 ^ y.length := by rw [Int.sub_mul, Int.one_mul]
      have h4 : (0 : Int) < 256 ^ y.length := Int.pow_pos (by omega)
      omega
    obtain ⟨out', f1, f2, f3, f4⟩ := trow hx hy hxl hyl i (by omega) (smithyref02_Times.l1 k x y q) _ hT (y.length + 1) 0 k 0 out (by omega) (by omega) hl hd (by omega) (by
      rw [he, e1]; simp only [List.take_zero, dv]; grind)
    have e : smithyref02_Times.l1 k x y (q + 1) (i : Int) out = smithyref02_Times.l1 k x y q ((i + 1 : Nat) : Int) out' := by
      show smithyref02_Times.b1 k x y _ _ _ = _
      unfold smithyref02_Times.b1
      rw [if_pos (by simp; omega)]
      refine f1.trans ?_
      unfold smithyref02_Times.j2
      rw [show wr .i64 ((i : Int) + 1) = ((i + 1 : Nat) : Int) from by rw [wr_i64_id (by omega) (by omega)]; omega]
    rw [e]
    exact times_loop k hk hx hy hxl hyl r (i + 1) q out' (by omega) (by omega) f2 f3 f4
theorem timesN_eq (k : Nat) {x y : List Int} (hx : Dig 256 x) (hy : Dig 256 y) (hxl : x.length < 1000000) (hyl : y.length < 1000000) (hk : x.length + y.length + 3 < k) : ∃ z, smithyref02_Times.f k x y = some z ∧ z.length = x.length + y.length + 1 ∧ Dig 256 z ∧ dv 256 z = dv 256 x * dv 256 y := by
  have hw : wr .i64 (wr .i64 ((x.length : Int) + (y.length : Int)) + 1) = ((x.length + y.length + 1 : Nat) : Int) := by rw [wr_i64_id (x := (x.length : Int) + y.length) (by omega) (by omega), wr_i64_id (by omega) (by omega)]; omega
  have hrep : Dig 256 (List.replicate (x.length + y.length + 1) (0 : Int)) := fun y hy => by rw [List.eq_of_mem_replicate hy]; omega
  have hz : dv 256 (List.replicate (x.length + y.length + 1) (0 : Int)) = 0 := dv_zero 256 _ (fun j => by rw [List.getD_eq_getElem?_getD, List.getElem?_replicate]; split <;> rfl)
  obtain ⟨z, e, h1, h2, h3⟩ := times_loop k (by omega) hx hy hxl hyl x.length 0 k (List.replicate (x.length + y.length + 1) (0 : Int)) (by omega) (by omega) (by simp) hrep (by rw [hz]; simp [dv])
  refine ⟨z, ?_, h1, h2, h3⟩
  unfold smithyref02_Times.f
  rw [hw, Int.toNat_natCast, if_pos (by omega)]
  exact e
end GW
