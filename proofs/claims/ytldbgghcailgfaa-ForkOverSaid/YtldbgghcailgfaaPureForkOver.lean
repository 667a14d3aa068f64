import Derived.Test.YtldbgghcailgfaaG0
import Derived.Test.YtldbgghcailgfaaGWPlain
import Derived.Sort.LotA
import Derived.Sort.Defs
import Derived.Laws.Bits64b
import Derived.Sort.LotB
import Derived.Sort.LotC
import Derived.Sort.LotD3
set_option linter.unusedVariables false
set_option linter.unusedSimpArgs false
set_option maxRecDepth 100000
namespace GW
open Go Go.RowKit
def Wd (a : List Int) : Prop := a.length = 4 ∧ ∀ y ∈ a, inK .u64 y
def wv (a : List Int) : Int := rd a 0 + rd a 1 * 18446744073709551616 + rd a 2 * 340282366920938463463374607431768211456 + rd a 3 * 6277101735386680763835789423207666416102355444464034512896
theorem inK_of_u64 {x : Int} (h0 : 0 ≤ x) (h1 : x < 18446744073709551616) : inK .u64 x := by
  have : x ≤ 18446744073709551615 := by omega
  simpa [inK, Lit.wf, IntKind.min, IntKind.max, IntKind.signed, IntKind.bits] using And.intro h0 this
theorem Wd.lanes {a : List Int} (h : Wd a) : ∃ a0 a1 a2 a3 : Int, a = [a0, a1, a2, a3] ∧ (0 ≤ a0 ∧ a0 < 18446744073709551616) ∧ (0 ≤ a1 ∧ a1 < 18446744073709551616) ∧ (0 ≤ a2 ∧ a2 < 18446744073709551616) ∧ (0 ≤ a3 ∧ a3 < 18446744073709551616) := by
  obtain ⟨hl, hx⟩ := h
  match a, hl with
  | [a0, a1, a2, a3], _ => exact ⟨a0, a1, a2, a3, rfl, inK_u64 (hx a0 (by simp)), inK_u64 (hx a1 (by simp)), inK_u64 (hx a2 (by simp)), inK_u64 (hx a3 (by simp))⟩
theorem Wd.mk {a0 a1 a2 a3 : Int} (h0 : 0 ≤ a0 ∧ a0 < 18446744073709551616) (h1 : 0 ≤ a1 ∧ a1 < 18446744073709551616) (h2 : 0 ≤ a2 ∧ a2 < 18446744073709551616) (h3 : 0 ≤ a3 ∧ a3 < 18446744073709551616) : Wd [a0, a1, a2, a3] := by
  refine ⟨rfl, fun y hy => ?_⟩
  simp only [List.mem_cons, List.not_mem_nil, or_false] at hy
  rcases hy with rfl | rfl | rfl | rfl
  · exact inK_of_u64 h0.1 h0.2
  · exact inK_of_u64 h1.1 h1.2
  · exact inK_of_u64 h2.1 h2.2
  · exact inK_of_u64 h3.1 h3.2
theorem wv_lanes (a0 a1 a2 a3 : Int) : wv [a0, a1, a2, a3] = a0 + a1 * 18446744073709551616 + a2 * 340282366920938463463374607431768211456 + a3 * 6277101735386680763835789423207666416102355444464034512896 := rfl
theorem Wd.lt {a : List Int} (h : Wd a) : 0 ≤ wv a ∧ wv a < 115792089237316195423570985008687907853269984665640564039457584007913129639936 := by
  obtain ⟨a0, a1, a2, a3, rfl, h0, h1, h2, h3⟩ := h.lanes
  rw [wv_lanes]; omega
theorem Wd.inj {a b : List Int} (h : Wd a) (k : Wd b) (e : wv a = wv b) : a = b := by
  obtain ⟨a0, a1, a2, a3, rfl, h0, h1, h2, h3⟩ := h.lanes
  obtain ⟨b0, b1, b2, b3, rfl, k0, k1, k2, k3⟩ := k.lanes
  rw [wv_lanes, wv_lanes] at e
  have e0 : a0 = b0 := by omega
  subst e0
  have e1 : a1 = b1 := by omega
  subst e1
  have e2 : a2 = b2 := by omega
  subst e2
  have e3 : a3 = b3 := by omega
  rw [e3]
theorem Wd.of {x : Int} (h : inK .u64 x) : Wd [x, 0, 0, 0] := Wd.mk (inK_u64 h) (by omega) (by omega) (by omega)
theorem Wd.of' {x : Int} (h0 : 0 ≤ x) (h1 : x < 18446744073709551616) : Wd [x, 0, 0, 0] := Wd.mk ⟨h0, h1⟩ (by omega) (by omega) (by omega)
theorem Wd.zero : Wd [0, 0, 0, 0] := Wd.of' (by omega) (by omega)
def dv (B : Int) : List Int → Int
  | [] => 0
  | x :: r => x + B * dv B r
theorem rd_getD (a : List Int) (i : Nat) : rd a (i : Int) = a.getD i 0 := rfl
def Dig (B : Int) (a : List Int) : Prop := ∀ y ∈ a, 0 ≤ y ∧ y < B
theorem Dig.rd {B : Int} (hB : 0 < B) {a : List Int} (h : Dig B a) (i : Nat) : 0 ≤ a.getD i 0 ∧ a.getD i 0 < B := by
  rw [List.getD_eq_getElem?_getD]
  by_cases hi : i < a.length
  · rw [List.getElem?_eq_getElem hi]; exact h _ (List.getElem_mem hi)
  · rw [List.getElem?_eq_none (by omega)]; exact ⟨Int.le_refl _, hB⟩
theorem Dig.set {B : Int} {a : List Int} (h : Dig B a) (i : Nat) {v : Int} (hv : 0 ≤ v ∧ v < B) : Dig B (a.set i v) := fun y hy => by
  rcases List.mem_or_eq_of_mem_set hy with h1 | rfl
  · exact h y h1
  · exact hv
theorem Dig.nil (B : Int) : Dig B [] := fun y hy => by cases hy
theorem dv_lt {B : Int} (hB : 0 < B) : ∀ {a : List Int}, Dig B a → 0 ≤ dv B a ∧ dv B a < B ^ a.length
  | [], _ => by simp [dv]
  | x :: r, h => by
    obtain ⟨h1, h2⟩ := h x (by simp)
    obtain ⟨h3, h4⟩ := dv_lt hB (a := r) fun y hy => h y (by simp [hy])
    have h5 : B * dv B r ≤ B * (B ^ r.length - 1) := Int.mul_le_mul_of_nonneg_left (by omega) (by omega)
    have h6 : 0 ≤ B * dv B r := Int.mul_nonneg (by omega) h3
    simp only [dv, List.length_cons, Int.pow_succ]
    have h7 : B * (B ^ r.length - 1) = B ^ r.length * B - B := by grind
    omega
end GW
set_option linter.unusedVariables false
set_option linter.unusedSimpArgs false
set_option maxRecDepth 100000
namespace GW
open Go Go.RowKit
theorem dv_split (B : Int) : ∀ (a : List Int) (i : Nat), dv B a = dv B (a.take i) + a.getD i 0 * B ^ i + B ^ (i + 1) * dv B (a.drop (i + 1))
  | [], i => by simp [dv]
  | x :: r, 0 => by simp [dv, Int.pow_succ]
  | x :: r, i + 1 => by
    have := dv_split B r i
    simp only [List.take_succ_cons, dv, List.getD_cons_succ, List.drop_succ_cons, Int.pow_succ] at this ⊢
    rw [this]
    grind
theorem dv_zero (B : Int) : ∀ (a : List Int), (∀ j, a.getD j 0 = 0) → dv B a = 0
  | [], _ => rfl
  | x :: r, h => by
    have h0 : x = 0 := h 0
    rw [dv, dv_zero B r (fun j => h (j + 1)), h0, Int.mul_zero, Int.add_zero]
theorem dv_ext (B : Int) : ∀ (a b : List Int), (∀ j, a.getD j 0 = b.getD j 0) → dv B a = dv B b
  | [], b, h => (dv_zero B b (fun j => (h j).symm.trans (by simp))).symm
  | x :: r, [], h => dv_zero B (x :: r) (fun j => (h j).trans (by simp))
  | x :: r, y :: s, h => by
    have h0 : x = y := h 0
    rw [dv, dv, h0, dv_ext B r s (fun j => h (j + 1))]
theorem Dig.take {B : Int} {a : List Int} (h : Dig B a) (i : Nat) : Dig B (a.take i) := fun y hy => h y (List.take_subset _ _ hy)
theorem Dig.drop {B : Int} {a : List Int} (h : Dig B a) (i : Nat) : Dig B (a.drop i) := fun y hy => h y (List.drop_subset _ _ hy)
theorem getD_drop (a : List Int) (i j : Nat) : (a.drop i).getD j 0 = a.getD (i + j) 0 := by
  rw [List.getD_eq_getElem?_getD, List.getD_eq_getElem?_getD, List.getElem?_drop]
theorem dv_at {B : Int} (hB : 0 < B) {a b : List Int} (ha : Dig B a) (hb : Dig B b) (i : Nat) (hi : ∀ j, i < j → a.getD j 0 = b.getD j 0) (h : a.getD i 0 < b.getD i 0) : dv B a < dv B b := by
  have e : dv B (a.drop (i + 1)) = dv B (b.drop (i + 1)) := dv_ext B _ _ (fun j => by rw [getD_drop, getD_drop, hi _ (by omega)])
  rw [dv_split B a i, dv_split B b i, e]
  obtain ⟨_, h1⟩ := dv_lt hB (ha.take i)
  obtain ⟨h2, _⟩ := dv_lt hB (hb.take i)
  have h3 : B ^ (a.take i).length ≤ B ^ i := by
    have : ∀ m n : Nat, m ≤ n → B ^ m ≤ B ^ n := fun m n hmn => by
      obtain ⟨d, rfl⟩ := Nat.exists_eq_add_of_le hmn
      rw [Int.pow_add]
      have := Int.pow_pos (n := B) (m := d) hB
      have h4 : B ^ m * 1 ≤ B ^ m * B ^ d := Int.mul_le_mul_of_nonneg_left (by omega) (Int.le_of_lt (Int.pow_pos hB))
      omega
    exact this _ _ (by rw [List.length_take]; omega)
  have h4 : (a.getD i 0 + 1) * B ^ i ≤ b.getD i 0 * B ^ i := Int.mul_le_mul_of_nonneg_right (by omega) (Int.le_of_lt (Int.pow_pos hB))
  rw [Int.add_mul, Int.one_mul] at h4
  omega
theorem of_lanesW (k : Nat) (x0 x1 x2 x3 : Int) : smithyref01_Of.f (k + 40) [x0, x1, x2, x3] = some [wr .i64 (Int.tmod (shr x0 0) 256), wr .i64 (Int.tmod (shr x0 8) 256), wr .i64 (Int.tmod (shr x0 16) 256), wr .i64 (Int.tmod (shr x0 24) 256), wr .i64 (Int.tmod (shr x0 32) 256), wr .i64 (Int.tmod (shr x0 40) 256), wr .i64 (Int.tmod (shr x0 48) 256), wr .i64 (Int.tmod (shr x0 56) 256), wr .i64 (Int.tmod (shr x1 0) 256), wr .i64 (Int.tmod (shr x1 8) 256), wr .i64 (Int.tmod (shr x1 16) 256), wr .i64 (Int.tmod (shr x1 24) 256), wr .i64 (Int.tmod (shr x1 32) 256), wr .i64 (Int.tmod (shr x1 40) 256), wr .i64 (Int.tmod (shr x1 48) 256), wr .i64 (Int.tmod (shr x1 56) 256), wr .i64 (Int.tmod (shr x2 0) 256), wr .i64 (Int.tmod (shr x2 8) 256), wr .i64 (Int.tmod (shr x2 16) 256), wr .i64 (Int.tmod (shr x2 24) 256), wr .i64 (Int.tmod (shr x2 32) 256), wr .i64 (Int.tmod (shr x2 40) 256), wr .i64 (Int.tmod (shr x2 48) 256), wr .i64 (Int.tmod (shr x2 56) 256), wr .i64 (Int.tmod (shr x3 0) 256), wr .i64 (Int.tmod (shr x3 8) 256), wr .i64 (Int.tmod (shr x3 16) 256), wr .i64 (Int.tmod (shr x3 24) 256), wr .i64 (Int.tmod (shr x3 32) 256), wr .i64 (Int.tmod (shr x3 40) 256), wr .i64 (Int.tmod (shr x3 48) 256), wr .i64 (Int.tmod (shr x3 56) 256)] := by kernel_rfl
theorem limb_dig (x : Int) (n : Nat) (h : 0 ≤ x) (h1 : x < 18446744073709551616) : wr .i64 (Int.tmod (shr x n) 256) = x / 2 ^ n % 256 := by
  unfold shr
  have hp : (0 : Int) < 2 ^ n := Int.pow_pos (by omega)
  rw [Int.fdiv_eq_ediv_of_nonneg _ (Int.le_of_lt hp)]
  have h2 : 0 ≤ x / 2 ^ n := Int.ediv_nonneg h (Int.le_of_lt hp)
  rw [tmod_pos h2, wr_i64_id (by omega) (by omega)]
theorem limb_dv (x : Int) (h : 0 ≤ x) (h1 : x < 18446744073709551616) (r : List Int) : dv 256 (x / 2 ^ 0 % 256 :: x / 2 ^ 8 % 256 :: x / 2 ^ 16 % 256 :: x / 2 ^ 24 % 256 :: x / 2 ^ 32 % 256 :: x / 2 ^ 40 % 256 :: x / 2 ^ 48 % 256 :: x / 2 ^ 56 % 256 :: r) = x + 18446744073709551616 * dv 256 r := by
  simp only [dv, Int.reducePow]
  generalize dv 256 r = y
  omega
theorem ofD_eq (k : Nat) {a : List Int} (ha : Wd a) : ∃ d, smithyref01_Of.f (k + 40) a = some d ∧ d.length = 32 ∧ Dig 256 d ∧ dv 256 d = wv a := by
  obtain ⟨a0, a1, a2, a3, rfl, h0, h1, h2, h3⟩ := ha.lanes
  refine ⟨_, of_lanesW k a0 a1 a2 a3, rfl, ?_, ?_⟩
  · intro y hy
    simp only [limb_dig a0 _ h0.1 h0.2, limb_dig a1 _ h1.1 h1.2, limb_dig a2 _ h2.1 h2.2, limb_dig a3 _ h3.1 h3.2, List.mem_cons, List.not_mem_nil, or_false] at hy
    rcases hy with rfl | rfl | rfl | rfl | rfl | rfl | rfl | rfl | rfl | rfl | rfl | rfl | rfl | rfl | rfl | rfl | rfl | rfl | rfl | rfl | rfl | rfl | rfl | rfl | rfl | rfl | rfl | rfl | rfl | rfl | rfl | rfl <;> omega
  · simp only [limb_dig a0 _ h0.1 h0.2, limb_dig a1 _ h1.1 h1.2, limb_dig a2 _ h2.1 h2.2, limb_dig a3 _ h3.1 h3.2]
    rw [limb_dv a0 h0.1 h0.2, limb_dv a1 h1.1 h1.2, limb_dv a2 h2.1 h2.2, limb_dv a3 h3.1 h3.2, wv_lanes]
    simp only [dv]
    omega
end GW
set_option linter.unusedVariables false
set_option linter.unusedSimpArgs false
set_option maxRecDepth 100000
namespace GW
open Go Go.RowKit
def cmpI (a b : Int) : Int := if a = b then 0 else if a < b then -1 else 1
theorem cmp_step (x y : List Int) (q i : Nat) (hi : i < 4) (h : rd x i = rd y i) : word_Compare.l1 x y (q + 1) (i : Int) = word_Compare.l1 x y q ((i : Int) - 1) := by
  show word_Compare.b1 x y _ _ = _
  unfold word_Compare.b1
  rw [if_pos (by omega), if_pos (by simpa using h), wr_i64_id (by omega) (by omega)]
theorem cmp_stop (x y : List Int) (q i : Nat) (hi : i < 4) (h : rd x i ≠ rd y i) : word_Compare.l1 x y (q + 1) (i : Int) = some (if rd x i < rd y i then -1 else 1) := by
  show word_Compare.b1 x y _ _ = _
  unfold word_Compare.b1
  rw [if_pos (by omega), if_neg (by simpa using h)]
  unfold word_Compare.j1
  rw [if_pos (by omega)]
  by_cases c : rd x i < rd y i
  · rw [if_pos (by simpa using c), if_pos c]
  · rw [if_neg (by simpa using c), if_neg c]
theorem cmp_eq (k : Nat) {a b : List Int} (ha : Wd a) (hb : Wd b) : word_Compare.f (k + 5) a b = some (cmpI (wv a) (wv b)) := by
  unfold word_Compare.f cmpI
  by_cases e : a = b
  · subst e
    rw [if_pos (by simp), if_pos rfl]
  rw [if_neg (by simpa using e), if_neg (fun h => e (ha.inj hb h))]
  obtain ⟨a0, a1, a2, a3, rfl, h0, h1, h2, h3⟩ := ha.lanes
  obtain ⟨b0, b1, b2, b3, rfl, k0, k1, k2, k3⟩ := hb.lanes
  have r0 : ∀ x0 x1 x2 x3 : Int, rd [x0, x1, x2, x3] ((0 : Nat) : Int) = x0 := fun _ _ _ _ => rfl
  have r1 : ∀ x0 x1 x2 x3 : Int, rd [x0, x1, x2, x3] ((1 : Nat) : Int) = x1 := fun _ _ _ _ => rfl
  have r2 : ∀ x0 x1 x2 x3 : Int, rd [x0, x1, x2, x3] ((2 : Nat) : Int) = x2 := fun _ _ _ _ => rfl
  have r3 : ∀ x0 x1 x2 x3 : Int, rd [x0, x1, x2, x3] ((3 : Nat) : Int) = x3 := fun _ _ _ _ => rfl
  have goal : ∀ (p q : Int), (p < q ↔ wv [a0, a1, a2, a3] < wv [b0, b1, b2, b3]) → some (if p < q then (-1 : Int) else 1) = some (if wv [a0, a1, a2, a3] < wv [b0, b1, b2, b3] then -1 else 1) := fun p q h => by
    by_cases c : p < q
    · rw [if_pos c, if_pos (h.1 c)]
    · rw [if_neg c, if_neg (fun u => c (h.2 u))]
  simp only [wv_lanes] at goal ⊢
  rw [show (word_Compare.l1 [a0, a1, a2, a3] [b0, b1, b2, b3] (k + 5) 3) = word_Compare.l1 [a0, a1, a2, a3] [b0, b1, b2, b3] (k + 4 + 1) ((3 : Nat) : Int) from rfl]
  by_cases c3 : a3 = b3
  · rw [cmp_step [a0, a1, a2, a3] [b0, b1, b2, b3] _ 3 (by omega) c3, show (((3 : Nat) : Int) - 1) = ((2 : Nat) : Int) from rfl, show k + 4 = k + 3 + 1 from rfl]
    by_cases c2 : a2 = b2
    · rw [cmp_step [a0, a1, a2, a3] [b0, b1, b2, b3] _ 2 (by omega) c2, show (((2 : Nat) : Int) - 1) = ((1 : Nat) : Int) from rfl, show k + 3 = k + 2 + 1 from rfl]
      by_cases c1 : a1 = b1
      · rw [cmp_step [a0, a1, a2, a3] [b0, b1, b2, b3] _ 1 (by omega) c1, show (((1 : Nat) : Int) - 1) = ((0 : Nat) : Int) from rfl, show k + 2 = k + 1 + 1 from rfl]
        by_cases c0 : a0 = b0
        · exact absurd (by rw [c0, c1, c2, c3]) e
        · rw [cmp_stop [a0, a1, a2, a3] [b0, b1, b2, b3] _ 0 (by omega) c0, r0, r0]; exact goal _ _ (by omega)
      · rw [cmp_stop [a0, a1, a2, a3] [b0, b1, b2, b3] _ 1 (by omega) c1, r1, r1]; exact goal _ _ (by omega)
    · rw [cmp_stop [a0, a1, a2, a3] [b0, b1, b2, b3] _ 2 (by omega) c2, r2, r2]; exact goal _ _ (by omega)
  · rw [cmp_stop [a0, a1, a2, a3] [b0, b1, b2, b3] _ 3 (by omega) c3, r3, r3]; exact goal _ _ (by omega)
theorem cmpI_lt (a b : Int) : decide (cmpI a b < 0) = decide (a < b) := by
  unfold cmpI
  by_cases h : a = b
  · subst h; simp
  · rw [if_neg h]
    by_cases k : a < b
    · rw [if_pos k]; simp [k]
    · rw [if_neg k]; simp [k]
end GW
set_option linter.unusedVariables false
set_option linter.unusedSimpArgs false
set_option maxRecDepth 100000
namespace GW
open Go Go.RowKit
theorem cmpD_loop {x y : List Int} (hx : Dig 256 x) (hy : Dig 256 y) (hxl : x.length = 32) (hyl : y.length = 32) : ∀ (r q : Nat), r ≤ 32 → r < q → (∀ j, r ≤ j → x.getD j 0 = y.getD j 0) → smithyref01_Compare.l1 x y q ((r : Int) - 1) = some (cmpI (dv 256 x) (dv 256 y))
  | 0, q, hr, hq, h => by
    obtain ⟨q, rfl⟩ : ∃ m, q = m + 1 := ⟨q - 1, by omega⟩
    show smithyref01_Compare.b1 x y _ _ = _
    unfold smithyref01_Compare.b1 smithyref01_Compare.j1
    rw [if_neg (by simp), dv_ext 256 x y (fun j => h j (by omega))]
    simp [cmpI]
  | r + 1, q, hr, hq, h => by
    obtain ⟨q, rfl⟩ : ∃ m, q = m + 1 := ⟨q - 1, by omega⟩
    rw [show ((r + 1 : Nat) : Int) - 1 = (r : Int) from by omega]
    show smithyref01_Compare.b1 x y _ _ = _
    unfold smithyref01_Compare.b1
    rw [if_pos (by simp), if_pos (by omega), rd_getD, rd_getD]
    by_cases c : x.getD r 0 < y.getD r 0
    · rw [if_pos (by simpa using c)]
      have := dv_at (by omega) hx hy r (fun j hj => h j (by omega)) c
      unfold cmpI
      rw [if_neg (by omega), if_pos this]
    rw [if_neg (by simpa using c)]
    by_cases c2 : y.getD r 0 < x.getD r 0
    · rw [if_pos (by simpa using c2)]
      have := dv_at (by omega) hy hx r (fun j hj => (h j (by omega)).symm) c2
      unfold cmpI
      rw [if_neg (by omega), if_neg (by omega)]
    rw [if_neg (by simpa using c2), wr_i64_id (by omega) (by omega)]
    refine cmpD_loop hx hy hxl hyl r q (by omega) (by omega) (fun j hj => ?_)
    by_cases e : j = r
    · subst e; omega
    · exact h j (by omega)
theorem cmpD_eq (k : Nat) {x y : List Int} (hx : Dig 256 x) (hy : Dig 256 y) (hxl : x.length = 32) (hyl : y.length = 32) : smithyref01_Compare.f (k + 40) x y = some (cmpI (dv 256 x) (dv 256 y)) :=
  cmpD_loop hx hy hxl hyl 32 (k + 40) (by omega) (by omega) (fun j hj => by rw [List.getD_eq_getElem?_getD, List.getD_eq_getElem?_getD, List.getElem?_eq_none (by omega), List.getElem?_eq_none (by omega)])
end GW
set_option linter.unusedVariables false
set_option linter.unusedSimpArgs false
set_option maxRecDepth 100000
namespace GW
open Go Go.RowKit
def SmallA (a : L34) : Prop := a.2.2.2.1.length ≤ 3000 ∧ a.2.2.2.2.length ≤ 100
theorem great_loop (l : List L34) (hl : l.length ≤ 50) : ∀ (r q i : Nat), i + r = l.length → r < q → smithyref13_Great.l1 l q (i : Int) = some true ∨ (smithyref13_Great.l1 l q (i : Int) = some false ∧ ∀ a ∈ l.drop i, SmallA a)
  | 0, q, i, hi, hq => by
    obtain ⟨q, rfl⟩ : ∃ m, q = m + 1 := ⟨q - 1, by omega⟩
    refine .inr ⟨?_, fun a ha => by rw [List.drop_eq_nil_of_le (by omega)] at ha; cases ha⟩
    show smithyref13_Great.b1 _ _ _ = _
    unfold smithyref13_Great.b1
    rw [if_neg (by simp; omega)]; rfl
  | r + 1, q, i, hi, hq => by
    obtain ⟨q, rfl⟩ : ∃ m, q = m + 1 := ⟨q - 1, by omega⟩
    have hw : wr .i64 ((i : Int) + 1) = ((i + 1 : Nat) : Int) := by rw [wr_i64_id (by omega) (by omega)]; omega
    have e1 : smithyref13_Great.l1 l (q + 1) (i : Int) = smithyref13_Great.b1 l (smithyref13_Great.l1 l q) (i : Int) := rfl
    rw [e1]
    unfold smithyref13_Great.b1
    rw [if_pos (by simp; omega), if_pos (by omega)]
    by_cases c1 : (3000 : Int) < ((gt l (i : Int)).2.2.2.1.length : Int)
    · rw [if_pos (decide_eq_true c1)]; exact .inl rfl
    · rw [if_neg (by simpa using c1)]
      unfold smithyref13_Great.j2
      by_cases c2 : (100 : Int) < ((gt l (i : Int)).2.2.2.2.length : Int)
      · rw [decide_eq_true c2]; exact .inl rfl
      · rw [decide_eq_false c2, if_neg (by simp), hw]
        rcases great_loop l hl r q (i + 1) (by omega) (by omega) with h | ⟨h, h2⟩
        · exact .inl h
        · refine .inr ⟨h, fun a ha => ?_⟩
          rw [List.drop_eq_getElem_cons (by omega)] at ha
          rcases List.mem_cons.1 ha with rfl | ha
          · have : gt l (i : Int) = l[i] := by unfold gt; rw [Int.toNat_natCast, List.getD_eq_getElem?_getD, List.getElem?_eq_getElem (by omega)]; rfl
            rw [this] at c1 c2
            exact ⟨by omega, by omega⟩
          · exact h2 a ha
theorem great13 (l : List L34) (k : Nat) (hk : 51 < k) : smithyref13_Great.f k l = some true ∨ (smithyref13_Great.f k l = some false ∧ l.length ≤ 50 ∧ ∀ a ∈ l, SmallA a) := by
  unfold smithyref13_Great.f
  by_cases c : (50 : Int) < (l.length : Int)
  · rw [if_pos (decide_eq_true c)]; exact .inl rfl
  · rw [if_neg (by simpa using c)]
    rcases great_loop l (by omega) l.length k 0 (by omega) (by omega) with h | ⟨h, h2⟩
    · exact .inl h
    · exact .inr ⟨h, by omega, by simpa using h2⟩
end GW
set_option linter.unusedVariables false
set_option linter.unusedSimpArgs false
set_option maxRecDepth 100000
namespace GW
open Go Go.RowKit
theorem gt_atG {α : Type} [Inhabited α] (xs : List α) {i : Int} (h0 : 0 ≤ i) (h1 : i < xs.length) : gt xs i ∈ xs := by
  unfold gt
  have h : i.toNat < xs.length := by omega
  rw [List.getD_eq_getElem?_getD, List.getElem?_eq_getElem h]
  exact List.getElem_mem h
theorem lessD_eq (k : Nat) {a b : List Int} (ha : Wd a) (hb : Wd b) : smithyref13_less.f (k + 40) a b = some (decide (wv a < wv b)) := by
  obtain ⟨d, d1, d2, d3, d4⟩ := ofD_eq k ha
  obtain ⟨e, e1, e2, e3, e4⟩ := ofD_eq k hb
  unfold smithyref13_less.f
  rw [d1, Option.bind_some, e1, Option.bind_some, cmpD_eq k d3 e3 d2 e2, Option.bind_some, cmpI_lt, d4, e4]
theorem cmpI_ge (a b : Int) : decide (0 ≤ cmpI a b) = !decide (a < b) := by
  unfold cmpI
  by_cases h : a = b
  · subst h; simp
  · rw [if_neg h]
    by_cases h2 : a < b <;> simp [h2]
theorem right_eq (k : Nat) (x : L34) (hx : Gd32 x.2.2.2.2) : ∀ (r q i : Nat), i + r = x.2.2.2.2.length → r < q → ∃ b, store_Right.l1 (k + 40) x q (i : Int) = some b ∧ smithyref13_Right.l1 (k + 40) x q (i : Int) = some b
  | 0, q, i, hi, hq => by
    obtain ⟨q, rfl⟩ : ∃ m, q = m + 1 := ⟨q - 1, by omega⟩
    refine ⟨true, ?_, ?_⟩
    · show store_Right.b1 _ _ _ _ = _
      unfold store_Right.b1
      rw [if_neg (by simp; omega)]; rfl
    · show smithyref13_Right.b1 _ _ _ _ = _
      unfold smithyref13_Right.b1
      rw [if_neg (by simp; omega)]; rfl
  | r + 1, q, i, hi, hq => by
    obtain ⟨q, rfl⟩ : ∃ m, q = m + 1 := ⟨q - 1, by omega⟩
    have hm := hx.2
    simp only [maxLen] at hm
    have hw : wr .i64 ((i : Int) + 1) = ((i + 1 : Nat) : Int) := by rw [wr_i64_id (by omega) (by omega)]; omega
    obtain ⟨b, ih1, ih2⟩ := right_eq k x hx r q (i + 1) (by omega) (by omega)
    have hc : decide ((i : Int) < ((x.2.2.2.2).length : Int)) = true := decide_eq_true (by omega)
    have hb : (0 : Int) ≤ (i : Int) ∧ (i : Int) < ((x.2.2.2.2).length : Int) := by omega
    have e1 : store_Right.l1 (k + 40) x (q + 1) (i : Int) = store_Right.b1 (k + 40) x (store_Right.l1 (k + 40) x q) (i : Int) := rfl
    have e2 : smithyref13_Right.l1 (k + 40) x (q + 1) (i : Int) = smithyref13_Right.b1 (k + 40) x (smithyref13_Right.l1 (k + 40) x q) (i : Int) := rfl
    rw [e1, e2]
    unfold store_Right.b1 smithyref13_Right.b1
    rw [if_pos hc, if_pos hb, if_pos hc, if_pos hb]
    by_cases c : (gt x.2.2.2.2 (i : Int)).2 = [0, 0, 0, 0]
    · rw [decide_eq_true c, if_pos rfl, if_pos rfl]
      exact ⟨false, rfl, rfl⟩
    · rw [decide_eq_false c, if_neg (show ¬ (false = true) by simp), if_neg (show ¬ (false = true) by simp)]
      have j1 : ∀ t, store_Right.j2 (i : Int) (store_Right.l1 (k + 40) x q) t = if t = true then some false else some b := fun t => by
        unfold store_Right.j2; rw [hw, ih1]
      have j2 : ∀ t, smithyref13_Right.j2 (i : Int) (smithyref13_Right.l1 (k + 40) x q) t = if t = true then some false else some b := fun t => by
        unfold smithyref13_Right.j2; rw [hw, ih2]
      by_cases c0 : 0 < i
      · have h0 : decide ((0 : Int) < (i : Int)) = true := decide_eq_true (by omega)
        have hp : wr .i64 ((i : Int) - 1) = (i : Int) - 1 := wr_i64_id (by omega) (by omega)
        rw [if_pos h0, if_pos h0, hp, if_pos (by omega), if_pos (by omega)]
        have g1 := (hx.1 _ (gt_atG x.2.2.2.2 (i := (i : Int) - 1) (by omega) (by omega))).1
        have g2 := (hx.1 _ (gt_atG x.2.2.2.2 (i := (i : Int)) (by omega) (by omega))).1
        have w1 : Wd (gt x.2.2.2.2 ((i : Int) - 1)).1 := g1
        have w2 : Wd (gt x.2.2.2.2 (i : Int)).1 := g2
        rw [show k + 40 = (k + 35) + 5 from rfl, cmp_eq (k + 35) w1 w2, Option.bind_some, show k + 35 + 5 = k + 40 from rfl, lessD_eq k w1 w2, Option.bind_some, cmpI_ge, j1, j2]
        split <;> exact ⟨_, rfl, rfl⟩
      · have h0 : decide ((0 : Int) < (i : Int)) = false := decide_eq_false (by omega)
        rw [h0, if_neg (show ¬ (false = true) by simp), if_neg (show ¬ (false = true) by simp), j1, j2, if_neg (show ¬ (false = true) by simp)]
        exact ⟨b, rfl, rfl⟩
theorem rights_eq (k : Nat) (x : L34) (hx : Gd32 x.2.2.2.2) (hk : x.2.2.2.2.length < k + 40) : ∃ b, store_Right.f (k + 40) x = some b ∧ smithyref13_Right.f (k + 40) x = some b := right_eq k x hx x.2.2.2.2.length (k + 40) 0 (by omega) (by omega)
end GW
set_option linter.unusedVariables false
set_option linter.unusedSimpArgs false
set_option maxRecDepth 100000
namespace GW
open Go Go.RowKit
def findA : List L34 → List Int → Option L34
  | [], _ => none
  | x :: l, a => if x.1 = a then some x else findA l a
def noA : L34 := ([0, 0, 0, 0, 0, 0, 0, 0, 0, 0, 0, 0, 0, 0, 0, 0, 0, 0, 0, 0], 0, [0, 0, 0, 0], ([] : List Int), ([] : List ((List Int) × (List Int))))
theorem findA_mem {l : List L34} {a : List Int} {x : L34} (h : findA l a = some x) : x ∈ l ∧ x.1 = a := by
  induction l with
  | nil => cases h
  | cons y l ih =>
    unfold findA at h
    by_cases c : y.1 = a
    · rw [if_pos c] at h; obtain rfl := Option.some.inj h; exact ⟨List.mem_cons_self, c⟩
    · rw [if_neg c] at h; exact ⟨List.mem_cons_of_mem _ (ih h).1, (ih h).2⟩
theorem gt_dropA {α : Type} [Inhabited α] {xs : List α} {i : Nat} {x : α} {l : List α} (h : xs.drop i = x :: l) : gt xs (i : Int) = x ∧ i < xs.length ∧ xs.drop (i + 1) = l := by
  have hi : i < xs.length := by
    refine Decidable.byContradiction fun c => ?_
    rw [List.drop_eq_nil_of_le (by omega)] at h
    cases h
  rw [List.drop_eq_getElem_cons hi] at h
  simp only [List.cons.injEq] at h
  refine ⟨?_, hi, h.2⟩
  unfold gt
  rw [Int.toNat_natCast, List.getD_eq_getElem?_getD, List.getElem?_eq_getElem hi]
  exact h.1
theorem next1 (i : Nat) (h : i < 4611686018427387904) : wr .i64 ((i : Int) + 1) = ((i + 1 : Nat) : Int) := by rw [wr_i64_id (by omega) (by omega)]; omega
theorem find_loop (xs : List L34) (a : List Int) (hl : xs.length < 4611686018427387904) : ∀ (l : List L34) (q i : Nat), xs.drop i = l → i ≤ xs.length → l.length < q → smithyref13_Find.l1 xs a q (i : Int) = some (match findA l a with | some x => (x, true) | none => (noA, false))
  | [], q, i, hd, hi, hq => by
    obtain ⟨q, rfl⟩ : ∃ m, q = m + 1 := ⟨q - 1, by omega⟩
    have : xs.length ≤ i := by simpa using hd
    show smithyref13_Find.b1 _ _ _ _ = _
    unfold smithyref13_Find.b1
    rw [if_neg (by simp; omega)]; rfl
  | x :: l, q, i, hd, hi, hq => by
    simp only [List.length_cons] at hq
    obtain ⟨q, rfl⟩ : ∃ m, q = m + 1 := ⟨q - 1, by omega⟩
    obtain ⟨h1, h2, h3⟩ := gt_dropA hd
    show smithyref13_Find.b1 _ _ _ _ = _
    unfold smithyref13_Find.b1 findA
    rw [if_pos (by simp; omega), if_pos (by omega), h1]
    by_cases c : x.1 = a
    · rw [decide_eq_true c, if_pos rfl, if_pos c]
    · rw [decide_eq_false c, if_neg (by simp), if_neg c, next1 i (by omega)]
      exact find_loop xs a hl l q (i + 1) h3 (by omega) (by omega)
theorem find_eq (xs : List L34) (a : List Int) (k : Nat) (hk : xs.length < k) (hl : xs.length < 4611686018427387904) : smithyref13_Find.f k xs a = some (match findA xs a with | some x => (x, true) | none => (noA, false)) :=
  find_loop xs a hl xs k 0 rfl (by omega) hk
theorem same_l (x : L34) (hl : x.2.2.2.2.length < 4611686018427387904) : ∀ (r i q : Nat), i + r = x.2.2.2.2.length → r < q → smithyref13_Same.l1 x x q (i : Int) = some true
  | 0, i, q, hi, hq => by
    obtain ⟨q, rfl⟩ : ∃ m, q = m + 1 := ⟨q - 1, by omega⟩
    show smithyref13_Same.b1 _ _ _ _ = _
    unfold smithyref13_Same.b1
    rw [if_neg (by simp; omega)]; rfl
  | r + 1, i, q, hi, hq => by
    obtain ⟨q, rfl⟩ : ∃ m, q = m + 1 := ⟨q - 1, by omega⟩
    show smithyref13_Same.b1 _ _ _ _ = _
    unfold smithyref13_Same.b1
    rw [if_pos (by simp; omega), if_pos (by omega), if_pos (by omega), if_neg (by simp), next1 i (by omega)]
    exact same_l x hl r (i + 1) q (by omega) (by omega)
theorem same_self (x : L34) (k : Nat) (hk : x.2.2.2.2.length < k) (hl : x.2.2.2.2.length < 4611686018427387904) : smithyref13_Same.f k x x = some true := by
  unfold smithyref13_Same.f smithyref13_Same.j1
  rw [if_neg (by simp), if_neg (by simp), if_neg (by simp), if_neg (by simp), if_neg (by simp)]
  exact same_l x hl x.2.2.2.2.length 0 k (by omega) hk
end GW
set_option linter.unusedVariables false
set_option linter.unusedSimpArgs false
set_option linter.unusedSectionVars false
set_option maxRecDepth 100000
namespace GW
open Go Go.RowKit
section
variable {α β : Type} [DecidableEq α]
theorem aget_aput (kvs : List (α × β)) (x : α) (y : β) (k : α) : aget (aput kvs x y) k = if k = x then some y else aget kvs k := by
  induction kvs with
  | nil => rfl
  | cons p r ih =>
    obtain ⟨q, v⟩ := p
    unfold aput
    by_cases c : x = q
    · rw [if_pos c]
      subst c
      show (if k = x then some y else aget r k) = if k = x then some y else if k = x then some v else aget r k
      by_cases c2 : k = x
      · rw [if_pos c2, if_pos c2]
      · rw [if_neg c2, if_neg c2, if_neg c2]
    · rw [if_neg c]
      show (if k = q then some v else aget (aput r x y) k) = if k = x then some y else if k = q then some v else aget r k
      rw [ih]
      by_cases c2 : k = q
      · rw [if_pos c2, if_pos c2, if_neg (fun e : k = x => c (e.symm.trans c2))]
      · rw [if_neg c2, if_neg c2]
theorem aget_mem_iff {kvs : List (α × β)} (hn : (kvs.map Prod.fst).Nodup) (k : α) (v : β) : aget kvs k = some v ↔ (k, v) ∈ kvs := by
  induction kvs with
  | nil => simp [aget]
  | cons p r ih =>
    obtain ⟨q, u⟩ := p
    simp only [List.map_cons, List.nodup_cons] at hn
    unfold aget
    by_cases c : k = q
    · subst c
      rw [if_pos rfl]
      constructor
      · intro h; obtain rfl := Option.some.inj h; exact List.mem_cons_self
      · intro h
        rcases List.mem_cons.1 h with h | h
        · simp only [Prod.mk.injEq, true_and] at h; rw [h]
        · exact absurd (List.mem_map.2 ⟨_, h, rfl⟩) hn.1
    · rw [if_neg c, ih hn.2]
      constructor
      · exact fun h => List.mem_cons_of_mem _ h
      · intro h
        rcases List.mem_cons.1 h with h | h
        · simp only [Prod.mk.injEq] at h; exact absurd h.1 c
        · exact h
theorem adel_sub (kvs : List (α × β)) (x : α) : ∀ p ∈ adel kvs x, p ∈ kvs := fun p h => (List.mem_filter.1 h).1
theorem adel_nodup' {kvs : List (α × β)} (h : (kvs.map Prod.fst).Nodup) (x : α) : ((adel kvs x).map Prod.fst).Nodup :=
  List.Sublist.nodup (List.Sublist.map _ List.filter_sublist) h
theorem lk_some {o : Option β} {z v : β} (h : o = some v) : lk o z = (v, true) := by rw [h]; rfl
theorem lk_none {o : Option β} {z : β} (h : o = none) : lk o z = (z, false) := by rw [h]; rfl
end
end GW
set_option linter.unusedVariables false
set_option linter.unusedSimpArgs false
set_option maxRecDepth 100000
namespace GW
open Go Go.RowKit
abbrev CaK : Type := List ((List Int) × L34)
abbrev CaT : Type := List ((List Int) × Int)
theorem own_eq (x : L34) (h : SmallA x) : fork_own.f x = some x := by
  unfold fork_own.f slices_Clone_byte_byte.f api_Slot.f
  obtain ⟨h1, h2⟩ := h
  rw [if_pos (by simp; omega), Option.bind_some, if_pos (by simp; omega)]; rfl
theorem want_known {K : CaK} {T : CaT} {a : List Int} {x : L34} (h : aget K a = some x) : fork_Cache_Want.f (K, T) a = some (1, (K, T)) := by
  unfold fork_Cache_Want.f fork_Cache_Want.j1
  rw [lk_some h, if_pos rfl]
theorem want_asked {K : CaK} {T : CaT} {a : List Int} {n : Int} (h : aget K a = none) (h2 : aget T a = some n) : fork_Cache_Want.f (K, T) a = some (2, (K, T)) := by
  unfold fork_Cache_Want.f fork_Cache_Want.j1
  rw [lk_none h, if_neg (by simp), lk_some h2, if_pos rfl]
theorem want_begun {K : CaK} {T : CaT} {a : List Int} (h : aget K a = none) (h2 : aget T a = none) : fork_Cache_Want.f (K, T) a = some (3, (K, aput T a 0)) := by
  unfold fork_Cache_Want.f fork_Cache_Want.j1
  rw [lk_none h, if_neg (by simp), lk_none h2, if_neg (by simp)]
theorem fill_not {K : CaK} {T : CaT} {x : L34} {k : Nat} (hx : Gd34 x) (hs : SmallA x) (hk : 200 < k) (h : smithyref13_Right.f k x = some false ∨ aget T x.1 = none) : fork_Cache_Fill.f k (K, T) x = some (false, (K, T)) := by
  obtain ⟨b, b1, b2⟩ := rights_eq (k - 40) x hx.2.2.2.2 (by have := hs.2; omega)
  rw [show k - 40 + 40 = k by omega] at b1 b2
  unfold fork_Cache_Fill.f
  rw [b1, Option.bind_some]
  rcases h with h | h
  · rw [b2] at h; obtain rfl := Option.some.inj h
    rw [if_pos (by simp)]
  · cases b
    · rw [if_pos (by simp)]
    · rw [if_neg (by simp), lk_none h, if_pos (by simp)]
theorem fill_yes {K : CaK} {T : CaT} {x : L34} {n : Int} {k : Nat} (hx : Gd34 x) (hs : SmallA x) (hk : 200 < k) (h : smithyref13_Right.f k x = some true) (h2 : aget T x.1 = some n) : fork_Cache_Fill.f k (K, T) x = some (true, (aput K x.1 x, adel T x.1)) := by
  obtain ⟨b, b1, b2⟩ := rights_eq (k - 40) x hx.2.2.2.2 (by have := hs.2; omega)
  rw [show k - 40 + 40 = k by omega] at b1 b2
  rw [b2] at h; obtain rfl := Option.some.inj h
  unfold fork_Cache_Fill.f
  rw [b1, Option.bind_some, if_neg (by simp), lk_some h2, if_neg (by simp), own_eq x hs, Option.bind_some]
theorem account_yes {K : CaK} {T : CaT} {a : List Int} {x : L34} (hs : SmallA x) (h : aget K a = some x) : fork_Cache_Account.f (K, T) a = some (x, true) := by
  unfold fork_Cache_Account.f fork_Cache_Account.j1
  rw [lk_some h, if_pos rfl, own_eq x hs, Option.bind_some]
theorem account_no {K : CaK} {T : CaT} {a : List Int} (h : aget K a = none) : fork_Cache_Account.f (K, T) a = some ((a, 0, [0, 0, 0, 0], ([] : List Int), ([] : List ((List Int) × (List Int)))), false) := by
  unfold fork_Cache_Account.f fork_Cache_Account.j1
  rw [lk_none h, if_neg (by simp)]
end GW
set_option linter.unusedVariables false
set_option linter.unusedSimpArgs false
set_option maxRecDepth 100000
namespace GW
open Go Go.RowKit
def Ad (a : List Int) : Prop := a.length = 20 ∧ ∀ y ∈ a, inK .u8 y
def akey (a : List Int) : List UInt8 := u8s ((a.drop 0).take 20)
theorem akey_eq {a : List Int} (h : Ad a) : akey a = u8s a := by
  unfold akey
  rw [List.drop_zero, List.take_of_length_le (by rw [h.1]; omega)]
theorem u8_ltI {x y : Int} (hx : 0 ≤ x ∧ x < 256) (hy : 0 ≤ y ∧ y < 256) : (UInt8.ofNat x.toNat < UInt8.ofNat y.toNat) ↔ x < y := by
  rw [UInt8.lt_iff_toNat_lt, UInt8.toNat_ofNat', UInt8.toNat_ofNat', Nat.mod_eq_of_lt (by omega), Nat.mod_eq_of_lt (by omega)]
  omega
theorem u8_injI {x y : Int} (hx : 0 ≤ x ∧ x < 256) (hy : 0 ≤ y ∧ y < 256) (h : UInt8.ofNat x.toNat = UInt8.ofNat y.toNat) : x = y := by
  have := congrArg UInt8.toNat h
  rw [UInt8.toNat_ofNat', UInt8.toNat_ofNat', Nat.mod_eq_of_lt (by omega), Nat.mod_eq_of_lt (by omega)] at this
  omega
theorem u8s_inj : ∀ {a b : List Int}, (∀ y ∈ a, inK .u8 y) → (∀ y ∈ b, inK .u8 y) → u8s a = u8s b → a = b
  | [], [], _, _, _ => rfl
  | [], _ :: _, _, _, h => by simp [u8s] at h
  | _ :: _, [], _, _, h => by simp [u8s] at h
  | x :: a, y :: b, ha, hb, h => by
    have h1 : UInt8.ofNat x.toNat :: u8s a = UInt8.ofNat y.toNat :: u8s b := h
    simp only [List.cons.injEq] at h1
    rw [u8_injI (inK_u8 (ha x (by simp))) (inK_u8 (hb y (by simp))) h1.1, u8s_inj (fun z hz => ha z (by simp [hz])) (fun z hz => hb z (by simp [hz])) h1.2]
theorem akey_inj {a b : List Int} (ha : Ad a) (hb : Ad b) (h : akey a = akey b) : a = b := by
  rw [akey_eq ha, akey_eq hb] at h
  exact u8s_inj ha.2 hb.2 h
theorem less_loopA (a b : List Int) (ha : Ad a) (hb : Ad b) : ∀ (d q i : Nat), d < q → i + d = 20 → smithyref08_Less.l1 a b q (i : Int) = some (decide (u8s (a.drop i) < u8s (b.drop i))) := by
  intro d
  induction d with
  | zero =>
    intro q i hq hi
    obtain ⟨q, rfl⟩ : ∃ m, q = m + 1 := ⟨q - 1, by omega⟩
    show smithyref08_Less.b1 a b _ _ = _
    unfold smithyref08_Less.b1 smithyref08_Less.j1
    rw [if_neg (by simp; omega), List.drop_of_length_le (by rw [ha.1]; omega), List.drop_of_length_le (by rw [hb.1]; omega)]
    simp [u8s]
  | succ d ih =>
    intro q i hq hi
    obtain ⟨q, rfl⟩ : ∃ m, q = m + 1 := ⟨q - 1, by omega⟩
    have la := ha.1
    have lb := hb.1
    show smithyref08_Less.b1 a b _ _ = _
    unfold smithyref08_Less.b1
    have e1 : rd a (i : Int) = a[i]'(by omega) := by simp [rd, List.getD_eq_getElem?_getD, List.getElem?_eq_getElem (show i < a.length by omega)]
    have e2 : rd b (i : Int) = b[i]'(by omega) := by simp [rd, List.getD_eq_getElem?_getD, List.getElem?_eq_getElem (show i < b.length by omega)]
    have r1 := inK_u8 (ha.2 (a[i]'(by omega)) (List.getElem_mem _))
    have r2 := inK_u8 (hb.2 (b[i]'(by omega)) (List.getElem_mem _))
    rw [if_pos (by simp; omega), if_pos ⟨by omega, by omega⟩, wr_i64_id (by omega) (by omega), e1, e2, List.drop_eq_getElem_cons (show i < a.length by omega), List.drop_eq_getElem_cons (show i < b.length by omega)]
    have hih := ih q (i + 1) (by omega) (by omega)
    rw [show ((i + 1 : Nat) : Int) = (i : Int) + 1 by omega] at hih
    generalize a[i]'(by omega) = x at r1 ⊢
    generalize b[i]'(by omega) = y at r2 ⊢
    have hl := u8_ltI r1 r2
    have hc : (u8s (x :: a.drop (i + 1)) < u8s (y :: b.drop (i + 1))) ↔ UInt8.ofNat x.toNat < UInt8.ofNat y.toNat ∨ UInt8.ofNat x.toNat = UInt8.ofNat y.toNat ∧ u8s (a.drop (i + 1)) < u8s (b.drop (i + 1)) := List.cons_lt_cons_iff
    by_cases c : x = y
    · subst c
      rw [if_neg (by simp), hih]
      have h1 : ¬ UInt8.ofNat x.toNat < UInt8.ofNat x.toNat := UInt8.lt_irrefl _
      simp only [hc, h1, false_or, true_and]
    · rw [if_pos (by simpa using c)]
      have h1 : UInt8.ofNat x.toNat ≠ UInt8.ofNat y.toNat := fun e => c (u8_injI r1 r2 e)
      simp only [hc, h1, false_and, or_false, hl]
theorem less_eqA {a b : List Int} (ha : Ad a) (hb : Ad b) {k : Nat} (hk : 30 < k) : smithyref08_Less.f k a b = some (decide (akey a < akey b)) := by
  rw [akey_eq ha, akey_eq hb]
  exact less_loopA a b ha hb 20 k 0 (by omega) (by omega)
end GW
set_option linter.unusedVariables false
set_option linter.unusedSimpArgs false
set_option maxRecDepth 100000
namespace GW
open Go Go.RowKit
def LtA (x y : L34) : Prop := akey x.1 < akey y.1
def putA : List L34 → L34 → List L34
  | [], a => [a]
  | x :: l, a => if akey a.1 < akey x.1 then a :: x :: l else if x.1 = a.1 then a :: l else x :: putA l a
theorem putA_find (l : List L34) (a : L34) (b : List Int) : findA (putA l a) b = if a.1 = b then some a else findA l b := by
  induction l with
  | nil => rfl
  | cons x l ih =>
    unfold putA
    split
    · rfl
    · split
      · rename_i h
        show (if a.1 = b then some a else findA l b) = if a.1 = b then some a else if x.1 = b then some x else findA l b
        by_cases c : a.1 = b
        · rw [if_pos c, if_pos c]
        · rw [if_neg c, if_neg c, if_neg (fun e : x.1 = b => c (h.symm.trans e))]
      · rename_i h
        show (if x.1 = b then some x else findA (putA l a) b) = if a.1 = b then some a else if x.1 = b then some x else findA l b
        rw [ih]
        by_cases c : a.1 = b
        · rw [if_pos c, if_pos c, if_neg (fun e : x.1 = b => h (e.trans c.symm))]
        · rw [if_neg c, if_neg c]
theorem putA_mem {l : List L34} {a x : L34} (h : x ∈ putA l a) : x = a ∨ x ∈ l := by
  induction l with
  | nil => exact .inl (List.mem_singleton.1 h)
  | cons y l ih =>
    unfold putA at h
    split at h
    · rcases List.mem_cons.1 h with h | h
      · exact .inl h
      · exact .inr h
    · split at h
      · rcases List.mem_cons.1 h with h | h
        · exact .inl h
        · exact .inr (List.mem_cons_of_mem _ h)
      · rcases List.mem_cons.1 h with h | h
        · exact .inr (h ▸ List.mem_cons_self)
        · rcases ih h with h | h
          · exact .inl h
          · exact .inr (List.mem_cons_of_mem _ h)
theorem putA_length (l : List L34) (a : L34) : (putA l a).length ≤ l.length + 1 := by
  induction l with
  | nil => exact Nat.le_refl _
  | cons y l ih =>
    unfold putA
    split
    · simp
    · split
      · simp
      · simp only [List.length_cons]; omega
theorem putA_sorted {l : List L34} {a : L34} (hl : l.Pairwise LtA) (ha : Ad a.1) (hA : ∀ x ∈ l, Ad x.1) : (putA l a).Pairwise LtA := by
  induction l with
  | nil => exact List.pairwise_singleton _ _
  | cons y l ih =>
    have hc := List.pairwise_cons.1 hl
    unfold putA
    split
    · rename_i h
      refine List.pairwise_cons.2 ⟨fun z hz => ?_, hl⟩
      rcases List.mem_cons.1 hz with rfl | hz
      · exact h
      · exact List.lt_trans h (hc.1 z hz)
    · rename_i h
      split
      · rename_i h2
        refine List.pairwise_cons.2 ⟨fun z hz => ?_, hc.2⟩
        have := hc.1 z hz
        unfold LtA at this ⊢
        rw [← h2]; exact this
      · rename_i h2
        refine List.pairwise_cons.2 ⟨fun z hz => ?_, ih hc.2 (fun x hx => hA x (List.mem_cons_of_mem _ hx))⟩
        rcases putA_mem hz with rfl | hz
        · have h3 : akey y.1 ≤ akey z.1 := List.not_lt.1 h
          have h4 : akey y.1 ≠ akey z.1 := fun e => h2 (akey_inj (hA y List.mem_cons_self) ha e)
          show akey y.1 < akey z.1
          exact Decidable.byContradiction fun hn => h4 (List.le_antisymm h3 (List.not_lt.1 hn))
        · exact hc.1 z hz
theorem lt_ne {x y : L34} (h : LtA x y) : x.1 ≠ y.1 := fun e => by
  unfold LtA at h
  rw [e] at h
  exact List.lt_irrefl _ h
theorem put_done (l : List L34) (a : L34) (k : Nat) (hl : l.length ≤ 20000) : ∀ (d : List L34) (q i : Nat) (out : List L34), l.drop i = d → i ≤ l.length → d.length < q → out.length ≤ i + 1 → (∀ x ∈ d, x.1 ≠ a.1) → smithyref13_Put.l1 k l a q (i : Int) true out = some (out ++ d)
  | [], q, i, out, hd, hi, hq, ho, hn => by
    obtain ⟨q, rfl⟩ : ∃ m, q = m + 1 := ⟨q - 1, by omega⟩
    have : l.length ≤ i := by simpa using hd
    show smithyref13_Put.b1 _ _ _ _ _ _ _ = _
    unfold smithyref13_Put.b1 smithyref13_Put.j1 smithyref13_Put.j2
    rw [if_neg (by simp; omega), if_neg (by simp), List.append_nil]
  | x :: d, q, i, out, hd, hi, hq, ho, hn => by
    simp only [List.length_cons] at hq
    obtain ⟨q, rfl⟩ : ∃ m, q = m + 1 := ⟨q - 1, by omega⟩
    obtain ⟨h1, h2, h3⟩ := gt_dropA hd
    show smithyref13_Put.b1 _ _ _ _ _ _ _ = _
    unfold smithyref13_Put.b1 smithyref13_Put.j5 smithyref13_Put.j4 smithyref13_Put.j3
    have hne : x.1 ≠ a.1 := hn x List.mem_cons_self
    rw [if_pos (by simp; omega), if_neg (by simp), if_neg (by simp), if_pos (by omega), h1, if_neg (by simpa using hne), if_pos (by simp only [List.length_singleton]; omega), next1 i (by omega), put_done l a k hl d q (i + 1) _ h3 (by omega) (by omega) (by simp; omega) (fun y hy => hn y (List.mem_cons_of_mem _ hy)), List.append_assoc]; rfl
theorem put_loop (l : List L34) (a : L34) (k : Nat) (hk : 30 < k) (hl : l.length ≤ 20000) (hs : l.Pairwise LtA) (hA : ∀ x ∈ l, Ad x.1) (ha : Ad a.1) : ∀ (d : List L34) (q i : Nat) (out : List L34), l.drop i = d → i ≤ l.length → d.length < q → out.length ≤ i → smithyref13_Put.l1 k l a q (i : Int) false out = some (out ++ putA d a)
  | [], q, i, out, hd, hi, hq, ho => by
    obtain ⟨q, rfl⟩ : ∃ m, q = m + 1 := ⟨q - 1, by omega⟩
    have : l.length ≤ i := by simpa using hd
    show smithyref13_Put.b1 _ _ _ _ _ _ _ = _
    unfold smithyref13_Put.b1 smithyref13_Put.j1 smithyref13_Put.j2
    rw [if_neg (by simp; omega), if_pos (by simp), if_pos (by simp only [List.length_singleton]; omega)]; rfl
  | x :: d, q, i, out, hd, hi, hq, ho => by
    simp only [List.length_cons] at hq
    obtain ⟨q, rfl⟩ : ∃ m, q = m + 1 := ⟨q - 1, by omega⟩
    obtain ⟨h1, h2, h3⟩ := gt_dropA hd
    have hx : x ∈ l := List.drop_subset i l (by rw [hd]; exact List.mem_cons_self)
    have hp : (x :: d).Pairwise LtA := by rw [← hd]; exact List.Pairwise.sublist (List.drop_sublist _ _) hs
    have hc := List.pairwise_cons.1 hp
    show smithyref13_Put.b1 _ _ _ _ _ _ _ = _
    unfold smithyref13_Put.b1 smithyref13_Put.j5 smithyref13_Put.j4 smithyref13_Put.j3 putA
    rw [if_pos (by simp; omega), if_pos (by simp), if_pos (by omega), h1, less_eqA ha (hA x hx) hk, Option.bind_some]
    by_cases c1 : akey a.1 < akey x.1
    · have hne : ∀ y ∈ x :: d, y.1 ≠ a.1 := fun y hy e => by
        rcases List.mem_cons.1 hy with rfl | hy
        · rw [e] at c1; exact List.lt_irrefl _ c1
        · have h4 := hc.1 y hy
          unfold LtA at h4
          rw [e] at h4
          exact List.lt_irrefl _ (List.lt_trans c1 h4)
      rw [if_pos (by simpa using c1), if_pos (by simp only [List.length_singleton]; omega), if_pos (by omega), if_neg (by simpa using hne x List.mem_cons_self), if_pos (by simp only [List.length_append, List.length_singleton]; omega), next1 i (by omega), if_pos c1, put_done l a k hl d q (i + 1) _ h3 (by omega) (by omega) (by simp; omega) (fun y hy => hne y (List.mem_cons_of_mem _ hy))]
      simp
    · rw [if_neg (by simpa using c1), if_neg c1, if_pos (by omega)]
      by_cases c2 : x.1 = a.1
      · rw [if_pos (by simpa using c2), if_pos (by simp only [List.length_singleton]; omega), next1 i (by omega), if_pos c2, put_done l a k hl d q (i + 1) _ h3 (by omega) (by omega) (by simp; omega) (fun y hy e => lt_ne (hc.1 y hy) (c2.trans e.symm))]
        simp
      · rw [if_neg (by simpa using c2), if_pos (by simp only [List.length_singleton]; omega), next1 i (by omega), if_neg c2, put_loop l a k hk hl hs hA ha d q (i + 1) _ h3 (by omega) (by omega) (by simp; omega)]
        simp
theorem put_eqA {l : List L34} {a : L34} {k : Nat} (hk : 30 < k) (hk2 : l.length < k) (hl : l.length ≤ 20000) (hs : l.Pairwise LtA) (hA : ∀ x ∈ l, Ad x.1) (ha : Ad a.1) : smithyref13_Put.f k l a = some (putA l a) := by
  have := put_loop l a k hk hl hs hA ha l k 0 [] rfl (by omega) hk2 (by simp)
  rw [List.nil_append] at this
  exact this
end GW
set_option linter.unusedVariables false
set_option linter.unusedSimpArgs false
set_option maxRecDepth 100000
namespace GW
open Go Go.RowKit
abbrev Kv : Type := List ((List Int) × L34)
abbrev Vs : Type := List (Int × List L34)
structure Acc (k : Nat) (x : L34) : Prop where
  gd : Gd34 x
  sm : SmallA x
  ri : smithyref13_Right.f k x = some true
structure VRel (k sz : Nat) (s : L81) (V : Vs) : Prop where
  len : s.length = V.length
  pos : 0 < V.length
  s0 : gt s ((0 : Nat) : Int) = (-1, [])
  v0 : gt V ((0 : Nat) : Int) = (-1, [])
  par : ∀ j : Nat, j < V.length → (gt s (j : Int)).1 = (gt V (j : Int)).1
  parlt : ∀ j : Nat, 0 < j → j < V.length → ∃ p : Nat, (gt V (j : Int)).1 = (p : Int) ∧ p < j
  kv : ∀ j : Nat, j < V.length → ∀ e ∈ (gt s (j : Int)).2, e.2.1 = e.1 ∧ Acc k e.2
  nd : ∀ j : Nat, j < V.length → ((gt s (j : Int)).2.map Prod.fst).Nodup
  find : ∀ j : Nat, 0 < j → j < V.length → ∀ a, findA (gt V (j : Int)).2 a = match aget (gt s (j : Int)).2 a with | some x => some x | none => findA (gt V (gt V (j : Int)).1).2 a
  sorted : ∀ j : Nat, j < V.length → (gt V (j : Int)).2.Pairwise LtA
  acc : ∀ j : Nat, j < V.length → ∀ x ∈ (gt V (j : Int)).2, Acc k x
  vsz : ∀ j : Nat, j < V.length → (gt V (j : Int)).2.length ≤ sz
  ssz : ∀ j : Nat, j < V.length → (gt s (j : Int)).2.length ≤ sz
theorem VRel.first (k : Nat) : VRel k 0 [((-1), ([] : Kv))] [((-1), ([] : List L34))] := by
  refine ⟨rfl, by simp, rfl, rfl, ?_, ?_, ?_, ?_, ?_, ?_, ?_, ?_, ?_⟩ <;> intro j hj
  · obtain rfl : j = 0 := by simpa using hj
    rfl
  · intro h; simp only [List.length_singleton] at h; omega
  · obtain rfl : j = 0 := by simpa using hj
    intro e he; cases he
  · obtain rfl : j = 0 := by simpa using hj
    exact List.nodup_nil
  · intro h; simp only [List.length_singleton] at h; omega
  · obtain rfl : j = 0 := by simpa using hj
    exact List.Pairwise.nil
  · obtain rfl : j = 0 := by simpa using hj
    intro e he; cases he
  · obtain rfl : j = 0 := by simpa using hj
    exact Nat.le_refl _
  · obtain rfl : j = 0 := by simpa using hj
    exact Nat.le_refl _
theorem acc_ad {k : Nat} {x : L34} (h : Acc k x) : Ad x.1 := h.gd.1
theorem storeOwn_eq {x : L34} (h : SmallA x) : store_own.f x = some x := by
  unfold store_own.f slices_Clone_byte_byte.f api_Slot.f
  obtain ⟨h1, h2⟩ := h
  rw [if_pos (by simp; omega), Option.bind_some, if_pos (by simp; omega)]; rfl
theorem has_eq (s : L81) (v : Int) : store_Store_has.f s v = some (decide (0 ≤ v ∧ v < (s.length : Int))) := by
  unfold store_Store_has.f
  by_cases c : 0 ≤ v
  · rw [if_pos (by simpa using c)]; simp [c]
  · rw [if_neg (by simpa using c)]; simp [c]
def told (o : Option L34) : L34 × Bool := match o with
  | some x => (x, true)
  | none => (noA, false)
theorem find_v {k sz : Nat} {s : L81} {V : Vs} (R : VRel k sz s V) (a : List Int) : ∀ (v q : Nat), v < V.length → v + 1 < q → store_Store_find.l1 s a q (v : Int) = some (told (findA (gt V (v : Int)).2 a)) := by
  intro v
  induction v using Nat.strongRecOn with
  | ind v ih =>
    intro q hv hq
    obtain ⟨q, rfl⟩ : ∃ m, q = m + 1 := ⟨q - 1, by omega⟩
    have hl := R.len
    show store_Store_find.b1 _ _ _ _ = _
    unfold store_Store_find.b1 store_Store_find.j2
    rw [if_pos (by simp), if_pos (by omega), if_pos (show (0 : Int) ≤ (v : Int) ∧ (v : Int) < (s.length : Int) by omega)]
    by_cases h0 : v = 0
    · subst h0
      have e1 : gt s ((0 : Nat) : Int) = (-1, []) := R.s0
      rw [e1, R.v0]
      rw [lk_none (show aget ([] : Kv) a = none from rfl), if_neg (by simp)]
      obtain ⟨q, rfl⟩ : ∃ m, q = m + 1 := ⟨q - 1, by omega⟩
      show store_Store_find.b1 _ _ _ _ = _
      unfold store_Store_find.b1 store_Store_find.j1
      rw [if_neg (by simp)]; rfl
    · have hf := R.find v (by omega) hv a
      obtain ⟨p, p1, p2⟩ := R.parlt v (by omega) hv
      cases e : aget (gt s (v : Int)).2 a with
      | some x =>
        rw [e] at hf
        rw [lk_some rfl, if_pos rfl, hf]; rfl
      | none =>
        rw [e] at hf
        rw [lk_none rfl, if_neg (by simp), R.par v hv, p1, ih p p2 q (by omega) (by omega), hf, p1]
theorem findI_eq {k sz : Nat} {s : L81} {V : Vs} (R : VRel k sz s V) (hk : V.length + 1 < k) (v : Int) (a : List Int) : store_Store_find.f k s v a = some (if 0 ≤ v ∧ v < (V.length : Int) then told (findA (gt V v).2 a) else (noA, false)) := by
  have hl := R.len
  unfold store_Store_find.f
  rw [has_eq, Option.bind_some]
  by_cases c : 0 ≤ v ∧ v < (V.length : Int)
  · rw [if_pos c, if_neg (by simp; omega)]
    obtain ⟨n, rfl⟩ := Int.eq_ofNat_of_zero_le c.1
    exact find_v R a n k (by omega) (by omega)
  · rw [if_neg c, if_pos (by simp; omega)]; rfl
theorem told_small {k sz : Nat} {s : L81} {V : Vs} (R : VRel k sz s V) {v : Int} (hv : 0 ≤ v ∧ v < (V.length : Int)) (a : List Int) : SmallA (told (findA (gt V v).2 a)).1 := by
  obtain ⟨n, rfl⟩ := Int.eq_ofNat_of_zero_le hv.1
  cases e : findA (gt V (n : Int)).2 a with
  | some x => exact (R.acc n (by omega) x (findA_mem e).1).sm
  | none => exact ⟨by show (0 : Nat) ≤ 3000; omega, by show (0 : Nat) ≤ 100; omega⟩
theorem noA_small : SmallA noA := ⟨by show (0 : Nat) ≤ 3000; omega, by show (0 : Nat) ≤ 100; omega⟩
theorem FindI_eq {k sz : Nat} {s : L81} {V : Vs} (R : VRel k sz s V) (hk : V.length + 1 < k) (v : Int) (a : List Int) : store_Store_Find.f k s v a = some (if 0 ≤ v ∧ v < (V.length : Int) then told (findA (gt V v).2 a) else (noA, false)) := by
  unfold store_Store_Find.f
  rw [findI_eq R hk, Option.bind_some]
  by_cases c : 0 ≤ v ∧ v < (V.length : Int)
  · rw [if_pos c, storeOwn_eq (told_small R c a)]; rfl
  · rw [if_neg c, storeOwn_eq noA_small]; rfl
def putsK (kvs : Kv) (l : List L34) : Kv := l.foldl (fun m x => aput m x.1 x) kvs
def putsA (L : List L34) (l : List L34) : List L34 := l.foldl putA L
theorem commit_loop (s : L81) (p : Int) (l : List L34) (hs : ∀ x ∈ l, SmallA x) (hl : l.length < 4000000) : ∀ (d : List L34) (q i : Nat) (kvs : Kv), l.drop i = d → i ≤ l.length → d.length < q → store_Store_Commit.l1 s p l q (i : Int) kvs = store_Store_Commit.j1 s p (putsK kvs d)
  | [], q, i, kvs, hd, hi, hq => by
    obtain ⟨q, rfl⟩ : ∃ m, q = m + 1 := ⟨q - 1, by omega⟩
    have : l.length ≤ i := by simpa using hd
    show store_Store_Commit.b1 _ _ _ _ _ _ = _
    unfold store_Store_Commit.b1
    rw [if_neg (by simp; omega)]; rfl
  | x :: d, q, i, kvs, hd, hi, hq => by
    simp only [List.length_cons] at hq
    obtain ⟨q, rfl⟩ : ∃ m, q = m + 1 := ⟨q - 1, by omega⟩
    obtain ⟨h1, h2, h3⟩ := gt_dropA hd
    have hx : x ∈ l := List.drop_subset i l (by rw [hd]; exact List.mem_cons_self)
    show store_Store_Commit.b1 _ _ _ _ _ _ = _
    unfold store_Store_Commit.b1
    rw [if_pos (by simp; omega), if_pos (by omega), h1, storeOwn_eq (hs x hx), Option.bind_some, next1 i (by omega)]
    exact commit_loop s p l hs hl d q (i + 1) _ h3 (by omega) (by omega)
theorem wrong_loop (k : Nat) (hk : 200 < k) (l : List L34) (hg : ∀ x ∈ l, Gd34 x) (hs : ∀ x ∈ l, SmallA x) (hl : l.length < 4000000) : ∀ (d : List L34) (q i : Nat), l.drop i = d → i ≤ l.length → d.length < q →
    (∃ n : Nat, api_Account_n45_1f34.l1 k l q (i : Int) = some (n : Int) ∧ ∃ x ∈ l, smithyref13_Right.f k x = some false) ∨ (api_Account_n45_1f34.l1 k l q (i : Int) = some (-1) ∧ ∀ x ∈ d, smithyref13_Right.f k x = some true)
  | [], q, i, hd, hi, hq => by
    obtain ⟨q, rfl⟩ : ∃ m, q = m + 1 := ⟨q - 1, by omega⟩
    have : l.length ≤ i := by simpa using hd
    refine .inr ⟨?_, fun x hx => by cases hx⟩
    show api_Account_n45_1f34.b1 _ _ _ _ = _
    unfold api_Account_n45_1f34.b1
    rw [if_neg (by simp; omega)]; rfl
  | x :: d, q, i, hd, hi, hq => by
    simp only [List.length_cons] at hq
    obtain ⟨q, rfl⟩ : ∃ m, q = m + 1 := ⟨q - 1, by omega⟩
    obtain ⟨h1, h2, h3⟩ := gt_dropA hd
    have hx : x ∈ l := List.drop_subset i l (by rw [hd]; exact List.mem_cons_self)
    obtain ⟨b, b1, b2⟩ := rights_eq (k - 40) x (hg x hx).2.2.2.2 (by have := (hs x hx).2; omega)
    rw [show k - 40 + 40 = k by omega] at b1 b2
    have e : api_Account_n45_1f34.l1 k l (q + 1) (i : Int) = api_Account_n45_1f34.b1 k l (api_Account_n45_1f34.l1 k l q) (i : Int) := rfl
    rw [e]
    unfold api_Account_n45_1f34.b1 store_Store_Commit_1.f
    rw [if_pos (by simp; omega), if_pos (by omega), h1, b1, Option.bind_some, Option.bind_some, next1 i (by omega)]
    cases b with
    | false => exact .inl ⟨i, by rw [if_pos (by simp)], x, hx, b2⟩
    | true =>
      rw [if_neg (by simp)]
      rcases wrong_loop k hk l hg hs hl d q (i + 1) h3 (by omega) (by omega) with h | ⟨h, h4⟩
      · exact .inl h
      · refine .inr ⟨h, fun y hy => ?_⟩
        rcases List.mem_cons.1 hy with rfl | hy
        · exact b2
        · exact h4 y hy
theorem wrong_eq (k : Nat) (hk : 200 < k) (l : List L34) (hg : ∀ x ∈ l, Gd34 x) (hs : ∀ x ∈ l, SmallA x) (hl : l.length < 4000000) (hlk : l.length < k) :
    (api_Account_n33_1f34.f k l = some true ∧ ∃ x ∈ l, smithyref13_Right.f k x = some false) ∨ (api_Account_n33_1f34.f k l = some false ∧ ∀ x ∈ l, Acc k x) := by
  unfold api_Account_n33_1f34.f api_Account_n45_1f34.f
  rcases wrong_loop k hk l hg hs hl l k 0 rfl (by omega) hlk with ⟨n, h, h2⟩ | ⟨h, h2⟩
  · refine .inl ⟨?_, h2⟩
    rw [show (0 : Int) = ((0 : Nat) : Int) from rfl, h, Option.bind_some]; simp
  · refine .inr ⟨?_, fun x hx => ⟨hg x hx, hs x hx, h2 x hx⟩⟩
    rw [show (0 : Int) = ((0 : Nat) : Int) from rfl, h, Option.bind_some]; rfl
theorem putsK_facts {k : Nat} : ∀ (l : List L34) (kvs : Kv), (∀ x ∈ l, Acc k x) → (∀ e ∈ kvs, e.2.1 = e.1 ∧ Acc k e.2) → (kvs.map Prod.fst).Nodup → (∀ e ∈ putsK kvs l, e.2.1 = e.1 ∧ Acc k e.2) ∧ ((putsK kvs l).map Prod.fst).Nodup ∧ (putsK kvs l).length ≤ kvs.length + l.length
  | [], kvs, hl, h1, h2 => ⟨h1, h2, Nat.le_refl _⟩
  | x :: l, kvs, hl, h1, h2 => by
    have hn := aput_nodup h2 x.1 x
    have hm : ∀ e ∈ aput kvs x.1 x, e.2.1 = e.1 ∧ Acc k e.2 := fun e he => by
      have := (aget_mem_iff hn e.1 e.2).2 he
      rw [aget_aput] at this
      split at this
      · rename_i c
        obtain h3 := Option.some.inj this
        exact ⟨by rw [← h3, c], h3 ▸ hl x List.mem_cons_self⟩
      · exact h1 e ((aget_mem_iff h2 e.1 e.2).1 this)
    have hln : (aput kvs x.1 x).length ≤ kvs.length + 1 := by
      have h3 : ((aput kvs x.1 x).map Prod.fst).length = (aput kvs x.1 x).length := List.length_map ..
      rw [← h3, aput_keys]
      split <;> simp
    obtain ⟨a1, a2, a3⟩ := putsK_facts l (aput kvs x.1 x) (fun y hy => hl y (List.mem_cons_of_mem _ hy)) hm hn
    exact ⟨a1, a2, by simp only [List.length_cons]; have : (putsK kvs (x :: l)).length = (putsK (aput kvs x.1 x) l).length := rfl; omega⟩
theorem putsA_facts {k : Nat} : ∀ (l : List L34) (L : List L34), (∀ x ∈ l, Acc k x) → (∀ x ∈ L, Acc k x) → L.Pairwise LtA → (∀ x ∈ putsA L l, Acc k x) ∧ (putsA L l).Pairwise LtA ∧ (putsA L l).length ≤ L.length + l.length
  | [], L, hl, h1, h2 => ⟨h1, h2, Nat.le_refl _⟩
  | x :: l, L, hl, h1, h2 => by
    obtain ⟨a1, a2, a3⟩ := putsA_facts l (putA L x) (fun y hy => hl y (List.mem_cons_of_mem _ hy)) (fun y hy => by
      rcases putA_mem hy with rfl | hy
      · exact hl y List.mem_cons_self
      · exact h1 y hy) (putA_sorted h2 (acc_ad (hl x List.mem_cons_self)) (fun y hy => acc_ad (h1 y hy)))
    have := putA_length L x
    exact ⟨a1, a2, by simp only [List.length_cons]; have : (putsA L (x :: l)).length = (putsA (putA L x) l).length := rfl; omega⟩
theorem puts_find : ∀ (l : List L34) (kvs : Kv) (L L0 : List L34), (∀ a, findA L a = match aget kvs a with | some x => some x | none => findA L0 a) → ∀ a, findA (putsA L l) a = match aget (putsK kvs l) a with | some x => some x | none => findA L0 a
  | [], kvs, L, L0, h, a => h a
  | x :: l, kvs, L, L0, h, a => by
    refine puts_find l (aput kvs x.1 x) (putA L x) L0 (fun b => ?_) a
    rw [putA_find, aget_aput, h b]
    by_cases c : x.1 = b
    · rw [if_pos c, if_pos c.symm]
    · rw [if_neg c, if_neg (Ne.symm c)]
theorem gt_append {α : Type} [Inhabited α] (xs : List α) (y : α) (j : Nat) : gt (xs ++ [y]) (j : Int) = if j < xs.length then gt xs (j : Int) else if j = xs.length then y else default := by
  unfold gt
  rw [Int.toNat_natCast, List.getD_eq_getElem?_getD, List.getD_eq_getElem?_getD]
  by_cases c : j < xs.length
  · rw [if_pos c, List.getElem?_append_left c]
  · rw [if_neg c]
    by_cases c2 : j = xs.length
    · subst c2; rw [if_pos rfl, List.getElem?_append_right (by omega)]; simp
    · rw [if_neg c2, List.getElem?_append_right (by omega), List.getElem?_eq_none (by simp; omega)]; rfl
theorem VRel.commit {k sz : Nat} {s : L81} {V : Vs} (R : VRel k sz s V) {p : Nat} (hp : p < V.length) {l : List L34} (hl : ∀ x ∈ l, Acc k x) : VRel k (sz + l.length) (s ++ [((p : Int), putsK [] l)]) (V ++ [((p : Int), putsA (gt V (p : Int)).2 l)]) := by
  have hlen := R.len
  obtain ⟨k1, k2, k3⟩ := putsK_facts l [] hl (fun e he => by cases he) List.nodup_nil
  obtain ⟨a1, a2, a3⟩ := putsA_facts l (gt V (p : Int)).2 hl (R.acc p hp) (R.sorted p hp)
  have a4 := R.vsz p hp
  have gs : ∀ j : Nat, j < V.length → gt (s ++ [((p : Int), putsK [] l)]) (j : Int) = gt s (j : Int) := fun j hj => by rw [gt_append, if_pos (by omega)]
  have gv : ∀ j : Nat, j < V.length → gt (V ++ [((p : Int), putsA (gt V (p : Int)).2 l)]) (j : Int) = gt V (j : Int) := fun j hj => by rw [gt_append, if_pos hj]
  have gs1 : gt (s ++ [((p : Int), putsK [] l)]) ((V.length : Nat) : Int) = ((p : Int), putsK [] l) := by rw [gt_append, if_neg (by omega), if_pos (by omega)]
  have gv1 : gt (V ++ [((p : Int), putsA (gt V (p : Int)).2 l)]) ((V.length : Nat) : Int) = ((p : Int), putsA (gt V (p : Int)).2 l) := by rw [gt_append, if_neg (by omega), if_pos (by omega)]
  have hpos := R.pos
  have cases' : ∀ j : Nat, j < (V ++ [((p : Int), putsA (gt V (p : Int)).2 l)]).length → j < V.length ∨ j = V.length := fun j hj => by simp only [List.length_append, List.length_singleton] at hj; omega
  refine ⟨by simp [hlen], by simp, by rw [gs 0 hpos]; exact R.s0, by rw [gv 0 hpos]; exact R.v0, ?_, ?_, ?_, ?_, ?_, ?_, ?_, ?_, ?_⟩
  · intro j hj
    rcases cases' j hj with h | rfl
    · rw [gs j h, gv j h]; exact R.par j h
    · rw [gs1, gv1]
  · intro j h0 hj
    rcases cases' j hj with h | rfl
    · rw [gv j h]; exact R.parlt j h0 h
    · rw [gv1]; exact ⟨p, rfl, hp⟩
  · intro j hj
    rcases cases' j hj with h | rfl
    · rw [gs j h]; exact R.kv j h
    · rw [gs1]; exact k1
  · intro j hj
    rcases cases' j hj with h | rfl
    · rw [gs j h]; exact R.nd j h
    · rw [gs1]; exact k2
  · intro j h0 hj a
    rcases cases' j hj with h | rfl
    · obtain ⟨p', p1, p2⟩ := R.parlt j h0 h
      rw [gs j h, gv j h, p1, gv p' (by omega), ← p1]; exact R.find j h0 h a
    · rw [gs1, gv1]
      show findA (putsA (gt V (p : Int)).2 l) a = match aget (putsK [] l) a with | some x => some x | none => findA (gt (V ++ [((p : Int), putsA (gt V (p : Int)).2 l)]) (p : Int)).2 a
      rw [gv p hp]
      exact puts_find l [] _ _ (fun b => rfl) a
  · intro j hj
    rcases cases' j hj with h | rfl
    · rw [gv j h]; exact R.sorted j h
    · rw [gv1]; exact a2
  · intro j hj
    rcases cases' j hj with h | rfl
    · rw [gv j h]; exact R.acc j h
    · rw [gv1]; exact a1
  · intro j hj
    rcases cases' j hj with h | rfl
    · rw [gv j h]; have := R.vsz j h; omega
    · rw [gv1]; show (putsA (gt V (p : Int)).2 l).length ≤ _; omega
  · intro j hj
    rcases cases' j hj with h | rfl
    · rw [gs j h]; have := R.ssz j h; omega
    · rw [gs1]; simp only [List.length_nil] at k3; show (putsK [] l).length ≤ _; omega
theorem commit_eq {k sz : Nat} {s : L81} {V : Vs} (R : VRel k sz s V) (hk : 200 < k) (hV : V.length < 1000) (p : Int) (l : List L34) (hg : ∀ x ∈ l, Gd34 x) (hs : ∀ x ∈ l, SmallA x) (hl : l.length < 4000000) (hlk : l.length < k) :
    (store_Store_Commit.f k s p l = some (0, 12, s) ∧ ¬ (0 ≤ p ∧ p < (V.length : Int))) ∨
    (store_Store_Commit.f k s p l = some (0, 1, s) ∧ (0 ≤ p ∧ p < (V.length : Int)) ∧ ∃ x ∈ l, smithyref13_Right.f k x = some false) ∨
    (store_Store_Commit.f k s p l = some ((V.length : Int), 0, s ++ [(p, putsK [] l)]) ∧ (0 ≤ p ∧ p < (V.length : Int)) ∧ ∀ x ∈ l, Acc k x) := by
  have hlen := R.len
  unfold store_Store_Commit.f
  rw [has_eq, Option.bind_some]
  by_cases c : 0 ≤ p ∧ p < (V.length : Int)
  · refine .inr ?_
    rw [if_neg (by simp; omega)]
    rcases wrong_eq k hk l hg hs hl hlk with ⟨h, h2⟩ | ⟨h, h2⟩
    · exact .inl ⟨by rw [h, Option.bind_some, if_pos rfl], c, h2⟩
    · refine .inr ⟨?_, c, h2⟩
      rw [h, Option.bind_some, if_neg (by simp), if_neg (by simp; omega)]
      refine (commit_loop s p l hs hl l k 0 [] rfl (by omega) hlk).trans ?_
      unfold store_Store_Commit.j1
      have hw : wr .i64 (((s ++ [(p, putsK [] l)]).length : Int) - 1) = (V.length : Int) := by
        rw [wr_i64_id (by simp <;> omega) (by simp <;> omega)]; simp [hlen]
      rw [if_pos (by simp only [List.length_singleton]; omega), hw]
  · refine .inl ⟨by rw [if_pos (by simp; omega)], c⟩
end GW
set_option linter.unusedVariables false
set_option linter.unusedSimpArgs false
set_option linter.unusedSectionVars false
set_option maxRecDepth 100000
namespace GW
open Go Go.RowKit
section
variable {α : Type} [Inhabited α]
end
section
variable {cf : List Int → List Int → Int} (hC : ∀ x y, addr_Compare.f x y = some (cf x y))
include hC
end
end GW
set_option linter.unusedVariables false
set_option linter.unusedSimpArgs false
set_option linter.unusedSectionVars false
set_option maxRecDepth 100000
namespace GW
open Go Go.RowKit
section
variable {cf : List Int → List Int → Int} (hC : ∀ x y, addr_Compare.f x y = some (cf x y))
include hC
end
end GW
set_option linter.unusedVariables false
set_option linter.unusedSimpArgs false
set_option linter.unusedSectionVars false
set_option maxRecDepth 100000
namespace GW
open Go Go.RowKit
section
variable {α : Type} [Inhabited α]
end
section
variable {cf : List Int → List Int → Int} (hC : ∀ x y, addr_Compare.f x y = some (cf x y))
include hC
end
end GW
set_option linter.unusedVariables false
set_option linter.unusedSimpArgs false
set_option linter.unusedSectionVars false
set_option maxRecDepth 100000
namespace GW
open Go Go.RowKit
section
variable {α : Type} [Inhabited α]
end
section
variable {cf : List Int → List Int → Int} (hC : ∀ x y, addr_Compare.f x y = some (cf x y))
include hC
end
end GW
set_option linter.unusedVariables false
set_option linter.unusedSimpArgs false
set_option linter.unusedSectionVars false
set_option maxRecDepth 100000
namespace GW
open Go Go.RowKit
section
variable {cf : List Int → List Int → Int} (hC : ∀ x y, addr_Compare.f x y = some (cf x y))
include hC
end
end GW
set_option linter.unusedVariables false
set_option linter.unusedSimpArgs false
set_option linter.unusedSectionVars false
set_option maxRecDepth 100000
namespace GW
open Go Go.RowKit
section
variable {α : Type} [Inhabited α]
end
end GW
set_option linter.unusedVariables false
set_option linter.unusedSimpArgs false
set_option linter.unusedSectionVars false
set_option maxRecDepth 100000
namespace GW
open Go Go.RowKit
end GW
set_option linter.unusedVariables false
set_option linter.unusedSimpArgs false
set_option linter.unusedSectionVars false
set_option maxRecDepth 100000
namespace GW
open Go Go.RowKit
end GW
set_option linter.unusedVariables false
set_option linter.unusedSimpArgs false
set_option linter.unusedSectionVars false
set_option maxRecDepth 100000
namespace GW
open Go Go.RowKit
end GW
set_option linter.unusedVariables false
set_option linter.unusedSimpArgs false
set_option linter.unusedSectionVars false
set_option maxRecDepth 100000
namespace GW
open Go Go.RowKit
section
variable {cf : List Int → List Int → Int} (hC : ∀ x y, addr_Compare.f x y = some (cf x y))
include hC
end
end GW
set_option linter.unusedVariables false
set_option linter.unusedSimpArgs false
set_option linter.unusedSectionVars false
set_option maxRecDepth 100000
namespace GW
open Go Go.RowKit
end GW
set_option linter.unusedVariables false
set_option linter.unusedSimpArgs false
set_option linter.unusedSectionVars false
set_option maxRecDepth 100000
namespace GW
open Go Go.RowKit
section
variable {cf : List Int → List Int → Int} (hC : ∀ x y, addr_Compare.f x y = some (cf x y))
include hC
end
end GW
set_option linter.unusedVariables false
set_option linter.unusedSimpArgs false
set_option maxRecDepth 100000
namespace GW
open Go Go.RowKit
end GW
set_option linter.unusedVariables false
set_option linter.unusedSimpArgs false
set_option maxRecDepth 100000
namespace GW
open Go Go.RowKit
theorem fixed15 (k : Nat) : smithylaw15_fixed.f (k + 200) = some true := by kernel_rfl
theorem at_loop (L : List L34) (Q : CaT) (hl : Q.length < 1000000) (a : List Int) : ∀ (d : CaT) (q i : Nat), Q.drop i = d → i ≤ Q.length → d.length < q → (aget d a = none ∧ smithyref15_Cache_At.l1 (L, Q) a q (i : Int) = some (-1)) ∨ (∃ j : Nat, i ≤ j ∧ j < Q.length ∧ smithyref15_Cache_At.l1 (L, Q) a q (i : Int) = some (j : Int) ∧ (gt Q (j : Int)).1 = a ∧ aget d a = some (gt Q (j : Int)).2)
  | [], q, i, hd, hi, hq => by
    obtain ⟨q, rfl⟩ : ∃ m, q = m + 1 := ⟨q - 1, by omega⟩
    have : Q.length ≤ i := by simpa using hd
    refine .inl ⟨rfl, ?_⟩
    show smithyref15_Cache_At.b1 _ _ _ _ = _
    unfold smithyref15_Cache_At.b1
    rw [if_neg (by simp; omega)]; rfl
  | e :: d, q, i, hd, hi, hq => by
    simp only [List.length_cons] at hq
    obtain ⟨q, rfl⟩ : ∃ m, q = m + 1 := ⟨q - 1, by omega⟩
    obtain ⟨h1, h2, h3⟩ := gt_dropA hd
    have e0 : smithyref15_Cache_At.l1 (L, Q) a (q + 1) (i : Int) = smithyref15_Cache_At.b1 (L, Q) a (smithyref15_Cache_At.l1 (L, Q) a q) (i : Int) := rfl
    rw [e0]
    unfold smithyref15_Cache_At.b1
    rw [if_pos (by simp; omega), if_pos (by show (0 : Int) ≤ i ∧ (i : Int) < (Q.length : Int); omega)]
    by_cases c : e.1 = a
    · rw [show (gt (L, Q).2 (i : Int)).1 = e.1 from congrArg Prod.fst h1, decide_eq_true c, if_pos rfl]
      refine .inr ⟨i, Nat.le_refl _, h2, rfl, by rw [h1]; exact c, ?_⟩
      rw [h1]
      obtain ⟨x, v⟩ := e
      show (if a = x then some v else _) = _
      rw [if_pos c.symm]
    · rw [show (gt (L, Q).2 (i : Int)).1 = e.1 from congrArg Prod.fst h1, decide_eq_false c, if_neg (by simp), next1 i (by omega)]
      have hg : aget (e :: d) a = aget d a := by
        obtain ⟨x, v⟩ := e
        show (if a = x then some v else aget d a) = _
        rw [if_neg (Ne.symm c)]
      rw [hg]
      rcases at_loop L Q hl a d q (i + 1) h3 (by omega) (by omega) with h | ⟨j, j1, j2, j3, j4⟩
      · exact .inl h
      · exact .inr ⟨j, by omega, j2, j3, j4⟩
theorem at_eq (L : List L34) (Q : CaT) (hl : Q.length < 1000000) (a : List Int) (k : Nat) (hk : Q.length < k) : (aget Q a = none ∧ smithyref15_Cache_At.f k (L, Q) a = some (-1)) ∨ (∃ j : Nat, j < Q.length ∧ smithyref15_Cache_At.f k (L, Q) a = some (j : Int) ∧ (gt Q (j : Int)).1 = a ∧ aget Q a = some (gt Q (j : Int)).2) := by
  rcases at_loop L Q hl a Q k 0 rfl (by omega) hk with h | ⟨j, -, h⟩
  · exact .inl h
  · exact .inr ⟨j, h⟩
theorem without_loop (L : List L34) (Q : CaT) (hl : Q.length < 1000000) (a : List Int) (j : Nat) (hj : ∀ i : Nat, i < Q.length → ((gt Q (i : Int)).1 = a ↔ i = j)) : ∀ (d : CaT) (q i : Nat) (out : CaT), Q.drop i = d → i ≤ Q.length → d.length < q → out.length ≤ i → smithyref15_Cache_without.l1 (L, Q) (j : Int) q (i : Int) out = some (L, out ++ adel d a)
  | [], q, i, out, hd, hi, hq, ho => by
    obtain ⟨q, rfl⟩ : ∃ m, q = m + 1 := ⟨q - 1, by omega⟩
    have : Q.length ≤ i := by simpa using hd
    show smithyref15_Cache_without.b1 _ _ _ _ _ = _
    unfold smithyref15_Cache_without.b1 smithyref15_Cache_without.j1
    rw [if_neg (by simp; omega)]; simp [adel]
  | e :: d, q, i, out, hd, hi, hq, ho => by
    simp only [List.length_cons] at hq
    obtain ⟨q, rfl⟩ : ∃ m, q = m + 1 := ⟨q - 1, by omega⟩
    obtain ⟨h1, h2, h3⟩ := gt_dropA hd
    show smithyref15_Cache_without.b1 _ _ _ _ _ = _
    unfold smithyref15_Cache_without.b1 smithyref15_Cache_without.j2
    rw [if_pos (by simp; omega), next1 i (by omega)]
    have hk := hj i h2
    rw [h1] at hk
    by_cases c : i = j
    · rw [if_neg (by simp [c]), without_loop L Q hl a j hj d q (i + 1) out h3 (by omega) (by omega) (by omega)]
      have : adel (e :: d) a = adel d a := by simp [adel, hk.2 c]
      rw [this]
    · rw [if_pos (by simp; omega), if_pos (by show (0 : Int) ≤ i ∧ (i : Int) < (Q.length : Int); omega), if_pos (by simp only [List.length_singleton]; omega), without_loop L Q hl a j hj d q (i + 1) _ h3 (by omega) (by omega) (by simp; omega)]
      have hne : e.1 ≠ a := fun h => c (hk.1 h)
      have : adel (e :: d) a = e :: adel d a := by simp [adel, hne]
      rw [this, show gt (L, Q).2 (i : Int) = e from h1]
      simp
theorem nodup_at {Q : CaT} (hn : (Q.map Prod.fst).Nodup) {j : Nat} (hj : j < Q.length) {a : List Int} (ha : (gt Q (j : Int)).1 = a) : ∀ i : Nat, i < Q.length → ((gt Q (i : Int)).1 = a ↔ i = j) := fun i hi => by
  have g : ∀ t : Nat, (ht : t < Q.length) → gt Q (t : Int) = Q[t] := fun t ht => by unfold gt; rw [Int.toNat_natCast, List.getD_eq_getElem?_getD, List.getElem?_eq_getElem ht]; rfl
  constructor
  · intro h
    have h1 : (Q.map Prod.fst)[i]'(by simpa using hi) = (Q.map Prod.fst)[j]'(by simpa using hj) := by
      rw [List.getElem_map, List.getElem_map, ← g i hi, ← g j hj, h, ha]
    exact (List.getElem_inj hn).1 h1
  · rintro rfl; exact ha
theorem without_eq (L : List L34) (Q : CaT) (hl : Q.length < 1000000) (hn : (Q.map Prod.fst).Nodup) (k : Nat) (hk : Q.length < k) {j : Nat} (hj : j < Q.length) {a : List Int} (ha : (gt Q (j : Int)).1 = a) : smithyref15_Cache_without.f k (L, Q) (j : Int) = some (L, adel Q a) := by
  have := without_loop L Q hl a j (nodup_at hn hj ha) Q k 0 [] rfl (by omega) hk (by simp)
  rw [List.nil_append] at this
  exact this
theorem aput_new {Q : CaT} {a : List Int} (h : aget Q a = none) (v : Int) : aput Q a v = Q ++ [(a, v)] := by
  induction Q with
  | nil => rfl
  | cons e r ih =>
    obtain ⟨x, u⟩ := e
    unfold aget at h
    by_cases c : a = x
    · rw [if_pos c] at h; cases h
    · rw [if_neg c] at h
      unfold aput
      rw [if_neg c, ih h]; rfl
structure CRel (L : List L34) (Q : CaT) (K : CaK) (n : Nat) : Prop where
  tnd : (Q.map Prod.fst).Nodup
  tv : ∀ e ∈ Q, 0 ≤ e.2 ∧ e.2 < 8
  tad : ∀ e ∈ Q, Ad e.1
  kl : ∀ a, aget K a = findA L a
  knd : (K.map Prod.fst).Nodup
  sorted : L.Pairwise LtA
  acc : ∀ x ∈ L, Gd34 x ∧ SmallA x
  ll : L.length ≤ n
  tl : Q.length ≤ n
theorem CRel.mono {L : List L34} {Q : CaT} {K : CaK} {n n' : Nat} (R : CRel L Q K n) (h : n ≤ n') : CRel L Q K n' := ⟨R.tnd, R.tv, R.tad, R.kl, R.knd, R.sorted, R.acc, Nat.le_trans R.ll h, Nat.le_trans R.tl h⟩
theorem aput_mem {β : Type} {kvs : List (List Int × β)} {a : List Int} {v : β} {e : List Int × β} (h : e ∈ aput kvs a v) : e = (a, v) ∨ e ∈ kvs := by
  induction kvs with
  | nil => exact .inl (List.mem_singleton.1 h)
  | cons p r ih =>
    obtain ⟨x, u⟩ := p
    unfold aput at h
    split at h
    · rename_i c
      rcases List.mem_cons.1 h with h | h
      · exact .inl (by rw [h, c])
      · exact .inr (List.mem_cons_of_mem _ h)
    · rcases List.mem_cons.1 h with h | h
      · exact .inr (h ▸ List.mem_cons_self)
      · rcases ih h with h | h
        · exact .inl h
        · exact .inr (List.mem_cons_of_mem _ h)
theorem aput_length {β : Type} (kvs : List (List Int × β)) (a : List Int) (v : β) : (aput kvs a v).length ≤ kvs.length + 1 := by
  have h3 : ((aput kvs a v).map Prod.fst).length = (aput kvs a v).length := List.length_map ..
  rw [← h3, aput_keys]
  split <;> simp
theorem adel_length {β : Type} (kvs : List (List Int × β)) (a : List Int) : (adel kvs a).length ≤ kvs.length := List.length_filter_le _ _
theorem CRel.tput {L : List L34} {Q : CaT} {K : CaK} {n : Nat} (R : CRel L Q K n) {a : List Int} (ha : Ad a) {v : Int} (hv : 0 ≤ v ∧ v < 8) : CRel L (aput Q a v) K (n + 1) :=
  ⟨aput_nodup R.tnd a v, fun e he => by
    rcases aput_mem he with rfl | he
    · exact hv
    · exact R.tv e he, fun e he => by
    rcases aput_mem he with rfl | he
    · exact ha
    · exact R.tad e he, R.kl, R.knd, R.sorted, R.acc, Nat.le_succ_of_le R.ll, Nat.le_trans (aput_length Q a v) (Nat.succ_le_succ R.tl)⟩
theorem want_both {L : List L34} {Q : CaT} {K : CaK} {n k : Nat} (R : CRel L Q K n) (hn : n < 1000) (hk : 2000 < k) {a : List Int} (ha : Ad a) : ∃ (w : Int) (Q' : CaT), smithyref15_Cache_Want.f k (L, Q) a = some (w, (L, Q')) ∧ fork_Cache_Want.f (K, Q) a = some (w, (K, Q')) ∧ CRel L Q' K (n + 1) := by
  have h1 := R.ll
  have h2 := R.tl
  unfold smithyref15_Cache_Want.f
  rw [find_eq L a k (by omega) (by omega), Option.bind_some]
  cases e : findA L a with
  | some x =>
    exact ⟨1, Q, by simp, want_known (by rw [R.kl, e]), R.mono (by omega)⟩
  | none =>
    rw [if_neg (by simp)]
    rcases at_eq L Q (by omega) a k (by omega) with ⟨t1, t2⟩ | ⟨j, j1, j2, j3, j4⟩
    · refine ⟨3, aput Q a 0, ?_, want_begun (by rw [R.kl, e]) t1, R.tput ha (by omega)⟩
      rw [t2, Option.bind_some, if_neg (by simp), if_pos (by simp only [List.length_nil]; omega), if_pos (by simp only [List.length_nil, List.length_append, List.length_singleton]; omega), aput_new t1]
      rfl
    · refine ⟨2, Q, ?_, want_asked (by rw [R.kl, e]) j4, R.mono (by omega)⟩
      rw [j2, Option.bind_some, if_pos (by simp)]
theorem fill_both {L : List L34} {Q : CaT} {K : CaK} {n k : Nat} (R : CRel L Q K n) (hn : n < 1000) (hk : 2000 < k) {x : L34} (hx : Gd34 x) (hs : SmallA x) : ∃ (w : Bool) (L' : List L34) (Q' : CaT) (K' : CaK), smithyref15_Cache_Fill.f k (L, Q) x = some (w, (L', Q')) ∧ fork_Cache_Fill.f k (K, Q) x = some (w, (K', Q')) ∧ CRel L' Q' K' (n + 1) := by
  have h1 := R.ll
  have h2 := R.tl
  obtain ⟨b, b1, b2⟩ := rights_eq (k - 40) x hx.2.2.2.2 (by have := hs.2; omega)
  rw [show k - 40 + 40 = k by omega] at b1 b2
  unfold smithyref15_Cache_Fill.f smithyref15_Cache_Fill.j1
  rcases at_eq L Q (by omega) x.1 k (by omega) with ⟨t1, t2⟩ | ⟨j, j1, j2, j3, j4⟩
  · refine ⟨false, L, Q, K, ?_, fill_not hx hs (by omega) (.inr t1), R.mono (by omega)⟩
    rw [t2, Option.bind_some, if_pos (by simp), if_pos rfl]
  · rw [j2, Option.bind_some, if_neg (by simp), b2, Option.bind_some]
    cases b with
    | false => exact ⟨false, L, Q, K, by rw [if_pos (by simp)], fill_not hx hs (by omega) (.inl b2), R.mono (by omega)⟩
    | true =>
      have hA : ∀ y ∈ L, Ad y.1 := fun y hy => (R.acc y hy).1.1
      refine ⟨true, putA L x, adel Q x.1, aput K x.1 x, ?_, fill_yes hx hs (by omega) b2 j4, ?_⟩
      · rw [if_neg (by simp), without_eq L Q (by omega) R.tnd k (by omega) j1 j3, Option.bind_some, put_eqA (by omega) (by omega) (by omega) R.sorted hA hx.1]; rfl
      · refine ⟨adel_nodup' R.tnd _, fun e he => R.tv e (adel_sub Q _ e he), fun e he => R.tad e (adel_sub Q _ e he), fun a => ?_, aput_nodup R.knd _ _, putA_sorted R.sorted hx.1 hA, fun y hy => ?_, Nat.le_trans (putA_length L x) (Nat.succ_le_succ R.ll), Nat.le_succ_of_le (Nat.le_trans (adel_length Q _) R.tl)⟩
        · rw [aget_aput, putA_find, R.kl a]
          by_cases c : x.1 = a
          · rw [if_pos c, if_pos c.symm]
          · rw [if_neg c, if_neg (Ne.symm c)]
        · rcases putA_mem hy with rfl | hy
          · exact ⟨hx, hs⟩
          · exact R.acc y hy
end GW
set_option linter.unusedVariables false
set_option linter.unusedSimpArgs false
set_option maxRecDepth 100000
namespace GW
open Go Go.RowKit
def lastA (o : Option L34) : List L34 → List Int → Option L34
  | [], _ => o
  | x :: l, a => lastA (if x.1 = a then some x else o) l a
theorem putsA_last : ∀ (l : List L34) (L : List L34) (a : List Int), findA (putsA L l) a = lastA (findA L a) l a
  | [], L, a => rfl
  | x :: l, L, a => by
    show findA (putsA (putA L x) l) a = lastA (if x.1 = a then some x else findA L a) l a
    rw [putsA_last l, putA_find]
def wantA (o : Option L34) (a : List Int) : L34 × Bool := match o with
  | some x => (x, true)
  | none => ((a, 0, [0, 0, 0, 0], [], []), false)
theorem wantA_small {o : Option L34} {a : List Int} (h : ∀ x, o = some x → SmallA x) : SmallA (wantA o a).1 := by
  cases o with
  | none => exact ⟨by show (0 : Nat) ≤ 3000; omega, by show (0 : Nat) ≤ 100; omega⟩
  | some x => exact h x rfl
theorem over_j5 {L : List L34} {Q : CaT} {K : CaK} {n k sz : Nat} {s : L81} {V : Vs} (C : CRel L Q K n) (R : VRel (k + 200) sz s V) (hk : 5000 < k) (hV : V.length ≤ 10) (a : List Int) (v : Nat) (hv : v < V.length) (t4 : Int × Int × L81) (ht : t4.2.2 = s) (o : Option L34) (ho : o = match findA (gt V (v : Int)).2 a with | some x => some x | none => findA L a) :
    smithylaw15_ForkOver.j5 (k + 200) a t4 K Q (v : Int) (wantA o a).2 (wantA o a).1.1 (wantA o a).1.2.1 (wantA o a).1.2.2.1 (wantA o a).1.2.2.2.1 (wantA o a).1.2.2.2.2 = some true := by
  have hs : ∀ x, o = some x → SmallA x := fun x hx => by
    rw [hx] at ho
    cases e : findA (gt V (v : Int)).2 a with
    | some y =>
      rw [e] at ho
      obtain rfl := Option.some.inj ho
      exact (R.acc v hv _ (findA_mem e).1).sm
    | none =>
      rw [e] at ho
      exact (C.acc x (findA_mem ho.symm).1).2
  have hsm := wantA_small (a := a) hs
  unfold smithylaw15_ForkOver.j5 fork_Over.f fork_over_Account.f
  rw [Option.bind_some, ht]
  show Option.bind (Option.bind (store_Store_Find.f (k + 200) s (v : Int) a) _) _ = _
  rw [FindI_eq R (by omega), if_pos (by omega), Option.bind_some]
  have fin : ∀ (r : L34 × Bool), r = wantA o a → (Option.bind (smithylaw15_fixed.f (k + 200)) fun t8 => if t8 = true then (if (r.2 == (wantA o a).2) = true then ((smithyref13_Same.f (k + 200) r.1 ((wantA o a).1.1, (wantA o a).1.2.1, (wantA o a).1.2.2.1, (wantA o a).1.2.2.2.1, (wantA o a).1.2.2.2.2)).bind fun t9 => (some t9)) else some false) else some false) = some true := fun r hr => by
    rw [fixed15, Option.bind_some, if_pos rfl, hr, if_pos (by simp)]
    show Option.bind (smithyref13_Same.f (k + 200) (wantA o a).1 (wantA o a).1) _ = _
    rw [same_self (wantA o a).1 (k + 200) (by have := hsm.2; omega) (by have := hsm.2; omega)]; rfl
  cases e : findA (gt V (v : Int)).2 a with
  | some x =>
    rw [e] at ho
    subst ho
    rw [if_pos (by rfl), Option.bind_some]
    exact fin (x, true) rfl
  | none =>
    rw [e] at ho
    rw [if_neg (by show ¬ (false = true); simp)]
    cases e2 : findA L a with
    | some x =>
      rw [show o = some x from ho.trans e2] at fin ⊢
      show Option.bind (Option.bind (fork_Cache_Account.f (K, Q) a) _) _ = _
      rw [account_yes (C.acc x (findA_mem e2).1).2 (by rw [C.kl, e2]), Option.bind_some, Option.bind_some]
      exact fin (x, true) rfl
    | none =>
      rw [show o = none from ho.trans e2] at fin ⊢
      show Option.bind (Option.bind (fork_Cache_Account.f (K, Q) a) _) _ = _
      rw [account_no (by rw [C.kl, e2]), Option.bind_some, Option.bind_some]
      exact fin _ rfl
theorem over_l1 {k : Nat} (l : List L34) (hl : l.length ≤ 50) (a : List Int) (t4 : Int × Int × L81) (K : CaK) (Q : CaT) (v : Int) (P : Option L34 → Prop) (hfin : ∀ o, P o → smithylaw15_ForkOver.j5 k a t4 K Q v (wantA o a).2 (wantA o a).1.1 (wantA o a).1.2.1 (wantA o a).1.2.2.1 (wantA o a).1.2.2.2.1 (wantA o a).1.2.2.2.2 = some true) : ∀ (d : List L34) (q i : Nat) (o : Option L34), l.drop i = d → i ≤ l.length → d.length < q → P (lastA o d a) → smithylaw15_ForkOver.l1 k l a t4 K Q v q (i : Int) (wantA o a).2 (wantA o a).1.1 (wantA o a).1.2.1 (wantA o a).1.2.2.1 (wantA o a).1.2.2.2.1 (wantA o a).1.2.2.2.2 = some true
  | [], q, i, o, hd, hi, hq, hp => by
    obtain ⟨q, rfl⟩ : ∃ m, q = m + 1 := ⟨q - 1, by omega⟩
    have : l.length ≤ i := by simpa using hd
    show smithylaw15_ForkOver.b1 _ _ _ _ _ _ _ _ _ _ _ _ _ _ _ = _
    unfold smithylaw15_ForkOver.b1
    rw [if_neg (by simp; omega)]
    exact hfin o hp
  | x :: d, q, i, o, hd, hi, hq, hp => by
    simp only [List.length_cons] at hq
    obtain ⟨q, rfl⟩ : ∃ m, q = m + 1 := ⟨q - 1, by omega⟩
    obtain ⟨h1, h2, h3⟩ := gt_dropA hd
    show smithylaw15_ForkOver.b1 _ _ _ _ _ _ _ _ _ _ _ _ _ _ _ = _
    unfold smithylaw15_ForkOver.b1 smithylaw15_ForkOver.j6
    rw [if_pos (by simp; omega), if_pos (by omega), h1, next1 i (by omega)]
    unfold lastA at hp
    by_cases c : x.1 = a
    · rw [if_pos c] at hp
      rw [if_pos (by simpa using c)]
      exact over_l1 l hl a t4 K Q v P hfin d q (i + 1) (some x) h3 (by omega) (by omega) hp
    · rw [if_neg c] at hp
      rw [if_neg (by simpa using c)]
      exact over_l1 l hl a t4 K Q v P hfin d q (i + 1) o h3 (by omega) (by omega) hp
theorem lastA_or : ∀ (l : List L34) (o : Option L34) (a : List Int), lastA o l a = match lastA none l a with | some x => some x | none => o
  | [], o, a => rfl
  | x :: l, o, a => by
    show lastA (if x.1 = a then some x else o) l a = match lastA (if x.1 = a then some x else none) l a with | some x => some x | none => o
    rw [lastA_or l (if x.1 = a then some x else o), lastA_or l (if x.1 = a then some x else none)]
    by_cases c : x.1 = a
    · simp only [if_pos c]
      cases lastA none l a <;> rfl
    · simp only [if_neg c]
      cases lastA none l a <;> rfl
theorem over_j2 {L : List L34} {Q : CaT} {K : CaK} {n k : Nat} (C : CRel L Q K n) (hn : n < 200) (hk : 5000 < k) (l : List L34) (hg : ∀ x ∈ l, Gd34 x) (hs : ∀ x ∈ l, SmallA x) (hl : l.length ≤ 50) (a : List Int) (t4 : Int × Int × L81) (ht : store_Store_Commit.f (k + 200) [((-1), ([] : Kv))] 0 l = some t4) : smithylaw15_ForkOver.j2 (k + 200) l a t4 L Q K Q = some true := by
  have h1 := C.ll
  have R := VRel.first (k + 200)
  have hf := find_eq L a (k + 200) (by omega) (by omega)
  have hw : ∀ (t10 : L34 × Bool), some t10 = some (match findA L a with | some x => (x, true) | none => (noA, false)) → ∀ (X : Bool → List Int → Int → List Int → List Int → List (List Int × List Int) → Option Bool), X (wantA (findA L a) a).2 (wantA (findA L a) a).1.1 (wantA (findA L a) a).1.2.1 (wantA (findA L a) a).1.2.2.1 (wantA (findA L a) a).1.2.2.2.1 (wantA (findA L a) a).1.2.2.2.2 = some true → (if t10.2 = true then X true t10.1.1 t10.1.2.1 t10.1.2.2.1 t10.1.2.2.2.1 t10.1.2.2.2.2 else X false a 0 [0, 0, 0, 0] [] []) = some true := fun t10 h X hX => by
    obtain rfl := Option.some.inj h
    cases e : findA L a with
    | some x => rw [e] at hX; rw [if_pos (by rfl)]; exact hX
    | none => rw [e] at hX; rw [if_neg (by simp)]; exact hX
  unfold smithylaw15_ForkOver.j2 smithylaw15_ForkOver.j3
  rw [hf, Option.bind_some, Option.bind_some]
  rcases commit_eq R (by omega) (by simp) (0 : Int) l hg hs (by omega) (by omega) with ⟨h, hc⟩ | ⟨h, hc, _⟩ | ⟨h, hc, ha⟩
  · exact absurd (by simp) hc
  · rw [h] at ht
    obtain rfl := Option.some.inj ht
    rw [if_pos (by simp)]
    refine hw _ rfl (fun y15 y16 y17 y18 y19 y20 => smithylaw15_ForkOver.j4 (k + 200) l a _ K Q 0 y15 y16 y17 y18 y19 y20) ?_
    unfold smithylaw15_ForkOver.j4
    rw [if_neg (by simp)]
    exact over_j5 C R hk (by simp) a 0 (by simp) _ rfl _ rfl
  · rw [h] at ht
    obtain rfl := Option.some.inj ht
    have R1 := R.commit (p := 0) (by simp) ha
    rw [if_neg (by simp)]
    refine hw _ rfl (fun y15 y16 y17 y18 y19 y20 => smithylaw15_ForkOver.j4 (k + 200) l a _ K Q _ y15 y16 y17 y18 y19 y20) ?_
    unfold smithylaw15_ForkOver.j4
    rw [if_pos (by simp)]
    refine over_l1 l hl a _ K Q _ (fun o => o = match findA (putsA [] l) a with | some x => some x | none => findA L a) (fun o ho => over_j5 C R1 hk (by simp) a 1 (by simp) _ rfl o ho) l (k + 200) 0 (findA L a) rfl (by omega) (by omega) ?_
    rw [putsA_last, lastA_or]; rfl
theorem over_l2 {k : Nat} (hk : 5000 < k) (l : List L34) (hg : ∀ x ∈ l, Gd34 x) (hs : ∀ x ∈ l, SmallA x) (hl : l.length ≤ 50) (r : List L34) (hg2 : ∀ x ∈ r, Gd34 x) (hs2 : ∀ x ∈ r, SmallA x) (hl2 : r.length ≤ 50) (a : List Int) (t4 : Int × Int × L81) (ht : store_Store_Commit.f (k + 200) [((-1), ([] : Kv))] 0 l = some t4) : ∀ (d : List L34) (q i : Nat) (L : List L34) (Q : CaT) (K : CaK), r.drop i = d → i ≤ r.length → d.length < q → CRel L Q K (2 * i) → smithylaw15_ForkOver.l2 (k + 200) l r a t4 q (i : Int) L Q K Q = some true
  | [], q, i, L, Q, K, hd, hi, hq, C => by
    obtain ⟨q, rfl⟩ : ∃ m, q = m + 1 := ⟨q - 1, by omega⟩
    have : r.length ≤ i := by simpa using hd
    show smithylaw15_ForkOver.b2 _ _ _ _ _ _ _ _ _ _ _ = _
    unfold smithylaw15_ForkOver.b2
    rw [if_neg (by simp; omega)]
    exact over_j2 C (by omega) hk l hg hs hl a t4 ht
  | x :: d, q, i, L, Q, K, hd, hi, hq, C => by
    simp only [List.length_cons] at hq
    obtain ⟨q, rfl⟩ : ∃ m, q = m + 1 := ⟨q - 1, by omega⟩
    obtain ⟨h1, h2, h3⟩ := gt_dropA hd
    have hx : x ∈ r := List.drop_subset i r (by rw [hd]; exact List.mem_cons_self)
    show smithylaw15_ForkOver.b2 _ _ _ _ _ _ _ _ _ _ _ = _
    unfold smithylaw15_ForkOver.b2
    obtain ⟨w, Q', a1, a2, a3⟩ := want_both (k := k + 200) C (by omega) (by omega) (hg2 x hx).1
    obtain ⟨w', L2, Q2, K2, b1, b2, b3⟩ := fill_both (k := k + 200) a3 (by omega) (by omega) (hg2 x hx) (hs2 x hx)
    rw [if_pos (by simp; omega), if_pos (by omega), h1, a2, Option.bind_some, b2, Option.bind_some, a1, Option.bind_some, b1, Option.bind_some, next1 i (by omega)]
    exact over_l2 hk l hg hs hl r hg2 hs2 hl2 a t4 ht d q (i + 1) L2 Q2 K2 h3 (by omega) (by omega) (b3.mono (by omega))
theorem smithylaw15_ForkOver_true (a0 : List L34) (a1 : List L34) (a2 : List Int) (w0 : Gd22 a0) (w1 : Gd22 a1) (l2 : a2.length = 20) (w2 : ∀ y ∈ a2, inK .u8 y) : ∃ k : Nat, smithylaw15_ForkOver.f k a0 a1 a2 = some true := by
  refine ⟨9800 + 200, ?_⟩
  have fx := fixed15 9800
  unfold smithylaw15_ForkOver.f
  rcases great13 a0 (9800 + 200) (by omega) with h | ⟨h, hl, hs⟩
  · rw [h, Option.bind_some, if_pos rfl]
    unfold smithylaw15_ForkOver.j1
    rw [if_pos rfl, fx]; rfl
  · rw [h, Option.bind_some, if_neg (by simp)]
    rcases great13 a1 (9800 + 200) (by omega) with h' | ⟨h', hl', hs'⟩
    · rw [h', Option.bind_some]
      unfold smithylaw15_ForkOver.j1
      rw [if_pos rfl, fx]; rfl
    · rw [h', Option.bind_some]
      unfold smithylaw15_ForkOver.j1
      rw [if_neg (by simp), show store_New.f = some [((-1), ([] : Kv))] from rfl, Option.bind_some, show fork_New.f = some (([] : CaK), ([] : CaT)) from rfl, Option.bind_some]
      have ⟨t4, ht⟩ : ∃ t4, store_Store_Commit.f (9800 + 200) [((-1), ([] : Kv))] 0 a0 = some t4 := by
        rcases commit_eq (VRel.first (9800 + 200)) (by omega) (by simp) (0 : Int) a0 (fun x hx => w0.1 x hx) hs (by omega) (by omega) with ⟨h, _⟩ | ⟨h, _⟩ | ⟨h, _⟩ <;> exact ⟨_, h⟩
      rw [ht, Option.bind_some]
      exact over_l2 (k := 9800) (by omega) a0 (fun x hx => w0.1 x hx) hs hl a1 (fun x hx => w1.1 x hx) hs' hl' a2 t4 ht a1 (9800 + 200) 0 [] [] [] rfl (by omega) (by omega) ⟨List.nodup_nil, fun e he => (by cases he), fun e he => (by cases he), fun a => rfl, List.nodup_nil, List.Pairwise.nil, fun e he => (by cases he), Nat.zero_le _, Nat.zero_le _⟩
end GW
