import Derived.Test.YtldbgghcailgfaaG0
import Derived.Test.YtldbgghcailgfaaGWPlain
import Derived.Sort.LotA
import Derived.Sort.Defs
import Derived.Laws.Bits64b
import Derived.Sort.LotB
import Derived.Sort.LotC
import Derived.Sort.LotD3
set_option linter.unusedVariables false
set_option linter.unusedSimpArgs false
set_option maxRecDepth 100000
namespace GW
open Go Go.RowKit
def Wd (a : List Int) : Prop := a.length = 4 ∧ ∀ y ∈ a, inK .u64 y
def wv (a : List Int) : Int := rd a 0 + rd a 1 * 18446744073709551616 + rd a 2 * 340282366920938463463374607431768211456 + rd a 3 * 6277101735386680763835789423207666416102355444464034512896
theorem inK_of_u64 {x : Int} (h0 : 0 ≤ x) (h1 : x < 18446744073709551616) : inK .u64 x := by
  have : x ≤ 18446744073709551615 := by omega
  simpa [inK, Lit.wf, IntKind.min, IntKind.max, IntKind.signed, IntKind.bits] using And.intro h0 this
theorem Wd.lanes {a : List Int} (h : Wd a) : ∃ a0 a1 a2 a3 : Int, a = [a0, a1, a2, a3] ∧ (0 ≤ a0 ∧ a0 < 18446744073709551616) ∧ (0 ≤ a1 ∧ a1 < 18446744073709551616) ∧ (0 ≤ a2 ∧ a2 < 18446744073709551616) ∧ (0 ≤ a3 ∧ a3 < 18446744073709551616) := by
  obtain ⟨hl, hx⟩ := h
  match a, hl with
  | [a0, a1, a2, a3], _ => exact ⟨a0, a1, a2, a3, rfl, inK_u64 (hx a0 (by simp)), inK_u64 (hx a1 (by simp)), inK_u64 (hx a2 (by simp)), inK_u64 (hx a3 (by simp))⟩
theorem Wd.mk {a0 a1 a2 a3 : Int} (h0 : 0 ≤ a0 ∧ a0 < 18446744073709551616) (h1 : 0 ≤ a1 ∧ a1 < 18446744073709551616) (h2 : 0 ≤ a2 ∧ a2 < 18446744073709551616) (h3 : 0 ≤ a3 ∧ a3 < 18446744073709551616) : Wd [a0, a1, a2, a3] := by
  refine ⟨rfl, fun y hy => ?_⟩
  simp only [List.mem_cons, List.not_mem_nil, or_false] at hy
  rcases hy with rfl | rfl | rfl | rfl
  · exact inK_of_u64 h0.1 h0.2
  · exact inK_of_u64 h1.1 h1.2
  · exact inK_of_u64 h2.1 h2.2
  · exact inK_of_u64 h3.1 h3.2
theorem wv_lanes (a0 a1 a2 a3 : Int) : wv [a0, a1, a2, a3] = a0 + a1 * 18446744073709551616 + a2 * 340282366920938463463374607431768211456 + a3 * 6277101735386680763835789423207666416102355444464034512896 := rfl
theorem Wd.lt {a : List Int} (h : Wd a) : 0 ≤ wv a ∧ wv a < 115792089237316195423570985008687907853269984665640564039457584007913129639936 := by
  obtain ⟨a0, a1, a2, a3, rfl, h0, h1, h2, h3⟩ := h.lanes
  rw [wv_lanes]; omega
theorem Wd.inj {a b : List Int} (h : Wd a) (k : Wd b) (e : wv a = wv b) : a = b := by
  obtain ⟨a0, a1, a2, a3, rfl, h0, h1, h2, h3⟩ := h.lanes
  obtain ⟨b0, b1, b2, b3, rfl, k0, k1, k2, k3⟩ := k.lanes
  rw [wv_lanes, wv_lanes] at e
  have e0 : a0 = b0 := by omega
  subst e0
  have e1 : a1 = b1 := by omega
  subst e1
  have e2 : a2 = b2 := by omega
  subst e2
  have e3 : a3 = b3 := by omega
  rw [e3]
theorem Wd.of {x : Int} (h : inK .u64 x) : Wd [x, 0, 0, 0] := Wd.mk (inK_u64 h) (by omega) (by omega) (by omega)
theorem Wd.of' {x : Int} (h0 : 0 ≤ x) (h1 : x < 18446744073709551616) : Wd [x, 0, 0, 0] := Wd.mk ⟨h0, h1⟩ (by omega) (by omega) (by omega)
theorem Wd.zero : Wd [0, 0, 0, 0] := Wd.of' (by omega) (by omega)
def dv (B : Int) : List Int → Int
  | [] => 0
  | x :: r => x + B * dv B r
theorem rd_getD (a : List Int) (i : Nat) : rd a (i : Int) = a.getD i 0 := rfl
def Dig (B : Int) (a : List Int) : Prop := ∀ y ∈ a, 0 ≤ y ∧ y < B
theorem Dig.rd {B : Int} (hB : 0 < B) {a : List Int} (h : Dig B a) (i : Nat) : 0 ≤ a.getD i 0 ∧ a.getD i 0 < B := by
  rw [List.getD_eq_getElem?_getD]
  by_cases hi : i < a.length
  · rw [List.getElem?_eq_getElem hi]; exact h _ (List.getElem_mem hi)
  · rw [List.getElem?_eq_none (by omega)]; exact ⟨Int.le_refl _, hB⟩
theorem Dig.set {B : Int} {a : List Int} (h : Dig B a) (i : Nat) {v : Int} (hv : 0 ≤ v ∧ v < B) : Dig B (a.set i v) := fun y hy => by
  rcases List.mem_or_eq_of_mem_set hy with h1 | rfl
  · exact h y h1
  · exact hv
theorem Dig.nil (B : Int) : Dig B [] := fun y hy => by cases hy
theorem dv_lt {B : Int} (hB : 0 < B) : ∀ {a : List Int}, Dig B a → 0 ≤ dv B a ∧ dv B a < B ^ a.length
  | [], _ => by simp [dv]
  | x :: r, h => by
    obtain ⟨h1, h2⟩ := h x (by simp)
    obtain ⟨h3, h4⟩ := dv_lt hB (a := r) fun y hy => h y (by simp [hy])
    have h5 : B * dv B r ≤ B * (B ^ r.length - 1) := Int.mul_le_mul_of_nonneg_left (by omega) (by omega)
    have h6 : 0 ≤ B * dv B r := Int.mul_nonneg (by omega) h3
    simp only [dv, List.length_cons, Int.pow_succ]
    have h7 : B * (B ^ r.length - 1) = B ^ r.length * B - B := by grind
    omega
end GW
set_option linter.unusedVariables false
set_option linter.unusedSimpArgs false
set_option maxRecDepth 100000
namespace GW
open Go Go.RowKit
theorem dv_split (B : Int) : ∀ (a : List Int) (i : Nat), dv B a = dv B (a.take i) + a.getD i 0 * B ^ i + B ^ (i + 1) * dv B (a.drop (i + 1))
  | [], i => by simp [dv]
  | x :: r, 0 => by simp [dv, Int.pow_succ]
  | x :: r, i + 1 => by
    have := dv_split B r i
    simp only [List.take_succ_cons, dv, List.getD_cons_succ, List.drop_succ_cons, Int.pow_succ] at this ⊢
    rw [this]
    grind
theorem dv_zero (B : Int) : ∀ (a : List Int), (∀ j, a.getD j 0 = 0) → dv B a = 0
  | [], _ => rfl
  | x :: r, h => by
    have h0 : x = 0 := h 0
    rw [dv, dv_zero B r (fun j => h (j + 1)), h0, Int.mul_zero, Int.add_zero]
theorem dv_ext (B : Int) : ∀ (a b : List Int), (∀ j, a.getD j 0 = b.getD j 0) → dv B a = dv B b
  | [], b, h => (dv_zero B b (fun j => (h j).symm.trans (by simp))).symm
  | x :: r, [], h => dv_zero B (x :: r) (fun j => (h j).trans (by simp))
  | x :: r, y :: s, h => by
    have h0 : x = y := h 0
    rw [dv, dv, h0, dv_ext B r s (fun j => h (j + 1))]
theorem Dig.take {B : Int} {a : List Int} (h : Dig B a) (i : Nat) : Dig B (a.take i) := fun y hy => h y (List.take_subset _ _ hy)
theorem Dig.drop {B : Int} {a : List Int} (h : Dig B a) (i : Nat) : Dig B (a.drop i) := fun y hy => h y (List.drop_subset _ _ hy)
theorem getD_drop (a : List Int) (i j : Nat) : (a.drop i).getD j 0 = a.getD (i + j) 0 := by
  rw [List.getD_eq_getElem?_getD, List.getD_eq_getElem?_getD, List.getElem?_drop]
theorem dv_at {B : Int} (hB : 0 < B) {a b : List Int} (ha : Dig B a) (hb : Dig B b) (i : Nat) (hi : ∀ j, i < j → a.getD j 0 = b.getD j 0) (h : a.getD i 0 < b.getD i 0) : dv B a < dv B b := by
  have e : dv B (a.drop (i + 1)) = dv B (b.drop (i + 1)) := dv_ext B _ _ (fun j => by rw [getD_drop, getD_drop, hi _ (by omega)])
  rw [dv_split B a i, dv_split B b i, e]
  obtain ⟨_, h1⟩ := dv_lt hB (ha.take i)
  obtain ⟨h2, _⟩ := dv_lt hB (hb.take i)
  have h3 : B ^ (a.take i).length ≤ B ^ i := by
    have : ∀ m n : Nat, m ≤ n → B ^ m ≤ B ^ n := fun m n hmn => by
      obtain ⟨d, rfl⟩ := Nat.exists_eq_add_of_le hmn
      rw [Int.pow_add]
      have := Int.pow_pos (n := B) (m := d) hB
      have h4 : B ^ m * 1 ≤ B ^ m * B ^ d := Int.mul_le_mul_of_nonneg_left (by omega) (Int.le_of_lt (Int.pow_pos hB))
      omega
    exact this _ _ (by rw [List.length_take]; omega)
  have h4 : (a.getD i 0 + 1) * B ^ i ≤ b.getD i 0 * B ^ i := Int.mul_le_mul_of_nonneg_right (by omega) (Int.le_of_lt (Int.pow_pos hB))
  rw [Int.add_mul, Int.one_mul] at h4
  omega
theorem of_lanesW (k : Nat) (x0 x1 x2 x3 : Int) : smithyref01_Of.f (k + 40) [x0, x1, x2, x3] = some [wr .i64 (Int.tmod (shr x0 0) 256), wr .i64 (Int.tmod (shr x0 8) 256), wr .i64 (Int.tmod (shr x0 16) 256), wr .i64 (Int.tmod (shr x0 24) 256), wr .i64 (Int.tmod (shr x0 32) 256), wr .i64 (Int.tmod (shr x0 40) 256), wr .i64 (Int.tmod (shr x0 48) 256), wr .i64 (Int.tmod (shr x0 56) 256), wr .i64 (Int.tmod (shr x1 0) 256), wr .i64 (Int.tmod (shr x1 8) 256), wr .i64 (Int.tmod (shr x1 16) 256), wr .i64 (Int.tmod (shr x1 24) 256), wr .i64 (Int.tmod (shr x1 32) 256), wr .i64 (Int.tmod (shr x1 40) 256), wr .i64 (Int.tmod (shr x1 48) 256), wr .i64 (Int.tmod (shr x1 56) 256), wr .i64 (Int.tmod (shr x2 0) 256), wr .i64 (Int.tmod (shr x2 8) 256), wr .i64 (Int.tmod (shr x2 16) 256), wr .i64 (Int.tmod (shr x2 24) 256), wr .i64 (Int.tmod (shr x2 32) 256), wr .i64 (Int.tmod (shr x2 40) 256), wr .i64 (Int.tmod (shr x2 48) 256), wr .i64 (Int.tmod (shr x2 56) 256), wr .i64 (Int.tmod (shr x3 0) 256), wr .i64 (Int.tmod (shr x3 8) 256), wr .i64 (Int.tmod (shr x3 16) 256), wr .i64 (Int.tmod (shr x3 24) 256), wr .i64 (Int.tmod (shr x3 32) 256), wr .i64 (Int.tmod (shr x3 40) 256), wr .i64 (Int.tmod (shr x3 48) 256), wr .i64 (Int.tmod (shr x3 56) 256)] := by kernel_rfl
theorem limb_dig (x : Int) (n : Nat) (h : 0 ≤ x) (h1 : x < 18446744073709551616) : wr .i64 (Int.tmod (shr x n) 256) = x / 2 ^ n % 256 := by
  unfold shr
  have hp : (0 : Int) < 2 ^ n := Int.pow_pos (by omega)
  rw [Int.fdiv_eq_ediv_of_nonneg _ (Int.le_of_lt hp)]
  have h2 : 0 ≤ x / 2 ^ n := Int.ediv_nonneg h (Int.le_of_lt hp)
  rw [tmod_pos h2, wr_i64_id (by omega) (by omega)]
theorem limb_dv (x : Int) (h : 0 ≤ x) (h1 : x < 18446744073709551616) (r : List Int) : dv 256 (x / 2 ^ 0 % 256 :: x / 2 ^ 8 % 256 :: x / 2 ^ 16 % 256 :: x / 2 ^ 24 % 256 :: x / 2 ^ 32 % 256 :: x / 2 ^ 40 % 256 :: x / 2 ^ 48 % 256 :: x / 2 ^ 56 % 256 :: r) = x + 18446744073709551616 * dv 256 r := by
  simp only [dv, Int.reducePow]
  generalize dv 256 r = y
  omega
theorem ofD_eq (k : Nat) {a : List Int} (ha : Wd a) : ∃ d, smithyref01_Of.f (k + 40) a = some d ∧ d.length = 32 ∧ Dig 256 d ∧ dv 256 d = wv a := by
  obtain ⟨a0, a1, a2, a3, rfl, h0, h1, h2, h3⟩ := ha.lanes
  refine ⟨_, of_lanesW k a0 a1 a2 a3, rfl, ?_, ?_⟩
  · intro y hy
    simp only [limb_dig a0 _ h0.1 h0.2, limb_dig a1 _ h1.1 h1.2, limb_dig a2 _ h2.1 h2.2, limb_dig a3 _ h3.1 h3.2, List.mem_cons, List.not_mem_nil, or_false] at hy
    rcases hy with rfl | rfl | rfl | rfl | rfl | rfl | rfl | rfl | rfl | rfl | rfl | rfl | rfl | rfl | rfl | rfl | rfl | rfl | rfl | rfl | rfl | rfl | rfl | rfl | rfl | rfl | rfl | rfl | rfl | rfl | rfl | rfl <;> omega
  · simp only [limb_dig a0 _ h0.1 h0.2, limb_dig a1 _ h1.1 h1.2, limb_dig a2 _ h2.1 h2.2, limb_dig a3 _ h3.1 h3.2]
    rw [limb_dv a0 h0.1 h0.2, limb_dv a1 h1.1 h1.2, limb_dv a2 h2.1 h2.2, limb_dv a3 h3.1 h3.2, wv_lanes]
    simp only [dv]
    omega
end GW
set_option linter.unusedVariables false
set_option linter.unusedSimpArgs false
set_option maxRecDepth 100000
namespace GW
open Go Go.RowKit
def cmpI (a b : Int) : Int := if a = b then 0 else if a < b then -1 else 1
theorem cmp_step (x y : List Int) (q i : Nat) (hi : i < 4) (h : rd x i = rd y i) : word_Compare.l1 x y (q + 1) (i : Int) = word_Compare.l1 x y q ((i : Int) - 1) := by
  show word_Compare.b1 x y _ _ = _
  unfold word_Compare.b1
  rw [if_pos (by omega), if_pos (by simpa using h), wr_i64_id (by omega) (by omega)]
theorem cmp_stop (x y : List Int) (q i : Nat) (hi : i < 4) (h : rd x i ≠ rd y i) : word_Compare.l1 x y (q + 1) (i : Int) = some (if rd x i < rd y i then -1 else 1) := by
  show word_Compare.b1 x y _ _ = _
  unfold word_Compare.b1
  rw [if_pos (by omega), if_neg (by simpa using h)]
  unfold word_Compare.j1
  rw [if_pos (by omega)]
  by_cases c : rd x i < rd y i
  · rw [if_pos (by simpa using c), if_pos c]
  · rw [if_neg (by simpa using c), if_neg c]
theorem cmp_eq (k : Nat) {a b : List Int} (ha : Wd a) (hb : Wd b) : word_Compare.f (k + 5) a b = some (cmpI (wv a) (wv b)) := by
  unfold word_Compare.f cmpI
  by_cases e : a = b
  · subst e
    rw [if_pos (by simp), if_pos rfl]
  rw [if_neg (by simpa using e), if_neg (fun h => e (ha.inj hb h))]
  obtain ⟨a0, a1, a2, a3, rfl, h0, h1, h2, h3⟩ := ha.lanes
  obtain ⟨b0, b1, b2, b3, rfl, k0, k1, k2, k3⟩ := hb.lanes
  have r0 : ∀ x0 x1 x2 x3 : Int, rd [x0, x1, x2, x3] ((0 : Nat) : Int) = x0 := fun _ _ _ _ => rfl
  have r1 : ∀ x0 x1 x2 x3 : Int, rd [x0, x1, x2, x3] ((1 : Nat) : Int) = x1 := fun _ _ _ _ => rfl
  have r2 : ∀ x0 x1 x2 x3 : Int, rd [x0, x1, x2, x3] ((2 : Nat) : Int) = x2 := fun _ _ _ _ => rfl
  have r3 : ∀ x0 x1 x2 x3 : Int, rd [x0, x1, x2, x3] ((3 : Nat) : Int) = x3 := fun _ _ _ _ => rfl
  have goal : ∀ (p q : Int), (p < q ↔ wv [a0, a1, a2, a3] < wv [b0, b1, b2, b3]) → some (if p < q then (-1 : Int) else 1) = some (if wv [a0, a1, a2, a3] < wv [b0, b1, b2, b3] then -1 else 1) := fun p q h => by
    by_cases c : p < q
    · rw [if_pos c, if_pos (h.1 c)]
    · rw [if_neg c, if_neg (fun u => c (h.2 u))]
  simp only [wv_lanes] at goal ⊢
  rw [show (word_Compare.l1 [a0, a1, a2, a3] [b0, b1, b2, b3] (k + 5) 3) = word_Compare.l1 [a0, a1, a2, a3] [b0, b1, b2, b3] (k + 4 + 1) ((3 : Nat) : Int) from rfl]
  by_cases c3 : a3 = b3
  · rw [cmp_step [a0, a1, a2, a3] [b0, b1, b2, b3] _ 3 (by omega) c3, show (((3 : Nat) : Int) - 1) = ((2 : Nat) : Int) from rfl, show k + 4 = k + 3 + 1 from rfl]
    by_cases c2 : a2 = b2
    · rw [cmp_step [a0, a1, a2, a3] [b0, b1, b2, b3] _ 2 (by omega) c2, show (((2 : Nat) : Int) - 1) = ((1 : Nat) : Int) from rfl, show k + 3 = k + 2 + 1 from rfl]
      by_cases c1 : a1 = b1
      · rw [cmp_step [a0, a1, a2, a3] [b0, b1, b2, b3] _ 1 (by omega) c1, show (((1 : Nat) : Int) - 1) = ((0 : Nat) : Int) from rfl, show k + 2 = k + 1 + 1 from rfl]
        by_cases c0 : a0 = b0
        · exact absurd (by rw [c0, c1, c2, c3]) e
        · rw [cmp_stop [a0, a1, a2, a3] [b0, b1, b2, b3] _ 0 (by omega) c0, r0, r0]; exact goal _ _ (by omega)
      · rw [cmp_stop [a0, a1, a2, a3] [b0, b1, b2, b3] _ 1 (by omega) c1, r1, r1]; exact goal _ _ (by omega)
    · rw [cmp_stop [a0, a1, a2, a3] [b0, b1, b2, b3] _ 2 (by omega) c2, r2, r2]; exact goal _ _ (by omega)
  · rw [cmp_stop [a0, a1, a2, a3] [b0, b1, b2, b3] _ 3 (by omega) c3, r3, r3]; exact goal _ _ (by omega)
theorem cmpI_lt (a b : Int) : decide (cmpI a b < 0) = decide (a < b) := by
  unfold cmpI
  by_cases h : a = b
  · subst h; simp
  · rw [if_neg h]
    by_cases k : a < b
    · rw [if_pos k]; simp [k]
    · rw [if_neg k]; simp [k]
end GW
set_option linter.unusedVariables false
set_option linter.unusedSimpArgs false
set_option maxRecDepth 100000
namespace GW
open Go Go.RowKit
theorem cmpD_loop {x y : List Int} (hx : Dig 256 x) (hy : Dig 256 y) (hxl : x.length = 32) (hyl : y.length = 32) : ∀ (r q : Nat), r ≤ 32 → r < q → (∀ j, r ≤ j → x.getD j 0 = y.getD j 0) → smithyref01_Compare.l1 x y q ((r : Int) - 1) = some (cmpI (dv 256 x) (dv 256 y))
  | 0, q, hr, hq, h => by
    obtain ⟨q, rfl⟩ : ∃ m, q = m + 1 := ⟨q - 1, by omega⟩
    show smithyref01_Compare.b1 x y _ _ = _
    unfold smithyref01_Compare.b1 smithyref01_Compare.j1
    rw [if_neg (by simp), dv_ext 256 x y (fun j => h j (by omega))]
    simp [cmpI]
  | r + 1, q, hr, hq, h => by
    obtain ⟨q, rfl⟩ : ∃ m, q = m + 1 := ⟨q - 1, by omega⟩
    rw [show ((r + 1 : Nat) : Int) - 1 = (r : Int) from by omega]
    show smithyref01_Compare.b1 x y _ _ = _
    unfold smithyref01_Compare.b1
    rw [if_pos (by simp), if_pos (by omega), rd_getD, rd_getD]
    by_cases c : x.getD r 0 < y.getD r 0
    · rw [if_pos (by simpa using c)]
      have := dv_at (by omega) hx hy r (fun j hj => h j (by omega)) c
      unfold cmpI
      rw [if_neg (by omega), if_pos this]
    rw [if_neg (by simpa using c)]
    by_cases c2 : y.getD r 0 < x.getD r 0
    · rw [if_pos (by simpa using c2)]
      have := dv_at (by omega) hy hx r (fun j hj => (h j (by omega)).symm) c2
      unfold cmpI
      rw [if_neg (by omega), if_neg (by omega)]
    rw [if_neg (by simpa using c2), wr_i64_id (by omega) (by omega)]
    refine cmpD_loop hx hy hxl hyl r q (by omega) (by omega) (fun j hj => ?_)
    by_cases e : j = r
    · subst e; omega
    · exact h j (by omega)
theorem cmpD_eq (k : Nat) {x y : List Int} (hx : Dig 256 x) (hy : Dig 256 y) (hxl : x.length = 32) (hyl : y.length = 32) : smithyref01_Compare.f (k + 40) x y = some (cmpI (dv 256 x) (dv 256 y)) :=
  cmpD_loop hx hy hxl hyl 32 (k + 40) (by omega) (by omega) (fun j hj => by rw [List.getD_eq_getElem?_getD, List.getD_eq_getElem?_getD, List.getElem?_eq_none (by omega), List.getElem?_eq_none (by omega)])
end GW
set_option linter.unusedVariables false
set_option linter.unusedSimpArgs false
set_option maxRecDepth 100000
namespace GW
open Go Go.RowKit
def SmallA (a : L34) : Prop := a.2.2.2.1.length ≤ 3000 ∧ a.2.2.2.2.length ≤ 100
theorem great_loop (l : List L34) (hl : l.length ≤ 50) : ∀ (r q i : Nat), i + r = l.length → r < q → smithyref13_Great.l1 l q (i : Int) = some true ∨ (smithyref13_Great.l1 l q (i : Int) = some false ∧ ∀ a ∈ l.drop i, SmallA a)
  | 0, q, i, hi, hq => by
    obtain ⟨q, rfl⟩ : ∃ m, q = m + 1 := ⟨q - 1, by omega⟩
    refine .inr ⟨?_, fun a ha => by rw [List.drop_eq_nil_of_le (by omega)] at ha; cases ha⟩
    show smithyref13_Great.b1 _ _ _ = _
    unfold smithyref13_Great.b1
    rw [if_neg (by simp; omega)]; rfl
  | r + 1, q, i, hi, hq => by
    obtain ⟨q, rfl⟩ : ∃ m, q = m + 1 := ⟨q - 1, by omega⟩
    have hw : wr .i64 ((i : Int) + 1) = ((i + 1 : Nat) : Int) := by rw [wr_i64_id (by omega) (by omega)]; omega
    have e1 : smithyref13_Great.l1 l (q + 1) (i : Int) = smithyref13_Great.b1 l (smithyref13_Great.l1 l q) (i : Int) := rfl
    rw [e1]
    unfold smithyref13_Great.b1
    rw [if_pos (by simp; omega), if_pos (by omega)]
    by_cases c1 : (3000 : Int) < ((gt l (i : Int)).2.2.2.1.length : Int)
    · rw [if_pos (decide_eq_true c1)]; exact .inl rfl
    · rw [if_neg (by simpa using c1)]
      unfold smithyref13_Great.j2
      by_cases c2 : (100 : Int) < ((gt l (i : Int)).2.2.2.2.length : Int)
      · rw [decide_eq_true c2]; exact .inl rfl
      · rw [decide_eq_false c2, if_neg (by simp), hw]
        rcases great_loop l hl r q (i + 1) (by omega) (by omega) with h | ⟨h, h2⟩
        · exact .inl h
        · refine .inr ⟨h, fun a ha => ?_⟩
          rw [List.drop_eq_getElem_cons (by omega)] at ha
          rcases List.mem_cons.1 ha with rfl | ha
          · have : gt l (i : Int) = l[i] := by unfold gt; rw [Int.toNat_natCast, List.getD_eq_getElem?_getD, List.getElem?_eq_getElem (by omega)]; rfl
            rw [this] at c1 c2
            exact ⟨by omega, by omega⟩
          · exact h2 a ha
theorem great13 (l : List L34) (k : Nat) (hk : 51 < k) : smithyref13_Great.f k l = some true ∨ (smithyref13_Great.f k l = some false ∧ l.length ≤ 50 ∧ ∀ a ∈ l, SmallA a) := by
  unfold smithyref13_Great.f
  by_cases c : (50 : Int) < (l.length : Int)
  · rw [if_pos (decide_eq_true c)]; exact .inl rfl
  · rw [if_neg (by simpa using c)]
    rcases great_loop l (by omega) l.length k 0 (by omega) (by omega) with h | ⟨h, h2⟩
    · exact .inl h
    · exact .inr ⟨h, by omega, by simpa using h2⟩
end GW
set_option linter.unusedVariables false
set_option linter.unusedSimpArgs false
set_option maxRecDepth 100000
namespace GW
open Go Go.RowKit
theorem gt_atG {α : Type} [Inhabited α] (xs : List α) {i : Int} (h0 : 0 ≤ i) (h1 : i < xs.length) : gt xs i ∈ xs := by
  unfold gt
  have h : i.toNat < xs.length := by omega
  rw [List.getD_eq_getElem?_getD, List.getElem?_eq_getElem h]
  exact List.getElem_mem h
theorem lessD_eq (k : Nat) {a b : List Int} (ha : Wd a) (hb : Wd b) : smithyref13_less.f (k + 40) a b = some (decide (wv a < wv b)) := by
  obtain ⟨d, d1, d2, d3, d4⟩ := ofD_eq k ha
  obtain ⟨e, e1, e2, e3, e4⟩ := ofD_eq k hb
  unfold smithyref13_less.f
  rw [d1, Option.bind_some, e1, Option.bind_some, cmpD_eq k d3 e3 d2 e2, Option.bind_some, cmpI_lt, d4, e4]
theorem cmpI_ge (a b : Int) : decide (0 ≤ cmpI a b) = !decide (a < b) := by
  unfold cmpI
  by_cases h : a = b
  · subst h; simp
  · rw [if_neg h]
    by_cases h2 : a < b <;> simp [h2]
theorem right_eq (k : Nat) (x : L34) (hx : Gd32 x.2.2.2.2) : ∀ (r q i : Nat), i + r = x.2.2.2.2.length → r < q → ∃ b, store_Right.l1 (k + 40) x q (i : Int) = some b ∧ smithyref13_Right.l1 (k + 40) x q (i : Int) = some b
  | 0, q, i, hi, hq => by
    obtain ⟨q, rfl⟩ : ∃ m, q = m + 1 := ⟨q - 1, by omega⟩
    refine ⟨true, ?_, ?_⟩
    · show store_Right.b1 _ _ _ _ = _
      unfold store_Right.b1
      rw [if_neg (by simp; omega)]; rfl
    · show smithyref13_Right.b1 _ _ _ _ = _
      unfold smithyref13_Right.b1
      rw [if_neg (by simp; omega)]; rfl
  | r + 1, q, i, hi, hq => by
    obtain ⟨q, rfl⟩ : ∃ m, q = m + 1 := ⟨q - 1, by omega⟩
    have hm := hx.2
    simp only [maxLen] at hm
    have hw : wr .i64 ((i : Int) + 1) = ((i + 1 : Nat) : Int) := by rw [wr_i64_id (by omega) (by omega)]; omega
    obtain ⟨b, ih1, ih2⟩ := right_eq k x hx r q (i + 1) (by omega) (by omega)
    have hc : decide ((i : Int) < ((x.2.2.2.2).length : Int)) = true := decide_eq_true (by omega)
    have hb : (0 : Int) ≤ (i : Int) ∧ (i : Int) < ((x.2.2.2.2).length : Int) := by omega
    have e1 : store_Right.l1 (k + 40) x (q + 1) (i : Int) = store_Right.b1 (k + 40) x (store_Right.l1 (k + 40) x q) (i : Int) := rfl
    have e2 : smithyref13_Right.l1 (k + 40) x (q + 1) (i : Int) = smithyref13_Right.b1 (k + 40) x (smithyref13_Right.l1 (k + 40) x q) (i : Int) := rfl
    rw [e1, e2]
    unfold store_Right.b1 smithyref13_Right.b1
    rw [if_pos hc, if_pos hb, if_pos hc, if_pos hb]
    by_cases c : (gt x.2.2.2.2 (i : Int)).2 = [0, 0, 0, 0]
    · rw [decide_eq_true c, if_pos rfl, if_pos rfl]
      exact ⟨false, rfl, rfl⟩
    · rw [decide_eq_false c, if_neg (show ¬ (false = true) by simp), if_neg (show ¬ (false = true) by simp)]
      have j1 : ∀ t, store_Right.j2 (i : Int) (store_Right.l1 (k + 40) x q) t = if t = true then some false else some b := fun t => by
        unfold store_Right.j2; rw [hw, ih1]
      have j2 : ∀ t, smithyref13_Right.j2 (i : Int) (smithyref13_Right.l1 (k + 40) x q) t = if t = true then some false else some b := fun t => by
        unfold smithyref13_Right.j2; rw [hw, ih2]
      by_cases c0 : 0 < i
      · have h0 : decide ((0 : Int) < (i : Int)) = true := decide_eq_true (by omega)
        have hp : wr .i64 ((i : Int) - 1) = (i : Int) - 1 := wr_i64_id (by omega) (by omega)
        rw [if_pos h0, if_pos h0, hp, if_pos (by omega), if_pos (by omega)]
        have g1 := (hx.1 _ (gt_atG x.2.2.2.2 (i := (i : Int) - 1) (by omega) (by omega))).1
        have g2 := (hx.1 _ (gt_atG x.2.2.2.2 (i := (i : Int)) (by omega) (by omega))).1
        have w1 : Wd (gt x.2.2.2.2 ((i : Int) - 1)).1 := g1
        have w2 : Wd (gt x.2.2.2.2 (i : Int)).1 := g2
        rw [show k + 40 = (k + 35) + 5 from rfl, cmp_eq (k + 35) w1 w2, Option.bind_some, show k + 35 + 5 = k + 40 from rfl, lessD_eq k w1 w2, Option.bind_some, cmpI_ge, j1, j2]
        split <;> exact ⟨_, rfl, rfl⟩
      · have h0 : decide ((0 : Int) < (i : Int)) = false := decide_eq_false (by omega)
        rw [h0, if_neg (show ¬ (false = true) by simp), if_neg (show ¬ (false = true) by simp), j1, j2, if_neg (show ¬ (false = true) by simp)]
        exact ⟨b, rfl, rfl⟩
theorem rights_eq (k : Nat) (x : L34) (hx : Gd32 x.2.2.2.2) (hk : x.2.2.2.2.length < k + 40) : ∃ b, store_Right.f (k + 40) x = some b ∧ smithyref13_Right.f (k + 40) x = some b := right_eq k x hx x.2.2.2.2.length (k + 40) 0 (by omega) (by omega)
end GW
set_option linter.unusedVariables false
set_option linter.unusedSimpArgs false
set_option maxRecDepth 100000
namespace GW
open Go Go.RowKit
def findA : List L34 → List Int → Option L34
  | [], _ => none
  | x :: l, a => if x.1 = a then some x else findA l a
def noA : L34 := ([0, 0, 0, 0, 0, 0, 0, 0, 0, 0, 0, 0, 0, 0, 0, 0, 0, 0, 0, 0], 0, [0, 0, 0, 0], ([] : List Int), ([] : List ((List Int) × (List Int))))
theorem findA_mem {l : List L34} {a : List Int} {x : L34} (h : findA l a = some x) : x ∈ l ∧ x.1 = a := by
  induction l with
  | nil => cases h
  | cons y l ih =>
    unfold findA at h
    by_cases c : y.1 = a
    · rw [if_pos c] at h; obtain rfl := Option.some.inj h; exact ⟨List.mem_cons_self, c⟩
    · rw [if_neg c] at h; exact ⟨List.mem_cons_of_mem _ (ih h).1, (ih h).2⟩
theorem gt_dropA {α : Type} [Inhabited α] {xs : List α} {i : Nat} {x : α} {l : List α} (h : xs.drop i = x :: l) : gt xs (i : Int) = x ∧ i < xs.length ∧ xs.drop (i + 1) = l := by
  have hi : i < xs.length := by
    refine Decidable.byContradiction fun c => ?_
    rw [List.drop_eq_nil_of_le (by omega)] at h
    cases h
  rw [List.drop_eq_getElem_cons hi] at h
  simp only [List.cons.injEq] at h
  refine ⟨?_, hi, h.2⟩
  unfold gt
  rw [Int.toNat_natCast, List.getD_eq_getElem?_getD, List.getElem?_eq_getElem hi]
  exact h.1
theorem next1 (i : Nat) (h : i < 4611686018427387904) : wr .i64 ((i : Int) + 1) = ((i + 1 : Nat) : Int) := by rw [wr_i64_id (by omega) (by omega)]; omega
theorem find_loop (xs : List L34) (a : List Int) (hl : xs.length < 4611686018427387904) : ∀ (l : List L34) (q i : Nat), xs.drop i = l → i ≤ xs.length → l.length < q → smithyref13_Find.l1 xs a q (i : Int) = some (match findA l a with | some x => (x, true) | none => (noA, false))
  | [], q, i, hd, hi, hq => by
    obtain ⟨q, rfl⟩ : ∃ m, q = m + 1 := ⟨q - 1, by omega⟩
    have : xs.length ≤ i := by simpa using hd
    show smithyref13_Find.b1 _ _ _ _ = _
    unfold smithyref13_Find.b1
    rw [if_neg (by simp; omega)]; rfl
  | x :: l, q, i, hd, hi, hq => by
    simp only [List.length_cons] at hq
    obtain ⟨q, rfl⟩ : ∃ m, q = m + 1 := ⟨q - 1, by omega⟩
    obtain ⟨h1, h2, h3⟩ := gt_dropA hd
    show smithyref13_Find.b1 _ _ _ _ = _
    unfold smithyref13_Find.b1 findA
    rw [if_pos (by simp; omega), if_pos (by omega), h1]
    by_cases c : x.1 = a
    · rw [decide_eq_true c, if_pos rfl, if_pos c]
    · rw [decide_eq_false c, if_neg (by simp), if_neg c, next1 i (by omega)]
      exact find_loop xs a hl l q (i + 1) h3 (by omega) (by omega)
theorem find_eq (xs : List L34) (a : List Int) (k : Nat) (hk : xs.length < k) (hl : xs.length < 4611686018427387904) : smithyref13_Find.f k xs a = some (match findA xs a with | some x => (x, true) | none => (noA, false)) :=
  find_loop xs a hl xs k 0 rfl (by omega) hk
theorem same_l (x : L34) (hl : x.2.2.2.2.length < 4611686018427387904) : ∀ (r i q : Nat), i + r = x.2.2.2.2.length → r < q → smithyref13_Same.l1 x x q (i : Int) = some true
  | 0, i, q, hi, hq => by
    obtain ⟨q, rfl⟩ : ∃ m, q = m + 1 := ⟨q - 1, by omega⟩
    show smithyref13_Same.b1 _ _ _ _ = _
    unfold smithyref13_Same.b1
    rw [if_neg (by simp; omega)]; rfl
  | r + 1, i, q, hi, hq => by
    obtain ⟨q, rfl⟩ : ∃ m, q = m + 1 := ⟨q - 1, by omega⟩
    show smithyref13_Same.b1 _ _ _ _ = _
    unfold smithyref13_Same.b1
    rw [if_pos (by simp; omega), if_pos (by omega), if_pos (by omega), if_neg (by simp), next1 i (by omega)]
    exact same_l x hl r (i + 1) q (by omega) (by omega)
theorem same_self (x : L34) (k : Nat) (hk : x.2.2.2.2.length < k) (hl : x.2.2.2.2.length < 4611686018427387904) : smithyref13_Same.f k x x = some true := by
  unfold smithyref13_Same.f smithyref13_Same.j1
  rw [if_neg (by simp), if_neg (by simp), if_neg (by simp), if_neg (by simp), if_neg (by simp)]
  exact same_l x hl x.2.2.2.2.length 0 k (by omega) hk
end GW
set_option linter.unusedVariables false
set_option linter.unusedSimpArgs false
set_option linter.unusedSectionVars false
set_option maxRecDepth 100000
namespace GW
open Go Go.RowKit
section
variable {α β : Type} [DecidableEq α]
theorem aget_aput (kvs : List (α × β)) (x : α) (y : β) (k : α) : aget (aput kvs x y) k = if k = x then some y else aget kvs k := by
  induction kvs with
  | nil => rfl
  | cons p r ih =>
    obtain ⟨q, v⟩ := p
    unfold aput
    by_cases c : x = q
    · rw [if_pos c]
      subst c
      show (if k = x then some y else aget r k) = if k = x then some y else if k = x then some v else aget r k
      by_cases c2 : k = x
      · rw [if_pos c2, if_pos c2]
      · rw [if_neg c2, if_neg c2, if_neg c2]
    · rw [if_neg c]
      show (if k = q then some v else aget (aput r x y) k) = if k = x then some y else if k = q then some v else aget r k
      rw [ih]
      by_cases c2 : k = q
      · rw [if_pos c2, if_pos c2, if_neg (fun e : k = x => c (e.symm.trans c2))]
      · rw [if_neg c2, if_neg c2]
theorem aget_some_key {kvs : List (α × β)} {k : α} : (aget kvs k).isSome = true ↔ k ∈ kvs.map Prod.fst := by
  induction kvs with
  | nil => simp [aget]
  | cons p r ih =>
    obtain ⟨q, u⟩ := p
    unfold aget
    by_cases c : k = q
    · simp [c]
    · simp [c, ih]
theorem adel_sub (kvs : List (α × β)) (x : α) : ∀ p ∈ adel kvs x, p ∈ kvs := fun p h => (List.mem_filter.1 h).1
theorem adel_length_lt {kvs : List (α × β)} {p : α × β} (h : p ∈ kvs) : (adel kvs p.1).length < kvs.length := by
  unfold adel
  have h1 := List.length_filter_le (fun q : α × β => !decide (q.1 = p.1)) kvs
  refine Nat.lt_of_le_of_ne h1 fun e => ?_
  have := (List.length_filter_eq_length_iff.1 e) p h
  simp at this
theorem adel_keys (kvs : List (α × β)) (x : α) : (adel kvs x).map Prod.fst = (kvs.map Prod.fst).filter (fun k => !decide (k = x)) := by
  unfold adel
  rw [List.filter_map]; rfl
theorem adel_nodup' {kvs : List (α × β)} (h : (kvs.map Prod.fst).Nodup) (x : α) : ((adel kvs x).map Prod.fst).Nodup :=
  List.Sublist.nodup (List.Sublist.map _ List.filter_sublist) h
theorem lk_some {o : Option β} {z v : β} (h : o = some v) : lk o z = (v, true) := by rw [h]; rfl
theorem lk_none {o : Option β} {z : β} (h : o = none) : lk o z = (z, false) := by rw [h]; rfl
end
end GW
set_option linter.unusedVariables false
set_option linter.unusedSimpArgs false
set_option maxRecDepth 100000
namespace GW
open Go Go.RowKit
abbrev CaK : Type := List ((List Int) × L34)
abbrev CaT : Type := List ((List Int) × Int)
theorem own_eq (x : L34) (h : SmallA x) : fork_own.f x = some x := by
  unfold fork_own.f slices_Clone_byte_byte.f api_Slot.f
  obtain ⟨h1, h2⟩ := h
  rw [if_pos (by simp; omega), Option.bind_some, if_pos (by simp; omega)]; rfl
theorem want_known {K : CaK} {T : CaT} {a : List Int} {x : L34} (h : aget K a = some x) : fork_Cache_Want.f (K, T) a = some (1, (K, T)) := by
  unfold fork_Cache_Want.f fork_Cache_Want.j1
  rw [lk_some h, if_pos rfl]
theorem want_asked {K : CaK} {T : CaT} {a : List Int} {n : Int} (h : aget K a = none) (h2 : aget T a = some n) : fork_Cache_Want.f (K, T) a = some (2, (K, T)) := by
  unfold fork_Cache_Want.f fork_Cache_Want.j1
  rw [lk_none h, if_neg (by simp), lk_some h2, if_pos rfl]
theorem want_begun {K : CaK} {T : CaT} {a : List Int} (h : aget K a = none) (h2 : aget T a = none) : fork_Cache_Want.f (K, T) a = some (3, (K, aput T a 0)) := by
  unfold fork_Cache_Want.f fork_Cache_Want.j1
  rw [lk_none h, if_neg (by simp), lk_none h2, if_neg (by simp)]
theorem fail_none {K : CaK} {T : CaT} {a : List Int} (h2 : aget T a = none) : fork_Cache_Fail.f (K, T) a = some (0, (K, T)) := by
  unfold fork_Cache_Fail.f
  rw [lk_none h2, if_pos (by simp)]
theorem fail_lost {K : CaK} {T : CaT} {a : List Int} (h2 : aget T a = some 7) : fork_Cache_Fail.f (K, T) a = some (5, (K, adel T a)) := by
  unfold fork_Cache_Fail.f
  rw [lk_some h2, if_neg (by simp), if_pos (by decide)]
theorem fail_again {K : CaK} {T : CaT} {a : List Int} {n : Int} (h2 : aget T a = some n) (h0 : 0 ≤ n) (h7 : n < 7) : fork_Cache_Fail.f (K, T) a = some (4, (K, aput T a (n + 1))) := by
  unfold fork_Cache_Fail.f
  have hw : wr .i64 (n + 1) = n + 1 := wr_i64_id (by omega) (by omega)
  rw [lk_some h2, if_neg (by simp), hw, if_neg (by simp; omega)]
theorem fill_not {K : CaK} {T : CaT} {x : L34} {k : Nat} (hx : Gd34 x) (hs : SmallA x) (hk : 200 < k) (h : smithyref13_Right.f k x = some false ∨ aget T x.1 = none) : fork_Cache_Fill.f k (K, T) x = some (false, (K, T)) := by
  obtain ⟨b, b1, b2⟩ := rights_eq (k - 40) x hx.2.2.2.2 (by have := hs.2; omega)
  rw [show k - 40 + 40 = k by omega] at b1 b2
  unfold fork_Cache_Fill.f
  rw [b1, Option.bind_some]
  rcases h with h | h
  · rw [b2] at h; obtain rfl := Option.some.inj h
    rw [if_pos (by simp)]
  · cases b
    · rw [if_pos (by simp)]
    · rw [if_neg (by simp), lk_none h, if_pos (by simp)]
theorem fill_yes {K : CaK} {T : CaT} {x : L34} {n : Int} {k : Nat} (hx : Gd34 x) (hs : SmallA x) (hk : 200 < k) (h : smithyref13_Right.f k x = some true) (h2 : aget T x.1 = some n) : fork_Cache_Fill.f k (K, T) x = some (true, (aput K x.1 x, adel T x.1)) := by
  obtain ⟨b, b1, b2⟩ := rights_eq (k - 40) x hx.2.2.2.2 (by have := hs.2; omega)
  rw [show k - 40 + 40 = k by omega] at b1 b2
  rw [b2] at h; obtain rfl := Option.some.inj h
  unfold fork_Cache_Fill.f
  rw [b1, Option.bind_some, if_neg (by simp), lk_some h2, if_neg (by simp), own_eq x hs, Option.bind_some]
theorem account_yes {K : CaK} {T : CaT} {a : List Int} {x : L34} (hs : SmallA x) (h : aget K a = some x) : fork_Cache_Account.f (K, T) a = some (x, true) := by
  unfold fork_Cache_Account.f fork_Cache_Account.j1
  rw [lk_some h, if_pos rfl, own_eq x hs, Option.bind_some]
theorem account_no {K : CaK} {T : CaT} {a : List Int} (h : aget K a = none) : fork_Cache_Account.f (K, T) a = some ((a, 0, [0, 0, 0, 0], ([] : List Int), ([] : List ((List Int) × (List Int)))), false) := by
  unfold fork_Cache_Account.f fork_Cache_Account.j1
  rw [lk_none h, if_neg (by simp)]
end GW
set_option linter.unusedVariables false
set_option linter.unusedSimpArgs false
set_option maxRecDepth 100000
namespace GW
open Go Go.RowKit
def Ad (a : List Int) : Prop := a.length = 20 ∧ ∀ y ∈ a, inK .u8 y
theorem cb_lt : ∀ a b : List UInt8, Lib.compareBytes a b < 0 ↔ a < b
  | [], [] => by simp [Lib.compareBytes]
  | [], _ :: _ => by simp [Lib.compareBytes]
  | _ :: _, [] => by simp [Lib.compareBytes]
  | a :: u, b :: v => by
    have ih := cb_lt u v
    show (if a < b then (-1 : Int) else if b < a then 1 else Lib.compareBytes u v) < 0 ↔ _
    rw [List.cons_lt_cons_iff]
    by_cases c1 : a < b
    · simp [c1]
    · rw [if_neg c1]
      by_cases c2 : b < a
      · rw [if_pos c2]
        have : a ≠ b := fun e => by subst e; exact c1 c2
        simp [c1, this]
      · rw [if_neg c2, ih]
        have : a = b := UInt8.le_antisymm (UInt8.not_lt.1 c2) (UInt8.not_lt.1 c1)
        simp [this, UInt8.lt_irrefl]
def akey (a : List Int) : List UInt8 := u8s ((a.drop 0).take 20)
theorem akey_eq {a : List Int} (h : Ad a) : akey a = u8s a := by
  unfold akey
  rw [List.drop_zero, List.take_of_length_le (by rw [h.1]; omega)]
theorem u8_ltI {x y : Int} (hx : 0 ≤ x ∧ x < 256) (hy : 0 ≤ y ∧ y < 256) : (UInt8.ofNat x.toNat < UInt8.ofNat y.toNat) ↔ x < y := by
  rw [UInt8.lt_iff_toNat_lt, UInt8.toNat_ofNat', UInt8.toNat_ofNat', Nat.mod_eq_of_lt (by omega), Nat.mod_eq_of_lt (by omega)]
  omega
theorem u8_injI {x y : Int} (hx : 0 ≤ x ∧ x < 256) (hy : 0 ≤ y ∧ y < 256) (h : UInt8.ofNat x.toNat = UInt8.ofNat y.toNat) : x = y := by
  have := congrArg UInt8.toNat h
  rw [UInt8.toNat_ofNat', UInt8.toNat_ofNat', Nat.mod_eq_of_lt (by omega), Nat.mod_eq_of_lt (by omega)] at this
  omega
theorem u8s_inj : ∀ {a b : List Int}, (∀ y ∈ a, inK .u8 y) → (∀ y ∈ b, inK .u8 y) → u8s a = u8s b → a = b
  | [], [], _, _, _ => rfl
  | [], _ :: _, _, _, h => by simp [u8s] at h
  | _ :: _, [], _, _, h => by simp [u8s] at h
  | x :: a, y :: b, ha, hb, h => by
    have h1 : UInt8.ofNat x.toNat :: u8s a = UInt8.ofNat y.toNat :: u8s b := h
    simp only [List.cons.injEq] at h1
    rw [u8_injI (inK_u8 (ha x (by simp))) (inK_u8 (hb y (by simp))) h1.1, u8s_inj (fun z hz => ha z (by simp [hz])) (fun z hz => hb z (by simp [hz])) h1.2]
theorem akey_inj {a b : List Int} (ha : Ad a) (hb : Ad b) (h : akey a = akey b) : a = b := by
  rw [akey_eq ha, akey_eq hb] at h
  exact u8s_inj ha.2 hb.2 h
theorem less_loopA (a b : List Int) (ha : Ad a) (hb : Ad b) : ∀ (d q i : Nat), d < q → i + d = 20 → smithyref08_Less.l1 a b q (i : Int) = some (decide (u8s (a.drop i) < u8s (b.drop i))) := by
  intro d
  induction d with
  | zero =>
    intro q i hq hi
    obtain ⟨q, rfl⟩ : ∃ m, q = m + 1 := ⟨q - 1, by omega⟩
    show smithyref08_Less.b1 a b _ _ = _
    unfold smithyref08_Less.b1 smithyref08_Less.j1
    rw [if_neg (by simp; omega), List.drop_of_length_le (by rw [ha.1]; omega), List.drop_of_length_le (by rw [hb.1]; omega)]
    simp [u8s]
  | succ d ih =>
    intro q i hq hi
    obtain ⟨q, rfl⟩ : ∃ m, q = m + 1 := ⟨q - 1, by omega⟩
    have la := ha.1
    have lb := hb.1
    show smithyref08_Less.b1 a b _ _ = _
    unfold smithyref08_Less.b1
    have e1 : rd a (i : Int) = a[i]'(by omega) := by simp [rd, List.getD_eq_getElem?_getD, List.getElem?_eq_getElem (show i < a.length by omega)]
    have e2 : rd b (i : Int) = b[i]'(by omega) := by simp [rd, List.getD_eq_getElem?_getD, List.getElem?_eq_getElem (show i < b.length by omega)]
    have r1 := inK_u8 (ha.2 (a[i]'(by omega)) (List.getElem_mem _))
    have r2 := inK_u8 (hb.2 (b[i]'(by omega)) (List.getElem_mem _))
    rw [if_pos (by simp; omega), if_pos ⟨by omega, by omega⟩, wr_i64_id (by omega) (by omega), e1, e2, List.drop_eq_getElem_cons (show i < a.length by omega), List.drop_eq_getElem_cons (show i < b.length by omega)]
    have hih := ih q (i + 1) (by omega) (by omega)
    rw [show ((i + 1 : Nat) : Int) = (i : Int) + 1 by omega] at hih
    generalize a[i]'(by omega) = x at r1 ⊢
    generalize b[i]'(by omega) = y at r2 ⊢
    have hl := u8_ltI r1 r2
    have hc : (u8s (x :: a.drop (i + 1)) < u8s (y :: b.drop (i + 1))) ↔ UInt8.ofNat x.toNat < UInt8.ofNat y.toNat ∨ UInt8.ofNat x.toNat = UInt8.ofNat y.toNat ∧ u8s (a.drop (i + 1)) < u8s (b.drop (i + 1)) := List.cons_lt_cons_iff
    by_cases c : x = y
    · subst c
      rw [if_neg (by simp), hih]
      have h1 : ¬ UInt8.ofNat x.toNat < UInt8.ofNat x.toNat := UInt8.lt_irrefl _
      simp only [hc, h1, false_or, true_and]
    · rw [if_pos (by simpa using c)]
      have h1 : UInt8.ofNat x.toNat ≠ UInt8.ofNat y.toNat := fun e => c (u8_injI r1 r2 e)
      simp only [hc, h1, false_and, or_false, hl]
theorem less_eqA {a b : List Int} (ha : Ad a) (hb : Ad b) {k : Nat} (hk : 30 < k) : smithyref08_Less.f k a b = some (decide (akey a < akey b)) := by
  rw [akey_eq ha, akey_eq hb]
  exact less_loopA a b ha hb 20 k 0 (by omega) (by omega)
end GW
set_option linter.unusedVariables false
set_option linter.unusedSimpArgs false
set_option maxRecDepth 100000
namespace GW
open Go Go.RowKit
def LtA (x y : L34) : Prop := akey x.1 < akey y.1
def putA : List L34 → L34 → List L34
  | [], a => [a]
  | x :: l, a => if akey a.1 < akey x.1 then a :: x :: l else if x.1 = a.1 then a :: l else x :: putA l a
theorem putA_find (l : List L34) (a : L34) (b : List Int) : findA (putA l a) b = if a.1 = b then some a else findA l b := by
  induction l with
  | nil => rfl
  | cons x l ih =>
    unfold putA
    split
    · rfl
    · split
      · rename_i h
        show (if a.1 = b then some a else findA l b) = if a.1 = b then some a else if x.1 = b then some x else findA l b
        by_cases c : a.1 = b
        · rw [if_pos c, if_pos c]
        · rw [if_neg c, if_neg c, if_neg (fun e : x.1 = b => c (h.symm.trans e))]
      · rename_i h
        show (if x.1 = b then some x else findA (putA l a) b) = if a.1 = b then some a else if x.1 = b then some x else findA l b
        rw [ih]
        by_cases c : a.1 = b
        · rw [if_pos c, if_pos c, if_neg (fun e : x.1 = b => h (e.trans c.symm))]
        · rw [if_neg c, if_neg c]
theorem putA_mem {l : List L34} {a x : L34} (h : x ∈ putA l a) : x = a ∨ x ∈ l := by
  induction l with
  | nil => exact .inl (List.mem_singleton.1 h)
  | cons y l ih =>
    unfold putA at h
    split at h
    · rcases List.mem_cons.1 h with h | h
      · exact .inl h
      · exact .inr h
    · split at h
      · rcases List.mem_cons.1 h with h | h
        · exact .inl h
        · exact .inr (List.mem_cons_of_mem _ h)
      · rcases List.mem_cons.1 h with h | h
        · exact .inr (h ▸ List.mem_cons_self)
        · rcases ih h with h | h
          · exact .inl h
          · exact .inr (List.mem_cons_of_mem _ h)
theorem putA_length (l : List L34) (a : L34) : (putA l a).length ≤ l.length + 1 := by
  induction l with
  | nil => exact Nat.le_refl _
  | cons y l ih =>
    unfold putA
    split
    · simp
    · split
      · simp
      · simp only [List.length_cons]; omega
theorem putA_sorted {l : List L34} {a : L34} (hl : l.Pairwise LtA) (ha : Ad a.1) (hA : ∀ x ∈ l, Ad x.1) : (putA l a).Pairwise LtA := by
  induction l with
  | nil => exact List.pairwise_singleton _ _
  | cons y l ih =>
    have hc := List.pairwise_cons.1 hl
    unfold putA
    split
    · rename_i h
      refine List.pairwise_cons.2 ⟨fun z hz => ?_, hl⟩
      rcases List.mem_cons.1 hz with rfl | hz
      · exact h
      · exact List.lt_trans h (hc.1 z hz)
    · rename_i h
      split
      · rename_i h2
        refine List.pairwise_cons.2 ⟨fun z hz => ?_, hc.2⟩
        have := hc.1 z hz
        unfold LtA at this ⊢
        rw [← h2]; exact this
      · rename_i h2
        refine List.pairwise_cons.2 ⟨fun z hz => ?_, ih hc.2 (fun x hx => hA x (List.mem_cons_of_mem _ hx))⟩
        rcases putA_mem hz with rfl | hz
        · have h3 : akey y.1 ≤ akey z.1 := List.not_lt.1 h
          have h4 : akey y.1 ≠ akey z.1 := fun e => h2 (akey_inj (hA y List.mem_cons_self) ha e)
          show akey y.1 < akey z.1
          exact Decidable.byContradiction fun hn => h4 (List.le_antisymm h3 (List.not_lt.1 hn))
        · exact hc.1 z hz
theorem lt_ne {x y : L34} (h : LtA x y) : x.1 ≠ y.1 := fun e => by
  unfold LtA at h
  rw [e] at h
  exact List.lt_irrefl _ h
theorem put_done (l : List L34) (a : L34) (k : Nat) (hl : l.length ≤ 20000) : ∀ (d : List L34) (q i : Nat) (out : List L34), l.drop i = d → i ≤ l.length → d.length < q → out.length ≤ i + 1 → (∀ x ∈ d, x.1 ≠ a.1) → smithyref13_Put.l1 k l a q (i : Int) true out = some (out ++ d)
  | [], q, i, out, hd, hi, hq, ho, hn => by
    obtain ⟨q, rfl⟩ : ∃ m, q = m + 1 := ⟨q - 1, by omega⟩
    have : l.length ≤ i := by simpa using hd
    show smithyref13_Put.b1 _ _ _ _ _ _ _ = _
    unfold smithyref13_Put.b1 smithyref13_Put.j1 smithyref13_Put.j2
    rw [if_neg (by simp; omega), if_neg (by simp), List.append_nil]
  | x :: d, q, i, out, hd, hi, hq, ho, hn => by
    simp only [List.length_cons] at hq
    obtain ⟨q, rfl⟩ : ∃ m, q = m + 1 := ⟨q - 1, by omega⟩
    obtain ⟨h1, h2, h3⟩ := gt_dropA hd
    show smithyref13_Put.b1 _ _ _ _ _ _ _ = _
    unfold smithyref13_Put.b1 smithyref13_Put.j5 smithyref13_Put.j4 smithyref13_Put.j3
    have hne : x.1 ≠ a.1 := hn x List.mem_cons_self
    rw [if_pos (by simp; omega), if_neg (by simp), if_neg (by simp), if_pos (by omega), h1, if_neg (by simpa using hne), if_pos (by simp only [List.length_singleton]; omega), next1 i (by omega), put_done l a k hl d q (i + 1) _ h3 (by omega) (by omega) (by simp; omega) (fun y hy => hn y (List.mem_cons_of_mem _ hy)), List.append_assoc]; rfl
theorem put_loop (l : List L34) (a : L34) (k : Nat) (hk : 30 < k) (hl : l.length ≤ 20000) (hs : l.Pairwise LtA) (hA : ∀ x ∈ l, Ad x.1) (ha : Ad a.1) : ∀ (d : List L34) (q i : Nat) (out : List L34), l.drop i = d → i ≤ l.length → d.length < q → out.length ≤ i → smithyref13_Put.l1 k l a q (i : Int) false out = some (out ++ putA d a)
  | [], q, i, out, hd, hi, hq, ho => by
    obtain ⟨q, rfl⟩ : ∃ m, q = m + 1 := ⟨q - 1, by omega⟩
    have : l.length ≤ i := by simpa using hd
    show smithyref13_Put.b1 _ _ _ _ _ _ _ = _
    unfold smithyref13_Put.b1 smithyref13_Put.j1 smithyref13_Put.j2
    rw [if_neg (by simp; omega), if_pos (by simp), if_pos (by simp only [List.length_singleton]; omega)]; rfl
  | x :: d, q, i, out, hd, hi, hq, ho => by
    simp only [List.length_cons] at hq
    obtain ⟨q, rfl⟩ : ∃ m, q = m + 1 := ⟨q - 1, by omega⟩
    obtain ⟨h1, h2, h3⟩ := gt_dropA hd
    have hx : x ∈ l := List.drop_subset i l (by rw [hd]; exact List.mem_cons_self)
    have hp : (x :: d).Pairwise LtA := by rw [← hd]; exact List.Pairwise.sublist (List.drop_sublist _ _) hs
    have hc := List.pairwise_cons.1 hp
    show smithyref13_Put.b1 _ _ _ _ _ _ _ = _
    unfold smithyref13_Put.b1 smithyref13_Put.j5 smithyref13_Put.j4 smithyref13_Put.j3 putA
    rw [if_pos (by simp; omega), if_pos (by simp), if_pos (by omega), h1, less_eqA ha (hA x hx) hk, Option.bind_some]
    by_cases c1 : akey a.1 < akey x.1
    · have hne : ∀ y ∈ x :: d, y.1 ≠ a.1 := fun y hy e => by
        rcases List.mem_cons.1 hy with rfl | hy
        · rw [e] at c1; exact List.lt_irrefl _ c1
        · have h4 := hc.1 y hy
          unfold LtA at h4
          rw [e] at h4
          exact List.lt_irrefl _ (List.lt_trans c1 h4)
      rw [if_pos (by simpa using c1), if_pos (by simp only [List.length_singleton]; omega), if_pos (by omega), if_neg (by simpa using hne x List.mem_cons_self), if_pos (by simp only [List.length_append, List.length_singleton]; omega), next1 i (by omega), if_pos c1, put_done l a k hl d q (i + 1) _ h3 (by omega) (by omega) (by simp; omega) (fun y hy => hne y (List.mem_cons_of_mem _ hy))]
      simp
    · rw [if_neg (by simpa using c1), if_neg c1, if_pos (by omega)]
      by_cases c2 : x.1 = a.1
      · rw [if_pos (by simpa using c2), if_pos (by simp only [List.length_singleton]; omega), next1 i (by omega), if_pos c2, put_done l a k hl d q (i + 1) _ h3 (by omega) (by omega) (by simp; omega) (fun y hy e => lt_ne (hc.1 y hy) (c2.trans e.symm))]
        simp
      · rw [if_neg (by simpa using c2), if_pos (by simp only [List.length_singleton]; omega), next1 i (by omega), if_neg c2, put_loop l a k hk hl hs hA ha d q (i + 1) _ h3 (by omega) (by omega) (by simp; omega)]
        simp
theorem put_eqA {l : List L34} {a : L34} {k : Nat} (hk : 30 < k) (hk2 : l.length < k) (hl : l.length ≤ 20000) (hs : l.Pairwise LtA) (hA : ∀ x ∈ l, Ad x.1) (ha : Ad a.1) : smithyref13_Put.f k l a = some (putA l a) := by
  have := put_loop l a k hk hl hs hA ha l k 0 [] rfl (by omega) hk2 (by simp)
  rw [List.nil_append] at this
  exact this
theorem findA_sorted {l : List L34} (hs : l.Pairwise LtA) {x : L34} (hx : x ∈ l) : findA l x.1 = some x := by
  induction l with
  | nil => cases hx
  | cons y l ih =>
    have hc := List.pairwise_cons.1 hs
    unfold findA
    rcases List.mem_cons.1 hx with rfl | hx
    · rw [if_pos rfl]
    · rw [if_neg (lt_ne (hc.1 x hx)), ih hc.2 hx]
end GW
set_option linter.unusedVariables false
set_option linter.unusedSimpArgs false
set_option linter.unusedSectionVars false
set_option maxRecDepth 100000
namespace GW
open Go Go.RowKit
section
variable {α : Type} [Inhabited α]
theorem at_toArray (xs : List α) (i : Nat) : xs.toArray[i]! = gt xs (i : Int) := by
  unfold gt
  rw [Int.toNat_natCast, List.getD_eq_getElem?_getD]
  by_cases h : i < xs.length
  · rw [getElem!_pos xs.toArray i (by simpa using h), List.getElem?_eq_getElem h]; simp
  · rw [getElem!_neg xs.toArray i (by simpa using h), List.getElem?_eq_none (by omega)]; rfl
theorem swp_toArray (xs : List α) (i j : Nat) : Sort.swp xs.toArray i j = ((xs.set i (gt xs (j : Int))).set j (gt xs (i : Int))).toArray := by
  unfold Sort.swp
  rw [at_toArray, at_toArray]
  simp
theorem swp_len (xs : List α) (i j : Nat) : (Sort.swp xs.toArray i j).toList.length = xs.length := by rw [swp_toArray]; simp
theorem insInner_size (lt : α → α → Bool) (a : Nat) : ∀ (j : Nat) (d : Array α), (Sort.insInner lt a j d).size = d.size
  | 0, d => rfl
  | j + 1, d => by
    unfold Sort.insInner
    split
    · rw [insInner_size lt a j]; simp [Sort.swp]
    · rfl
end
def ltC (cf : List Int → List Int → Int) (x y : List Int) : Bool := decide (cf x y < 0)
section
variable {cf : List Int → List Int → Int} (hC : ∀ x y, addr_Compare.f x y = some (cf x y))
include hC
theorem ins_inner (a : Nat) (y2 : Int) (rec1 : List (List Int) → Int → Option (List (List Int))) : ∀ (j q : Nat) (xs : List (List Int)), j < xs.length → xs.length < 4611686018427387904 → j < q →
    api_Address_n50_0o_3f39.l2 (a : Int) y2 rec1 q xs (j : Int) = api_Address_n50_0o_3f39.j1 y2 rec1 (Sort.insInner (ltC cf) a j xs.toArray).toList
  | 0, q, xs, hj, hl, hq => by
    obtain ⟨q, rfl⟩ : ∃ m, q = m + 1 := ⟨q - 1, by omega⟩
    show api_Address_n50_0o_3f39.b2 _ _ _ _ _ _ = _
    unfold api_Address_n50_0o_3f39.b2
    rw [if_neg (by simp)]
    rfl
  | j + 1, q, xs, hj, hl, hq => by
    obtain ⟨q, rfl⟩ : ∃ m, q = m + 1 := ⟨q - 1, by omega⟩
    have hw : wr .i64 (((j + 1 : Nat) : Int) - 1) = (j : Int) := by rw [wr_i64_id (by omega) (by omega)]; omega
    show api_Address_n50_0o_3f39.b2 _ _ _ _ _ _ = _
    unfold api_Address_n50_0o_3f39.b2 Sort.insInner
    rw [hw]
    by_cases c : a < j + 1
    · rw [if_pos (decide_eq_true (by omega)), if_pos (by omega), if_pos (by omega), hC, Option.bind_some]
      unfold api_Address_n50_0o_3f39.j2
      rw [at_toArray, at_toArray]
      by_cases c2 : cf (gt xs ((j + 1 : Nat) : Int)) (gt xs (j : Int)) < 0
      · rw [if_pos (decide_eq_true c2), hw, if_pos (by omega), if_pos (by omega), if_pos (by rw [List.length_set]; omega), show ltC cf (gt xs ((j + 1 : Nat) : Int)) (gt xs (j : Int)) = true from decide_eq_true c2, if_pos (by simpa using c)]
        unfold api_Address_n50_0o_3f39.j3
        rw [hw, Int.toNat_natCast, Int.toNat_natCast, ins_inner a y2 rec1 j q _ (by simp; omega) (by simpa using hl) (by omega), swp_toArray]
      · rw [if_neg (by simpa using c2), show ltC cf (gt xs ((j + 1 : Nat) : Int)) (gt xs (j : Int)) = false from decide_eq_false c2, if_neg (by simp)]
    · rw [if_neg (by simp; omega), if_neg (by simp; omega)]
      rfl
theorem ins_outer (a b k : Nat) : ∀ (r i q : Nat) (xs : List (List Int)), b ≤ i + r → b ≤ xs.length → i < 4611686018427387904 → xs.length < 4611686018427387904 → xs.length < k → r < q →
    api_Address_n50_0o_3f39.l1 k (a : Int) (b : Int) q xs (i : Int) = some (Sort.insOuter (ltC cf) a b i xs.toArray).toList
  | r, i, q, xs, hi, hb, hi2, hl, hk, hq => by
    obtain ⟨q, rfl⟩ : ∃ m, q = m + 1 := ⟨q - 1, by omega⟩
    show api_Address_n50_0o_3f39.b1 _ _ _ _ _ _ = _
    unfold api_Address_n50_0o_3f39.b1
    rw [Sort.insOuter]
    by_cases c : i < b
    · rw [if_pos (decide_eq_true (by omega)), if_pos c]
      obtain ⟨r, rfl⟩ : ∃ m, r = m + 1 := ⟨r - 1, by omega⟩
      rw [ins_inner hC a _ _ i k xs (by omega) hl (by omega)]
      unfold api_Address_n50_0o_3f39.j1
      have hs := insInner_size (ltC cf) a i xs.toArray
      have hs' : (Sort.insInner (ltC cf) a i xs.toArray).toList.length = xs.length := by simpa using hs
      rw [show wr .i64 ((i : Int) + 1) = ((i + 1 : Nat) : Int) by rw [wr_i64_id (by omega) (by omega)]; omega]
      rw [ins_outer a b k r (i + 1) q _ (by omega) (by omega) (by omega) (by omega) (by omega) (by omega)]
    · rw [if_neg (by simp; omega), if_neg c]
theorem ins_eq (a b k : Nat) (xs : List (List Int)) (ha : a ≤ b) (hb : b ≤ xs.length) (hl : xs.length < 4611686018427387904 - 1) (hk : xs.length + 1 < k) :
    api_Address_n50_0o_3f39.f k xs (a : Int) (b : Int) = some (Sort.insertionSort (ltC cf) xs.toArray a b).toList := by
  unfold api_Address_n50_0o_3f39.f
  rw [show wr .i64 ((a : Int) + 1) = ((a + 1 : Nat) : Int) by rw [wr_i64_id (by omega) (by omega)]; omega]
  exact ins_outer hC a b k b (a + 1) k xs (by omega) hb (by omega) (by omega) (by omega) (by omega)
end
end GW
set_option linter.unusedVariables false
set_option linter.unusedSimpArgs false
set_option linter.unusedSectionVars false
set_option maxRecDepth 100000
namespace GW
open Go Go.RowKit
theorem siftDown_size {α : Type} [Inhabited α] (lt : α → α → Bool) (hi first : Nat) : ∀ (r root : Nat) (d : Array α), hi ≤ root + r → (Sort.siftDown lt hi first root d).size = d.size
  | r, root, d, h => by
    rw [Sort.siftDown]
    by_cases c : 2 * root + 1 ≥ hi
    · rw [dif_pos c]
    · rw [dif_neg c]
      obtain ⟨r, rfl⟩ : ∃ m, r = m + 1 := ⟨r - 1, by omega⟩
      split
      · split
        · rfl
        · split
          · rw [siftDown_size lt hi first r _ _ (by omega)]; simp [Sort.swp]
          · rfl
      · split
        · rfl
        · rw [siftDown_size lt hi first r _ _ (by omega)]; simp [Sort.swp]
theorem heapBuild_size {α : Type} [Inhabited α] (lt : α → α → Bool) (hi first : Nat) : ∀ (n : Nat) (d : Array α), (Sort.heapBuild lt hi first n d).size = d.size
  | 0, d => rfl
  | n + 1, d => by
    show (Sort.heapBuild lt hi first n (Sort.siftDown lt hi first n d)).size = _
    rw [heapBuild_size lt hi first n, siftDown_size lt hi first hi n d (by omega)]
theorem wrn {x : Int} (n : Nat) (h : x = (n : Int)) (hn : n < 9223372036854775808) : wr .i64 x = (n : Int) := by rw [h, wr_i64_id (by omega) (by omega)]
section
variable {cf : List Int → List Int → Int} (hC : ∀ x y, addr_Compare.f x y = some (cf x y))
include hC
theorem sift_j1 (first root c : Nat) (xs : List (List Int)) (rec1 : List (List Int) → Int → Option (List (List Int))) (hl : xs.length < 2305843009213693952) (h1 : first + root < xs.length) (h2 : first + c < xs.length) :
    api_Address_n61_0o_4f39.j1 (first : Int) xs (root : Int) rec1 (c : Int) = if ltC cf (gt xs ((first + root : Nat) : Int)) (gt xs ((first + c : Nat) : Int)) = true then rec1 (Sort.swp xs.toArray (first + root) (first + c)).toList (c : Int) else some xs := by
  have f1 : wr .i64 ((first : Int) + (root : Int)) = ((first + root : Nat) : Int) := wrn _ (by omega) (by omega)
  have f2 : wr .i64 ((first : Int) + (c : Int)) = ((first + c : Nat) : Int) := wrn _ (by omega) (by omega)
  unfold api_Address_n61_0o_4f39.j1
  simp only [f1, f2]
  rw [if_pos (by omega), if_pos (by omega), hC, Option.bind_some]
  unfold api_Address_n61_0o_4f39.j2
  simp only [f1, f2]
  by_cases c2 : cf (gt xs ((first + root : Nat) : Int)) (gt xs ((first + c : Nat) : Int)) < 0
  · rw [decide_eq_true c2, show ltC cf (gt xs ((first + root : Nat) : Int)) (gt xs ((first + c : Nat) : Int)) = true from decide_eq_true c2, if_neg (by simp), if_pos rfl, if_pos (by omega), if_pos (by omega), if_pos (by rw [List.length_set]; omega)]
    unfold api_Address_n61_0o_4f39.j3
    simp only [f1, f2]
    rw [Int.toNat_natCast, Int.toNat_natCast, swp_toArray]
  · rw [decide_eq_false c2, show ltC cf (gt xs ((first + root : Nat) : Int)) (gt xs ((first + c : Nat) : Int)) = false from decide_eq_false c2, if_pos (by simp), if_neg (by simp)]
theorem sift_eq (hi first : Nat) : ∀ (r root q : Nat) (xs : List (List Int)), hi ≤ root + r → r < q → first + hi ≤ xs.length → xs.length < 2305843009213693952 → root < 4000000000000000000 →
    api_Address_n61_0o_4f39.l1 (hi : Int) (first : Int) q xs (root : Int) = some (Sort.siftDown (ltC cf) hi first root xs.toArray).toList
  | r, root, q, xs, h, hq, hb, hl, h0 => by
    obtain ⟨q, rfl⟩ : ∃ m, q = m + 1 := ⟨q - 1, by omega⟩
    rw [Sort.siftDown]
    have e0 : wr .i64 (2 * (root : Int)) = ((2 * root : Nat) : Int) := wrn _ (by omega) (by omega)
    have e1 : wr .i64 (((2 * root : Nat) : Int) + 1) = ((2 * root + 1 : Nat) : Int) := wrn _ (by omega) (by omega)
    have e2 : wr .i64 (((2 * root + 1 : Nat) : Int) + 1) = ((2 * root + 1 + 1 : Nat) : Int) := wrn _ (by omega) (by omega)
    show api_Address_n61_0o_4f39.b1 _ _ _ _ _ = _
    unfold api_Address_n61_0o_4f39.b1
    by_cases c : 2 * root + 1 ≥ hi
    · rw [dif_pos c]
      simp only [e0, e1]
      rw [if_pos (decide_eq_true (by omega))]
    · rw [dif_neg c]
      obtain ⟨r, rfl⟩ : ∃ m, r = m + 1 := ⟨r - 1, by omega⟩
      simp only [e0, e1, e2]
      rw [if_neg (by simp; omega)]
      simp only [at_toArray]
      have hj4 : ∀ b : Bool, api_Address_n61_0o_4f39.j4 (first : Int) xs (root : Int) (api_Address_n61_0o_4f39.l1 (hi : Int) (first : Int) q) b = api_Address_n61_0o_4f39.j1 (first : Int) xs (root : Int) (api_Address_n61_0o_4f39.l1 (hi : Int) (first : Int) q) ((if b = true then 2 * root + 2 else 2 * root + 1 : Nat) : Int) := fun b => by
        unfold api_Address_n61_0o_4f39.j4
        simp only [e0, e1, e2]
        cases b <;> rfl
      by_cases c1 : 2 * root + 1 + 1 < hi
      · have f1 : wr .i64 ((first : Int) + ((2 * root + 1 : Nat) : Int)) = ((first + (2 * root + 1) : Nat) : Int) := wrn _ (by omega) (by omega)
        have f2 : wr .i64 (((first + (2 * root + 1) : Nat) : Int) + 1) = ((first + (2 * root + 1) + 1 : Nat) : Int) := wrn _ (by omega) (by omega)
        simp only [f1, f2]
        rw [if_pos (decide_eq_true (by omega)), if_pos (by omega), if_pos (by omega), hC, Option.bind_some, hj4]
        by_cases c2 : cf (gt xs ((first + (2 * root + 1) : Nat) : Int)) (gt xs ((first + (2 * root + 1) + 1 : Nat) : Int)) < 0
        · rw [decide_eq_true c2, show ltC cf (gt xs ((first + (2 * root + 1) : Nat) : Int)) (gt xs ((first + (2 * root + 1) + 1 : Nat) : Int)) = true from decide_eq_true c2, if_pos rfl, if_pos (by simpa using c1), sift_j1 hC first root (2 * root + 2) xs _ hl (by omega) (by omega)]
          cases h3 : ltC cf (gt xs ((first + root : Nat) : Int)) (gt xs ((first + (2 * root + 2) : Nat) : Int)) with
          | true =>
            rw [if_pos rfl, if_neg (by simp), dif_pos (by omega), sift_eq hi first r (2 * root + 2) q _ (by omega) (by omega) (by rw [swp_len]; omega) (by rw [swp_len]; omega) (by omega)]
          | false => rw [if_neg (by simp), if_pos (by simp)]
        · rw [decide_eq_false c2, show ltC cf (gt xs ((first + (2 * root + 1) : Nat) : Int)) (gt xs ((first + (2 * root + 1) + 1 : Nat) : Int)) = false from decide_eq_false c2, if_neg (show ¬ (false = true) by simp), if_neg (by simp), sift_j1 hC first root (2 * root + 1) xs _ hl (by omega) (by omega)]
          cases h3 : ltC cf (gt xs ((first + root : Nat) : Int)) (gt xs ((first + (2 * root + 1) : Nat) : Int)) with
          | true =>
            rw [if_pos rfl, if_neg (by simp), sift_eq hi first r (2 * root + 1) q _ (by omega) (by omega) (by rw [swp_len]; omega) (by rw [swp_len]; omega) (by omega)]
          | false => rw [if_neg (by simp), if_pos (by simp)]
      · rw [if_neg (by simp; omega), hj4, if_neg (show ¬ (false = true) by simp), if_neg (by simp; omega), sift_j1 hC first root (2 * root + 1) xs _ hl (by omega) (by omega)]
        cases h3 : ltC cf (gt xs ((first + root : Nat) : Int)) (gt xs ((first + (2 * root + 1) : Nat) : Int)) with
        | true =>
          rw [if_pos rfl, if_neg (by simp), sift_eq hi first r (2 * root + 1) q _ (by omega) (by omega) (by rw [swp_len]; omega) (by rw [swp_len]; omega) (by omega)]
        | false => rw [if_neg (by simp), if_pos (by simp)]
theorem siftf_eq (K hi first root : Nat) (xs : List (List Int)) (hk : hi + 1 < K) (hb : first + hi ≤ xs.length) (hl : xs.length < 2305843009213693952) (h0 : root < 4000000000000000000) :
    api_Address_n61_0o_4f39.f K xs (root : Int) (hi : Int) (first : Int) = some (Sort.siftDown (ltC cf) hi first root xs.toArray).toList := sift_eq hC hi first hi root K xs (by omega) (by omega) hb hl h0
theorem heap_build (a b K : Nat) (hab : a ≤ b) (hk : b + 1 < K) : ∀ (n q : Nat) (xs : List (List Int)), n < q → n < 4000000000000000000 → b ≤ xs.length → xs.length < 2305843009213693952 →
    api_Address_n51_0o_3f39.l2 K (a : Int) (b : Int) q xs ((n : Int) - 1) = api_Address_n51_0o_3f39.j1 K (a : Int) (b : Int) (Sort.heapBuild (ltC cf) (b - a) a n xs.toArray).toList
  | 0, q, xs, hq, hn, hb, hl => by
    obtain ⟨q, rfl⟩ : ∃ m, q = m + 1 := ⟨q - 1, by omega⟩
    show api_Address_n51_0o_3f39.b2 _ _ _ _ _ _ = _
    unfold api_Address_n51_0o_3f39.b2
    rw [if_neg (by simp)]
    rfl
  | n + 1, q, xs, hq, hn, hb, hl => by
    obtain ⟨q, rfl⟩ : ∃ m, q = m + 1 := ⟨q - 1, by omega⟩
    show api_Address_n51_0o_3f39.b2 _ _ _ _ _ _ = _
    unfold api_Address_n51_0o_3f39.b2
    have e0 : ((n + 1 : Nat) : Int) - 1 = (n : Int) := by omega
    have e1 : wr .i64 ((b : Int) - (a : Int)) = ((b - a : Nat) : Int) := wrn _ (by omega) (by omega)
    have e2 : wr .i64 ((n : Int) - 1) = (n : Int) - 1 := wr_i64_id (by omega) (by omega)
    simp only [e0, e1, e2]
    have hs := siftDown_size (ltC cf) (b - a) a (b - a) n xs.toArray (by omega)
    have hs' : (Sort.siftDown (ltC cf) (b - a) a n xs.toArray).toList.length = xs.length := by simpa using hs
    rw [if_pos (decide_eq_true (by omega)), siftf_eq hC K (b - a) a n xs (by omega) (by omega) hl (by omega), Option.bind_some, heap_build a b K hab hk n q _ (by omega) (by omega) (by omega) (by omega)]
    rfl
theorem heap_pop (a K : Nat) : ∀ (n q : Nat) (xs : List (List Int)), n < q → n + 1 < K → a + n ≤ xs.length → xs.length < 2305843009213693952 →
    api_Address_n51_0o_3f39.l1 K (a : Int) q xs ((n : Int) - 1) = some (Sort.heapPop (ltC cf) a n xs.toArray).toList
  | 0, q, xs, hq, hk, hb, hl => by
    obtain ⟨q, rfl⟩ : ∃ m, q = m + 1 := ⟨q - 1, by omega⟩
    show api_Address_n51_0o_3f39.b1 _ _ _ _ _ = _
    unfold api_Address_n51_0o_3f39.b1
    rw [if_neg (by simp)]
    rfl
  | n + 1, q, xs, hq, hk, hb, hl => by
    obtain ⟨q, rfl⟩ : ∃ m, q = m + 1 := ⟨q - 1, by omega⟩
    show api_Address_n51_0o_3f39.b1 _ _ _ _ _ = _
    unfold api_Address_n51_0o_3f39.b1
    have e0 : ((n + 1 : Nat) : Int) - 1 = (n : Int) := by omega
    have e1 : wr .i64 ((a : Int) + (n : Int)) = ((a + n : Nat) : Int) := wrn _ (by omega) (by omega)
    have e2 : wr .i64 ((n : Int) - 1) = (n : Int) - 1 := wr_i64_id (by omega) (by omega)
    simp only [e0, e1]
    rw [if_pos (decide_eq_true (by omega)), if_pos (by omega), if_pos (by omega), if_pos (by rw [List.length_set]; omega)]
    unfold api_Address_n51_0o_3f39.j2
    simp only [e1, e2]
    have hw : ((xs.set (Int.toNat (a : Int)) (gt xs ((a + n : Nat) : Int))).set (Int.toNat ((a + n : Nat) : Int)) (gt xs (a : Int))) = (Sort.swp xs.toArray a (a + n)).toList := by rw [swp_toArray, Int.toNat_natCast, Int.toNat_natCast]
    rw [hw]
    have hl2 := swp_len xs a (a + n)
    have hs := siftDown_size (ltC cf) n a n 0 (Sort.swp xs.toArray a (a + n)) (by omega)
    have hs' : (Sort.siftDown (ltC cf) n a 0 (Sort.swp xs.toArray a (a + n))).toList.length = xs.length := by
      have h3 : (Sort.swp xs.toArray a (a + n)).size = xs.length := by simpa using hl2
      rw [Array.length_toList, hs, h3]
    rw [show (0 : Int) = ((0 : Nat) : Int) from rfl, siftf_eq hC K n a 0 _ (by omega) (by omega) (by omega) (by omega), Option.bind_some, Array.toArray_toList, heap_pop a K n q _ (by omega) (by omega) (by omega) (by omega)]
    rfl
theorem heap_eq (a b K : Nat) (xs : List (List Int)) (ha : a ≤ b) (hb : b ≤ xs.length) (hl : xs.length < 2305843009213693952) (hk : xs.length + 5 < K) :
    api_Address_n51_0o_3f39.f K xs (a : Int) (b : Int) = some (Sort.heapSort (ltC cf) xs.toArray a b).toList := by
  unfold api_Address_n51_0o_3f39.f Sort.heapSort
  have e1 : wr .i64 ((b : Int) - (a : Int)) = ((b - a : Nat) : Int) := wrn _ (by omega) (by omega)
  have e2 : wr .i64 (((b - a : Nat) : Int) - 1) = ((b - a : Nat) : Int) - 1 := wr_i64_id (by omega) (by omega)
  have e3 : Int.tdiv (((b - a : Nat) : Int) - 1) 2 = ((((b - a - 1) / 2 + 1 : Nat) : Int)) - 1 := by
    by_cases c : b = a
    · subst c; simp
    · rw [Int.tdiv_eq_ediv_of_nonneg (by omega)]; omega
  have e4 : wr .i64 (((((b - a - 1) / 2 + 1 : Nat) : Int)) - 1) = ((((b - a - 1) / 2 + 1 : Nat) : Int)) - 1 := wr_i64_id (by omega) (by omega)
  simp only [e1, e2, e3, e4]
  rw [heap_build hC a b K ha (by omega) _ K xs (by omega) (by omega) hb hl]
  unfold api_Address_n51_0o_3f39.j1
  simp only [e1, e2]
  have hs := heapBuild_size (ltC cf) (b - a) a ((b - a - 1) / 2 + 1) xs.toArray
  have hs' : (Sort.heapBuild (ltC cf) (b - a) a ((b - a - 1) / 2 + 1) xs.toArray).toList.length = xs.length := by simpa using hs
  rw [heap_pop hC a K (b - a) K _ (by omega) (by omega) (by omega) (by omega)]
end
end GW
set_option linter.unusedVariables false
set_option linter.unusedSimpArgs false
set_option linter.unusedSectionVars false
set_option maxRecDepth 100000
namespace GW
open Go Go.RowKit
section
variable {α : Type} [Inhabited α]
theorem scanSorted_bd (lt : α → α → Bool) (d : Array α) (b : Nat) : ∀ (r i : Nat), b ≤ i + r → i ≤ Sort.scanSorted lt d b i ∧ (Sort.scanSorted lt d b i ≤ b ∨ Sort.scanSorted lt d b i = i)
  | r, i, h => by
    rw [Sort.scanSorted]
    split
    · rename_i c
      simp only [Bool.and_eq_true, decide_eq_true_eq] at c
      obtain ⟨r, rfl⟩ : ∃ m, r = m + 1 := ⟨r - 1, by omega⟩
      have := scanSorted_bd lt d b r (i + 1) (by omega)
      omega
    · omega
theorem shiftDown_size (lt : α → α → Bool) : ∀ (j : Nat) (d : Array α), (Sort.shiftDown lt j d).size = d.size
  | 0, d => rfl
  | j + 1, d => by
    unfold Sort.shiftDown
    split
    · rfl
    · rw [shiftDown_size lt j]; simp [Sort.swp]
theorem shiftUp_size (lt : α → α → Bool) (b : Nat) : ∀ (r j : Nat) (d : Array α), b ≤ j + r → (Sort.shiftUp lt b j d).size = d.size
  | r, j, d, h => by
    rw [Sort.shiftUp]
    split
    · obtain ⟨r, rfl⟩ : ∃ m, r = m + 1 := ⟨r - 1, by omega⟩
      split
      · rfl
      · rw [shiftUp_size lt b r (j + 1) _ (by omega)]; simp [Sort.swp]
    · rfl
end
section
variable {cf : List Int → List Int → Int} (hC : ∀ x y, addr_Compare.f x y = some (cf x y))
include hC
theorem pins_up (b : Nat) (y44 y70 : Int) (rec1 : List (List Int) → Int → Int → Option (Bool × List (List Int))) : ∀ (r j q : Nat) (xs : List (List Int)), b ≤ j + r → r < q → 1 ≤ j → b ≤ xs.length → xs.length < 2305843009213693952 → j < 4000000000000000000 →
    api_Address_n55_0o_3f39.l2 (b : Int) y44 rec1 y70 q xs (j : Int) = api_Address_n55_0o_3f39.j2 y44 rec1 (Sort.shiftUp (ltC cf) b j xs.toArray).toList y70
  | r, j, q, xs, h, hq, hj, hb, hl, h4 => by
    obtain ⟨q, rfl⟩ : ∃ m, q = m + 1 := ⟨q - 1, by omega⟩
    show api_Address_n55_0o_3f39.b2 _ _ _ _ _ _ _ = _
    unfold api_Address_n55_0o_3f39.b2
    have e1 : wr .i64 ((j : Int) - 1) = ((j - 1 : Nat) : Int) := wrn _ (by omega) (by omega)
    have e2 : wr .i64 ((j : Int) + 1) = ((j + 1 : Nat) : Int) := wrn _ (by omega) (by omega)
    rw [Sort.shiftUp]
    simp only [e1]
    by_cases c : j < b
    · obtain ⟨r, rfl⟩ : ∃ m, r = m + 1 := ⟨r - 1, by omega⟩
      rw [if_pos (show decide ((j : Int) < (b : Int)) = true from decide_eq_true (by omega)), if_pos c, if_pos (by omega), if_pos (by omega), hC, Option.bind_some, at_toArray, at_toArray]
      unfold api_Address_n55_0o_3f39.j7
      simp only [e1]
      by_cases c2 : cf (gt xs (j : Int)) (gt xs ((j - 1 : Nat) : Int)) < 0
      · rw [decide_eq_true c2, show ltC cf (gt xs (j : Int)) (gt xs ((j - 1 : Nat) : Int)) = true from decide_eq_true c2, if_neg (show ¬ ((!true) = true) by simp), if_neg (show ¬ ((!true) = true) by simp), if_pos (by omega), if_pos (by omega), if_pos (by rw [List.length_set]; omega)]
        unfold api_Address_n55_0o_3f39.j6
        simp only [e1, e2]
        have hw : ((xs.set (Int.toNat (j : Int)) (gt xs ((j - 1 : Nat) : Int))).set (Int.toNat ((j - 1 : Nat) : Int)) (gt xs (j : Int))) = (Sort.swp xs.toArray j (j - 1)).toList := by rw [swp_toArray, Int.toNat_natCast, Int.toNat_natCast]
        have hl2 := swp_len xs j (j - 1)
        rw [hw, pins_up b y44 y70 rec1 r (j + 1) q _ (by omega) (by omega) (by omega) (by omega) (by omega) (by omega), Array.toArray_toList]
      · rw [decide_eq_false c2, show ltC cf (gt xs (j : Int)) (gt xs ((j - 1 : Nat) : Int)) = false from decide_eq_false c2, if_pos (by simp), if_pos (by simp)]
    · rw [if_neg (show ¬ decide ((j : Int) < (b : Int)) = true by simp; omega), if_neg c]
theorem pins_down (b K : Nat) (y44 y70 : Int) (rec1 : List (List Int) → Int → Int → Option (Bool × List (List Int))) : ∀ (j q : Nat) (xs : List (List Int)), j < xs.length → j < q → xs.length < 2305843009213693952 →
    api_Address_n55_0o_3f39.l3 K (b : Int) y44 rec1 y70 q xs (j : Int) = api_Address_n55_0o_3f39.j5 K (b : Int) y44 rec1 y70 (Sort.shiftDown (ltC cf) j xs.toArray).toList
  | 0, q, xs, hj, hq, hl => by
    obtain ⟨q, rfl⟩ : ∃ m, q = m + 1 := ⟨q - 1, by omega⟩
    show api_Address_n55_0o_3f39.b3 _ _ _ _ _ _ _ _ = _
    unfold api_Address_n55_0o_3f39.b3
    rw [if_neg (by simp)]
    rfl
  | j + 1, q, xs, hj, hq, hl => by
    obtain ⟨q, rfl⟩ : ∃ m, q = m + 1 := ⟨q - 1, by omega⟩
    show api_Address_n55_0o_3f39.b3 _ _ _ _ _ _ _ _ = _
    unfold api_Address_n55_0o_3f39.b3 Sort.shiftDown
    have e1 : wr .i64 (((j + 1 : Nat) : Int) - 1) = (j : Int) := wrn _ (by omega) (by omega)
    simp only [e1]
    rw [if_pos (show decide ((1 : Int) ≤ ((j + 1 : Nat) : Int)) = true from decide_eq_true (by omega)), if_pos (by omega), if_pos (by omega), hC, Option.bind_some, at_toArray, at_toArray]
    unfold api_Address_n55_0o_3f39.j9
    simp only [e1]
    by_cases c2 : cf (gt xs ((j + 1 : Nat) : Int)) (gt xs (j : Int)) < 0
    · rw [decide_eq_true c2, show ltC cf (gt xs ((j + 1 : Nat) : Int)) (gt xs (j : Int)) = true from decide_eq_true c2, if_neg (show ¬ ((!true) = true) by simp), if_neg (show ¬ ((!true) = true) by simp), if_pos (by omega), if_pos (by omega), if_pos (by rw [List.length_set]; omega)]
      unfold api_Address_n55_0o_3f39.j8
      simp only [e1]
      have hw : ((xs.set (Int.toNat ((j + 1 : Nat) : Int)) (gt xs (j : Int))).set (Int.toNat (j : Int)) (gt xs ((j + 1 : Nat) : Int))) = (Sort.swp xs.toArray (j + 1) j).toList := by rw [swp_toArray, Int.toNat_natCast, Int.toNat_natCast]
      have hl2 := swp_len xs (j + 1) j
      rw [hw, pins_down b K y44 y70 rec1 j q _ (by omega) (by omega) (by omega), Array.toArray_toList]
    · rw [decide_eq_false c2, show ltC cf (gt xs ((j + 1 : Nat) : Int)) (gt xs (j : Int)) = false from decide_eq_false c2, if_pos (by simp), if_pos (by simp)]
theorem pins_scan (a b K : Nat) (y44 : Int) (xs : List (List Int)) (rec1 : List (List Int) → Int → Int → Option (Bool × List (List Int))) (hb : b ≤ xs.length) (hl : xs.length < 2305843009213693952) : ∀ (r i q : Nat), b ≤ i + r → r < q → 1 ≤ i → i < 4000000000000000000 →
    api_Address_n55_0o_3f39.l4 K (a : Int) (b : Int) xs y44 rec1 q (i : Int) = api_Address_n55_0o_3f39.j3 K (a : Int) (b : Int) xs y44 rec1 ((Sort.scanSorted (ltC cf) xs.toArray b i : Nat) : Int)
  | r, i, q, h, hq, hi, h4 => by
    obtain ⟨q, rfl⟩ : ∃ m, q = m + 1 := ⟨q - 1, by omega⟩
    show api_Address_n55_0o_3f39.b4 _ _ _ _ _ _ _ _ = _
    unfold api_Address_n55_0o_3f39.b4
    have e1 : wr .i64 ((i : Int) - 1) = ((i - 1 : Nat) : Int) := wrn _ (by omega) (by omega)
    have e2 : wr .i64 ((i : Int) + 1) = ((i + 1 : Nat) : Int) := wrn _ (by omega) (by omega)
    rw [Sort.scanSorted]
    simp only [e1]
    by_cases c : i < b
    · obtain ⟨r, rfl⟩ : ∃ m, r = m + 1 := ⟨r - 1, by omega⟩
      rw [if_pos (show decide ((i : Int) < (b : Int)) = true from decide_eq_true (by omega)), if_pos (by omega), if_pos (by omega), hC, Option.bind_some, at_toArray, at_toArray]
      unfold api_Address_n55_0o_3f39.j10
      by_cases c2 : cf (gt xs (i : Int)) (gt xs ((i - 1 : Nat) : Int)) < 0
      · rw [decide_eq_true c2, show ltC cf (gt xs (i : Int)) (gt xs ((i - 1 : Nat) : Int)) = true from decide_eq_true c2, if_neg (by simp), if_neg (by simp)]
      · rw [decide_eq_false c2, show ltC cf (gt xs (i : Int)) (gt xs ((i - 1 : Nat) : Int)) = false from decide_eq_false c2, if_pos (by simp), if_pos (by simpa using c), e2]
        exact pins_scan a b K y44 xs rec1 hb hl r (i + 1) q (by omega) (by omega) (by omega) (by omega)
    · rw [if_neg (show ¬ decide ((i : Int) < (b : Int)) = true by simp; omega), if_neg (by simp; omega)]
      unfold api_Address_n55_0o_3f39.j10
      rw [if_neg (by simp)]
theorem pins_loop (a b K : Nat) (hab : a < b) : ∀ (s i q : Nat) (xs : List (List Int)), s ≤ 5 → s < q → a < i → i ≤ b → b ≤ xs.length → xs.length < 2305843009213693952 → xs.length + 5 < K →
    api_Address_n55_0o_3f39.l1 K (a : Int) (b : Int) q xs ((5 - s : Nat) : Int) (i : Int) = some ((Sort.partialIns (ltC cf) a b s i xs.toArray).2, (Sort.partialIns (ltC cf) a b s i xs.toArray).1.toList)
  | 0, i, q, xs, hs, hq, hi, hib, hb, hl, hk => by
    obtain ⟨q, rfl⟩ : ∃ m, q = m + 1 := ⟨q - 1, by omega⟩
    show api_Address_n55_0o_3f39.b1 _ _ _ _ _ _ _ = _
    unfold api_Address_n55_0o_3f39.b1
    rw [if_neg (by simp)]
    rfl
  | s + 1, i, q, xs, hs, hq, hi, hib, hb, hl, hk => by
    obtain ⟨q, rfl⟩ : ∃ m, q = m + 1 := ⟨q - 1, by omega⟩
    show api_Address_n55_0o_3f39.b1 _ _ _ _ _ _ _ = _
    unfold api_Address_n55_0o_3f39.b1 Sort.partialIns
    rw [if_pos (show decide (((5 - (s + 1) : Nat) : Int) < 5) = true from decide_eq_true (by omega)), pins_scan hC a b K _ xs _ hb hl b i K (by omega) (by omega) (by omega) (by omega)]
    have hbd := scanSorted_bd (ltC cf) xs.toArray b b i (by omega)
    generalize Sort.scanSorted (ltC cf) xs.toArray b i = i2 at hbd ⊢
    simp only []
    unfold api_Address_n55_0o_3f39.j3
    have e1 : wr .i64 ((i2 : Int) - 1) = ((i2 - 1 : Nat) : Int) := wrn _ (by omega) (by omega)
    have e2 : wr .i64 ((b : Int) - (a : Int)) = ((b - a : Nat) : Int) := wrn _ (by omega) (by omega)
    have e3 : wr .i64 ((i2 : Int) - (a : Int)) = ((i2 - a : Nat) : Int) := wrn _ (by omega) (by omega)
    have e4 : wr .i64 ((b : Int) - (i2 : Int)) = ((b - i2 : Nat) : Int) := wrn _ (by omega) (by omega)
    have e5 : wr .i64 ((i2 : Int) + 1) = ((i2 + 1 : Nat) : Int) := wrn _ (by omega) (by omega)
    have e6 : wr .i64 (((5 - (s + 1) : Nat) : Int) + 1) = ((5 - s : Nat) : Int) := wrn _ (by omega) (by omega)
    simp only [e1, e2]
    by_cases c1 : i2 = b
    · rw [if_pos (show ((i2 : Int) == (b : Int)) = true by simp; omega), if_pos c1]
    · rw [if_neg (show ¬ ((i2 : Int) == (b : Int)) = true by simp; omega), if_neg c1]
      by_cases c2 : b - a < 50
      · rw [if_pos (show decide (((b - a : Nat) : Int) < 50) = true from decide_eq_true (by omega)), if_pos c2]
      · rw [if_neg (show ¬ decide (((b - a : Nat) : Int) < 50) = true by simp; omega), if_neg c2, if_pos (by omega), if_pos (by omega), if_pos (by rw [List.length_set]; omega)]
        unfold api_Address_n55_0o_3f39.j4
        have hw : ((xs.set (Int.toNat (i2 : Int)) (gt xs ((i2 - 1 : Nat) : Int))).set (Int.toNat ((i2 - 1 : Nat) : Int)) (gt xs (i2 : Int))) = (Sort.swp xs.toArray i2 (i2 - 1)).toList := by rw [swp_toArray, Int.toNat_natCast, Int.toNat_natCast]
        have hl2 := swp_len xs i2 (i2 - 1)
        simp only [e1, e3, hw]
        have j5 : ∀ (d : Array (List Int)), d.size = xs.length → api_Address_n55_0o_3f39.j5 K (b : Int) ((5 - (s + 1) : Nat) : Int) (api_Address_n55_0o_3f39.l1 K (a : Int) (b : Int) q) (i2 : Int) d.toList = some ((Sort.partialIns (ltC cf) a b s i2 (if b - i2 ≥ 2 then Sort.shiftUp (ltC cf) b (i2 + 1) d else d)).2, (Sort.partialIns (ltC cf) a b s i2 (if b - i2 ≥ 2 then Sort.shiftUp (ltC cf) b (i2 + 1) d else d)).1.toList) := fun d hd => by
          unfold api_Address_n55_0o_3f39.j5
          simp only [e4, e5]
          have hdl : d.toList.length = xs.length := by simpa using hd
          by_cases c3 : b - i2 ≥ 2
          · have hu := shiftUp_size (ltC cf) b b (i2 + 1) d (by omega)
            have hul : (Sort.shiftUp (ltC cf) b (i2 + 1) d).toList.length = xs.length := by rw [Array.length_toList, hu, hd]
            rw [if_pos (show decide ((2 : Int) ≤ ((b - i2 : Nat) : Int)) = true from decide_eq_true (by omega)), if_pos c3, pins_up hC b _ _ _ b (i2 + 1) K _ (by omega) (by omega) (by omega) (by omega) (by omega) (by omega), Array.toArray_toList]
            unfold api_Address_n55_0o_3f39.j2
            rw [e6, pins_loop a b K hab s i2 q _ (by omega) (by omega) (by omega) (by omega) (by omega) (by omega) (by omega), Array.toArray_toList]
          · rw [if_neg (show ¬ decide ((2 : Int) ≤ ((b - i2 : Nat) : Int)) = true by simp; omega), if_neg c3]
            unfold api_Address_n55_0o_3f39.j2
            rw [e6, pins_loop a b K hab s i2 q _ (by omega) (by omega) (by omega) (by omega) (by omega) (by omega) (by omega), Array.toArray_toList]
        have hsz : (Sort.swp xs.toArray i2 (i2 - 1)).size = xs.length := by simpa using hl2
        by_cases c3 : i2 - a ≥ 2
        · rw [if_pos (show decide ((2 : Int) ≤ ((i2 - a : Nat) : Int)) = true from decide_eq_true (by omega)), pins_down hC b K _ _ _ (i2 - 1) K _ (by omega) (by omega) (by omega), Array.toArray_toList, j5 _ (by rw [shiftDown_size, hsz])]
          simp only [if_pos c3]
        · rw [if_neg (show ¬ decide ((2 : Int) ≤ ((i2 - a : Nat) : Int)) = true by simp; omega), j5 _ hsz]
          simp only [if_neg c3]
theorem pins_eq (a b K : Nat) (xs : List (List Int)) (hab : a < b) (hb : b ≤ xs.length) (hl : xs.length < 2305843009213693952) (hk : xs.length + 10 < K) :
    api_Address_n55_0o_3f39.f K xs (a : Int) (b : Int) = some ((Sort.partialInsertionSort (ltC cf) xs.toArray a b).2, (Sort.partialInsertionSort (ltC cf) xs.toArray a b).1.toList) := by
  unfold api_Address_n55_0o_3f39.f Sort.partialInsertionSort
  rw [show wr .i64 ((a : Int) + 1) = ((a + 1 : Nat) : Int) from wrn _ (by omega) (by omega)]
  exact pins_loop hC a b K hab 5 (a + 1) K xs (by omega) (by omega) (by omega) (by omega) hb hl (by omega)
end
end GW
set_option linter.unusedVariables false
set_option linter.unusedSimpArgs false
set_option linter.unusedSectionVars false
set_option maxRecDepth 100000
namespace GW
open Go Go.RowKit
section
variable {α : Type} [Inhabited α]
theorem scanUp_bd (p : α → Bool) (d : Array α) (j : Nat) : ∀ (r i : Nat), j + 1 ≤ i + r → i ≤ Sort.scanUp p d j i ∧ (Sort.scanUp p d j i ≤ j + 1 ∨ Sort.scanUp p d j i = i)
  | r, i, h => by
    rw [Sort.scanUp]
    split
    · rename_i c
      simp only [Bool.and_eq_true, decide_eq_true_eq] at c
      obtain ⟨r, rfl⟩ : ∃ m, r = m + 1 := ⟨r - 1, by omega⟩
      have := scanUp_bd p d j r (i + 1) (by omega)
      omega
    · omega
theorem scanDown_bd (p : α → Bool) (d : Array α) (i : Nat) : ∀ j : Nat, Sort.scanDown p d i j ≤ j ∧ (i ≤ j + 1 → i ≤ Sort.scanDown p d i j + 1 ∨ j = 0)
  | 0 => ⟨Nat.le_refl _, fun _ => .inr rfl⟩
  | j + 1 => by
    unfold Sort.scanDown
    split
    · rename_i c
      simp only [Bool.and_eq_true, decide_eq_true_eq] at c
      have := scanDown_bd p d i j
      refine ⟨by omega, fun _ => ?_⟩
      by_cases h0 : j = 0
      · subst h0
        left
        show i ≤ 0 + 1
        omega
      · have := this.2 (by omega)
        omega
    · exact ⟨Nat.le_refl _, fun h => by omega⟩
end
section
variable {cf : List Int → List Int → Int} (hC : ∀ x y, addr_Compare.f x y = some (cf x y))
include hC
theorem peq_down (a i : Nat) (xs : List (List Int)) (rec1 : List (List Int) → Int → Int → Option (Int × List (List Int))) (hi : 1 ≤ i) (ha : a < xs.length) (hl : xs.length < 2305843009213693952) : ∀ (j q : Nat), j < xs.length → j < q →
    api_Address_n56_0o_4f39.l2 (a : Int) xs rec1 (i : Int) q (j : Int) = api_Address_n56_0o_4f39.j4 xs rec1 (i : Int) ((Sort.scanDown (fun x => ltC cf (gt xs (a : Int)) x) xs.toArray i j : Nat) : Int)
  | 0, q, hj, hq => by
    obtain ⟨q, rfl⟩ : ∃ m, q = m + 1 := ⟨q - 1, by omega⟩
    show api_Address_n56_0o_4f39.b2 _ _ _ _ _ _ = _
    unfold api_Address_n56_0o_4f39.b2
    rw [if_neg (by simp; omega)]
    rfl
  | j + 1, q, hj, hq => by
    obtain ⟨q, rfl⟩ : ∃ m, q = m + 1 := ⟨q - 1, by omega⟩
    show api_Address_n56_0o_4f39.b2 _ _ _ _ _ _ = _
    unfold api_Address_n56_0o_4f39.b2 Sort.scanDown
    by_cases c : i ≤ j + 1
    · rw [if_pos (show decide ((i : Int) ≤ ((j + 1 : Nat) : Int)) = true from decide_eq_true (by omega)), if_pos (by omega), if_pos (by omega), hC, Option.bind_some, at_toArray]
      unfold api_Address_n56_0o_4f39.j6
      by_cases c2 : cf (gt xs (a : Int)) (gt xs ((j + 1 : Nat) : Int)) < 0
      · rw [if_pos (decide_eq_true c2), show ltC cf (gt xs (a : Int)) (gt xs ((j + 1 : Nat) : Int)) = true from decide_eq_true c2, if_pos (by simpa using c)]
        rw [show wr .i64 (((j + 1 : Nat) : Int) - 1) = (j : Int) from wrn _ (by omega) (by omega)]
        exact peq_down a i xs rec1 hi ha hl j q (by omega) (by omega)
      · rw [if_neg (by simpa using c2), show ltC cf (gt xs (a : Int)) (gt xs ((j + 1 : Nat) : Int)) = false from decide_eq_false c2, if_neg (by simp)]
    · rw [if_neg (show ¬ decide ((i : Int) ≤ ((j + 1 : Nat) : Int)) = true by simp; omega), if_neg (by simp; omega)]
      unfold api_Address_n56_0o_4f39.j6
      rw [if_neg (by simp)]
theorem peq_up (a j K : Nat) (xs : List (List Int)) (rec1 : List (List Int) → Int → Int → Option (Int × List (List Int))) (ha : a < xs.length) (hj : j < xs.length) (hl : xs.length < 2305843009213693952) : ∀ (r i q : Nat), j + 1 ≤ i + r → r < q → i < 4000000000000000000 →
    api_Address_n56_0o_4f39.l3 K (a : Int) xs (j : Int) rec1 q (i : Int) = api_Address_n56_0o_4f39.j3 K (a : Int) xs (j : Int) rec1 ((Sort.scanUp (fun x => !ltC cf (gt xs (a : Int)) x) xs.toArray j i : Nat) : Int)
  | r, i, q, h, hq, h4 => by
    obtain ⟨q, rfl⟩ : ∃ m, q = m + 1 := ⟨q - 1, by omega⟩
    show api_Address_n56_0o_4f39.b3 _ _ _ _ _ _ _ = _
    unfold api_Address_n56_0o_4f39.b3
    rw [Sort.scanUp]
    by_cases c : i ≤ j
    · obtain ⟨r, rfl⟩ : ∃ m, r = m + 1 := ⟨r - 1, by omega⟩
      rw [if_pos (show decide ((i : Int) ≤ (j : Int)) = true from decide_eq_true (by omega)), if_pos (by omega), if_pos (by omega), hC, Option.bind_some, at_toArray]
      unfold api_Address_n56_0o_4f39.j7
      by_cases c2 : cf (gt xs (a : Int)) (gt xs (i : Int)) < 0
      · rw [decide_eq_true c2, show ltC cf (gt xs (a : Int)) (gt xs (i : Int)) = true from decide_eq_true c2, if_neg (by simp), if_neg (by simp)]
      · rw [decide_eq_false c2, show ltC cf (gt xs (a : Int)) (gt xs (i : Int)) = false from decide_eq_false c2, if_pos (by simp), if_pos (by simpa using c)]
        rw [show wr .i64 ((i : Int) + 1) = ((i + 1 : Nat) : Int) from wrn _ (by omega) (by omega)]
        exact peq_up a j K xs rec1 ha hj hl r (i + 1) q (by omega) (by omega) (by omega)
    · rw [if_neg (show ¬ decide ((i : Int) ≤ (j : Int)) = true by simp; omega), if_neg (by simp; omega)]
      unfold api_Address_n56_0o_4f39.j7
      rw [if_neg (by simp)]
theorem peq_loop (a K : Nat) : ∀ (r i j q : Nat) (xs : List (List Int)), j + 1 ≤ i + r → r < q → 1 ≤ i → i ≤ xs.length → a < xs.length → j < xs.length → xs.length < 2305843009213693952 → xs.length + 1 < K →
    api_Address_n56_0o_4f39.l1 K (a : Int) q xs (j : Int) (i : Int) = some (((Sort.partEqLoop (ltC cf) a i j xs.toArray).1 : Int), (Sort.partEqLoop (ltC cf) a i j xs.toArray).2.toList)
  | r, i, j, q, xs, h, hq, hi, hix, ha, hj, hl, hk => by
    obtain ⟨q, rfl⟩ : ∃ m, q = m + 1 := ⟨q - 1, by omega⟩
    show api_Address_n56_0o_4f39.b1 _ _ _ _ _ _ = _
    unfold api_Address_n56_0o_4f39.b1
    rw [Sort.partEqLoop, peq_up hC a j K xs _ ha hj hl (j + 1) i K (by omega) (by omega) (by omega)]
    unfold api_Address_n56_0o_4f39.j3
    have hb1 := scanUp_bd (fun x => !ltC cf (gt xs (a : Int)) x) xs.toArray j (j + 1) i (by omega)
    simp only [at_toArray]
    generalize Sort.scanUp (fun x => !ltC cf (gt xs (a : Int)) x) xs.toArray j i = i2 at hb1 ⊢
    rw [peq_down hC a i2 xs _ (by omega) ha hl j K hj (by omega)]
    have hb2 := scanDown_bd (fun x => ltC cf (gt xs (a : Int)) x) xs.toArray i2 j
    generalize Sort.scanDown (fun x => ltC cf (gt xs (a : Int)) x) xs.toArray i2 j = j2 at hb2 ⊢
    unfold api_Address_n56_0o_4f39.j4
    by_cases c : i2 > j2
    · rw [if_pos (show decide ((j2 : Int) < (i2 : Int)) = true from decide_eq_true (by omega)), if_pos c]
      rfl
    · obtain ⟨r, rfl⟩ : ∃ m, r = m + 1 := ⟨r - 1, by omega⟩
      rw [if_neg (show ¬ decide ((j2 : Int) < (i2 : Int)) = true by simp; omega), if_neg c, if_pos (by omega), if_pos (by omega), if_pos (by rw [List.length_set]; omega), dif_pos (by omega)]
      unfold api_Address_n56_0o_4f39.j5
      have e1 : wr .i64 ((j2 : Int) - 1) = ((j2 - 1 : Nat) : Int) := wrn _ (by omega) (by omega)
      have e2 : wr .i64 ((i2 : Int) + 1) = ((i2 + 1 : Nat) : Int) := wrn _ (by omega) (by omega)
      have hw : ((xs.set (Int.toNat (i2 : Int)) (gt xs (j2 : Int))).set (Int.toNat (j2 : Int)) (gt xs (i2 : Int))) = (Sort.swp xs.toArray i2 j2).toList := by rw [swp_toArray, Int.toNat_natCast, Int.toNat_natCast]
      have hl2 := swp_len xs i2 j2
      rw [e1, e2, hw, peq_loop a K r (i2 + 1) (j2 - 1) q _ (by omega) (by omega) (by omega) (by omega) (by omega) (by omega) (by omega) (by omega), Array.toArray_toList]
theorem peq_eq (a b p K : Nat) (xs : List (List Int)) (hap : a ≤ p) (hpb : p < b) (hb : b ≤ xs.length) (hl : xs.length < 2305843009213693952) (hk : xs.length + 5 < K) :
    api_Address_n56_0o_4f39.f K xs (a : Int) (b : Int) (p : Int) = some (((Sort.partitionEqual (ltC cf) xs.toArray a b p).1 : Int), (Sort.partitionEqual (ltC cf) xs.toArray a b p).2.toList) := by
  unfold api_Address_n56_0o_4f39.f Sort.partitionEqual
  rw [if_pos (by omega), if_pos (by omega), if_pos (by rw [List.length_set]; omega)]
  unfold api_Address_n56_0o_4f39.j1
  have e1 : wr .i64 ((b : Int) - 1) = ((b - 1 : Nat) : Int) := wrn _ (by omega) (by omega)
  have e2 : wr .i64 ((a : Int) + 1) = ((a + 1 : Nat) : Int) := wrn _ (by omega) (by omega)
  have hw : ((xs.set (Int.toNat (a : Int)) (gt xs (p : Int))).set (Int.toNat (p : Int)) (gt xs (a : Int))) = (Sort.swp xs.toArray a p).toList := by rw [swp_toArray, Int.toNat_natCast, Int.toNat_natCast]
  have hl2 := swp_len xs a p
  rw [e1, e2, hw, peq_loop hC a K b (a + 1) (b - 1) K _ (by omega) (by omega) (by omega) (by omega) (by omega) (by omega) (by omega) (by omega), Array.toArray_toList]
end
end GW
set_option linter.unusedVariables false
set_option linter.unusedSimpArgs false
set_option linter.unusedSectionVars false
set_option maxRecDepth 100000
namespace GW
open Go Go.RowKit
section
variable {cf : List Int → List Int → Int} (hC : ∀ x y, addr_Compare.f x y = some (cf x y))
include hC
theorem part_down (a i : Nat) (xs : List (List Int)) (rec1 : List (List Int) → Int → Int → Option (Int × Bool × List (List Int))) (hi : 1 ≤ i) (ha : a < xs.length) (hl : xs.length < 2305843009213693952) : ∀ (j q : Nat), j < xs.length → j < q →
    api_Address_n57_0o_4f39.l2 (a : Int) xs rec1 (i : Int) q (j : Int) = api_Address_n57_0o_4f39.j9 (a : Int) xs rec1 (i : Int) ((Sort.scanDown (fun x => !ltC cf x (gt xs (a : Int))) xs.toArray i j : Nat) : Int)
  | 0, q, hj, hq => by
    obtain ⟨q, rfl⟩ : ∃ m, q = m + 1 := ⟨q - 1, by omega⟩
    show api_Address_n57_0o_4f39.b2 _ _ _ _ _ _ = _
    unfold api_Address_n57_0o_4f39.b2
    rw [if_neg (by simp; omega)]
    rfl
  | j + 1, q, hj, hq => by
    obtain ⟨q, rfl⟩ : ∃ m, q = m + 1 := ⟨q - 1, by omega⟩
    show api_Address_n57_0o_4f39.b2 _ _ _ _ _ _ = _
    unfold api_Address_n57_0o_4f39.b2 Sort.scanDown
    by_cases c : i ≤ j + 1
    · rw [if_pos (show decide ((i : Int) ≤ ((j + 1 : Nat) : Int)) = true from decide_eq_true (by omega)), if_pos (by omega), if_pos (by omega), hC, Option.bind_some, at_toArray]
      unfold api_Address_n57_0o_4f39.j11
      by_cases c2 : cf (gt xs ((j + 1 : Nat) : Int)) (gt xs (a : Int)) < 0
      · rw [decide_eq_true c2, show ltC cf (gt xs ((j + 1 : Nat) : Int)) (gt xs (a : Int)) = true from decide_eq_true c2, if_neg (by simp), if_neg (by simp)]
      · rw [decide_eq_false c2, show ltC cf (gt xs ((j + 1 : Nat) : Int)) (gt xs (a : Int)) = false from decide_eq_false c2, if_pos (by simp), if_pos (by simpa using c)]
        rw [show wr .i64 (((j + 1 : Nat) : Int) - 1) = (j : Int) from wrn _ (by omega) (by omega)]
        exact part_down a i xs rec1 hi ha hl j q (by omega) (by omega)
    · rw [if_neg (show ¬ decide ((i : Int) ≤ ((j + 1 : Nat) : Int)) = true by simp; omega), if_neg (by simp; omega)]
      unfold api_Address_n57_0o_4f39.j11
      rw [if_neg (by simp)]
theorem part_up (a j K : Nat) (xs : List (List Int)) (rec1 : List (List Int) → Int → Int → Option (Int × Bool × List (List Int))) (ha : a < xs.length) (hj : j < xs.length) (hl : xs.length < 2305843009213693952) : ∀ (r i q : Nat), j + 1 ≤ i + r → r < q → i < 4000000000000000000 →
    api_Address_n57_0o_4f39.l3 K (a : Int) xs (j : Int) rec1 q (i : Int) = api_Address_n57_0o_4f39.j8 K (a : Int) xs (j : Int) rec1 ((Sort.scanUp (fun x => ltC cf x (gt xs (a : Int))) xs.toArray j i : Nat) : Int)
  | r, i, q, h, hq, h4 => by
    obtain ⟨q, rfl⟩ : ∃ m, q = m + 1 := ⟨q - 1, by omega⟩
    show api_Address_n57_0o_4f39.b3 _ _ _ _ _ _ _ = _
    unfold api_Address_n57_0o_4f39.b3
    rw [Sort.scanUp]
    by_cases c : i ≤ j
    · obtain ⟨r, rfl⟩ : ∃ m, r = m + 1 := ⟨r - 1, by omega⟩
      rw [if_pos (show decide ((i : Int) ≤ (j : Int)) = true from decide_eq_true (by omega)), if_pos (by omega), if_pos (by omega), hC, Option.bind_some, at_toArray]
      unfold api_Address_n57_0o_4f39.j12
      by_cases c2 : cf (gt xs (i : Int)) (gt xs (a : Int)) < 0
      · rw [if_pos (decide_eq_true c2), show ltC cf (gt xs (i : Int)) (gt xs (a : Int)) = true from decide_eq_true c2, if_pos (by simpa using c)]
        rw [show wr .i64 ((i : Int) + 1) = ((i + 1 : Nat) : Int) from wrn _ (by omega) (by omega)]
        exact part_up a j K xs rec1 ha hj hl r (i + 1) q (by omega) (by omega) (by omega)
      · rw [if_neg (by simpa using c2), show ltC cf (gt xs (i : Int)) (gt xs (a : Int)) = false from decide_eq_false c2, if_neg (by simp)]
    · rw [if_neg (show ¬ decide ((i : Int) ≤ (j : Int)) = true by simp; omega), if_neg (by simp; omega)]
      unfold api_Address_n57_0o_4f39.j12
      rw [if_neg (by simp)]
theorem part_loop (a K : Nat) : ∀ (r i j q : Nat) (xs : List (List Int)), j + 1 ≤ i + r → r < q → 1 ≤ i → i ≤ xs.length → a < xs.length → j < xs.length → xs.length < 2305843009213693952 → xs.length + 1 < K →
    api_Address_n57_0o_4f39.l1 K (a : Int) q xs (j : Int) (i : Int) = some (((Sort.partLoop (ltC cf) a i j xs.toArray).1 : Int), false, (Sort.swp (Sort.partLoop (ltC cf) a i j xs.toArray).2 (Sort.partLoop (ltC cf) a i j xs.toArray).1 a).toList)
  | r, i, j, q, xs, h, hq, hi, hix, ha, hj, hl, hk => by
    obtain ⟨q, rfl⟩ : ∃ m, q = m + 1 := ⟨q - 1, by omega⟩
    show api_Address_n57_0o_4f39.b1 _ _ _ _ _ _ = _
    unfold api_Address_n57_0o_4f39.b1
    rw [Sort.partLoop, part_up hC a j K xs _ ha hj hl (j + 1) i K (by omega) (by omega) (by omega)]
    unfold api_Address_n57_0o_4f39.j8
    have hb1 := scanUp_bd (fun x => ltC cf x (gt xs (a : Int))) xs.toArray j (j + 1) i (by omega)
    simp only [at_toArray]
    generalize Sort.scanUp (fun x => ltC cf x (gt xs (a : Int))) xs.toArray j i = i2 at hb1 ⊢
    rw [part_down hC a i2 xs _ (by omega) ha hl j K hj (by omega)]
    have hb2 := scanDown_bd (fun x => !ltC cf x (gt xs (a : Int))) xs.toArray i2 j
    generalize Sort.scanDown (fun x => !ltC cf x (gt xs (a : Int))) xs.toArray i2 j = j2 at hb2 ⊢
    unfold api_Address_n57_0o_4f39.j9
    by_cases c : i2 > j2
    · rw [if_pos (show decide ((j2 : Int) < (i2 : Int)) = true from decide_eq_true (by omega)), if_pos c]
      unfold api_Address_n57_0o_4f39.j6 api_Address_n57_0o_4f39.j7
      rw [if_pos (by omega), if_pos (by omega), if_pos (by rw [List.length_set]; omega), Int.toNat_natCast, Int.toNat_natCast]
      simp only [swp_toArray]
    · obtain ⟨r, rfl⟩ : ∃ m, r = m + 1 := ⟨r - 1, by omega⟩
      rw [if_neg (show ¬ decide ((j2 : Int) < (i2 : Int)) = true by simp; omega), if_neg c, if_pos (by omega), if_pos (by omega), if_pos (by rw [List.length_set]; omega), dif_pos (by omega)]
      unfold api_Address_n57_0o_4f39.j10
      have e1 : wr .i64 ((j2 : Int) - 1) = ((j2 - 1 : Nat) : Int) := wrn _ (by omega) (by omega)
      have e2 : wr .i64 ((i2 : Int) + 1) = ((i2 + 1 : Nat) : Int) := wrn _ (by omega) (by omega)
      have hw : ((xs.set (Int.toNat (i2 : Int)) (gt xs (j2 : Int))).set (Int.toNat (j2 : Int)) (gt xs (i2 : Int))) = (Sort.swp xs.toArray i2 j2).toList := by rw [swp_toArray, Int.toNat_natCast, Int.toNat_natCast]
      have hl2 := swp_len xs i2 j2
      rw [e1, e2, hw, part_loop a K r (i2 + 1) (j2 - 1) q _ (by omega) (by omega) (by omega) (by omega) (by omega) (by omega) (by omega) (by omega), Array.toArray_toList]
theorem part_down4 (a p i K : Nat) (x1 xs : List (List Int)) (hx : ((x1.set (Int.toNat (a : Int)) (gt x1 (p : Int))).set (Int.toNat (p : Int)) (gt x1 (a : Int))) = xs) (hi : 1 ≤ i) (ha : a < xs.length) (hl : xs.length < 2305843009213693952) : ∀ (j q : Nat), j < xs.length → j < q →
    api_Address_n57_0o_4f39.l4 K x1 (a : Int) (p : Int) (i : Int) q (j : Int) = api_Address_n57_0o_4f39.j3 K x1 (a : Int) (p : Int) (i : Int) ((Sort.scanDown (fun x => !ltC cf x (gt xs (a : Int))) xs.toArray i j : Nat) : Int)
  | 0, q, hj, hq => by
    obtain ⟨q, rfl⟩ : ∃ m, q = m + 1 := ⟨q - 1, by omega⟩
    show api_Address_n57_0o_4f39.b4 _ _ _ _ _ _ _ = _
    unfold api_Address_n57_0o_4f39.b4
    rw [if_neg (by simp; omega)]
    rfl
  | j + 1, q, hj, hq => by
    obtain ⟨q, rfl⟩ : ∃ m, q = m + 1 := ⟨q - 1, by omega⟩
    show api_Address_n57_0o_4f39.b4 _ _ _ _ _ _ _ = _
    unfold api_Address_n57_0o_4f39.b4 Sort.scanDown
    simp only [hx]
    by_cases c : i ≤ j + 1
    · rw [if_pos (show decide ((i : Int) ≤ ((j + 1 : Nat) : Int)) = true from decide_eq_true (by omega)), if_pos (by omega), if_pos (by omega), hC, Option.bind_some, at_toArray]
      unfold api_Address_n57_0o_4f39.j13
      by_cases c2 : cf (gt xs ((j + 1 : Nat) : Int)) (gt xs (a : Int)) < 0
      · rw [decide_eq_true c2, show ltC cf (gt xs ((j + 1 : Nat) : Int)) (gt xs (a : Int)) = true from decide_eq_true c2, if_neg (by simp), if_neg (by simp)]
      · rw [decide_eq_false c2, show ltC cf (gt xs ((j + 1 : Nat) : Int)) (gt xs (a : Int)) = false from decide_eq_false c2, if_pos (by simp), if_pos (by simpa using c)]
        rw [show wr .i64 (((j + 1 : Nat) : Int) - 1) = (j : Int) from wrn _ (by omega) (by omega)]
        exact part_down4 a p i K x1 xs hx hi ha hl j q (by omega) (by omega)
    · rw [if_neg (show ¬ decide ((i : Int) ≤ ((j + 1 : Nat) : Int)) = true by simp; omega), if_neg (by simp; omega)]
      unfold api_Address_n57_0o_4f39.j13
      rw [if_neg (by simp)]
theorem part_up5 (a b p K : Nat) (x1 xs : List (List Int)) (hx : ((x1.set (Int.toNat (a : Int)) (gt x1 (p : Int))).set (Int.toNat (p : Int)) (gt x1 (a : Int))) = xs) (ha : a < xs.length) (hb : b ≤ xs.length) (h1 : 1 ≤ b) (hl : xs.length < 2305843009213693952) : ∀ (r i q : Nat), b ≤ i + r → r < q → i < 4000000000000000000 →
    api_Address_n57_0o_4f39.l5 K x1 (a : Int) (b : Int) (p : Int) q (i : Int) = api_Address_n57_0o_4f39.j2 K x1 (a : Int) (b : Int) (p : Int) ((Sort.scanUp (fun x => ltC cf x (gt xs (a : Int))) xs.toArray (b - 1) i : Nat) : Int)
  | r, i, q, h, hq, h4 => by
    obtain ⟨q, rfl⟩ : ∃ m, q = m + 1 := ⟨q - 1, by omega⟩
    show api_Address_n57_0o_4f39.b5 _ _ _ _ _ _ _ = _
    unfold api_Address_n57_0o_4f39.b5
    have e1 : wr .i64 ((b : Int) - 1) = ((b - 1 : Nat) : Int) := wrn _ (by omega) (by omega)
    rw [Sort.scanUp]
    simp only [hx, e1]
    by_cases c : i ≤ b - 1
    · obtain ⟨r, rfl⟩ : ∃ m, r = m + 1 := ⟨r - 1, by omega⟩
      rw [if_pos (show decide ((i : Int) ≤ ((b - 1 : Nat) : Int)) = true from decide_eq_true (by omega)), if_pos (by omega), if_pos (by omega), hC, Option.bind_some, at_toArray]
      unfold api_Address_n57_0o_4f39.j14
      by_cases c2 : cf (gt xs (i : Int)) (gt xs (a : Int)) < 0
      · rw [if_pos (decide_eq_true c2), show ltC cf (gt xs (i : Int)) (gt xs (a : Int)) = true from decide_eq_true c2, if_pos (by simpa using c)]
        rw [show wr .i64 ((i : Int) + 1) = ((i + 1 : Nat) : Int) from wrn _ (by omega) (by omega)]
        exact part_up5 a b p K x1 xs hx ha hb h1 hl r (i + 1) q (by omega) (by omega) (by omega)
      · rw [if_neg (by simpa using c2), show ltC cf (gt xs (i : Int)) (gt xs (a : Int)) = false from decide_eq_false c2, if_neg (by simp)]
    · rw [if_neg (show ¬ decide ((i : Int) ≤ ((b - 1 : Nat) : Int)) = true by simp; omega), if_neg (by simp; omega)]
      unfold api_Address_n57_0o_4f39.j14
      rw [if_neg (by simp)]
theorem part_eq (a b p K : Nat) (x1 : List (List Int)) (hap : a ≤ p) (hpb : p < b) (hb : b ≤ x1.length) (hl : x1.length < 2305843009213693952) (hk : x1.length + 5 < K) :
    api_Address_n57_0o_4f39.f K x1 (a : Int) (b : Int) (p : Int) = some (((Sort.partition (ltC cf) x1.toArray a b p).1 : Int), (Sort.partition (ltC cf) x1.toArray a b p).2.1, (Sort.partition (ltC cf) x1.toArray a b p).2.2.toList) := by
  unfold api_Address_n57_0o_4f39.f Sort.partition
  rw [if_pos (by omega), if_pos (by omega), if_pos (by rw [List.length_set]; omega)]
  unfold api_Address_n57_0o_4f39.j1
  have e2 : wr .i64 ((a : Int) + 1) = ((a + 1 : Nat) : Int) := wrn _ (by omega) (by omega)
  have hw : ((x1.set (Int.toNat (a : Int)) (gt x1 (p : Int))).set (Int.toNat (p : Int)) (gt x1 (a : Int))) = (Sort.swp x1.toArray a p).toList := by rw [swp_toArray, Int.toNat_natCast, Int.toNat_natCast]
  have hl2 := swp_len x1 a p
  have hd : Sort.swp x1.toArray a p = (Sort.swp x1.toArray a p).toList.toArray := by rw [Array.toArray_toList]
  rw [hd]
  generalize hxs : (Sort.swp x1.toArray a p).toList = xs at hw hl2 ⊢
  have e1 : wr .i64 ((b : Int) - 1) = ((b - 1 : Nat) : Int) := wrn _ (by omega) (by omega)
  rw [e2, part_up5 hC a b p K x1 xs hw (by omega) (by omega) (by omega) (by omega) b (a + 1) K (by omega) (by omega) (by omega)]
  unfold api_Address_n57_0o_4f39.j2
  have hb1 := scanUp_bd (fun x => ltC cf x (gt xs (a : Int))) xs.toArray (b - 1) b (a + 1) (by omega)
  simp only [at_toArray, e1]
  generalize Sort.scanUp (fun x => ltC cf x (gt xs (a : Int))) xs.toArray (b - 1) (a + 1) = i2 at hb1 ⊢
  rw [part_down4 hC a p i2 K x1 xs hw (by omega) (by omega) (by omega) (b - 1) K (by omega) (by omega)]
  have hb2 := scanDown_bd (fun x => !ltC cf x (gt xs (a : Int))) xs.toArray i2 (b - 1)
  generalize Sort.scanDown (fun x => !ltC cf x (gt xs (a : Int))) xs.toArray i2 (b - 1) = j2 at hb2 ⊢
  unfold api_Address_n57_0o_4f39.j3
  simp only [hw]
  by_cases c : i2 > j2
  · rw [if_pos (show decide ((j2 : Int) < (i2 : Int)) = true from decide_eq_true (by omega)), if_pos c, if_pos (by omega), if_pos (by omega), if_pos (by rw [List.length_set]; omega)]
    unfold api_Address_n57_0o_4f39.j4
    simp only [hw]
    rw [Int.toNat_natCast, Int.toNat_natCast]
    simp only [swp_toArray]
  · rw [if_neg (show ¬ decide ((j2 : Int) < (i2 : Int)) = true by simp; omega), if_neg c, if_pos (by omega), if_pos (by omega), if_pos (by rw [List.length_set]; omega)]
    unfold api_Address_n57_0o_4f39.j5
    simp only [hw]
    have f1 : wr .i64 ((j2 : Int) - 1) = ((j2 - 1 : Nat) : Int) := wrn _ (by omega) (by omega)
    have f2 : wr .i64 ((i2 : Int) + 1) = ((i2 + 1 : Nat) : Int) := wrn _ (by omega) (by omega)
    have hw2 : ((xs.set (Int.toNat (i2 : Int)) (gt xs (j2 : Int))).set (Int.toNat (j2 : Int)) (gt xs (i2 : Int))) = (Sort.swp xs.toArray i2 j2).toList := by rw [swp_toArray, Int.toNat_natCast, Int.toNat_natCast]
    have hl3 := swp_len xs i2 j2
    rw [f1, f2, hw2, part_loop hC a K (b + 1) (i2 + 1) (j2 - 1) K _ (by omega) (by omega) (by omega) (by omega) (by omega) (by omega) (by omega) (by omega), Array.toArray_toList]
end
end GW
set_option linter.unusedVariables false
set_option linter.unusedSimpArgs false
set_option linter.unusedSectionVars false
set_option maxRecDepth 100000
namespace GW
open Go Go.RowKit
section
variable {α : Type} [Inhabited α]
end
end GW
set_option linter.unusedVariables false
set_option linter.unusedSimpArgs false
set_option linter.unusedSectionVars false
set_option maxRecDepth 100000
namespace GW
open Go Go.RowKit
theorem shl_u64 (u v : UInt64) (n : Nat) (h : v.toNat = n) (hn : n < 64) : shl .u64 (u.toNat : Int) n = ((u <<< v).toNat : Int) := by
  have h1 : shl .u64 (u.toNat : Int) n = ((u.toNat : Int) * 2 ^ n) % 18446744073709551616 := by
    have := wr_u64 ((u.toNat : Int) * 2 ^ n)
    exact this
  rw [h1, UInt64.toNat_shiftLeft, h, Nat.mod_eq_of_lt hn, Nat.shiftLeft_eq]
  simp
theorem shr_u64 (u v : UInt64) (n : Nat) (h : v.toNat = n) (hn : n < 64) : shr (u.toNat : Int) n = ((u >>> v).toNat : Int) := by
  unfold shr
  rw [Int.fdiv_eq_ediv_of_nonneg _ (Int.le_of_lt (Int.pow_pos (by omega))), UInt64.toNat_shiftRight, h, Nat.mod_eq_of_lt hn, Nat.shiftRight_eq_div_pow]
  simp
theorem xor_u64 (u v : UInt64) : bits .xor .u64 (u.toNat : Int) (v.toNat : Int) = ((u ^^^ v).toNat : Int) := by
  rw [bits_xor_u64_nat u.toNat v.toNat u.toNat_lt v.toNat_lt, UInt64.toNat_xor]
theorem xor_next (u : UInt64) : slices_xorshift_Next.f (u.toNat : Int) = some (((Sort.xorNext u).toNat : Int), ((Sort.xorNext u).toNat : Int)) := by
  unfold slices_xorshift_Next.f Sort.xorNext
  simp only [shl_u64 _ 13 13 rfl (by omega), shr_u64 _ 7 7 rfl (by omega), shl_u64 _ 17 17 rfl (by omega), xor_u64]
end GW
set_option linter.unusedVariables false
set_option linter.unusedSimpArgs false
set_option linter.unusedSectionVars false
set_option maxRecDepth 100000
namespace GW
open Go Go.RowKit
theorem bl_shift (s n : Nat) (h : 2 ^ s ≤ n) : Sort.bitsLen n = Sort.bitsLen (n / 2 ^ s) + s := by
  have hp : 0 < 2 ^ s := Nat.pow_pos (by omega)
  have h1 : n / 2 ^ s ≠ 0 := by
    have := Nat.div_le_div_right (c := 2 ^ s) h
    rw [Nat.div_self hp] at this
    omega
  have h0 : n ≠ 0 := by omega
  unfold Sort.bitsLen
  rw [if_neg h0, if_neg h1]
  obtain ⟨a1, a2⟩ := (Nat.log2_eq_iff (k := (n / 2 ^ s).log2) h1).1 rfl
  have : n.log2 = (n / 2 ^ s).log2 + s := by
    refine (Nat.log2_eq_iff h0).2 ⟨?_, ?_⟩
    · rw [Nat.pow_add]
      exact (Nat.le_div_iff_mul_le hp).1 a1
    · rw [show (n / 2 ^ s).log2 + s + 1 = (n / 2 ^ s).log2 + 1 + s by omega, Nat.pow_add]
      exact (Nat.div_lt_iff_lt_mul hp).1 a2
  omega
theorem len8 : ∀ i : Fin 256, bits_Len64.j3 0 (i.val : Int) = some ((Sort.bitsLen i.val : Nat) : Int) := by decide +kernel
theorem shr_nat (n s : Nat) : shr (n : Int) s = ((n / 2 ^ s : Nat) : Int) := by
  unfold shr
  rw [Int.fdiv_eq_ediv_of_nonneg _ (Int.le_of_lt (Int.pow_pos (by omega)))]
  simp
theorem bl_le8 (m : Nat) (hm : m < 256) : Sort.bitsLen m ≤ 8 := by
  have : ∀ i : Fin 256, Sort.bitsLen i.val ≤ 8 := by decide +kernel
  exact this ⟨m, hm⟩
theorem len_j3 (y : Nat) (hy : y ≤ 64) (m : Nat) (hm : m < 256) : bits_Len64.j3 (y : Int) (m : Int) = some ((y + Sort.bitsLen m : Nat) : Int) := by
  have h8 := len8 ⟨m, hm⟩
  have h9 := bl_le8 m hm
  unfold bits_Len64.j3 at h8 ⊢
  simp only at h8
  split at h8
  · rename_i c
    rw [if_pos c]
    have h10 := Option.some.inj h8
    have hb : wr .i64 (bt txt0 (wr .u8 (m : Int))) = ((Sort.bitsLen m : Nat) : Int) := by
      have e : wr .i64 (0 + wr .i64 (bt txt0 (wr .u8 (m : Int)))) = wr .i64 (bt txt0 (wr .u8 (m : Int))) := by
        rw [Int.zero_add, wr_i64, wr_i64]; omega
      rw [← e]; exact h10
    rw [hb, wrn (y + Sort.bitsLen m) (by omega) (by omega)]
  · cases h8
theorem len_j2 (y : Nat) (hy : y ≤ 48) (m : Nat) (hm : m < 65536) : bits_Len64.j2 (y : Int) (m : Int) = some ((y + Sort.bitsLen m : Nat) : Int) := by
  unfold bits_Len64.j2
  by_cases c : 256 ≤ m
  · rw [if_pos (show decide ((256 : Int) ≤ (m : Int)) = true from decide_eq_true (by omega)), wrn (y + 8) (by omega) (by omega), shr_nat, len_j3 (y + 8) (by omega) _ (by omega), bl_shift 8 m c]
    congr 2; omega
  · rw [if_neg (show ¬ decide ((256 : Int) ≤ (m : Int)) = true by simp; omega), len_j3 y (by omega) m (by omega)]
theorem len_j1 (y : Nat) (hy : y ≤ 32) (m : Nat) (hm : m < 4294967296) : bits_Len64.j1 (y : Int) (m : Int) = some ((y + Sort.bitsLen m : Nat) : Int) := by
  unfold bits_Len64.j1
  by_cases c : 65536 ≤ m
  · rw [if_pos (show decide ((65536 : Int) ≤ (m : Int)) = true from decide_eq_true (by omega)), wrn (y + 16) (by omega) (by omega), shr_nat, len_j2 (y + 16) (by omega) _ (by omega), bl_shift 16 m c]
    congr 2; omega
  · rw [if_neg (show ¬ decide ((65536 : Int) ≤ (m : Int)) = true by simp; omega), len_j2 y (by omega) m (by omega)]
theorem len_eq (n : Nat) (hn : n < 18446744073709551616) : bits_Len.f (n : Int) = some ((Sort.bitsLen n : Nat) : Int) := by
  have h : bits_Len64.f (n : Int) = some ((Sort.bitsLen n : Nat) : Int) := by
    unfold bits_Len64.f
    by_cases c : 4294967296 ≤ n
    · rw [if_pos (show decide ((4294967296 : Int) ≤ (n : Int)) = true from decide_eq_true (by omega)), shr_nat, show (32 : Int) = ((32 : Nat) : Int) from rfl, len_j1 32 (by omega) _ (by omega), bl_shift 32 n c]
      congr 2; omega
    · rw [if_neg (show ¬ decide ((4294967296 : Int) ≤ (n : Int)) = true by simp; omega), show (0 : Int) = ((0 : Nat) : Int) from rfl, len_j1 0 (by omega) n (by omega)]
      congr 2; omega
  unfold bits_Len.f
  rw [h]; rfl
end GW
set_option linter.unusedVariables false
set_option linter.unusedSimpArgs false
set_option linter.unusedSectionVars false
set_option maxRecDepth 100000
namespace GW
open Go Go.RowKit
theorem pow_bl (l : Nat) (h : l ≠ 0) : l < 2 ^ Sort.bitsLen l ∧ 2 ^ Sort.bitsLen l ≤ 2 * l := by
  unfold Sort.bitsLen
  rw [if_neg h]
  obtain ⟨a1, a2⟩ := (Nat.log2_eq_iff (k := l.log2) h).1 rfl
  refine ⟨a2, ?_⟩
  rw [Nat.pow_succ]; omega
theorem brk_step (a b M idx q : Nat) (r : UInt64) (xs : List (List Int)) (hab : a + 8 ≤ b) (hb : b ≤ xs.length) (hl : xs.length < 2305843009213693952) (hM1 : 1 ≤ M) (hM2 : M ≤ 2 * (b - a)) (hi : idx ≤ a + (b - a) / 4 * 2 + 1) :
    api_Address_n52_0o_3f39.l1 (a : Int) (b : Int) (M : Int) (q + 1) xs (idx : Int) (r.toNat : Int) = api_Address_n52_0o_3f39.l1 (a : Int) (b : Int) (M : Int) q (Sort.breakStep a (b - a) M (r, xs.toArray) idx).2.toList ((idx + 1 : Nat) : Int) (((Sort.breakStep a (b - a) M (r, xs.toArray) idx).1.toNat : Nat) : Int) := by
  show api_Address_n52_0o_3f39.b1 _ _ _ _ _ _ _ = _
  unfold api_Address_n52_0o_3f39.b1 Sort.breakStep
  have e1 : wr .i64 ((b : Int) - (a : Int)) = ((b - a : Nat) : Int) := wrn _ (by omega) (by omega)
  have e2 : wr .i64 (Int.tdiv ((b - a : Nat) : Int) 4) = (((b - a) / 4 : Nat) : Int) := by rw [Int.tdiv_eq_ediv_of_nonneg (by omega)]; exact wrn _ (by omega) (by omega)
  have e3 : wr .i64 ((((b - a) / 4 : Nat) : Int) * 2) = (((b - a) / 4 * 2 : Nat) : Int) := wrn _ (by omega) (by omega)
  have e4 : wr .i64 ((a : Int) + (((b - a) / 4 * 2 : Nat) : Int)) = ((a + (b - a) / 4 * 2 : Nat) : Int) := wrn _ (by omega) (by omega)
  have e5 : wr .i64 (((a + (b - a) / 4 * 2 : Nat) : Int) + 1) = ((a + (b - a) / 4 * 2 + 1 : Nat) : Int) := wrn _ (by omega) (by omega)
  have e6 : wr .u64 ((M : Int) - 1) = ((M - 1 : Nat) : Int) := by rw [wr_u64_id (by omega) (by omega)]; omega
  simp only [e1, e2, e3, e4, e5, e6, xor_next, Option.bind_some]
  rw [if_pos (show decide ((idx : Int) ≤ ((a + (b - a) / 4 * 2 + 1 : Nat) : Int)) = true from decide_eq_true (by omega))]
  rw [bits_and_u64_nat _ (M - 1) (Sort.xorNext r).toNat_lt (by omega)]
  have hle : (Sort.xorNext r).toNat &&& (M - 1) ≤ M - 1 := Nat.and_le_right
  generalize (Sort.xorNext r).toNat &&& (M - 1) = o at hle ⊢
  rw [wrn o rfl (by omega)]
  have j2 : ∀ p : Nat, p < b - a → api_Address_n52_0o_3f39.j2 (a : Int) xs (idx : Int) (api_Address_n52_0o_3f39.l1 (a : Int) (b : Int) (M : Int) q) (((Sort.xorNext r).toNat : Int), ((Sort.xorNext r).toNat : Int)) (p : Int) = api_Address_n52_0o_3f39.l1 (a : Int) (b : Int) (M : Int) q (Sort.swp xs.toArray idx (a + p)).toList ((idx + 1 : Nat) : Int) ((Sort.xorNext r).toNat : Int) := fun p hp => by
    unfold api_Address_n52_0o_3f39.j2 api_Address_n52_0o_3f39.j1
    have f1 : wr .i64 ((a : Int) + (p : Int)) = ((a + p : Nat) : Int) := wrn _ (by omega) (by omega)
    have f2 : wr .i64 ((idx : Int) + 1) = ((idx + 1 : Nat) : Int) := wrn _ (by omega) (by omega)
    simp only [f1, f2]
    rw [if_pos (by omega), if_pos (by omega), if_pos (by rw [List.length_set]; omega), swp_toArray, Int.toNat_natCast, Int.toNat_natCast]
  by_cases c : o ≥ b - a
  · rw [if_pos (show decide (((b - a : Nat) : Int) ≤ (o : Int)) = true from decide_eq_true (by omega)), wrn (o - (b - a)) (by omega) (by omega), j2 _ (by omega)]
    simp only [if_pos c]
  · rw [if_neg (show ¬ decide (((b - a : Nat) : Int) ≤ (o : Int)) = true by simp; omega), j2 _ (by omega)]
    simp only [if_neg c]
theorem brk_end (a b M idx q : Nat) (r : Int) (xs : List (List Int)) (hab : a + 8 ≤ b) (hb : b ≤ xs.length) (hl : xs.length < 2305843009213693952) (hi : a + (b - a) / 4 * 2 + 1 < idx) :
    api_Address_n52_0o_3f39.l1 (a : Int) (b : Int) (M : Int) (q + 1) xs (idx : Int) r = some xs := by
  show api_Address_n52_0o_3f39.b1 _ _ _ _ _ _ _ = _
  unfold api_Address_n52_0o_3f39.b1
  have e1 : wr .i64 ((b : Int) - (a : Int)) = ((b - a : Nat) : Int) := wrn _ (by omega) (by omega)
  have e2 : wr .i64 (Int.tdiv ((b - a : Nat) : Int) 4) = (((b - a) / 4 : Nat) : Int) := by rw [Int.tdiv_eq_ediv_of_nonneg (by omega)]; exact wrn _ (by omega) (by omega)
  have e3 : wr .i64 ((((b - a) / 4 : Nat) : Int) * 2) = (((b - a) / 4 * 2 : Nat) : Int) := wrn _ (by omega) (by omega)
  have e4 : wr .i64 ((a : Int) + (((b - a) / 4 * 2 : Nat) : Int)) = ((a + (b - a) / 4 * 2 : Nat) : Int) := wrn _ (by omega) (by omega)
  have e5 : wr .i64 (((a + (b - a) / 4 * 2 : Nat) : Int) + 1) = ((a + (b - a) / 4 * 2 + 1 : Nat) : Int) := wrn _ (by omega) (by omega)
  simp only [e1, e2, e3, e4, e5]
  rw [if_neg (by simp; omega)]
theorem breakStep_size {α : Type} [Inhabited α] (a l M : Nat) (st : UInt64 × Array α) (idx : Nat) : (Sort.breakStep a l M st idx).2.size = st.2.size := by
  unfold Sort.breakStep; simp [Sort.swp]
theorem next_pow (l : Nat) (h0 : l ≠ 0) (hl : l < 2305843009213693952) : slices_nextPowerOfTwo.f (l : Int) = some ((1 <<< Sort.bitsLen l : Nat) : Int) := by
  have hp := pow_bl l h0
  have ht : Sort.bitsLen l < 64 := by
    refine Decidable.byContradiction fun c => ?_
    have := Nat.pow_le_pow_right (n := 2) (by omega) (show 64 ≤ Sort.bitsLen l by omega)
    omega
  unfold slices_nextPowerOfTwo.f
  rw [wr_u64_id (by omega) (by omega), len_eq l (by omega), Option.bind_some, if_pos (by omega), Int.toNat_natCast, Nat.min_eq_left (by omega), Nat.shiftLeft_eq, Nat.one_mul]
  have h1 : shl .u64 1 (Sort.bitsLen l) = ((1 : Int) * 2 ^ Sort.bitsLen l) % 18446744073709551616 := wr_u64 _
  rw [h1]
  have h2 : ((2 ^ Sort.bitsLen l : Nat) : Int) = (2 : Int) ^ Sort.bitsLen l := by simp
  rw [Int.one_mul, ← h2, Int.emod_eq_of_lt (by omega) (by omega)]
theorem brk_eq (a b K : Nat) (xs : List (List Int)) (hab : a ≤ b) (hb : b ≤ xs.length) (hl : xs.length < 2305843009213693952) (hk : 10 < K) :
    api_Address_n52_0o_3f39.f K xs (a : Int) (b : Int) = some (Sort.breakPatterns xs.toArray a b).toList := by
  unfold api_Address_n52_0o_3f39.f Sort.breakPatterns
  have e1 : wr .i64 ((b : Int) - (a : Int)) = ((b - a : Nat) : Int) := wrn _ (by omega) (by omega)
  have e2 : wr .i64 (Int.tdiv ((b - a : Nat) : Int) 4) = (((b - a) / 4 : Nat) : Int) := by rw [Int.tdiv_eq_ediv_of_nonneg (by omega)]; exact wrn _ (by omega) (by omega)
  have e3 : wr .i64 ((((b - a) / 4 : Nat) : Int) * 2) = (((b - a) / 4 * 2 : Nat) : Int) := wrn _ (by omega) (by omega)
  have e4 : wr .i64 ((a : Int) + (((b - a) / 4 * 2 : Nat) : Int)) = ((a + (b - a) / 4 * 2 : Nat) : Int) := wrn _ (by omega) (by omega)
  simp only [e1, e2, e3, e4]
  by_cases c : b - a ≥ 8
  · have e5 : wr .i64 (((a + (b - a) / 4 * 2 : Nat) : Int) - 1) = ((a + (b - a) / 4 * 2 - 1 : Nat) : Int) := wrn _ (by omega) (by omega)
    have e6 : wr .u64 ((b - a : Nat) : Int) = (((UInt64.ofNat (b - a)).toNat : Nat) : Int) := by
      rw [wr_u64_id (by omega) (by omega), UInt64.toNat_ofNat_of_lt' (by show b - a < 18446744073709551616; omega)]
    have hp := pow_bl (b - a) (by omega)
    rw [if_pos (show decide ((8 : Int) ≤ ((b - a : Nat) : Int)) = true from decide_eq_true (by omega)), next_pow (b - a) (by omega) (by omega), Option.bind_some, e5, e6]
    simp only [if_pos c]
    have hM : (1 <<< Sort.bitsLen (b - a) : Nat) = 2 ^ Sort.bitsLen (b - a) := by rw [Nat.shiftLeft_eq, Nat.one_mul]
    have hM1 : 1 ≤ (1 <<< Sort.bitsLen (b - a) : Nat) := by rw [hM]; omega
    have hM2 : (1 <<< Sort.bitsLen (b - a) : Nat) ≤ 2 * (b - a) := by rw [hM]; exact hp.2
    generalize (1 <<< Sort.bitsLen (b - a) : Nat) = M at hM1 hM2 ⊢
    obtain ⟨K, rfl⟩ : ∃ m, K = m + 1 + 1 + 1 + 1 := ⟨K - 4, by omega⟩
    rw [brk_step a b M _ _ _ xs (by omega) hb hl hM1 hM2 (by omega)]
    have h1 := breakStep_size a (b - a) M (UInt64.ofNat (b - a), xs.toArray) (a + (b - a) / 4 * 2 - 1)
    generalize Sort.breakStep a (b - a) M (UInt64.ofNat (b - a), xs.toArray) (a + (b - a) / 4 * 2 - 1) = s1 at h1 ⊢
    have h1' : s1.2.toList.length = xs.length := by simpa using h1
    rw [brk_step a b M _ _ _ _ (by omega) (by omega) (by omega) hM1 hM2 (by omega), Array.toArray_toList]
    have h2 := breakStep_size a (b - a) M s1 (a + (b - a) / 4 * 2 - 1 + 1)
    rw [show (s1.1, s1.2) = s1 from rfl]
    generalize Sort.breakStep a (b - a) M s1 (a + (b - a) / 4 * 2 - 1 + 1) = s2 at h2 ⊢
    have h2' : s2.2.toList.length = xs.length := by rw [Array.length_toList, h2]; simpa using h1
    rw [brk_step a b M _ _ _ _ (by omega) (by omega) (by omega) hM1 hM2 (by omega), Array.toArray_toList]
    have h3 := breakStep_size a (b - a) M s2 (a + (b - a) / 4 * 2 - 1 + 1 + 1)
    rw [show (s2.1, s2.2) = s2 from rfl]
    rw [show a + (b - a) / 4 * 2 - 1 + 2 = a + (b - a) / 4 * 2 - 1 + 1 + 1 from rfl]
    generalize Sort.breakStep a (b - a) M s2 (a + (b - a) / 4 * 2 - 1 + 1 + 1) = s3 at h3 ⊢
    have h3' : s3.2.toList.length = xs.length := by rw [Array.length_toList, h3]; simpa using h2'
    rw [brk_end a b M _ _ _ _ (by omega) (by omega) (by omega) (by omega)]
  · rw [if_neg (show ¬ decide ((8 : Int) ≤ ((b - a : Nat) : Int)) = true by simp; omega)]
    simp only [if_neg c]
end GW
set_option linter.unusedVariables false
set_option linter.unusedSimpArgs false
set_option linter.unusedSectionVars false
set_option maxRecDepth 100000
namespace GW
open Go Go.RowKit
section
variable {cf : List Int → List Int → Int} (hC : ∀ x y, addr_Compare.f x y = some (cf x y))
include hC
theorem ord_eq (xs : List (List Int)) (a b s : Nat) (ha : a < xs.length) (hb : b < xs.length) (hs : s < 1000) :
    api_Address_n66_0o_4f39.f xs (a : Int) (b : Int) (s : Int) = some (((Sort.order2 (ltC cf) xs.toArray a b s).1 : Int), ((Sort.order2 (ltC cf) xs.toArray a b s).2.1 : Int), ((Sort.order2 (ltC cf) xs.toArray a b s).2.2 : Int)) := by
  unfold api_Address_n66_0o_4f39.f Sort.order2
  rw [if_pos (by omega), if_pos (by omega), hC, Option.bind_some, at_toArray, at_toArray]
  unfold api_Address_n66_0o_4f39.j1
  have e1 : wr .i64 ((s : Int) + 1) = ((s + 1 : Nat) : Int) := wrn _ (by omega) (by omega)
  rw [e1]
  by_cases c : cf (gt xs (b : Int)) (gt xs (a : Int)) < 0
  · rw [if_pos (decide_eq_true c), if_pos (show ltC cf (gt xs (b : Int)) (gt xs (a : Int)) = true from decide_eq_true c)]
  · rw [if_neg (by simpa using c), if_neg (by rw [show ltC cf (gt xs (b : Int)) (gt xs (a : Int)) = false from decide_eq_false c]; simp)]
omit hC in
theorem order2_lt (lt : List Int → List Int → Bool) (d : Array (List Int)) (a b s n : Nat) (ha : a < n) (hb : b < n) : (Sort.order2 lt d a b s).1 < n ∧ (Sort.order2 lt d a b s).2.1 < n ∧ (Sort.order2 lt d a b s).2.2 ≤ s + 1 := by
  unfold Sort.order2
  split
  · exact ⟨hb, ha, Nat.le_refl _⟩
  · exact ⟨ha, hb, Nat.le_succ _⟩
theorem med_eq (xs : List (List Int)) (a b c s : Nat) (ha : a < xs.length) (hb : b < xs.length) (hc : c < xs.length) (hs : s < 900) :
    api_Address_n65_0o_5f39.f xs (a : Int) (b : Int) (c : Int) (s : Int) = some (((Sort.median (ltC cf) xs.toArray a b c s).1 : Int), ((Sort.median (ltC cf) xs.toArray a b c s).2 : Int)) := by
  unfold api_Address_n65_0o_5f39.f Sort.median
  have h1 := order2_lt (ltC cf) xs.toArray a b s xs.length ha hb
  have h2 := order2_lt (ltC cf) xs.toArray (Sort.order2 (ltC cf) xs.toArray a b s).2.1 c (Sort.order2 (ltC cf) xs.toArray a b s).2.2 xs.length h1.2.1 hc
  rw [ord_eq hC xs a b s ha hb (by omega), Option.bind_some]
  simp only []
  rw [ord_eq hC xs _ c _ h1.2.1 hc (by omega), Option.bind_some]
  simp only []
  rw [ord_eq hC xs _ _ _ h1.1 h2.1 (by omega), Option.bind_some]
omit hC in
theorem median_lt (lt : List Int → List Int → Bool) (d : Array (List Int)) (a b c s n : Nat) (ha : a < n) (hb : b < n) (hc : c < n) : (Sort.median lt d a b c s).1 < n ∧ (Sort.median lt d a b c s).2 ≤ s + 3 := by
  unfold Sort.median
  have h1 := order2_lt lt d a b s n ha hb
  have h2 := order2_lt lt d (Sort.order2 lt d a b s).2.1 c (Sort.order2 lt d a b s).2.2 n h1.2.1 hc
  have h3 := order2_lt lt d (Sort.order2 lt d a b s).1 (Sort.order2 lt d (Sort.order2 lt d a b s).2.1 c (Sort.order2 lt d a b s).2.2).1 (Sort.order2 lt d (Sort.order2 lt d a b s).2.1 c (Sort.order2 lt d a b s).2.2).2.2 n h1.1 h2.1
  exact ⟨h3.2.1, Nat.le_trans h3.2.2 (by omega)⟩
theorem madj_eq (xs : List (List Int)) (a s : Nat) (h0 : 1 ≤ a) (ha : a + 1 < xs.length) (hl : xs.length < 2305843009213693952) (hs : s < 900) :
    api_Address_n64_0o_3f39.f xs (a : Int) (s : Int) = some (((Sort.medianAdjacent (ltC cf) xs.toArray a s).1 : Int), ((Sort.medianAdjacent (ltC cf) xs.toArray a s).2 : Int)) := by
  unfold api_Address_n64_0o_3f39.f Sort.medianAdjacent
  have e1 : wr .i64 ((a : Int) - 1) = ((a - 1 : Nat) : Int) := wrn _ (by omega) (by omega)
  have e2 : wr .i64 ((a : Int) + 1) = ((a + 1 : Nat) : Int) := wrn _ (by omega) (by omega)
  rw [e1, e2, med_eq hC xs (a - 1) a (a + 1) s (by omega) (by omega) (by omega) hs, Option.bind_some]
def hintN : Sort.Hint → Int
  | .unknown => 0
  | .increasing => 1
  | .decreasing => 2
theorem piv_eq (xs : List (List Int)) (a b : Nat) (hab : a < b) (hb : b ≤ xs.length) (hl : xs.length < 2305843009213693952) :
    api_Address_n53_0o_3f39.f xs (a : Int) (b : Int) = some (((Sort.choosePivot (ltC cf) xs.toArray a b).1 : Int), hintN (Sort.choosePivot (ltC cf) xs.toArray a b).2) := by
  unfold api_Address_n53_0o_3f39.f Sort.choosePivot
  have e1 : wr .i64 ((b : Int) - (a : Int)) = ((b - a : Nat) : Int) := wrn _ (by omega) (by omega)
  have e2 : wr .i64 (Int.tdiv ((b - a : Nat) : Int) 4) = (((b - a) / 4 : Nat) : Int) := by rw [Int.tdiv_eq_ediv_of_nonneg (by omega)]; exact wrn _ (by omega) (by omega)
  have e3 : ∀ m : Nat, m ≤ 3 → wr .i64 ((((b - a) / 4 : Nat) : Int) * (m : Int)) = (((b - a) / 4 * m : Nat) : Int) := fun m hm => wrn _ (by simp) (by
    have : (b - a) / 4 * m ≤ (b - a) / 4 * 3 := Nat.mul_le_mul_left _ hm
    omega)
  have e4 : ∀ m : Nat, m ≤ 3 → wr .i64 ((a : Int) + (((b - a) / 4 * m : Nat) : Int)) = ((a + (b - a) / 4 * m : Nat) : Int) := fun m hm => wrn _ (by omega) (by
    have : (b - a) / 4 * m ≤ (b - a) / 4 * 3 := Nat.mul_le_mul_left _ hm
    omega)
  have m1 := e3 1 (by omega); have m2 := e3 2 (by omega); have m3 := e3 3 (by omega)
  have n1 := e4 1 (by omega); have n2 := e4 2 (by omega); have n3 := e4 3 (by omega)
  have fin : ∀ (p s : Nat), api_Address_n53_0o_3f39.j1 (p : Int) (s : Int) = some ((p : Int), hintN (if s = 0 then .increasing else if s = 12 then .decreasing else .unknown)) := fun p s => by
    unfold api_Address_n53_0o_3f39.j1
    by_cases c0 : s = 0
    · subst c0; simp [hintN]
    · by_cases c1 : s = 12
      · subst c1; simp [hintN]
      · rw [if_neg (by simp; omega), if_neg (by simp; omega), if_neg c0, if_neg c1]; rfl
  simp only [e1, e2]
  rw [show (1 : Int) = ((1 : Nat) : Int) from rfl, show (2 : Int) = ((2 : Nat) : Int) from rfl, show (3 : Int) = ((3 : Nat) : Int) from rfl, m1, m2, m3, n1, n2, n3]
  have j2 : ∀ (p q r t : Nat), p < xs.length → q < xs.length → r < xs.length → t < 900 → api_Address_n53_0o_3f39.j2 xs (r : Int) (q : Int) (p : Int) (t : Int) = some (((Sort.median (ltC cf) xs.toArray p q r t).1 : Int), hintN (if (Sort.median (ltC cf) xs.toArray p q r t).2 = 0 then .increasing else if (Sort.median (ltC cf) xs.toArray p q r t).2 = 12 then .decreasing else .unknown)) := fun p q r t hp hq hr ht => by
    unfold api_Address_n53_0o_3f39.j2
    rw [med_eq hC xs p q r t hp hq hr ht, Option.bind_some]
    exact fin _ _
  by_cases c8 : b - a ≥ 8
  · rw [if_pos (show decide ((8 : Int) ≤ ((b - a : Nat) : Int)) = true from decide_eq_true (by omega))]
    simp only [if_pos c8]
    by_cases c50 : b - a ≥ 50
    · rw [if_pos (show decide ((50 : Int) ≤ ((b - a : Nat) : Int)) = true from decide_eq_true (by omega))]
      simp only [if_pos c50]
      have b1 : 1 ≤ a + (b - a) / 4 * 1 ∧ a + (b - a) / 4 * 1 + 1 < xs.length := by omega
      have b2 : 1 ≤ a + (b - a) / 4 * 2 ∧ a + (b - a) / 4 * 2 + 1 < xs.length := by omega
      have b3 : 1 ≤ a + (b - a) / 4 * 3 ∧ a + (b - a) / 4 * 3 + 1 < xs.length := by omega
      have q1 : (Sort.medianAdjacent (ltC cf) xs.toArray (a + (b - a) / 4 * 1) 0).1 < xs.length ∧ (Sort.medianAdjacent (ltC cf) xs.toArray (a + (b - a) / 4 * 1) 0).2 ≤ 0 + 3 := median_lt (ltC cf) xs.toArray _ _ _ 0 xs.length (by omega) (by omega) (by omega)
      have g1 := madj_eq hC xs (a + (b - a) / 4 * 1) 0 b1.1 b1.2 hl (by omega)
      rw [show (((0 : Nat) : Int)) = (0 : Int) from rfl] at g1
      rw [g1, Option.bind_some]
      generalize Sort.medianAdjacent (ltC cf) xs.toArray (a + (b - a) / 4 * 1) 0 = r1 at q1 ⊢
      simp only []
      have q2 : (Sort.medianAdjacent (ltC cf) xs.toArray (a + (b - a) / 4 * 2) r1.2).1 < xs.length ∧ (Sort.medianAdjacent (ltC cf) xs.toArray (a + (b - a) / 4 * 2) r1.2).2 ≤ r1.2 + 3 := median_lt (ltC cf) xs.toArray _ _ _ _ xs.length (by omega) (by omega) (by omega)
      rw [madj_eq hC xs (a + (b - a) / 4 * 2) r1.2 b2.1 b2.2 hl (by omega), Option.bind_some]
      generalize Sort.medianAdjacent (ltC cf) xs.toArray (a + (b - a) / 4 * 2) r1.2 = r2 at q2 ⊢
      simp only []
      have q3 : (Sort.medianAdjacent (ltC cf) xs.toArray (a + (b - a) / 4 * 3) r2.2).1 < xs.length ∧ (Sort.medianAdjacent (ltC cf) xs.toArray (a + (b - a) / 4 * 3) r2.2).2 ≤ r2.2 + 3 := median_lt (ltC cf) xs.toArray _ _ _ _ xs.length (by omega) (by omega) (by omega)
      rw [madj_eq hC xs (a + (b - a) / 4 * 3) r2.2 b3.1 b3.2 hl (by omega), Option.bind_some]
      generalize Sort.medianAdjacent (ltC cf) xs.toArray (a + (b - a) / 4 * 3) r2.2 = r3 at q3 ⊢
      simp only []
      exact j2 r1.1 r2.1 r3.1 r3.2 q1.1 q2.1 q3.1 (by omega)
    · rw [if_neg (show ¬ decide ((50 : Int) ≤ ((b - a : Nat) : Int)) = true by simp; omega)]
      simp only [if_neg c50]
      exact j2 _ _ _ 0 (by omega) (by omega) (by omega) (by omega)
  · rw [if_neg (show ¬ decide ((8 : Int) ≤ ((b - a : Nat) : Int)) = true by simp; omega)]
    simp only [if_neg c8]
    exact fin _ 0
end
end GW
set_option linter.unusedVariables false
set_option linter.unusedSimpArgs false
set_option linter.unusedSectionVars false
set_option maxRecDepth 100000
namespace GW
open Go Go.RowKit
theorem rev_loop : ∀ (r i j q : Nat) (xs : List (List Int)), j ≤ i + r → r < q → j < xs.length → xs.length < 2305843009213693952 →
    api_Address_n54_0o_3f39.l1 q xs (j : Int) (i : Int) = some (Sort.reverseLoop i j xs.toArray).toList
  | r, i, j, q, xs, h, hq, hj, hl => by
    obtain ⟨q, rfl⟩ : ∃ m, q = m + 1 := ⟨q - 1, by omega⟩
    show api_Address_n54_0o_3f39.b1 _ _ _ _ = _
    unfold api_Address_n54_0o_3f39.b1
    rw [Sort.reverseLoop]
    by_cases c : i < j
    · obtain ⟨r, rfl⟩ : ∃ m, r = m + 1 := ⟨r - 1, by omega⟩
      rw [if_pos (decide_eq_true (by omega)), if_pos c, if_pos (by omega), if_pos (by omega), if_pos (by rw [List.length_set]; omega)]
      unfold api_Address_n54_0o_3f39.j1
      have e1 : wr .i64 ((j : Int) - 1) = ((j - 1 : Nat) : Int) := wrn _ (by omega) (by omega)
      have e2 : wr .i64 ((i : Int) + 1) = ((i + 1 : Nat) : Int) := wrn _ (by omega) (by omega)
      have hw : ((xs.set (Int.toNat (i : Int)) (gt xs (j : Int))).set (Int.toNat (j : Int)) (gt xs (i : Int))) = (Sort.swp xs.toArray i j).toList := by rw [swp_toArray, Int.toNat_natCast, Int.toNat_natCast]
      have hl2 := swp_len xs i j
      rw [e1, e2, hw, rev_loop r (i + 1) (j - 1) q _ (by omega) (by omega) (by omega) (by omega), Array.toArray_toList]
    · rw [if_neg (by simp; omega), if_neg c]
theorem rev_eq (a b K : Nat) (xs : List (List Int)) (hab : a < b) (hb : b ≤ xs.length) (hl : xs.length < 2305843009213693952) (hk : xs.length + 1 < K) :
    api_Address_n54_0o_3f39.f K xs (a : Int) (b : Int) = some (Sort.reverseRange xs.toArray a b).toList := by
  unfold api_Address_n54_0o_3f39.f Sort.reverseRange
  rw [show wr .i64 ((b : Int) - 1) = ((b - 1 : Nat) : Int) from wrn _ (by omega) (by omega)]
  exact rev_loop b a (b - 1) K xs (by omega) (by omega) (by omega) hl
end GW
set_option linter.unusedVariables false
set_option linter.unusedSimpArgs false
set_option linter.unusedSectionVars false
set_option maxRecDepth 100000
namespace GW
open Go Go.RowKit
section
variable {cf : List Int → List Int → Int} (hC : ∀ x y, addr_Compare.f x y = some (cf x y))
include hC
theorem pdq_front (K a b lim : Nat) (self0 : api_Address_n47_0o_4f39.Ty) (rec1 : List (List Int) → Bool → Bool → Int → Int → Int → Option (List (List Int))) (d : Array (List Int)) (wb wp : Bool) (hab : ¬ b - a ≤ 12) (h0 : ¬ lim = 0) (hlim : lim < 1000000) (hb : b ≤ d.size) (hl : d.size < 2305843009213693952) (hK : d.size + 20 ≤ K) :
    api_Address_n47_0o_4f39.b1 K self0 rec1 d.toList wp wb (a : Int) (b : Int) (lim : Int) =
      (let d1 := if (!wb) = true then Sort.breakPatterns d a b else d
       let limit := if (!wb) = true then lim - 1 else lim
       let c := Sort.choosePivot (ltC cf) d1 a b
       let d2 := if c.2 = .decreasing then Sort.reverseRange d1 a b else d1
       let pivot := if c.2 = .decreasing then (b - 1) - (c.1 - a) else c.1
       let hint := if c.2 = .decreasing then Sort.Hint.increasing else c.2
       let pi := if (wb && wp && decide (hint = .increasing)) = true then Sort.partialInsertionSort (ltC cf) d2 a b else (d2, false)
       if pi.2 = true then some pi.1.toList else api_Address_n47_0o_4f39.j3 K self0 wp wb (a : Int) (b : Int) rec1 (limit : Int) (pivot : Int) pi.1.toList) := by
  have hdl : d.toList.length = d.size := Array.length_toList
  have e1 : wr .i64 ((b : Int) - (a : Int)) = ((b - a : Nat) : Int) := wrn _ (by omega) (by omega)
  have e2 : wr .i64 ((b : Int) - 1) = ((b - 1 : Nat) : Int) := wrn _ (by omega) (by omega)
  have hj5 : ∀ (limit pivot : Nat) (d2 : Array (List Int)), d2.size = d.size → ∀ (hint : Sort.Hint), api_Address_n47_0o_4f39.j2 K self0 wp wb (a : Int) (b : Int) rec1 (limit : Int) d2.toList (hintN hint) (pivot : Int) =
      (let pi := if (wb && wp && decide (hint = .increasing)) = true then Sort.partialInsertionSort (ltC cf) d2 a b else (d2, false)
       if pi.2 = true then some pi.1.toList else api_Address_n47_0o_4f39.j3 K self0 wp wb (a : Int) (b : Int) rec1 (limit : Int) (pivot : Int) pi.1.toList) := fun limit pivot d2 h2 hint => by
    have h2l : d2.toList.length = d.size := by rw [Array.length_toList, h2]
    have hp := pins_eq hC a b K d2.toList (by omega) (by omega) (by omega) (by omega)
    rw [Array.toArray_toList] at hp
    unfold api_Address_n47_0o_4f39.j2 api_Address_n47_0o_4f39.j5
    cases wb <;> cases wp <;> cases hint <;> simp [hintN, hp]
  have hj1 : ∀ (limit : Nat) (d1 : Array (List Int)), d1.size = d.size → api_Address_n47_0o_4f39.j1 K self0 wp wb (a : Int) (b : Int) rec1 d1.toList (limit : Int) =
      (let c := Sort.choosePivot (ltC cf) d1 a b
       let d2 := if c.2 = .decreasing then Sort.reverseRange d1 a b else d1
       let pivot := if c.2 = .decreasing then (b - 1) - (c.1 - a) else c.1
       let hint := if c.2 = .decreasing then Sort.Hint.increasing else c.2
       let pi := if (wb && wp && decide (hint = .increasing)) = true then Sort.partialInsertionSort (ltC cf) d2 a b else (d2, false)
       if pi.2 = true then some pi.1.toList else api_Address_n47_0o_4f39.j3 K self0 wp wb (a : Int) (b : Int) rec1 (limit : Int) (pivot : Int) pi.1.toList) := fun limit d1 h1 => by
    have h1l : d1.toList.length = d.size := by rw [Array.length_toList, h1]
    have hp := piv_eq hC d1.toList a b (by omega) (by omega) (by omega)
    have hr := rev_eq a b K d1.toList (by omega) (by omega) (by omega) (by omega)
    rw [Array.toArray_toList] at hp hr
    have hc := Sort.choosePivot_holds (ltC cf) d1 a b (by omega)
    unfold api_Address_n47_0o_4f39.j1
    rw [hp, Option.bind_some]
    generalize Sort.choosePivot (ltC cf) d1 a b = c at hc ⊢
    obtain ⟨c1, c2⟩ := c
    simp only at hc ⊢
    have e3 : wr .i64 ((c1 : Int) - (a : Int)) = ((c1 - a : Nat) : Int) := wrn _ (by omega) (by omega)
    have e4 : wr .i64 (((b - 1 : Nat) : Int) - ((c1 - a : Nat) : Int)) = ((b - 1 - (c1 - a) : Nat) : Int) := wrn _ (by omega) (by omega)
    have hsz := (Sort.reverseRange_holds d1 a b (by omega) (by omega)).1
    cases c2 with
    | decreasing =>
      rw [if_pos (show (hintN Sort.Hint.decreasing == 2) = true from rfl), hr, Option.bind_some, e2, e3, e4]
      simp only [if_true]
      exact hj5 limit (b - 1 - (c1 - a)) (Sort.reverseRange d1 a b) (by omega) .increasing
    | unknown =>
      rw [if_neg (show ¬ (hintN Sort.Hint.unknown == 2) = true from by decide)]
      have := hj5 limit c1 d1 h1 .unknown
      simpa using this
    | increasing =>
      rw [if_neg (show ¬ (hintN Sort.Hint.increasing == 2) = true from by decide)]
      have := hj5 limit c1 d1 h1 .increasing
      simpa using this
  unfold api_Address_n47_0o_4f39.b1
  rw [e1, if_neg (show ¬ decide (((b - a : Nat) : Int) ≤ 12) = true by simp; omega), if_neg (show ¬ ((lim : Int) == 0) = true by simp; omega)]
  cases wb with
  | true => simpa using hj1 lim d rfl
  | false =>
    have hbk := brk_eq a b K d.toList (by omega) (by omega) (by omega) (by omega)
    rw [Array.toArray_toList] at hbk
    have e5 : wr .i64 ((lim : Int) - 1) = ((lim - 1 : Nat) : Int) := wrn _ (by omega) (by omega)
    have hsz := (Sort.breakPatterns_holds d a b (by omega) (by omega)).1
    rw [if_pos (show (!false) = true from rfl), hbk, Option.bind_some, e5]
    have := hj1 (lim - 1) (Sort.breakPatterns d a b) hsz
    simpa using this
theorem pdq_j3 (K a b lim pivot : Nat) (self0 : api_Address_n47_0o_4f39.Ty) (rec1 : List (List Int) → Bool → Bool → Int → Int → Int → Option (List (List Int))) (d : Array (List Int)) (wb wp : Bool) (hp : pivot < b) (ha : a ≤ b) (hb : b ≤ d.size) (hl : d.size < 2305843009213693952) :
    api_Address_n47_0o_4f39.j3 K self0 wp wb (a : Int) (b : Int) rec1 (lim : Int) (pivot : Int) d.toList = api_Address_n47_0o_4f39.j4 K self0 wp wb (a : Int) (b : Int) rec1 (lim : Int) (pivot : Int) d.toList (decide (a > 0) && !ltC cf d[a - 1]! d[pivot]!) := by
  have hdl : d.toList.length = d.size := Array.length_toList
  unfold api_Address_n47_0o_4f39.j3
  by_cases c : 0 < a
  · have e1 : wr .i64 ((a : Int) - 1) = ((a - 1 : Nat) : Int) := wrn _ (by omega) (by omega)
    rw [if_pos (show decide ((0 : Int) < (a : Int)) = true from decide_eq_true (by omega)), e1, if_pos (by omega), if_pos (by omega), hC, Option.bind_some]
    have h1 := at_toArray d.toList (a - 1)
    have h2 := at_toArray d.toList pivot
    rw [Array.toArray_toList] at h1 h2
    rw [h1, h2, decide_eq_true c, Bool.true_and]; rfl
  · rw [if_neg (show ¬ decide ((0 : Int) < (a : Int)) = true by simp; omega), decide_eq_false c, Bool.false_and]
omit hC in
theorem pdq_fin (F N : Nat) (e : Array (List Int)) (a b lim : Nat) (X : Option (List (List Int))) (hF : N + 20 + (b - a) < F) (hh : ∀ K F q, N + 20 + (b - a) ≤ K → N + 20 + (b - a) ≤ F → b - a < q → api_Address_n47_0o_4f39.l1 K (api_Address_n47_0o_4f39.f F) q e.toList true true (a : Int) (b : Int) (lim : Int) = X) : api_Address_n47_0o_4f39.f F e.toList (a : Int) (b : Int) (lim : Int) = X := by
  obtain ⟨F, rfl⟩ : ∃ m, F = m + 1 := ⟨F - 1, by omega⟩
  exact hh F F F (by omega) (by omega) (by omega)
theorem pdq_loop (h : Sort.SWO (ltC cf)) (d : Array (List Int)) (a b limit : Nat) (wb wp : Bool) : a ≤ b → b ≤ d.size → Sort.Below (ltC cf) a b d → d.size < 2305843009213693952 → limit < 1000000 → ∀ K F q, d.size + 20 + (b - a) ≤ K → d.size + 20 + (b - a) ≤ F → b - a < q →
    api_Address_n47_0o_4f39.l1 K (api_Address_n47_0o_4f39.f F) q d.toList wp wb (a : Int) (b : Int) (limit : Int) = some (Sort.pdq (ltC cf) d a b limit wb wp).toList := by
  fun_induction Sort.pdq (ltC cf) d a b limit wb wp
  case case1 d a b limit wb wp h12 =>
    intro hab hb _ hl hlim K F q hK hF hq
    obtain ⟨q, rfl⟩ : ∃ m, q = m + 1 := ⟨q - 1, by omega⟩
    have hdl : d.toList.length = d.size := Array.length_toList
    show api_Address_n47_0o_4f39.b1 _ _ _ _ _ _ _ _ _ = _
    unfold api_Address_n47_0o_4f39.b1
    have := ins_eq hC a b K d.toList hab (by omega) (by omega) (by omega)
    rw [Array.toArray_toList] at this
    rw [show wr .i64 ((b : Int) - (a : Int)) = ((b - a : Nat) : Int) from wrn _ (by omega) (by omega), if_pos (show decide (((b - a : Nat) : Int) ≤ 12) = true from decide_eq_true (by omega)), this]; rfl
  case case2 d a b wb wp h12 =>
    intro hab hb _ hl hlim K F q hK hF hq
    obtain ⟨q, rfl⟩ : ∃ m, q = m + 1 := ⟨q - 1, by omega⟩
    have hdl : d.toList.length = d.size := Array.length_toList
    show api_Address_n47_0o_4f39.b1 _ _ _ _ _ _ _ _ _ = _
    unfold api_Address_n47_0o_4f39.b1
    have := heap_eq hC a b K d.toList hab (by omega) (by omega) (by omega)
    rw [Array.toArray_toList] at this
    rw [show wr .i64 ((b : Int) - (a : Int)) = ((b - a : Nat) : Int) from wrn _ (by omega) (by omega), if_neg (show ¬ decide (((b - a : Nat) : Int) ≤ 12) = true by simp; omega), if_pos (show (((0 : Nat) : Int) == 0) = true from rfl), this]; rfl
  case case3 d a b limit wb wp h12 hl0 d1 c d2 hint pi hpi2 =>
    intro hab hb hB hl hlim K F q hK hF hq
    obtain ⟨q, rfl⟩ : ∃ m, q = m + 1 := ⟨q - 1, by omega⟩
    refine (pdq_front hC K a b limit (api_Address_n47_0o_4f39.f F) _ d wb wp h12 hl0 hlim hb hl (by omega)).trans ?_
    exact if_pos hpi2
  case case4 d a b limit0 wb wp h12 hl0 d1 limit c d2 pivot hint pi hpi2 d3 hc mid d4 hx hg ih1 =>
    intro hab hb hB hl hlim K F q hK hF hq
    obtain ⟨q, rfl⟩ : ∃ m, q = m + 1 := ⟨q - 1, by omega⟩
    refine (pdq_front hC K a b limit0 (api_Address_n47_0o_4f39.f F) _ d wb wp h12 hl0 hlim hb hl (by omega)).trans ?_
    refine (if_neg hpi2).trans ?_
    have s1 : Sort.PermIn a b d d1 := Sort.step_break d hab hb _
    have b1 : b ≤ d1.size := by rw [s1.1]; exact hb
    have s2 : Sort.PermIn a b d1 d2 := Sort.step_reverse Sort.reverseRange_holds d1 hab b1 _
    have b2 : b ≤ d2.size := by rw [s2.1]; exact b1
    have B2 : Sort.Below (ltC cf) a b d2 := (hB.perm hb s1).perm b1 s2
    have s3 := Sort.step_partial (Sort.partialInsertionSort_holds (lt := ltC cf)) h d2 (a := a) (b := b) (by omega) b2 B2 ((wb && wp && decide (hint = Sort.Hint.increasing)) = true)
    have s3' : Sort.PermIn a b d2 d3 := s3.1
    have b3 : b ≤ d3.size := by rw [s3'.1]; exact b2
    have e3 : d3.size = d.size := by rw [s3'.1, s2.1, s1.1]
    have B3 : Sort.Below (ltC cf) a b d3 := B2.perm b2 s3'
    have hc0 := Sort.choosePivot_holds (ltC cf) d1 a b (by omega)
    have hpv : a ≤ pivot ∧ pivot < b := Sort.pivot_range hc0.1 hc0.2 _
    refine (pdq_j3 hC K a b limit pivot (api_Address_n47_0o_4f39.f F) _ d3 wb wp hpv.2 hab b3 (by omega)).trans ?_
    have hpe := peq_eq hC a b pivot K d3.toList hpv.1 hpv.2 (by rw [Array.length_toList]; exact b3) (by rw [Array.length_toList]; omega) (by rw [Array.length_toList]; omega)
    rw [Array.toArray_toList, hx] at hpe
    unfold api_Address_n47_0o_4f39.j4
    rw [if_pos hc, hpe, Option.bind_some]
    simp only [Bool.and_eq_true, decide_eq_true_eq, Bool.not_eq_true'] at hc
    obtain ⟨_, hm2, hs4, hB4, hfin⟩ := Sort.round_eq h (Sort.partitionEqual_holds (lt := ltC cf)) hc.1 hpv.1 hpv.2 b3 B3 hc.2 hx
    have hlim2 : limit ≤ limit0 := by show (if _ then _ else _) ≤ _; (split; exact Nat.sub_le _ _; exact Nat.le_refl _)
    exact ih1 hm2 (by rw [hs4]; exact b3) hB4 (by omega) (by omega) K F q (by omega) (by omega) (by omega)
  case case5 d a b limit wb wp h12 hl0 d1 c d2 pivot hint pi hpi2 d3 hc mid d4 hx hg =>
    intro hab hb hB
    have s1 : Sort.PermIn a b d d1 := Sort.step_break d hab hb _
    have b1 : b ≤ d1.size := by rw [s1.1]; exact hb
    have s2 : Sort.PermIn a b d1 d2 := Sort.step_reverse Sort.reverseRange_holds d1 hab b1 _
    have b2 : b ≤ d2.size := by rw [s2.1]; exact b1
    have B2 : Sort.Below (ltC cf) a b d2 := (hB.perm hb s1).perm b1 s2
    have s3 := Sort.step_partial (Sort.partialInsertionSort_holds (lt := ltC cf)) h d2 (a := a) (b := b) (by omega) b2 B2 ((wb && wp && decide (hint = Sort.Hint.increasing)) = true)
    have s3' : Sort.PermIn a b d2 d3 := s3.1
    have b3 : b ≤ d3.size := by rw [s3'.1]; exact b2
    have B3 : Sort.Below (ltC cf) a b d3 := B2.perm b2 s3'
    have hc0 := Sort.choosePivot_holds (ltC cf) d1 a b (by omega)
    have hpv : a ≤ pivot ∧ pivot < b := Sort.pivot_range hc0.1 hc0.2 _
    simp only [Bool.and_eq_true, decide_eq_true_eq, Bool.not_eq_true'] at hc
    obtain ⟨g1, g2, _⟩ := Sort.round_eq h (Sort.partitionEqual_holds (lt := ltC cf)) hc.1 hpv.1 hpv.2 b3 B3 hc.2 hx
    exact absurd ⟨g1, g2⟩ hg
  case case6 d a b limit0 wb wp h12 hl0 d1 limit c d2 pivot hint pi hpi2 d3 hc mid ap d4 hx hg hlt ih3 ih2 ih1 =>
    intro hab hb hB hl hlim K F q hK hF hq
    obtain ⟨q, rfl⟩ : ∃ m, q = m + 1 := ⟨q - 1, by omega⟩
    refine (pdq_front hC K a b limit0 (api_Address_n47_0o_4f39.f F) _ d wb wp h12 hl0 hlim hb hl (by omega)).trans ?_
    refine (if_neg hpi2).trans ?_
    have s1 : Sort.PermIn a b d d1 := Sort.step_break d hab hb _
    have b1 : b ≤ d1.size := by rw [s1.1]; exact hb
    have s2 : Sort.PermIn a b d1 d2 := Sort.step_reverse Sort.reverseRange_holds d1 hab b1 _
    have b2 : b ≤ d2.size := by rw [s2.1]; exact b1
    have B2 : Sort.Below (ltC cf) a b d2 := (hB.perm hb s1).perm b1 s2
    have s3 := Sort.step_partial (Sort.partialInsertionSort_holds (lt := ltC cf)) h d2 (a := a) (b := b) (by omega) b2 B2 ((wb && wp && decide (hint = Sort.Hint.increasing)) = true)
    have s3' : Sort.PermIn a b d2 d3 := s3.1
    have b3 : b ≤ d3.size := by rw [s3'.1]; exact b2
    have e3 : d3.size = d.size := by rw [s3'.1, s2.1, s1.1]
    have B3 : Sort.Below (ltC cf) a b d3 := B2.perm b2 s3'
    have hc0 := Sort.choosePivot_holds (ltC cf) d1 a b (by omega)
    have hpv : a ≤ pivot ∧ pivot < b := Sort.pivot_range hc0.1 hc0.2 _
    refine (pdq_j3 hC K a b limit pivot (api_Address_n47_0o_4f39.f F) _ d3 wb wp hpv.2 hab b3 (by omega)).trans ?_
    have hpe := part_eq hC a b pivot K d3.toList hpv.1 hpv.2 (by rw [Array.length_toList]; exact b3) (by rw [Array.length_toList]; omega) (by rw [Array.length_toList]; omega)
    rw [Array.toArray_toList, hx] at hpe
    unfold api_Address_n47_0o_4f39.j4
    rw [if_neg hc, hpe, Option.bind_some]
    obtain ⟨g1, g2, hs4, hBa, hBr, hleft, _⟩ := Sort.round_part h (Sort.partition_holds (lt := ltC cf)) hpv.1 hpv.2 b3 B3 hx
    have hlim2 : limit ≤ limit0 := by show (if _ then _ else _) ≤ _; (split; exact Nat.sub_le _ _; exact Nat.le_refl _)
    have f1 : wr .i64 ((mid : Int) - (a : Int)) = ((mid - a : Nat) : Int) := wrn _ (by omega) (by omega)
    have f2 : wr .i64 ((b : Int) - (mid : Int)) = ((b - mid : Nat) : Int) := wrn _ (by omega) (by omega)
    have f3 : wr .i64 ((b : Int) - (a : Int)) = ((b - a : Nat) : Int) := wrn _ (by omega) (by omega)
    have f4 : wr .i64 (Int.tdiv ((b - a : Nat) : Int) 8) = (((b - a) / 8 : Nat) : Int) := by rw [Int.tdiv_eq_ediv_of_nonneg (by omega)]; exact wrn _ (by omega) (by omega)
    have f5 : wr .i64 ((mid : Int) + 1) = ((mid + 1 : Nat) : Int) := wrn _ (by omega) (by omega)
    simp only [f1, f2, f3, f4, f5]
    rw [if_pos (show decide (((mid - a : Nat) : Int) < ((b - mid : Nat) : Int)) = true from decide_eq_true (by omega))]
    have hb4 : b ≤ d4.size := by omega
    obtain ⟨l1, l2⟩ := Sort.pdq_holds (Sort.insertionSort_holds (lt := ltC cf)) (Sort.heapSort_holds (lt := ltC cf)) (Sort.partialInsertionSort_holds (lt := ltC cf)) (Sort.partition_holds (lt := ltC cf)) (Sort.partitionEqual_holds (lt := ltC cf)) Sort.reverseRange_holds h d4 a mid limit true true g1 (by omega) hBa
    obtain ⟨hBL, hfin⟩ := hleft _ l1 l2
    rw [pdq_fin F d4.size d4 a mid limit _ (by omega) (fun K F q k1 k2 k3 => ih3 g1 (by omega) hBa (by omega) (by omega) K F q (by omega) (by omega) k3), Option.bind_some]
    have := ih1 (by omega) (by rw [l1.1]; exact hb4) hBL (by rw [l1.1]; omega) (by omega) K F q (by rw [l1.1]; omega) (by rw [l1.1]; omega) (by omega)
    rw [← this]
    congr 1
    simp only [ge_iff_le, decide_eq_decide]; omega
  case case7 d a b limit0 wb wp h12 hl0 d1 limit c d2 pivot hint pi hpi2 d3 hc mid ap d4 hx hg hlt ih3 ih2 ih1 =>
    intro hab hb hB hl hlim K F q hK hF hq
    obtain ⟨q, rfl⟩ : ∃ m, q = m + 1 := ⟨q - 1, by omega⟩
    refine (pdq_front hC K a b limit0 (api_Address_n47_0o_4f39.f F) _ d wb wp h12 hl0 hlim hb hl (by omega)).trans ?_
    refine (if_neg hpi2).trans ?_
    have s1 : Sort.PermIn a b d d1 := Sort.step_break d hab hb _
    have b1 : b ≤ d1.size := by rw [s1.1]; exact hb
    have s2 : Sort.PermIn a b d1 d2 := Sort.step_reverse Sort.reverseRange_holds d1 hab b1 _
    have b2 : b ≤ d2.size := by rw [s2.1]; exact b1
    have B2 : Sort.Below (ltC cf) a b d2 := (hB.perm hb s1).perm b1 s2
    have s3 := Sort.step_partial (Sort.partialInsertionSort_holds (lt := ltC cf)) h d2 (a := a) (b := b) (by omega) b2 B2 ((wb && wp && decide (hint = Sort.Hint.increasing)) = true)
    have s3' : Sort.PermIn a b d2 d3 := s3.1
    have b3 : b ≤ d3.size := by rw [s3'.1]; exact b2
    have e3 : d3.size = d.size := by rw [s3'.1, s2.1, s1.1]
    have B3 : Sort.Below (ltC cf) a b d3 := B2.perm b2 s3'
    have hc0 := Sort.choosePivot_holds (ltC cf) d1 a b (by omega)
    have hpv : a ≤ pivot ∧ pivot < b := Sort.pivot_range hc0.1 hc0.2 _
    refine (pdq_j3 hC K a b limit pivot (api_Address_n47_0o_4f39.f F) _ d3 wb wp hpv.2 hab b3 (by omega)).trans ?_
    have hpe := part_eq hC a b pivot K d3.toList hpv.1 hpv.2 (by rw [Array.length_toList]; exact b3) (by rw [Array.length_toList]; omega) (by rw [Array.length_toList]; omega)
    rw [Array.toArray_toList, hx] at hpe
    unfold api_Address_n47_0o_4f39.j4
    rw [if_neg hc, hpe, Option.bind_some]
    obtain ⟨g1, g2, hs4, hBa, hBr, _, hright⟩ := Sort.round_part h (Sort.partition_holds (lt := ltC cf)) hpv.1 hpv.2 b3 B3 hx
    have hlim2 : limit ≤ limit0 := by show (if _ then _ else _) ≤ _; (split; exact Nat.sub_le _ _; exact Nat.le_refl _)
    have f1 : wr .i64 ((mid : Int) - (a : Int)) = ((mid - a : Nat) : Int) := wrn _ (by omega) (by omega)
    have f2 : wr .i64 ((b : Int) - (mid : Int)) = ((b - mid : Nat) : Int) := wrn _ (by omega) (by omega)
    have f3 : wr .i64 ((b : Int) - (a : Int)) = ((b - a : Nat) : Int) := wrn _ (by omega) (by omega)
    have f4 : wr .i64 (Int.tdiv ((b - a : Nat) : Int) 8) = (((b - a) / 8 : Nat) : Int) := by rw [Int.tdiv_eq_ediv_of_nonneg (by omega)]; exact wrn _ (by omega) (by omega)
    have f5 : wr .i64 ((mid : Int) + 1) = ((mid + 1 : Nat) : Int) := wrn _ (by omega) (by omega)
    simp only [f1, f2, f3, f4, f5]
    rw [if_neg (show ¬ decide (((mid - a : Nat) : Int) < ((b - mid : Nat) : Int)) = true by simp; omega)]
    have hb4 : b ≤ d4.size := by omega
    obtain ⟨l1, l2⟩ := Sort.pdq_holds (Sort.insertionSort_holds (lt := ltC cf)) (Sort.heapSort_holds (lt := ltC cf)) (Sort.partialInsertionSort_holds (lt := ltC cf)) (Sort.partition_holds (lt := ltC cf)) (Sort.partitionEqual_holds (lt := ltC cf)) Sort.reverseRange_holds h d4 (mid + 1) b limit true true (by omega) (by omega) hBr
    obtain ⟨hBL, hfin⟩ := hright _ l1 l2
    rw [pdq_fin F d4.size d4 (mid + 1) b limit _ (by omega) (fun K F q k1 k2 k3 => ih3 (by omega) (by omega) hBr (by omega) (by omega) K F q (by omega) (by omega) k3), Option.bind_some]
    have := ih1 g1 (by rw [l1.1]; omega) hBL (by rw [l1.1]; omega) (by omega) K F q (by rw [l1.1]; omega) (by rw [l1.1]; omega) (by omega)
    rw [← this]
    congr 1
    simp only [ge_iff_le, decide_eq_decide]; omega
  case case8 d a b limit wb wp h12 hl0 d1 c d2 pivot hint pi hpi2 d3 hc mid ap d4 hx hg =>
    intro hab hb hB
    have s1 : Sort.PermIn a b d d1 := Sort.step_break d hab hb _
    have b1 : b ≤ d1.size := by rw [s1.1]; exact hb
    have s2 : Sort.PermIn a b d1 d2 := Sort.step_reverse Sort.reverseRange_holds d1 hab b1 _
    have b2 : b ≤ d2.size := by rw [s2.1]; exact b1
    have B2 : Sort.Below (ltC cf) a b d2 := (hB.perm hb s1).perm b1 s2
    have s3 := Sort.step_partial (Sort.partialInsertionSort_holds (lt := ltC cf)) h d2 (a := a) (b := b) (by omega) b2 B2 ((wb && wp && decide (hint = Sort.Hint.increasing)) = true)
    have s3' : Sort.PermIn a b d2 d3 := s3.1
    have b3 : b ≤ d3.size := by rw [s3'.1]; exact b2
    have B3 : Sort.Below (ltC cf) a b d3 := B2.perm b2 s3'
    have hc0 := Sort.choosePivot_holds (ltC cf) d1 a b (by omega)
    have hpv : a ≤ pivot ∧ pivot < b := Sort.pivot_range hc0.1 hc0.2 _
    obtain ⟨g1, g2, _⟩ := Sort.round_part h (Sort.partition_holds (lt := ltC cf)) hpv.1 hpv.2 b3 B3 hx
    exact absurd ⟨g1, g2⟩ hg
theorem sort_eq (h : Sort.SWO (ltC cf)) (k : Nat) (xs : List (List Int)) (hl : xs.length < 1000000000000) (hk : 2 * xs.length + 30 < k) : ∃ ys, api_Address_n38_0o_1f39.f k xs = some ys ∧ ys.Perm xs ∧ ys.Pairwise (fun x y => ¬ cf y x < 0) := by
  have hlen : Sort.bitsLen xs.length < 1000 := by
    have := pow_bl xs.length
    unfold Sort.bitsLen at this ⊢
    split
    · omega
    · rename_i h0
      rw [if_neg h0] at this
      refine Decidable.byContradiction fun c => ?_
      have h1 := Nat.pow_le_pow_right (n := 2) (by omega) (show 64 ≤ xs.length.log2 + 1 by omega)
      have h2 := (this h0).2
      omega
  obtain ⟨p1, p2⟩ := Sort.pdq_holds (Sort.insertionSort_holds (lt := ltC cf)) (Sort.heapSort_holds (lt := ltC cf)) (Sort.partialInsertionSort_holds (lt := ltC cf)) (Sort.partition_holds (lt := ltC cf)) (Sort.partitionEqual_holds (lt := ltC cf)) Sort.reverseRange_holds h xs.toArray 0 xs.length (Sort.bitsLen xs.length) true true (Nat.zero_le _) (by simp) (Or.inl rfl)
  refine ⟨(Sort.pdq (ltC cf) xs.toArray 0 xs.length (Sort.bitsLen xs.length) true true).toList, ?_, ?_, ?_⟩
  · unfold api_Address_n38_0o_1f39.f
    rw [wr_u64_id (by omega) (by omega), len_eq xs.length (by omega), Option.bind_some]
    obtain ⟨k, rfl⟩ : ∃ m, k = m + 1 := ⟨k - 1, by omega⟩
    have := pdq_loop hC h xs.toArray 0 xs.length (Sort.bitsLen xs.length) true true (Nat.zero_le _) (by simp) (Or.inl rfl) (by simp; omega) (by omega) k k k (by simp; omega) (by simp; omega) (by omega)
    show Option.bind (api_Address_n47_0o_4f39.l1 k (api_Address_n47_0o_4f39.f k) k xs true true 0 (xs.length : Int) _) _ = _
    rw [show (0 : Int) = ((0 : Nat) : Int) from rfl, show xs = xs.toArray.toList from rfl, show xs.toArray.toList.length = xs.length from rfl, this]; rfl
  · have h3 := p1.2.2
    have h4 : (Sort.pdq (ltC cf) xs.toArray 0 xs.length (Sort.bitsLen xs.length) true true).size = xs.length := by rw [p1.1]; simp
    have e1 : (xs.toArray.extract 0 xs.length).toList = xs := by simp
    have e2 : ∀ R : Array (List Int), R.size = xs.length → (R.extract 0 xs.length).toList = R.toList := fun R h => by rw [← h]; simp
    rw [e1, e2 _ h4] at h3
    exact h3
  · generalize Sort.pdq (ltC cf) xs.toArray 0 xs.length (Sort.bitsLen xs.length) true true = R at p1 p2
    have hR : R.size = xs.length := by rw [p1.1]; simp
    rw [List.pairwise_iff_getElem]
    intro i j hi hj hij
    have := p2 i j (Nat.zero_le _) hij (by simpa [hR] using hj)
    rw [getElem!_pos R i (by simpa using hi), getElem!_pos R j (by simpa using hj)] at this
    unfold ltC at this
    simpa using this
end
end GW
set_option linter.unusedVariables false
set_option linter.unusedSimpArgs false
set_option maxRecDepth 100000
namespace GW
open Go Go.RowKit
def cfK (x y : List Int) : Int := Lib.compareBytes (akey x) (akey y)
theorem cfK_C (x y : List Int) : addr_Compare.f x y = some (cfK x y) := rfl
theorem cfK_lt (x y : List Int) : ltC cfK x y = decide (akey x < akey y) := by
  unfold ltC cfK
  exact decide_eq_decide.2 (cb_lt _ _)
theorem swoK : Sort.SWO (ltC cfK) where
  irrefl x := by rw [cfK_lt]; exact decide_eq_false (List.lt_irrefl (akey x))
  trans x y z h1 h2 := by rw [cfK_lt] at *; simp only [decide_eq_true_eq] at *; exact List.lt_trans h1 h2
  ntrans x y z h1 h2 := by
    rw [cfK_lt] at *
    simp only [decide_eq_false_iff_not, List.not_lt] at *
    exact List.le_trans h2 h1
theorem sortU (k : Nat) (xs : List (List Int)) (hA : ∀ a ∈ xs, Ad a) (hl : xs.length < 1000000) (hk : 2 * xs.length + 30 < k) : ∃ M, (∀ out : List (List Int), out.Perm xs → api_Address_n38_0o_1f39.f k out = some M) ∧ M.Perm xs ∧ M.Pairwise (fun x y => ¬ cfK y x < 0) := by
  obtain ⟨M, m1, m2, m3⟩ := sort_eq cfK_C swoK k xs (by omega) hk
  refine ⟨M, fun out ho => ?_, m2, m3⟩
  obtain ⟨ys, y1, y2, y3⟩ := sort_eq cfK_C swoK k out (by rw [ho.length_eq]; omega) (by rw [ho.length_eq]; omega)
  rw [y1]
  congr 1
  refine List.Perm.eq_of_pairwise (le := fun x y => ¬ cfK y x < 0) (fun x y hx hy h1 h2 => ?_) y3 m3 (y2.trans (ho.trans m2.symm))
  have hx' := hA x ((y2.trans ho).mem_iff.1 hx)
  have hy' := hA y (m2.mem_iff.1 hy)
  refine akey_inj hx' hy' ?_
  unfold cfK at h1 h2
  rw [cb_lt] at h1 h2
  exact List.le_antisymm (List.not_lt.1 h1) (List.not_lt.1 h2)
theorem keys_perm {β : Type} {R : List (List Int × β)} (hn : (R.map Prod.fst).Nodup) {e : List Int × β} (he : e ∈ R) : (e.1 :: (adel R e.1).map Prod.fst).Perm (R.map Prod.fst) := by
  refine (List.perm_ext_iff_of_nodup ?_ hn).2 (fun a => ?_)
  · refine List.nodup_cons.2 ⟨?_, adel_nodup' hn _⟩
    rw [adel_keys]; simp
  · rw [adel_keys]
    constructor
    · intro h
      rcases List.mem_cons.1 h with rfl | h
      · exact List.mem_map.2 ⟨e, he, rfl⟩
      · exact (List.mem_filter.1 h).1
    · intro h
      by_cases c : a = e.1
      · subst c; exact List.mem_cons_self
      · exact List.mem_cons_of_mem _ (List.mem_filter.2 ⟨h, by simp [c]⟩)
theorem known_loop (k : Nat) (res : List (List Int)) (N : Nat) (hN : N ≤ 100000) : ∀ (n q : Nat) (R : List (List Int × L34)) (out : List (List Int)), R.length ≤ n → n < q → (R.map Prod.fst).Nodup → out.length + R.length ≤ N → (∀ o : List (List Int), o.Perm (out ++ R.map Prod.fst) → api_Address_n38_0o_1f39.f k o = some res) → fork_Cache_Known.l1 k q out R = some res
  | n, q, [], out, hn, hq, hnd, hl, h => by
    obtain ⟨q, rfl⟩ : ∃ m, q = m + 1 := ⟨q - 1, by omega⟩
    show fork_Cache_Known.b1 _ _ _ _ = _
    unfold fork_Cache_Known.b1 fork_Cache_Known.j1
    rw [rngL_nil, h out (by simp)]; rfl
  | n, q, e0 :: R0, out, hn, hq, hnd, hl, h => by
    obtain ⟨q, rfl⟩ : ∃ m, q = m + 1 := ⟨q - 1, by omega⟩
    show fork_Cache_Known.b1 _ _ _ _ = _
    unfold fork_Cache_Known.b1
    refine rngL_cons (by simp) (fun e he => ?_)
    have hlt := adel_length_lt he
    obtain ⟨n, rfl⟩ : ∃ m, n = m + 1 := ⟨n - 1, by simp only [List.length_cons] at hn; omega⟩
    rw [if_pos (by simp only [List.length_singleton]; omega)]
    refine known_loop k res N hN n q _ _ (by omega) (by omega) (adel_nodup' hnd _) (by simp only [List.length_append, List.length_singleton]; omega) (fun o ho => h o (ho.trans ?_))
    rw [List.append_assoc]
    exact List.Perm.append_left _ (keys_perm hnd he)
theorem fetched_loop (k : Nat) (res : List (List Int)) (N : Nat) (hN : N ≤ 100000) : ∀ (n q : Nat) (R : List (List Int × Int)) (out : List (List Int)), R.length ≤ n → n < q → (R.map Prod.fst).Nodup → out.length + R.length ≤ N → (∀ o : List (List Int), o.Perm (out ++ R.map Prod.fst) → api_Address_n38_0o_1f39.f k o = some res) → fork_Cache_Fetched.l1 k q out R = some res
  | n, q, [], out, hn, hq, hnd, hl, h => by
    obtain ⟨q, rfl⟩ : ∃ m, q = m + 1 := ⟨q - 1, by omega⟩
    show fork_Cache_Fetched.b1 _ _ _ _ = _
    unfold fork_Cache_Fetched.b1 fork_Cache_Fetched.j1
    rw [rngL_nil, h out (by simp)]; rfl
  | n, q, e0 :: R0, out, hn, hq, hnd, hl, h => by
    obtain ⟨q, rfl⟩ : ∃ m, q = m + 1 := ⟨q - 1, by omega⟩
    show fork_Cache_Fetched.b1 _ _ _ _ = _
    unfold fork_Cache_Fetched.b1
    refine rngL_cons (by simp) (fun e he => ?_)
    have hlt := adel_length_lt he
    obtain ⟨n, rfl⟩ : ∃ m, n = m + 1 := ⟨n - 1, by simp only [List.length_cons] at hn; omega⟩
    rw [if_pos (by simp only [List.length_singleton]; omega)]
    refine fetched_loop k res N hN n q _ _ (by omega) (by omega) (adel_nodup' hnd _) (by simp only [List.length_append, List.length_singleton]; omega) (fun o ho => h o (ho.trans ?_))
    rw [List.append_assoc]
    exact List.Perm.append_left _ (keys_perm hnd he)
theorem rising_loop (l : List (List Int)) (hA : ∀ a ∈ l, Ad a) (hn : l.Nodup) (hs : l.Pairwise (fun x y => ¬ cfK y x < 0)) (hl : l.length < 1000000) : ∀ (r q i : Nat), 1 ≤ i → l.length ≤ i + r → r < q → smithylaw15_rising.l1 l q (i : Int) = some true
  | r, q, i, h1, hr, hq => by
    obtain ⟨q, rfl⟩ : ∃ m, q = m + 1 := ⟨q - 1, by omega⟩
    have e : smithylaw15_rising.l1 l (q + 1) (i : Int) = smithylaw15_rising.b1 l (smithylaw15_rising.l1 l q) (i : Int) := rfl
    rw [e]
    unfold smithylaw15_rising.b1
    by_cases c : i < l.length
    · obtain ⟨r, rfl⟩ : ∃ m, r = m + 1 := ⟨r - 1, by omega⟩
      have hw : wr .i64 ((i : Int) - 1) = ((i - 1 : Nat) : Int) := by rw [wr_i64_id (by omega) (by omega)]; omega
      have g : ∀ j : Nat, (hj : j < l.length) → gt l (j : Int) = l[j] := fun j hj => by unfold gt; rw [Int.toNat_natCast, List.getD_eq_getElem?_getD, List.getElem?_eq_getElem hj]; rfl
      rw [if_pos (by simpa using c), hw, if_pos (by omega), if_pos (by omega), cfK_C, Option.bind_some, g (i - 1) (by omega), g i c]
      have h2 := (List.pairwise_iff_getElem.1 hs) (i - 1) i (by omega) c (by omega)
      have h3 := (List.pairwise_iff_getElem.1 hn) (i - 1) i (by omega) c (by omega)
      have h4 : cfK l[i - 1] l[i] < 0 := by
        refine Decidable.byContradiction fun hh => h3 (akey_inj (hA _ (List.getElem_mem _)) (hA _ (List.getElem_mem _)) ?_)
        unfold cfK at hh h2
        rw [cb_lt] at hh h2
        exact List.le_antisymm (List.not_lt.1 h2) (List.not_lt.1 hh)
      rw [if_neg (by simpa using h4), next1 i (by omega)]
      exact rising_loop l hA hn hs hl r q (i + 1) (by omega) (by omega) (by omega)
    · rw [if_neg (by simpa using c)]; rfl
theorem rising_eq (l : List (List Int)) (k : Nat) (hA : ∀ a ∈ l, Ad a) (hn : l.Nodup) (hs : l.Pairwise (fun x y => ¬ cfK y x < 0)) (hl : l.length < 1000000) (hk : l.length + 1 < k) : smithylaw15_rising.f k l = some true :=
  rising_loop l hA hn hs hl l.length k 1 (by omega) (by omega) (by omega)
end GW
set_option linter.unusedVariables false
set_option linter.unusedSimpArgs false
set_option maxRecDepth 100000
namespace GW
open Go Go.RowKit
theorem fixed15 (k : Nat) : smithylaw15_fixed.f (k + 200) = some true := by kernel_rfl
theorem at_loop (L : List L34) (Q : CaT) (hl : Q.length < 1000000) (a : List Int) : ∀ (d : CaT) (q i : Nat), Q.drop i = d → i ≤ Q.length → d.length < q → (aget d a = none ∧ smithyref15_Cache_At.l1 (L, Q) a q (i : Int) = some (-1)) ∨ (∃ j : Nat, i ≤ j ∧ j < Q.length ∧ smithyref15_Cache_At.l1 (L, Q) a q (i : Int) = some (j : Int) ∧ (gt Q (j : Int)).1 = a ∧ aget d a = some (gt Q (j : Int)).2)
  | [], q, i, hd, hi, hq => by
    obtain ⟨q, rfl⟩ : ∃ m, q = m + 1 := ⟨q - 1, by omega⟩
    have : Q.length ≤ i := by simpa using hd
    refine .inl ⟨rfl, ?_⟩
    show smithyref15_Cache_At.b1 _ _ _ _ = _
    unfold smithyref15_Cache_At.b1
    rw [if_neg (by simp; omega)]; rfl
  | e :: d, q, i, hd, hi, hq => by
    simp only [List.length_cons] at hq
    obtain ⟨q, rfl⟩ : ∃ m, q = m + 1 := ⟨q - 1, by omega⟩
    obtain ⟨h1, h2, h3⟩ := gt_dropA hd
    have e0 : smithyref15_Cache_At.l1 (L, Q) a (q + 1) (i : Int) = smithyref15_Cache_At.b1 (L, Q) a (smithyref15_Cache_At.l1 (L, Q) a q) (i : Int) := rfl
    rw [e0]
    unfold smithyref15_Cache_At.b1
    rw [if_pos (by simp; omega), if_pos (by show (0 : Int) ≤ i ∧ (i : Int) < (Q.length : Int); omega)]
    by_cases c : e.1 = a
    · rw [show (gt (L, Q).2 (i : Int)).1 = e.1 from congrArg Prod.fst h1, decide_eq_true c, if_pos rfl]
      refine .inr ⟨i, Nat.le_refl _, h2, rfl, by rw [h1]; exact c, ?_⟩
      rw [h1]
      obtain ⟨x, v⟩ := e
      show (if a = x then some v else _) = _
      rw [if_pos c.symm]
    · rw [show (gt (L, Q).2 (i : Int)).1 = e.1 from congrArg Prod.fst h1, decide_eq_false c, if_neg (by simp), next1 i (by omega)]
      have hg : aget (e :: d) a = aget d a := by
        obtain ⟨x, v⟩ := e
        show (if a = x then some v else aget d a) = _
        rw [if_neg (Ne.symm c)]
      rw [hg]
      rcases at_loop L Q hl a d q (i + 1) h3 (by omega) (by omega) with h | ⟨j, j1, j2, j3, j4⟩
      · exact .inl h
      · exact .inr ⟨j, by omega, j2, j3, j4⟩
theorem at_eq (L : List L34) (Q : CaT) (hl : Q.length < 1000000) (a : List Int) (k : Nat) (hk : Q.length < k) : (aget Q a = none ∧ smithyref15_Cache_At.f k (L, Q) a = some (-1)) ∨ (∃ j : Nat, j < Q.length ∧ smithyref15_Cache_At.f k (L, Q) a = some (j : Int) ∧ (gt Q (j : Int)).1 = a ∧ aget Q a = some (gt Q (j : Int)).2) := by
  rcases at_loop L Q hl a Q k 0 rfl (by omega) hk with h | ⟨j, -, h⟩
  · exact .inl h
  · exact .inr ⟨j, h⟩
theorem without_loop (L : List L34) (Q : CaT) (hl : Q.length < 1000000) (a : List Int) (j : Nat) (hj : ∀ i : Nat, i < Q.length → ((gt Q (i : Int)).1 = a ↔ i = j)) : ∀ (d : CaT) (q i : Nat) (out : CaT), Q.drop i = d → i ≤ Q.length → d.length < q → out.length ≤ i → smithyref15_Cache_without.l1 (L, Q) (j : Int) q (i : Int) out = some (L, out ++ adel d a)
  | [], q, i, out, hd, hi, hq, ho => by
    obtain ⟨q, rfl⟩ : ∃ m, q = m + 1 := ⟨q - 1, by omega⟩
    have : Q.length ≤ i := by simpa using hd
    show smithyref15_Cache_without.b1 _ _ _ _ _ = _
    unfold smithyref15_Cache_without.b1 smithyref15_Cache_without.j1
    rw [if_neg (by simp; omega)]; simp [adel]
  | e :: d, q, i, out, hd, hi, hq, ho => by
    simp only [List.length_cons] at hq
    obtain ⟨q, rfl⟩ : ∃ m, q = m + 1 := ⟨q - 1, by omega⟩
    obtain ⟨h1, h2, h3⟩ := gt_dropA hd
    show smithyref15_Cache_without.b1 _ _ _ _ _ = _
    unfold smithyref15_Cache_without.b1 smithyref15_Cache_without.j2
    rw [if_pos (by simp; omega), next1 i (by omega)]
    have hk := hj i h2
    rw [h1] at hk
    by_cases c : i = j
    · rw [if_neg (by simp [c]), without_loop L Q hl a j hj d q (i + 1) out h3 (by omega) (by omega) (by omega)]
      have : adel (e :: d) a = adel d a := by simp [adel, hk.2 c]
      rw [this]
    · rw [if_pos (by simp; omega), if_pos (by show (0 : Int) ≤ i ∧ (i : Int) < (Q.length : Int); omega), if_pos (by simp only [List.length_singleton]; omega), without_loop L Q hl a j hj d q (i + 1) _ h3 (by omega) (by omega) (by simp; omega)]
      have hne : e.1 ≠ a := fun h => c (hk.1 h)
      have : adel (e :: d) a = e :: adel d a := by simp [adel, hne]
      rw [this, show gt (L, Q).2 (i : Int) = e from h1]
      simp
theorem nodup_at {Q : CaT} (hn : (Q.map Prod.fst).Nodup) {j : Nat} (hj : j < Q.length) {a : List Int} (ha : (gt Q (j : Int)).1 = a) : ∀ i : Nat, i < Q.length → ((gt Q (i : Int)).1 = a ↔ i = j) := fun i hi => by
  have g : ∀ t : Nat, (ht : t < Q.length) → gt Q (t : Int) = Q[t] := fun t ht => by unfold gt; rw [Int.toNat_natCast, List.getD_eq_getElem?_getD, List.getElem?_eq_getElem ht]; rfl
  constructor
  · intro h
    have h1 : (Q.map Prod.fst)[i]'(by simpa using hi) = (Q.map Prod.fst)[j]'(by simpa using hj) := by
      rw [List.getElem_map, List.getElem_map, ← g i hi, ← g j hj, h, ha]
    exact (List.getElem_inj hn).1 h1
  · rintro rfl; exact ha
theorem without_eq (L : List L34) (Q : CaT) (hl : Q.length < 1000000) (hn : (Q.map Prod.fst).Nodup) (k : Nat) (hk : Q.length < k) {j : Nat} (hj : j < Q.length) {a : List Int} (ha : (gt Q (j : Int)).1 = a) : smithyref15_Cache_without.f k (L, Q) (j : Int) = some (L, adel Q a) := by
  have := without_loop L Q hl a j (nodup_at hn hj ha) Q k 0 [] rfl (by omega) hk (by simp)
  rw [List.nil_append] at this
  exact this
theorem aput_new {Q : CaT} {a : List Int} (h : aget Q a = none) (v : Int) : aput Q a v = Q ++ [(a, v)] := by
  induction Q with
  | nil => rfl
  | cons e r ih =>
    obtain ⟨x, u⟩ := e
    unfold aget at h
    by_cases c : a = x
    · rw [if_pos c] at h; cases h
    · rw [if_neg c] at h
      unfold aput
      rw [if_neg c, ih h]; rfl
theorem set_aput : ∀ (Q : CaT) (j : Nat) (a : List Int) (v : Int), (Q.map Prod.fst).Nodup → j < Q.length → (gt Q (j : Int)).1 = a → Q.set j (a, v) = aput Q a v
  | [], j, a, v, hn, hj, ha => by simp at hj
  | (x, u) :: r, 0, a, v, hn, hj, ha => by
    have : x = a := ha
    unfold aput
    rw [if_pos this.symm, this]; rfl
  | (x, u) :: r, j + 1, a, v, hn, hj, ha => by
    simp only [List.map_cons, List.nodup_cons] at hn
    simp only [List.length_cons] at hj
    have hg : gt ((x, u) :: r) ((j + 1 : Nat) : Int) = gt r (j : Int) := by
      unfold gt; rw [Int.toNat_natCast, Int.toNat_natCast]; rfl
    rw [hg] at ha
    have hne : a ≠ x := fun e => hn.1 (by
      rw [← e, ← ha]
      have : gt r (j : Int) ∈ r := by unfold gt; rw [Int.toNat_natCast, List.getD_eq_getElem?_getD, List.getElem?_eq_getElem (by omega)]; exact List.getElem_mem _
      exact List.mem_map.2 ⟨_, this, rfl⟩)
    unfold aput
    rw [if_neg hne]
    show (x, u) :: r.set j (a, v) = _
    rw [set_aput r j a v hn.2 (by omega) ha]
structure CRel (L : List L34) (Q : CaT) (K : CaK) (n : Nat) : Prop where
  tnd : (Q.map Prod.fst).Nodup
  tv : ∀ e ∈ Q, 0 ≤ e.2 ∧ e.2 < 8
  tad : ∀ e ∈ Q, Ad e.1
  kl : ∀ a, aget K a = findA L a
  knd : (K.map Prod.fst).Nodup
  sorted : L.Pairwise LtA
  acc : ∀ x ∈ L, Gd34 x ∧ SmallA x
  ll : L.length ≤ n
  tl : Q.length ≤ n
theorem CRel.mono {L : List L34} {Q : CaT} {K : CaK} {n n' : Nat} (R : CRel L Q K n) (h : n ≤ n') : CRel L Q K n' := ⟨R.tnd, R.tv, R.tad, R.kl, R.knd, R.sorted, R.acc, Nat.le_trans R.ll h, Nat.le_trans R.tl h⟩
theorem aput_mem {β : Type} {kvs : List (List Int × β)} {a : List Int} {v : β} {e : List Int × β} (h : e ∈ aput kvs a v) : e = (a, v) ∨ e ∈ kvs := by
  induction kvs with
  | nil => exact .inl (List.mem_singleton.1 h)
  | cons p r ih =>
    obtain ⟨x, u⟩ := p
    unfold aput at h
    split at h
    · rename_i c
      rcases List.mem_cons.1 h with h | h
      · exact .inl (by rw [h, c])
      · exact .inr (List.mem_cons_of_mem _ h)
    · rcases List.mem_cons.1 h with h | h
      · exact .inr (h ▸ List.mem_cons_self)
      · rcases ih h with h | h
        · exact .inl h
        · exact .inr (List.mem_cons_of_mem _ h)
theorem aput_length {β : Type} (kvs : List (List Int × β)) (a : List Int) (v : β) : (aput kvs a v).length ≤ kvs.length + 1 := by
  have h3 : ((aput kvs a v).map Prod.fst).length = (aput kvs a v).length := List.length_map ..
  rw [← h3, aput_keys]
  split <;> simp
theorem adel_length {β : Type} (kvs : List (List Int × β)) (a : List Int) : (adel kvs a).length ≤ kvs.length := List.length_filter_le _ _
theorem CRel.tput {L : List L34} {Q : CaT} {K : CaK} {n : Nat} (R : CRel L Q K n) {a : List Int} (ha : Ad a) {v : Int} (hv : 0 ≤ v ∧ v < 8) : CRel L (aput Q a v) K (n + 1) :=
  ⟨aput_nodup R.tnd a v, fun e he => by
    rcases aput_mem he with rfl | he
    · exact hv
    · exact R.tv e he, fun e he => by
    rcases aput_mem he with rfl | he
    · exact ha
    · exact R.tad e he, R.kl, R.knd, R.sorted, R.acc, Nat.le_succ_of_le R.ll, Nat.le_trans (aput_length Q a v) (Nat.succ_le_succ R.tl)⟩
theorem CRel.tdel {L : List L34} {Q : CaT} {K : CaK} {n : Nat} (R : CRel L Q K n) (a : List Int) : CRel L (adel Q a) K n :=
  ⟨adel_nodup' R.tnd a, fun e he => R.tv e (adel_sub Q a e he), fun e he => R.tad e (adel_sub Q a e he), R.kl, R.knd, R.sorted, R.acc, R.ll, Nat.le_trans (adel_length Q a) R.tl⟩
theorem want_both {L : List L34} {Q : CaT} {K : CaK} {n k : Nat} (R : CRel L Q K n) (hn : n < 1000) (hk : 2000 < k) {a : List Int} (ha : Ad a) : ∃ (w : Int) (Q' : CaT), smithyref15_Cache_Want.f k (L, Q) a = some (w, (L, Q')) ∧ fork_Cache_Want.f (K, Q) a = some (w, (K, Q')) ∧ CRel L Q' K (n + 1) := by
  have h1 := R.ll
  have h2 := R.tl
  unfold smithyref15_Cache_Want.f
  rw [find_eq L a k (by omega) (by omega), Option.bind_some]
  cases e : findA L a with
  | some x =>
    exact ⟨1, Q, by simp, want_known (by rw [R.kl, e]), R.mono (by omega)⟩
  | none =>
    rw [if_neg (by simp)]
    rcases at_eq L Q (by omega) a k (by omega) with ⟨t1, t2⟩ | ⟨j, j1, j2, j3, j4⟩
    · refine ⟨3, aput Q a 0, ?_, want_begun (by rw [R.kl, e]) t1, R.tput ha (by omega)⟩
      rw [t2, Option.bind_some, if_neg (by simp), if_pos (by simp only [List.length_nil]; omega), if_pos (by simp only [List.length_nil, List.length_append, List.length_singleton]; omega), aput_new t1]
      rfl
    · refine ⟨2, Q, ?_, want_asked (by rw [R.kl, e]) j4, R.mono (by omega)⟩
      rw [j2, Option.bind_some, if_pos (by simp)]
theorem fail_both {L : List L34} {Q : CaT} {K : CaK} {n k : Nat} (R : CRel L Q K n) (hn : n < 1000) (hk : 2000 < k) {a : List Int} (ha : Ad a) : ∃ (w : Int) (Q' : CaT), smithyref15_Cache_Fail.f k (L, Q) a = some (w, (L, Q')) ∧ fork_Cache_Fail.f (K, Q) a = some (w, (K, Q')) ∧ CRel L Q' K (n + 1) := by
  have h1 := R.ll
  have h2 := R.tl
  unfold smithyref15_Cache_Fail.f
  rcases at_eq L Q (by omega) a k (by omega) with ⟨t1, t2⟩ | ⟨j, j1, j2, j3, j4⟩
  · refine ⟨0, Q, ?_, fail_none t1, R.mono (by omega)⟩
    rw [t2, Option.bind_some, if_pos (by simp)]
  · have hmem : gt Q (j : Int) ∈ Q := by unfold gt; rw [Int.toNat_natCast, List.getD_eq_getElem?_getD, List.getElem?_eq_getElem j1]; exact List.getElem_mem _
    obtain ⟨v0, v1⟩ := R.tv _ hmem
    have hw : wr .i64 ((gt Q (j : Int)).2 + 1) = (gt Q (j : Int)).2 + 1 := wr_i64_id (by omega) (by omega)
    rw [j2, Option.bind_some, if_neg (by simp), if_pos (by show (0 : Int) ≤ j ∧ (j : Int) < (Q.length : Int); omega), List.nil_append]
    show ∃ w Q', (if decide (8 ≤ wr .i64 ((gt Q (j : Int)).2 + 1)) = true then _ else _) = _ ∧ _
    rw [hw]
    by_cases c : (gt Q (j : Int)).2 = 7
    · refine ⟨5, adel Q a, ?_, fail_lost (by rw [j4, c]), (R.tdel a).mono (by omega)⟩
      rw [if_pos (by simp; omega), without_eq L Q (by omega) R.tnd k (by omega) j1 j3]; rfl
    · refine ⟨4, aput Q a ((gt Q (j : Int)).2 + 1), ?_, fail_again j4 v0 (by omega), R.tput ha (by omega)⟩
      rw [if_neg (by simp; omega), if_pos (by simp only [List.length_nil]; omega), if_pos (by show (0 : Int) ≤ j ∧ (j : Int) < (Q.length : Int); omega)]
      show some ((4 : Int), (L, Q.set (Int.toNat (j : Int)) ((gt Q (j : Int)).1, (gt Q (j : Int)).2 + 1))) = _
      rw [Int.toNat_natCast, j3, set_aput Q j a _ R.tnd j1 j3]
theorem fill_both {L : List L34} {Q : CaT} {K : CaK} {n k : Nat} (R : CRel L Q K n) (hn : n < 1000) (hk : 2000 < k) {x : L34} (hx : Gd34 x) (hs : SmallA x) : ∃ (w : Bool) (L' : List L34) (Q' : CaT) (K' : CaK), smithyref15_Cache_Fill.f k (L, Q) x = some (w, (L', Q')) ∧ fork_Cache_Fill.f k (K, Q) x = some (w, (K', Q')) ∧ CRel L' Q' K' (n + 1) := by
  have h1 := R.ll
  have h2 := R.tl
  obtain ⟨b, b1, b2⟩ := rights_eq (k - 40) x hx.2.2.2.2 (by have := hs.2; omega)
  rw [show k - 40 + 40 = k by omega] at b1 b2
  unfold smithyref15_Cache_Fill.f smithyref15_Cache_Fill.j1
  rcases at_eq L Q (by omega) x.1 k (by omega) with ⟨t1, t2⟩ | ⟨j, j1, j2, j3, j4⟩
  · refine ⟨false, L, Q, K, ?_, fill_not hx hs (by omega) (.inr t1), R.mono (by omega)⟩
    rw [t2, Option.bind_some, if_pos (by simp), if_pos rfl]
  · rw [j2, Option.bind_some, if_neg (by simp), b2, Option.bind_some]
    cases b with
    | false => exact ⟨false, L, Q, K, by rw [if_pos (by simp)], fill_not hx hs (by omega) (.inl b2), R.mono (by omega)⟩
    | true =>
      have hA : ∀ y ∈ L, Ad y.1 := fun y hy => (R.acc y hy).1.1
      refine ⟨true, putA L x, adel Q x.1, aput K x.1 x, ?_, fill_yes hx hs (by omega) b2 j4, ?_⟩
      · rw [if_neg (by simp), without_eq L Q (by omega) R.tnd k (by omega) j1 j3, Option.bind_some, put_eqA (by omega) (by omega) (by omega) R.sorted hA hx.1]; rfl
      · refine ⟨adel_nodup' R.tnd _, fun e he => R.tv e (adel_sub Q _ e he), fun e he => R.tad e (adel_sub Q _ e he), fun a => ?_, aput_nodup R.knd _ _, putA_sorted R.sorted hx.1 hA, fun y hy => ?_, Nat.le_trans (putA_length L x) (Nat.succ_le_succ R.ll), Nat.le_succ_of_le (Nat.le_trans (adel_length Q _) R.tl)⟩
        · rw [aget_aput, putA_find, R.kl a]
          by_cases c : x.1 = a
          · rw [if_pos c, if_pos c.symm]
          · rw [if_neg c, if_neg (Ne.symm c)]
        · rcases putA_mem hy with rfl | hy
          · exact ⟨hx, hs⟩
          · exact R.acc y hy
theorem plays_j5 {L : List L34} {Q : CaT} {K : CaK} {n k : Nat} (R : CRel L Q K n) (hn : n < 1000) (hk : 2000 < k) (t : List (Int × L34)) (i : Nat) (hi : i < 1000000) (rec3 : Int → List L34 → CaT → CaK → CaT → Option Bool) (ih : rec3 ((i + 1 : Nat) : Int) L Q K Q = some true) : smithylaw15_ForkPlays.j5 k t (i : Int) rec3 L Q K Q = some true := by
  have h1 := R.ll
  have h2 := R.tl
  have j8 : smithylaw15_ForkPlays.j8 (i : Int) rec3 L Q K Q false = some true := by
    unfold smithylaw15_ForkPlays.j8
    rw [if_neg (by simp), next1 i (by omega), ih]
  unfold smithylaw15_ForkPlays.j5
  generalize ha : (gt t (i : Int)).2.1 = a
  have hj6 : ∀ (x : L34) (b : Bool) (t21 : L34 × Bool), t21.2 = b → SmallA x → smithylaw15_ForkPlays.j6 k t (i : Int) rec3 L Q K Q (x, b) t21 x.1 x.2.1 x.2.2.1 x.2.2.2.1 x.2.2.2.2 = some true := fun x b t21 hb hs => by
    unfold smithylaw15_ForkPlays.j6
    rw [ha]
    have hj7 : ∀ v : Int, (lk (aget Q a) 0).1 = v → smithylaw15_ForkPlays.j7 k t (i : Int) rec3 L Q K Q (x, b) t21 x.1 x.2.1 x.2.2.1 x.2.2.2.1 x.2.2.2.2 v = some true := fun v hv => by
      unfold smithylaw15_ForkPlays.j7 fork_Cache_Tries.f
      rw [ha, if_neg (by simp [hb])]
      show Option.bind (smithyref13_Same.f k x x) _ = _
      rw [same_self x k (by have := hs.2; omega) (by have := hs.2; omega), Option.bind_some, if_neg (by simp), Option.bind_some, show ((lk (aget (K, Q).2 a) 0).1 != v) = false from by simpa using hv]
      exact j8
    rcases at_eq L Q (by omega) a k (by omega) with ⟨t1, t2⟩ | ⟨j, j1, j2, j3, j4⟩
    · rw [t2, Option.bind_some, if_neg (by simp)]
      exact hj7 0 (by rw [t1]; rfl)
    · rw [j2, Option.bind_some, if_pos (by simp), if_pos (by omega)]
      exact hj7 _ (by rw [j4]; rfl)
  rw [find_eq L a k (by omega) (by omega)]
  cases e : findA L a with
  | some x =>
    have hs := (R.acc x (findA_mem e).1).2
    rw [account_yes hs (by rw [R.kl, e]), Option.bind_some, Option.bind_some, if_neg (by simp)]
    exact hj6 x true (x, true) rfl hs
  | none =>
    rw [account_no (by rw [R.kl, e]), Option.bind_some, Option.bind_some, if_pos (by simp)]
    exact hj6 (a, 0, [0, 0, 0, 0], [], []) false (noA, false) rfl ⟨by show (0 : Nat) ≤ 3000; omega, by show (0 : Nat) ≤ 100; omega⟩
theorem plays_b1 (k : Nat) (L : List L34) (Q : CaT) (hQ : Q.length < 1000) (hk : 2000 < k) (M : List (List Int)) (hM : ∀ a ∈ M, a ∈ Q.map Prod.fst) (hl : M.length < 1000000) : ∀ (d : List (List Int)) (q i : Nat), M.drop i = d → i ≤ M.length → d.length < q → smithylaw15_ForkPlays.l1 k L Q M q (i : Int) = some true
  | [], q, i, hd, hi, hq => by
    obtain ⟨q, rfl⟩ : ∃ m, q = m + 1 := ⟨q - 1, by omega⟩
    have : M.length ≤ i := by simpa using hd
    show smithylaw15_ForkPlays.b1 _ _ _ _ _ _ = _
    unfold smithylaw15_ForkPlays.b1
    rw [if_neg (by simp; omega)]; rfl
  | a :: d, q, i, hd, hi, hq => by
    simp only [List.length_cons] at hq
    obtain ⟨q, rfl⟩ : ∃ m, q = m + 1 := ⟨q - 1, by omega⟩
    obtain ⟨h1, h2, h3⟩ := gt_dropA hd
    have hx : a ∈ M := List.drop_subset i M (by rw [hd]; exact List.mem_cons_self)
    have e0 : smithylaw15_ForkPlays.l1 k L Q M (q + 1) (i : Int) = smithylaw15_ForkPlays.b1 k L Q M (smithylaw15_ForkPlays.l1 k L Q M q) (i : Int) := rfl
    rw [e0]
    unfold smithylaw15_ForkPlays.b1
    rw [if_pos (by simp; omega), if_pos (by omega), h1]
    rcases at_eq L Q (by omega) a k (by omega) with ⟨t1, t2⟩ | ⟨j, j1, j2, j3, j4⟩
    · have := aget_some_key.2 (hM a hx)
      rw [t1] at this; cases this
    · rw [j2, Option.bind_some, if_neg (by simp), next1 i (by omega)]
      exact plays_b1 k L Q hQ hk M hM hl d q (i + 1) h3 (by omega) (by omega)
theorem plays_b2 (k : Nat) (L : List L34) (Q : CaT) (M : List (List Int)) (hL : L.length < 1000) (he : smithylaw15_ForkPlays.j3 k L Q M = some true) : ∀ (d : List L34) (q i : Nat), L.drop i = d → i ≤ L.length → d.length < q → smithylaw15_ForkPlays.l2 k L Q (L.map (fun x => x.1)) M q (i : Int) = some true
  | [], q, i, hd, hi, hq => by
    obtain ⟨q, rfl⟩ : ∃ m, q = m + 1 := ⟨q - 1, by omega⟩
    have : L.length ≤ i := by simpa using hd
    show smithylaw15_ForkPlays.b2 _ _ _ _ _ _ _ = _
    unfold smithylaw15_ForkPlays.b2
    rw [if_neg (by simp; omega)]; exact he
  | x :: d, q, i, hd, hi, hq => by
    simp only [List.length_cons] at hq
    obtain ⟨q, rfl⟩ : ∃ m, q = m + 1 := ⟨q - 1, by omega⟩
    obtain ⟨h1, h2, h3⟩ := gt_dropA hd
    have e0 : smithylaw15_ForkPlays.l2 k L Q (L.map (fun x => x.1)) M (q + 1) (i : Int) = smithylaw15_ForkPlays.b2 k L Q (L.map (fun x => x.1)) M (smithylaw15_ForkPlays.l2 k L Q (L.map (fun x => x.1)) M q) (i : Int) := rfl
    have hg : gt (L.map (fun x => x.1)) (i : Int) = x.1 := by
      rw [List.drop_eq_getElem_cons h2] at hd
      simp only [List.cons.injEq] at hd
      unfold gt; rw [Int.toNat_natCast, List.getD_eq_getElem?_getD, List.getElem?_map, List.getElem?_eq_getElem h2]
      simp [hd.1]
    rw [e0]
    unfold smithylaw15_ForkPlays.b2
    rw [if_pos (by simp; omega), if_pos (by simp; omega), if_pos (by omega), h1, hg, if_neg (by simp), next1 i (by omega)]
    exact plays_b2 k L Q M hL he d q (i + 1) h3 (by omega) (by omega)
theorem plays_end {L : List L34} {Q : CaT} {K : CaK} {n k : Nat} (R : CRel L Q K n) (hn : n < 200) (hk : 5000 < k) : smithylaw15_ForkPlays.j1 k L Q K Q = some true := by
  have h1 := R.ll
  have h2 := R.tl
  have hKA : ∀ a ∈ K.map Prod.fst, a ∈ L.map (fun x => x.1) := fun a ha => by
    have := aget_some_key.2 ha
    rw [R.kl] at this
    obtain ⟨x, hx⟩ := Option.isSome_iff_exists.1 this
    exact List.mem_map.2 ⟨x, (findA_mem hx).1, (findA_mem hx).2⟩
  have hLK : ∀ a ∈ L.map (fun x => x.1), a ∈ K.map Prod.fst := fun a ha => by
    obtain ⟨x, hx, rfl⟩ := List.mem_map.1 ha
    refine aget_some_key.1 ?_
    rw [R.kl, findA_sorted R.sorted hx]; rfl
  have hLs : (L.map (fun x => x.1)).Pairwise (fun a b => akey a < akey b) := List.pairwise_map.2 R.sorted
  have hLn : (L.map (fun x => x.1)).Nodup := hLs.imp (fun {a b} h (e : a = b) => by rw [e] at h; exact List.lt_irrefl _ h)
  have hLA : ∀ a ∈ L.map (fun x => x.1), Ad a := fun a ha => by
    obtain ⟨x, hx, rfl⟩ := List.mem_map.1 ha
    exact (R.acc x hx).1.1
  have hperm : (L.map (fun x => x.1)).Perm (K.map Prod.fst) := (List.perm_ext_iff_of_nodup hLn R.knd).2 (fun a => ⟨hLK a, hKA a⟩)
  have hKl : K.length = L.length := by have := hperm.length_eq; simpa using this.symm
  obtain ⟨M, m1, m2, m3⟩ := sortU k (K.map Prod.fst) (fun a ha => hLA a (hKA a ha)) (by simp; omega) (by simp; omega)
  have hM : M = L.map (fun x => x.1) := by
    refine List.Perm.eq_of_pairwise (le := fun x y => ¬ cfK y x < 0) (fun x y hx hy h1 h2 => ?_) m3 (hLs.imp fun {x y} hxy hh => ?_) (m2.trans hperm.symm)
    · refine akey_inj (hLA x (hKA x (m2.mem_iff.1 hx))) (hLA y hy) ?_
      unfold cfK at h1 h2
      rw [cb_lt] at h1 h2
      exact List.le_antisymm (List.not_lt.1 h1) (List.not_lt.1 h2)
    · unfold cfK at hh
      rw [cb_lt] at hh
      exact List.lt_irrefl _ (List.lt_trans hh hxy)
  obtain ⟨N, n1, n2, n3⟩ := sortU k (Q.map Prod.fst) (fun a ha => by obtain ⟨e, he, rfl⟩ := List.mem_map.1 ha; exact R.tad e he) (by simp; omega) (by simp; omega)
  have e1 : fork_Cache_Known.f k (K, Q) = some (L.map (fun x => x.1)) := by
    rw [← hM]
    exact known_loop k M K.length (by omega) K.length k K [] (Nat.le_refl _) (by omega) R.knd (by simp) (fun o ho => m1 o (by simpa using ho))
  have e2 : fork_Cache_Fetched.f k (K, Q) = some N :=
    fetched_loop k N Q.length (by omega) Q.length k Q [] (Nat.le_refl _) (by omega) R.tnd (by simp) (fun o ho => n1 o (by simpa using ho))
  have hNl : N.length = Q.length := by have := n2.length_eq; simpa using this
  have hNA : ∀ a ∈ N, Ad a := fun a ha => by
    obtain ⟨e, he, rfl⟩ := List.mem_map.1 (n2.mem_iff.1 ha)
    exact R.tad e he
  have hNn : N.Nodup := n2.nodup_iff.2 R.tnd
  have hj3 : smithylaw15_ForkPlays.j3 k L Q N = some true := plays_b1 k L Q (by omega) (by omega) N (fun a ha => n2.mem_iff.1 ha) (by omega) N k 0 rfl (by omega) (by omega)
  have r1 := rising_eq (L.map (fun x => x.1)) k hLA hLn (hM ▸ m3) (by simp; omega) (by simp; omega)
  have r2 := rising_eq N k hNA hNn n3 (by omega) (by omega)
  unfold smithylaw15_ForkPlays.j1 smithylaw15_ForkPlays.j2
  rw [e1, Option.bind_some, e2, Option.bind_some, if_neg (by simp), if_neg (by simp; omega), r1, Option.bind_some, if_neg (by simp), r2, Option.bind_some, if_neg (by simp)]
  exact plays_b2 k L Q N (by omega) hj3 L k 0 rfl (by omega) (by omega)
theorem plays_l3 (k : Nat) (hk : 5000 < k) (t : List (Int × L34)) (hg : ∀ o ∈ t, Gd34 o.2) (hs : ∀ o ∈ t, SmallA o.2) (ht : t.length ≤ 101) : ∀ (d : List (Int × L34)) (q i : Nat) (L : List L34) (Q : CaT) (K : CaK), t.drop i = d → i ≤ t.length → d.length < q → CRel L Q K i → smithylaw15_ForkPlays.l3 k t q (i : Int) L Q K Q = some true
  | [], q, i, L, Q, K, hd, hi, hq, R => by
    obtain ⟨q, rfl⟩ : ∃ m, q = m + 1 := ⟨q - 1, by omega⟩
    have : t.length ≤ i := by simpa using hd
    show smithylaw15_ForkPlays.b3 _ _ _ _ _ _ _ _ = _
    unfold smithylaw15_ForkPlays.b3
    rw [if_neg (by simp; omega)]
    exact plays_end R (by omega) hk
  | o :: d, q, i, L, Q, K, hd, hi, hq, R => by
    simp only [List.length_cons] at hq
    obtain ⟨q, rfl⟩ : ∃ m, q = m + 1 := ⟨q - 1, by omega⟩
    obtain ⟨h1, h2, h3⟩ := gt_dropA hd
    have ho : o ∈ t := List.drop_subset i t (by rw [hd]; exact List.mem_cons_self)
    have hx := hg o ho
    have hsm := hs o ho
    have e0 : smithylaw15_ForkPlays.l3 k t (q + 1) (i : Int) L Q K Q = smithylaw15_ForkPlays.b3 k t (smithylaw15_ForkPlays.l3 k t q) (i : Int) L Q K Q := rfl
    rw [e0]
    unfold smithylaw15_ForkPlays.b3
    rw [if_pos (by simp; omega), if_pos (by omega), h1]
    by_cases c0 : (o.1 == 0) = true
    · rw [if_pos c0]
      obtain ⟨w, Q', a1, a2, a3⟩ := want_both (k := k) R (by omega) (by omega) hx.1
      rw [a1, Option.bind_some, a2, Option.bind_some, if_neg (by simp)]
      exact plays_j5 a3 (by omega) (by omega) t i (by omega) _ (plays_l3 k hk t hg hs ht d q (i + 1) L Q' K h3 (by omega) (by omega) a3)
    · rw [if_neg c0]
      by_cases c1 : (o.1 == 1) = true
      · rw [if_pos c1]
        obtain ⟨w, L', Q', K', a1, a2, a3⟩ := fill_both (k := k) R (by omega) (by omega) hx hsm
        rw [a1, Option.bind_some, a2, Option.bind_some, if_neg (by simp)]
        exact plays_j5 a3 (by omega) (by omega) t i (by omega) _ (plays_l3 k hk t hg hs ht d q (i + 1) L' Q' K' h3 (by omega) (by omega) a3)
      · rw [if_neg c1]
        obtain ⟨w, Q', a1, a2, a3⟩ := fail_both (k := k) R (by omega) (by omega) hx.1
        rw [a1, Option.bind_some, a2, Option.bind_some, if_neg (by simp)]
        exact plays_j5 a3 (by omega) (by omega) t i (by omega) _ (plays_l3 k hk t hg hs ht d q (i + 1) L Q' K h3 (by omega) (by omega) a3)
theorem cut15_loop (k : Nat) (hk : 60 < k) (x : List (Int × L34)) : ∀ (r q i : Nat), i + r = 101 → r < q → i ≤ x.length → (∀ o ∈ x.take i, SmallA o.2) → ∃ t, smithylaw15_cut.l1 k x q (i : Int) = some t ∧ (∀ o ∈ t, o ∈ x) ∧ t.length ≤ 101 ∧ ∀ o ∈ t, SmallA o.2
  | r, q, i, hr, hq, hi, h => by
    obtain ⟨q, rfl⟩ : ∃ m, q = m + 1 := ⟨q - 1, by omega⟩
    have e : smithylaw15_cut.l1 k x (q + 1) (i : Int) = smithylaw15_cut.b1 k x (smithylaw15_cut.l1 k x q) (i : Int) := rfl
    rw [e]
    unfold smithylaw15_cut.b1
    have htk : ∀ n : Nat, n = i → ∃ t, some (x.take (Int.toNat (n : Int))) = some t ∧ (∀ o ∈ t, o ∈ x) ∧ t.length ≤ 101 ∧ ∀ o ∈ t, SmallA o.2 := fun n hn => by
      subst hn
      exact ⟨_, rfl, fun o ho => List.take_subset _ _ (by simpa using ho), by simp; omega, fun o ho => h o (by simpa using ho)⟩
    by_cases c : i < x.length
    · rw [if_pos (by simpa using c), if_pos (by omega)]
      by_cases c2 : 100 < i
      · rw [if_pos (by simp; omega)]
        unfold smithylaw15_cut.j2
        rw [if_pos rfl, if_pos (by omega)]
        exact htk i rfl
      · obtain ⟨r, rfl⟩ : ∃ m, r = m + 1 := ⟨r - 1, by omega⟩
        rw [if_neg (by simp; omega)]
        unfold smithylaw15_cut.j2
        rcases great13 [(gt x (i : Int)).2] k (by omega) with hgr | ⟨hgr, g1, g2⟩
        · rw [hgr, Option.bind_some, if_pos rfl, if_pos (by omega)]
          exact htk i rfl
        · rw [hgr, Option.bind_some, if_neg (by simp), next1 i (by omega)]
          refine cut15_loop k hk x r q (i + 1) (by omega) (by omega) (by omega) (fun o ho => ?_)
          rw [List.take_succ_eq_append_getElem c] at ho
          rcases List.mem_append.1 ho with ho | ho
          · exact h o ho
          · have : gt x (i : Int) = x[i] := by unfold gt; rw [Int.toNat_natCast, List.getD_eq_getElem?_getD, List.getElem?_eq_getElem c]; rfl
            rw [List.mem_singleton.1 ho, ← this]
            exact g2 _ List.mem_cons_self
    · rw [if_neg (by simpa using c)]
      have hx : x.take i = x := List.take_of_length_le (by omega)
      rw [hx] at h
      exact ⟨x, rfl, fun o ho => ho, by omega, h⟩
theorem smithylaw15_ForkPlays_true (a0 : List (Int × L34)) (w0 : Gd60 a0) : ∃ k : Nat, smithylaw15_ForkPlays.f k a0 = some true := by
  refine ⟨10000, ?_⟩
  have fx := fixed15 9800
  unfold smithylaw15_ForkPlays.f
  obtain ⟨t, h1, h2, h3, h4⟩ := cut15_loop 10000 (by omega) a0 101 10000 0 (by omega) (by omega) (by omega) (by simp)
  rw [show fork_New.f = some (([] : CaK), ([] : CaT)) from rfl, Option.bind_some, fx, Option.bind_some, if_neg (by simp), show smithylaw15_cut.f 10000 a0 = some t from h1, Option.bind_some]
  exact plays_l3 10000 (by omega) t (fun o ho => (w0.1 o (h2 o ho)).2) h4 h3 t 10000 0 [] [] [] rfl (by omega) (by omega) ⟨List.nodup_nil, fun e he => (by cases he), fun e he => (by cases he), fun a => rfl, List.nodup_nil, List.Pairwise.nil, fun e he => (by cases he), Nat.le_refl _, Nat.le_refl _⟩
end GW
