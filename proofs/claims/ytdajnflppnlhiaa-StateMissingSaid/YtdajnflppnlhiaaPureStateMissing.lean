import Derived.Test.YtdajnflppnlhiaaG0
import Derived.Test.YtdajnflppnlhiaaGWPlain
set_option linter.unusedVariables false
set_option linter.unusedSimpArgs false
set_option maxRecDepth 100000
namespace GW
open Go Go.RowKit
def SmallA (a : L39) : Prop := a.2.2.2.1.length ≤ 3000 ∧ a.2.2.2.2.length ≤ 100
theorem great_loop (l : List L39) (hl : l.length ≤ 50) : ∀ (r q i : Nat), i + r = l.length → r < q → smithyref13_Great.l1 l q (i : Int) = some true ∨ (smithyref13_Great.l1 l q (i : Int) = some false ∧ ∀ a ∈ l.drop i, SmallA a)
  | 0, q, i, hi, hq => by
    obtain ⟨q, rfl⟩ : ∃ m, q = m + 1 := ⟨q - 1, by omega⟩
    refine .inr ⟨?_, fun a ha => by rw [List.drop_eq_nil_of_le (by omega)] at ha; cases ha⟩
    show smithyref13_Great.b1 _ _ _ = _
    unfold smithyref13_Great.b1
    rw [if_neg (by simp; omega)]; rfl
  | r + 1, q, i, hi, hq => by
    obtain ⟨q, rfl⟩ : ∃ m, q = m + 1 := ⟨q - 1, by omega⟩
    have hw : wr .i64 ((i : Int) + 1) = ((i + 1 : Nat) : Int) := by rw [wr_i64_id (by omega) (by omega)]; omega
    have e1 : smithyref13_Great.l1 l (q + 1) (i : Int) = smithyref13_Great.b1 l (smithyref13_Great.l1 l q) (i : Int) := rfl
    rw [e1]
    unfold smithyref13_Great.b1
    rw [if_pos (by simp; omega), if_pos (by omega)]
    by_cases c1 : (3000 : Int) < ((gt l (i : Int)).2.2.2.1.length : Int)
    · rw [if_pos (decide_eq_true c1)]; exact .inl rfl
    · rw [if_neg (by simpa using c1)]
      unfold smithyref13_Great.j2
      by_cases c2 : (100 : Int) < ((gt l (i : Int)).2.2.2.2.length : Int)
      · rw [decide_eq_true c2]; exact .inl rfl
      · rw [decide_eq_false c2, if_neg (by simp), hw]
        rcases great_loop l hl r q (i + 1) (by omega) (by omega) with h | ⟨h, h2⟩
        · exact .inl h
        · refine .inr ⟨h, fun a ha => ?_⟩
          rw [List.drop_eq_getElem_cons (by omega)] at ha
          rcases List.mem_cons.1 ha with rfl | ha
          · have : gt l (i : Int) = l[i] := by unfold gt; rw [Int.toNat_natCast, List.getD_eq_getElem?_getD, List.getElem?_eq_getElem (by omega)]; rfl
            rw [this] at c1 c2
            exact ⟨by omega, by omega⟩
          · exact h2 a ha
theorem great13 (l : List L39) (k : Nat) (hk : 51 < k) : smithyref13_Great.f k l = some true ∨ (smithyref13_Great.f k l = some false ∧ l.length ≤ 50 ∧ ∀ a ∈ l, SmallA a) := by
  unfold smithyref13_Great.f
  by_cases c : (50 : Int) < (l.length : Int)
  · rw [if_pos (decide_eq_true c)]; exact .inl rfl
  · rw [if_neg (by simpa using c)]
    rcases great_loop l (by omega) l.length k 0 (by omega) (by omega) with h | ⟨h, h2⟩
    · exact .inl h
    · exact .inr ⟨h, by omega, by simpa using h2⟩
end GW
set_option linter.unusedVariables false
set_option linter.unusedSimpArgs false
set_option maxRecDepth 100000
namespace GW
open Go Go.RowKit
def findA : List L39 → List Int → Option L39
  | [], _ => none
  | x :: l, a => if x.1 = a then some x else findA l a
def noA : L39 := ([0, 0, 0, 0, 0, 0, 0, 0, 0, 0, 0, 0, 0, 0, 0, 0, 0, 0, 0, 0], 0, [0, 0, 0, 0], ([] : List Int), ([] : List ((List Int) × (List Int))))
theorem gt_dropA {α : Type} [Inhabited α] {xs : List α} {i : Nat} {x : α} {l : List α} (h : xs.drop i = x :: l) : gt xs (i : Int) = x ∧ i < xs.length ∧ xs.drop (i + 1) = l := by
  have hi : i < xs.length := by
    refine Decidable.byContradiction fun c => ?_
    rw [List.drop_eq_nil_of_le (by omega)] at h
    cases h
  rw [List.drop_eq_getElem_cons hi] at h
  simp only [List.cons.injEq] at h
  refine ⟨?_, hi, h.2⟩
  unfold gt
  rw [Int.toNat_natCast, List.getD_eq_getElem?_getD, List.getElem?_eq_getElem hi]
  exact h.1
theorem next1 (i : Nat) (h : i < 4611686018427387904) : wr .i64 ((i : Int) + 1) = ((i + 1 : Nat) : Int) := by rw [wr_i64_id (by omega) (by omega)]; omega
theorem find_loop (xs : List L39) (a : List Int) (hl : xs.length < 4611686018427387904) : ∀ (l : List L39) (q i : Nat), xs.drop i = l → i ≤ xs.length → l.length < q → smithyref13_Find.l1 xs a q (i : Int) = some (match findA l a with | some x => (x, true) | none => (noA, false))
  | [], q, i, hd, hi, hq => by
    obtain ⟨q, rfl⟩ : ∃ m, q = m + 1 := ⟨q - 1, by omega⟩
    have : xs.length ≤ i := by simpa using hd
    show smithyref13_Find.b1 _ _ _ _ = _
    unfold smithyref13_Find.b1
    rw [if_neg (by simp; omega)]; rfl
  | x :: l, q, i, hd, hi, hq => by
    simp only [List.length_cons] at hq
    obtain ⟨q, rfl⟩ : ∃ m, q = m + 1 := ⟨q - 1, by omega⟩
    obtain ⟨h1, h2, h3⟩ := gt_dropA hd
    show smithyref13_Find.b1 _ _ _ _ = _
    unfold smithyref13_Find.b1 findA
    rw [if_pos (by simp; omega), if_pos (by omega), h1]
    by_cases c : x.1 = a
    · rw [decide_eq_true c, if_pos rfl, if_pos c]
    · rw [decide_eq_false c, if_neg (by simp), if_neg c, next1 i (by omega)]
      exact find_loop xs a hl l q (i + 1) h3 (by omega) (by omega)
theorem find_eq (xs : List L39) (a : List Int) (k : Nat) (hk : xs.length < k) (hl : xs.length < 4611686018427387904) : smithyref13_Find.f k xs a = some (match findA xs a with | some x => (x, true) | none => (noA, false)) :=
  find_loop xs a hl xs k 0 rfl (by omega) hk
end GW
set_option linter.unusedVariables false
set_option linter.unusedSimpArgs false
set_option linter.unusedSectionVars false
set_option maxRecDepth 100000
namespace GW
open Go Go.RowKit
section
variable {α β : Type} [DecidableEq α]
theorem aget_aput (kvs : List (α × β)) (x : α) (y : β) (k : α) : aget (aput kvs x y) k = if k = x then some y else aget kvs k := by
  induction kvs with
  | nil => rfl
  | cons p r ih =>
    obtain ⟨q, v⟩ := p
    unfold aput
    by_cases c : x = q
    · rw [if_pos c]
      subst c
      show (if k = x then some y else aget r k) = if k = x then some y else if k = x then some v else aget r k
      by_cases c2 : k = x
      · rw [if_pos c2, if_pos c2]
      · rw [if_neg c2, if_neg c2, if_neg c2]
    · rw [if_neg c]
      show (if k = q then some v else aget (aput r x y) k) = if k = x then some y else if k = q then some v else aget r k
      rw [ih]
      by_cases c2 : k = q
      · rw [if_pos c2, if_pos c2, if_neg (fun e : k = x => c (e.symm.trans c2))]
      · rw [if_neg c2, if_neg c2]
theorem lk_some {o : Option β} {z v : β} (h : o = some v) : lk o z = (v, true) := by rw [h]; rfl
theorem lk_none {o : Option β} {z : β} (h : o = none) : lk o z = (z, false) := by rw [h]; rfl
end
end GW
set_option linter.unusedVariables false
set_option linter.unusedSimpArgs false
set_option maxRecDepth 100000
namespace GW
open Go Go.RowKit
def Wd (a : List Int) : Prop := a.length = 4 ∧ ∀ y ∈ a, inK .u64 y
def wv (a : List Int) : Int := rd a 0 + rd a 1 * 18446744073709551616 + rd a 2 * 340282366920938463463374607431768211456 + rd a 3 * 6277101735386680763835789423207666416102355444464034512896
theorem inK_of_u64 {x : Int} (h0 : 0 ≤ x) (h1 : x < 18446744073709551616) : inK .u64 x := by
  have : x ≤ 18446744073709551615 := by omega
  simpa [inK, Lit.wf, IntKind.min, IntKind.max, IntKind.signed, IntKind.bits] using And.intro h0 this
theorem Wd.lanes {a : List Int} (h : Wd a) : ∃ a0 a1 a2 a3 : Int, a = [a0, a1, a2, a3] ∧ (0 ≤ a0 ∧ a0 < 18446744073709551616) ∧ (0 ≤ a1 ∧ a1 < 18446744073709551616) ∧ (0 ≤ a2 ∧ a2 < 18446744073709551616) ∧ (0 ≤ a3 ∧ a3 < 18446744073709551616) := by
  obtain ⟨hl, hx⟩ := h
  match a, hl with
  | [a0, a1, a2, a3], _ => exact ⟨a0, a1, a2, a3, rfl, inK_u64 (hx a0 (by simp)), inK_u64 (hx a1 (by simp)), inK_u64 (hx a2 (by simp)), inK_u64 (hx a3 (by simp))⟩
theorem Wd.mk {a0 a1 a2 a3 : Int} (h0 : 0 ≤ a0 ∧ a0 < 18446744073709551616) (h1 : 0 ≤ a1 ∧ a1 < 18446744073709551616) (h2 : 0 ≤ a2 ∧ a2 < 18446744073709551616) (h3 : 0 ≤ a3 ∧ a3 < 18446744073709551616) : Wd [a0, a1, a2, a3] := by
  refine ⟨rfl, fun y hy => ?_⟩
  simp only [List.mem_cons, List.not_mem_nil, or_false] at hy
  rcases hy with rfl | rfl | rfl | rfl
  · exact inK_of_u64 h0.1 h0.2
  · exact inK_of_u64 h1.1 h1.2
  · exact inK_of_u64 h2.1 h2.2
  · exact inK_of_u64 h3.1 h3.2
theorem wv_lanes (a0 a1 a2 a3 : Int) : wv [a0, a1, a2, a3] = a0 + a1 * 18446744073709551616 + a2 * 340282366920938463463374607431768211456 + a3 * 6277101735386680763835789423207666416102355444464034512896 := rfl
theorem Wd.lt {a : List Int} (h : Wd a) : 0 ≤ wv a ∧ wv a < 115792089237316195423570985008687907853269984665640564039457584007913129639936 := by
  obtain ⟨a0, a1, a2, a3, rfl, h0, h1, h2, h3⟩ := h.lanes
  rw [wv_lanes]; omega
theorem Wd.inj {a b : List Int} (h : Wd a) (k : Wd b) (e : wv a = wv b) : a = b := by
  obtain ⟨a0, a1, a2, a3, rfl, h0, h1, h2, h3⟩ := h.lanes
  obtain ⟨b0, b1, b2, b3, rfl, k0, k1, k2, k3⟩ := k.lanes
  rw [wv_lanes, wv_lanes] at e
  have e0 : a0 = b0 := by omega
  subst e0
  have e1 : a1 = b1 := by omega
  subst e1
  have e2 : a2 = b2 := by omega
  subst e2
  have e3 : a3 = b3 := by omega
  rw [e3]
theorem Wd.of {x : Int} (h : inK .u64 x) : Wd [x, 0, 0, 0] := Wd.mk (inK_u64 h) (by omega) (by omega) (by omega)
theorem Wd.of' {x : Int} (h0 : 0 ≤ x) (h1 : x < 18446744073709551616) : Wd [x, 0, 0, 0] := Wd.mk ⟨h0, h1⟩ (by omega) (by omega) (by omega)
theorem Wd.zero : Wd [0, 0, 0, 0] := Wd.of' (by omega) (by omega)
def dv (B : Int) : List Int → Int
  | [] => 0
  | x :: r => x + B * dv B r
theorem rd_getD (a : List Int) (i : Nat) : rd a (i : Int) = a.getD i 0 := rfl
def Dig (B : Int) (a : List Int) : Prop := ∀ y ∈ a, 0 ≤ y ∧ y < B
theorem Dig.rd {B : Int} (hB : 0 < B) {a : List Int} (h : Dig B a) (i : Nat) : 0 ≤ a.getD i 0 ∧ a.getD i 0 < B := by
  rw [List.getD_eq_getElem?_getD]
  by_cases hi : i < a.length
  · rw [List.getElem?_eq_getElem hi]; exact h _ (List.getElem_mem hi)
  · rw [List.getElem?_eq_none (by omega)]; exact ⟨Int.le_refl _, hB⟩
theorem Dig.set {B : Int} {a : List Int} (h : Dig B a) (i : Nat) {v : Int} (hv : 0 ≤ v ∧ v < B) : Dig B (a.set i v) := fun y hy => by
  rcases List.mem_or_eq_of_mem_set hy with h1 | rfl
  · exact h y h1
  · exact hv
theorem Dig.nil (B : Int) : Dig B [] := fun y hy => by cases hy
theorem dv_lt {B : Int} (hB : 0 < B) : ∀ {a : List Int}, Dig B a → 0 ≤ dv B a ∧ dv B a < B ^ a.length
  | [], _ => by simp [dv]
  | x :: r, h => by
    obtain ⟨h1, h2⟩ := h x (by simp)
    obtain ⟨h3, h4⟩ := dv_lt hB (a := r) fun y hy => h y (by simp [hy])
    have h5 : B * dv B r ≤ B * (B ^ r.length - 1) := Int.mul_le_mul_of_nonneg_left (by omega) (by omega)
    have h6 : 0 ≤ B * dv B r := Int.mul_nonneg (by omega) h3
    simp only [dv, List.length_cons, Int.pow_succ]
    have h7 : B * (B ^ r.length - 1) = B ^ r.length * B - B := by grind
    omega
end GW
set_option linter.unusedVariables false
set_option linter.unusedSimpArgs false
set_option maxRecDepth 100000
namespace GW
open Go Go.RowKit
theorem dv_split (B : Int) : ∀ (a : List Int) (i : Nat), dv B a = dv B (a.take i) + a.getD i 0 * B ^ i + B ^ (i + 1) * dv B (a.drop (i + 1))
  | [], i => by simp [dv]
  | x :: r, 0 => by simp [dv, Int.pow_succ]
  | x :: r, i + 1 => by
    have := dv_split B r i
    simp only [List.take_succ_cons, dv, List.getD_cons_succ, List.drop_succ_cons, Int.pow_succ] at this ⊢
    rw [this]
    grind
theorem dv_zero (B : Int) : ∀ (a : List Int), (∀ j, a.getD j 0 = 0) → dv B a = 0
  | [], _ => rfl
  | x :: r, h => by
    have h0 : x = 0 := h 0
    rw [dv, dv_zero B r (fun j => h (j + 1)), h0, Int.mul_zero, Int.add_zero]
theorem dv_ext (B : Int) : ∀ (a b : List Int), (∀ j, a.getD j 0 = b.getD j 0) → dv B a = dv B b
  | [], b, h => (dv_zero B b (fun j => (h j).symm.trans (by simp))).symm
  | x :: r, [], h => dv_zero B (x :: r) (fun j => (h j).trans (by simp))
  | x :: r, y :: s, h => by
    have h0 : x = y := h 0
    rw [dv, dv, h0, dv_ext B r s (fun j => h (j + 1))]
theorem Dig.take {B : Int} {a : List Int} (h : Dig B a) (i : Nat) : Dig B (a.take i) := fun y hy => h y (List.take_subset _ _ hy)
theorem Dig.drop {B : Int} {a : List Int} (h : Dig B a) (i : Nat) : Dig B (a.drop i) := fun y hy => h y (List.drop_subset _ _ hy)
theorem getD_drop (a : List Int) (i j : Nat) : (a.drop i).getD j 0 = a.getD (i + j) 0 := by
  rw [List.getD_eq_getElem?_getD, List.getD_eq_getElem?_getD, List.getElem?_drop]
theorem dv_at {B : Int} (hB : 0 < B) {a b : List Int} (ha : Dig B a) (hb : Dig B b) (i : Nat) (hi : ∀ j, i < j → a.getD j 0 = b.getD j 0) (h : a.getD i 0 < b.getD i 0) : dv B a < dv B b := by
  have e : dv B (a.drop (i + 1)) = dv B (b.drop (i + 1)) := dv_ext B _ _ (fun j => by rw [getD_drop, getD_drop, hi _ (by omega)])
  rw [dv_split B a i, dv_split B b i, e]
  obtain ⟨_, h1⟩ := dv_lt hB (ha.take i)
  obtain ⟨h2, _⟩ := dv_lt hB (hb.take i)
  have h3 : B ^ (a.take i).length ≤ B ^ i := by
    have : ∀ m n : Nat, m ≤ n → B ^ m ≤ B ^ n := fun m n hmn => by
      obtain ⟨d, rfl⟩ := Nat.exists_eq_add_of_le hmn
      rw [Int.pow_add]
      have := Int.pow_pos (n := B) (m := d) hB
      have h4 : B ^ m * 1 ≤ B ^ m * B ^ d := Int.mul_le_mul_of_nonneg_left (by omega) (Int.le_of_lt (Int.pow_pos hB))
      omega
    exact this _ _ (by rw [List.length_take]; omega)
  have h4 : (a.getD i 0 + 1) * B ^ i ≤ b.getD i 0 * B ^ i := Int.mul_le_mul_of_nonneg_right (by omega) (Int.le_of_lt (Int.pow_pos hB))
  rw [Int.add_mul, Int.one_mul] at h4
  omega
theorem of_lanesW (k : Nat) (x0 x1 x2 x3 : Int) : smithyref01_Of.f (k + 40) [x0, x1, x2, x3] = some [wr .i64 (Int.tmod (shr x0 0) 256), wr .i64 (Int.tmod (shr x0 8) 256), wr .i64 (Int.tmod (shr x0 16) 256), wr .i64 (Int.tmod (shr x0 24) 256), wr .i64 (Int.tmod (shr x0 32) 256), wr .i64 (Int.tmod (shr x0 40) 256), wr .i64 (Int.tmod (shr x0 48) 256), wr .i64 (Int.tmod (shr x0 56) 256), wr .i64 (Int.tmod (shr x1 0) 256), wr .i64 (Int.tmod (shr x1 8) 256), wr .i64 (Int.tmod (shr x1 16) 256), wr .i64 (Int.tmod (shr x1 24) 256), wr .i64 (Int.tmod (shr x1 32) 256), wr .i64 (Int.tmod (shr x1 40) 256), wr .i64 (Int.tmod (shr x1 48) 256), wr .i64 (Int.tmod (shr x1 56) 256), wr .i64 (Int.tmod (shr x2 0) 256), wr .i64 (Int.tmod (shr x2 8) 256), wr .i64 (Int.tmod (shr x2 16) 256), wr .i64 (Int.tmod (shr x2 24) 256), wr .i64 (Int.tmod (shr x2 32) 256), wr .i64 (Int.tmod (shr x2 40) 256), wr .i64 (Int.tmod (shr x2 48) 256), wr .i64 (Int.tmod (shr x2 56) 256), wr .i64 (Int.tmod (shr x3 0) 256), wr .i64 (Int.tmod (shr x3 8) 256), wr .i64 (Int.tmod (shr x3 16) 256), wr .i64 (Int.tmod (shr x3 24) 256), wr .i64 (Int.tmod (shr x3 32) 256), wr .i64 (Int.tmod (shr x3 40) 256), wr .i64 (Int.tmod (shr x3 48) 256), wr .i64 (Int.tmod (shr x3 56) 256)] := by kernel_rfl
theorem limb_dig (x : Int) (n : Nat) (h : 0 ≤ x) (h1 : x < 18446744073709551616) : wr .i64 (Int.tmod (shr x n) 256) = x / 2 ^ n % 256 := by
  unfold shr
  have hp : (0 : Int) < 2 ^ n := Int.pow_pos (by omega)
  rw [Int.fdiv_eq_ediv_of_nonneg _ (Int.le_of_lt hp)]
  have h2 : 0 ≤ x / 2 ^ n := Int.ediv_nonneg h (Int.le_of_lt hp)
  rw [tmod_pos h2, wr_i64_id (by omega) (by omega)]
theorem limb_dv (x : Int) (h : 0 ≤ x) (h1 : x < 18446744073709551616) (r : List Int) : dv 256 (x / 2 ^ 0 % 256 :: x / 2 ^ 8 % 256 :: x / 2 ^ 16 % 256 :: x / 2 ^ 24 % 256 :: x / 2 ^ 32 % 256 :: x / 2 ^ 40 % 256 :: x / 2 ^ 48 % 256 :: x / 2 ^ 56 % 256 :: r) = x + 18446744073709551616 * dv 256 r := by
  simp only [dv, Int.reducePow]
  generalize dv 256 r = y
  omega
theorem ofD_eq (k : Nat) {a : List Int} (ha : Wd a) : ∃ d, smithyref01_Of.f (k + 40) a = some d ∧ d.length = 32 ∧ Dig 256 d ∧ dv 256 d = wv a := by
  obtain ⟨a0, a1, a2, a3, rfl, h0, h1, h2, h3⟩ := ha.lanes
  refine ⟨_, of_lanesW k a0 a1 a2 a3, rfl, ?_, ?_⟩
  · intro y hy
    simp only [limb_dig a0 _ h0.1 h0.2, limb_dig a1 _ h1.1 h1.2, limb_dig a2 _ h2.1 h2.2, limb_dig a3 _ h3.1 h3.2, List.mem_cons, List.not_mem_nil, or_false] at hy
    rcases hy with rfl | rfl | rfl | rfl | rfl | rfl | rfl | rfl | rfl | rfl | rfl | rfl | rfl | rfl | rfl | rfl | rfl | rfl | rfl | rfl | rfl | rfl | rfl | rfl | rfl | rfl | rfl | rfl | rfl | rfl | rfl | rfl <;> omega
  · simp only [limb_dig a0 _ h0.1 h0.2, limb_dig a1 _ h1.1 h1.2, limb_dig a2 _ h2.1 h2.2, limb_dig a3 _ h3.1 h3.2]
    rw [limb_dv a0 h0.1 h0.2, limb_dv a1 h1.1 h1.2, limb_dv a2 h2.1 h2.2, limb_dv a3 h3.1 h3.2, wv_lanes]
    simp only [dv]
    omega
end GW
set_option linter.unusedVariables false
set_option linter.unusedSimpArgs false
set_option maxRecDepth 100000
namespace GW
open Go Go.RowKit
def cmpI (a b : Int) : Int := if a = b then 0 else if a < b then -1 else 1
theorem cmpI_lt (a b : Int) : decide (cmpI a b < 0) = decide (a < b) := by
  unfold cmpI
  by_cases h : a = b
  · subst h; simp
  · rw [if_neg h]
    by_cases k : a < b
    · rw [if_pos k]; simp [k]
    · rw [if_neg k]; simp [k]
end GW
set_option linter.unusedVariables false
set_option linter.unusedSimpArgs false
set_option maxRecDepth 100000
namespace GW
open Go Go.RowKit
theorem cmpD_loop {x y : List Int} (hx : Dig 256 x) (hy : Dig 256 y) (hxl : x.length = 32) (hyl : y.length = 32) : ∀ (r q : Nat), r ≤ 32 → r < q → (∀ j, r ≤ j → x.getD j 0 = y.getD j 0) → smithyref01_Compare.l1 x y q ((r : Int) - 1) = some (cmpI (dv 256 x) (dv 256 y))
  | 0, q, hr, hq, h => by
    obtain ⟨q, rfl⟩ : ∃ m, q = m + 1 := ⟨q - 1, by omega⟩
    show smithyref01_Compare.b1 x y _ _ = _
    unfold smithyref01_Compare.b1 smithyref01_Compare.j1
    rw [if_neg (by simp), dv_ext 256 x y (fun j => h j (by omega))]
    simp [cmpI]
  | r + 1, q, hr, hq, h => by
    obtain ⟨q, rfl⟩ : ∃ m, q = m + 1 := ⟨q - 1, by omega⟩
    rw [show ((r + 1 : Nat) : Int) - 1 = (r : Int) from by omega]
    show smithyref01_Compare.b1 x y _ _ = _
    unfold smithyref01_Compare.b1
    rw [if_pos (by simp), if_pos (by omega), rd_getD, rd_getD]
    by_cases c : x.getD r 0 < y.getD r 0
    · rw [if_pos (by simpa using c)]
      have := dv_at (by omega) hx hy r (fun j hj => h j (by omega)) c
      unfold cmpI
      rw [if_neg (by omega), if_pos this]
    rw [if_neg (by simpa using c)]
    by_cases c2 : y.getD r 0 < x.getD r 0
    · rw [if_pos (by simpa using c2)]
      have := dv_at (by omega) hy hx r (fun j hj => (h j (by omega)).symm) c2
      unfold cmpI
      rw [if_neg (by omega), if_neg (by omega)]
    rw [if_neg (by simpa using c2), wr_i64_id (by omega) (by omega)]
    refine cmpD_loop hx hy hxl hyl r q (by omega) (by omega) (fun j hj => ?_)
    by_cases e : j = r
    · subst e; omega
    · exact h j (by omega)
theorem cmpD_eq (k : Nat) {x y : List Int} (hx : Dig 256 x) (hy : Dig 256 y) (hxl : x.length = 32) (hyl : y.length = 32) : smithyref01_Compare.f (k + 40) x y = some (cmpI (dv 256 x) (dv 256 y)) :=
  cmpD_loop hx hy hxl hyl 32 (k + 40) (by omega) (by omega) (fun j hj => by rw [List.getD_eq_getElem?_getD, List.getD_eq_getElem?_getD, List.getElem?_eq_none (by omega), List.getElem?_eq_none (by omega)])
end GW
set_option linter.unusedVariables false
set_option linter.unusedSimpArgs false
set_option maxRecDepth 100000
namespace GW
open Go Go.RowKit
theorem gt_atG {α : Type} [Inhabited α] (xs : List α) {i : Int} (h0 : 0 ≤ i) (h1 : i < xs.length) : gt xs i ∈ xs := by
  unfold gt
  have h : i.toNat < xs.length := by omega
  rw [List.getD_eq_getElem?_getD, List.getElem?_eq_getElem h]
  exact List.getElem_mem h
theorem gt_natG {α : Type} [Inhabited α] (xs : List α) {i : Nat} (h1 : i < xs.length) : gt xs (i : Int) = xs[i] := by
  unfold gt
  rw [Int.toNat_natCast, List.getD_eq_getElem?_getD, List.getElem?_eq_getElem h1]; rfl
theorem lessD_eq (k : Nat) {a b : List Int} (ha : Wd a) (hb : Wd b) : smithyref13_less.f (k + 40) a b = some (decide (wv a < wv b)) := by
  obtain ⟨d, d1, d2, d3, d4⟩ := ofD_eq k ha
  obtain ⟨e, e1, e2, e3, e4⟩ := ofD_eq k hb
  unfold smithyref13_less.f
  rw [d1, Option.bind_some, e1, Option.bind_some, cmpD_eq k d3 e3 d2 e2, Option.bind_some, cmpI_lt, d4, e4]
def SortS (l : List (List Int × List Int)) : Prop := l.Pairwise (fun a b => wv a.1 < wv b.1) ∧ ∀ s ∈ l, s.2 ≠ [0, 0, 0, 0]
theorem pair_of_adj {α : Type} {R : α → α → Prop} (ht : ∀ a b c, R a b → R b c → R a c) : ∀ (l : List α), (∀ i (h : i + 1 < l.length), R l[i] l[i + 1]) → l.Pairwise R
  | [], _ => List.Pairwise.nil
  | [a], _ => List.pairwise_singleton _ _
  | a :: b :: l, h => by
    have h1 := pair_of_adj ht (b :: l) (fun i hi => h (i + 1) (by simp at hi ⊢; omega))
    refine List.pairwise_cons.2 ⟨fun c hc => ?_, h1⟩
    have h0 : R a b := h 0 (by simp)
    rcases List.mem_cons.1 hc with rfl | hc
    · exact h0
    · exact ht _ _ _ h0 ((List.pairwise_cons.1 h1).1 c hc)
theorem rightD_loop (k : Nat) (x : L39) (hx : Gd37 x.2.2.2.2) : ∀ (r q i : Nat), i + r = x.2.2.2.2.length → r < q → ∃ b, smithyref13_Right.l1 (k + 40) x q (i : Int) = some b ∧ (b = true → ∀ j, i ≤ j → (h : j < x.2.2.2.2.length) → x.2.2.2.2[j].2 ≠ [0, 0, 0, 0] ∧ (0 < j → wv (gt x.2.2.2.2 ((j : Int) - 1)).1 < wv x.2.2.2.2[j].1))
  | 0, q, i, hi, hq => by
    obtain ⟨q, rfl⟩ : ∃ m, q = m + 1 := ⟨q - 1, by omega⟩
    refine ⟨true, ?_, fun _ j h1 h2 => by omega⟩
    show smithyref13_Right.b1 _ _ _ _ = _
    unfold smithyref13_Right.b1
    rw [if_neg (by simp; omega)]; rfl
  | r + 1, q, i, hi, hq => by
    obtain ⟨q, rfl⟩ : ∃ m, q = m + 1 := ⟨q - 1, by omega⟩
    have hm := hx.2
    simp only [maxLen] at hm
    have hw : wr .i64 ((i : Int) + 1) = ((i + 1 : Nat) : Int) := by rw [wr_i64_id (by omega) (by omega)]; omega
    obtain ⟨b, ih2, ih3⟩ := rightD_loop k x hx r q (i + 1) (by omega) (by omega)
    have hc : decide ((i : Int) < ((x.2.2.2.2).length : Int)) = true := decide_eq_true (by omega)
    have hb : (0 : Int) ≤ (i : Int) ∧ (i : Int) < ((x.2.2.2.2).length : Int) := by omega
    have hil : i < x.2.2.2.2.length := by omega
    have e2 : smithyref13_Right.l1 (k + 40) x (q + 1) (i : Int) = smithyref13_Right.b1 (k + 40) x (smithyref13_Right.l1 (k + 40) x q) (i : Int) := rfl
    rw [e2]
    unfold smithyref13_Right.b1
    rw [if_pos hc, if_pos hb]
    by_cases c : (gt x.2.2.2.2 (i : Int)).2 = [0, 0, 0, 0]
    · rw [decide_eq_true c, if_pos rfl]
      exact ⟨false, rfl, fun h => by cases h⟩
    · rw [decide_eq_false c, if_neg (show ¬ (false = true) by simp)]
      have j2 : ∀ t, smithyref13_Right.j2 (i : Int) (smithyref13_Right.l1 (k + 40) x q) t = if t = true then some false else some b := fun t => by
        unfold smithyref13_Right.j2; rw [hw, ih2]
      have c' := c
      rw [gt_natG x.2.2.2.2 hil] at c'
      by_cases c0 : 0 < i
      · have h0 : decide ((0 : Int) < (i : Int)) = true := decide_eq_true (by omega)
        have hp : wr .i64 ((i : Int) - 1) = (i : Int) - 1 := wr_i64_id (by omega) (by omega)
        rw [if_pos h0, hp, if_pos (by omega)]
        have g1 := (hx.1 _ (gt_atG x.2.2.2.2 (i := (i : Int) - 1) (by omega) (by omega))).1
        have g2 := (hx.1 _ (gt_atG x.2.2.2.2 (i := (i : Int)) (by omega) (by omega))).1
        have w1 : Wd (gt x.2.2.2.2 ((i : Int) - 1)).1 := g1
        have w2 : Wd (gt x.2.2.2.2 (i : Int)).1 := g2
        rw [lessD_eq k w1 w2, Option.bind_some, j2]
        by_cases c3 : wv (gt x.2.2.2.2 ((i : Int) - 1)).1 < wv (gt x.2.2.2.2 (i : Int)).1
        · rw [decide_eq_true c3, if_neg (by simp)]
          refine ⟨b, rfl, fun hb j h1 h2 => ?_⟩
          rcases Nat.eq_or_lt_of_le h1 with h1 | h1
          · subst h1
            rw [gt_natG x.2.2.2.2 hil] at c3
            exact ⟨c', fun _ => c3⟩
          · exact ih3 hb j h1 h2
        · rw [decide_eq_false c3, if_pos (by simp)]
          exact ⟨false, rfl, fun h => by cases h⟩
      · have h0 : decide ((0 : Int) < (i : Int)) = false := decide_eq_false (by omega)
        rw [h0, if_neg (show ¬ (false = true) by simp), j2, if_neg (show ¬ (false = true) by simp)]
        refine ⟨b, rfl, fun hb j h1 h2 => ?_⟩
        rcases Nat.eq_or_lt_of_le h1 with h1 | h1
        · subst h1
          exact ⟨c', fun h => absurd h c0⟩
        · exact ih3 hb j h1 h2
theorem rightD_eq (k : Nat) (x : L39) (hx : Gd37 x.2.2.2.2) (hk : x.2.2.2.2.length < k + 40) : ∃ b, smithyref13_Right.f (k + 40) x = some b ∧ (b = true → SortS x.2.2.2.2) := by
  obtain ⟨b, h1, h2⟩ := rightD_loop k x hx x.2.2.2.2.length (k + 40) 0 (by omega) (by omega)
  refine ⟨b, h1, fun hb => ⟨pair_of_adj (fun a b c => by omega) _ fun i hi => ?_, fun s hs => ?_⟩⟩
  · have h3 := (h2 hb (i + 1) (by omega) hi).2 (by omega)
    have e : (((i + 1 : Nat) : Int) - 1) = ((i : Nat) : Int) := by omega
    rw [e, gt_natG _ (by omega)] at h3
    exact h3
  · obtain ⟨i, hi, rfl⟩ := List.mem_iff_getElem.1 hs
    exact (h2 hb i (by omega) hi).1
end GW
set_option linter.unusedVariables false
set_option linter.unusedSimpArgs false
set_option maxRecDepth 100000
namespace GW
open Go Go.RowKit
theorem right14_loop (k : Nat) (l : List L39) (hg : ∀ a ∈ l, Gd37 a.2.2.2.2 ∧ a.2.2.2.2.length ≤ 100) (hk : 100 < k + 40) (hl : l.length ≤ 50) : ∀ (r q i : Nat), i + r = l.length → r < q → ∃ b, smithylaw14_right.l1 (k + 40) l q (i : Int) = some b ∧ (b = true → ∀ a ∈ l.drop i, SortS a.2.2.2.2)
  | 0, q, i, hi, hq => by
    obtain ⟨q, rfl⟩ : ∃ m, q = m + 1 := ⟨q - 1, by omega⟩
    refine ⟨true, ?_, fun _ a ha => by rw [List.drop_eq_nil_of_le (by omega)] at ha; cases ha⟩
    show smithylaw14_right.b1 _ _ _ _ = _
    unfold smithylaw14_right.b1
    rw [if_neg (by simp; omega)]; rfl
  | r + 1, q, i, hi, hq => by
    obtain ⟨q, rfl⟩ : ∃ m, q = m + 1 := ⟨q - 1, by omega⟩
    have hw : wr .i64 ((i : Int) + 1) = ((i + 1 : Nat) : Int) := by rw [wr_i64_id (by omega) (by omega)]; omega
    obtain ⟨b, ih, ih2⟩ := right14_loop k l hg hk hl r q (i + 1) (by omega) (by omega)
    have hil : i < l.length := by omega
    have e2 : smithylaw14_right.l1 (k + 40) l (q + 1) (i : Int) = smithylaw14_right.b1 (k + 40) l (smithylaw14_right.l1 (k + 40) l q) (i : Int) := rfl
    rw [e2]
    unfold smithylaw14_right.b1
    rw [if_pos (by simp; omega), if_pos (by omega), gt_natG l hil]
    obtain ⟨h1, h2⟩ := hg l[i] (List.getElem_mem hil)
    obtain ⟨b2, c1, c2⟩ := rightD_eq k l[i] h1 (by omega)
    rw [c1, Option.bind_some, hw, ih]
    cases b2 with
    | false => exact ⟨false, rfl, fun h => by cases h⟩
    | true =>
      refine ⟨b, rfl, fun hb a ha => ?_⟩
      rw [List.drop_eq_getElem_cons hil] at ha
      rcases List.mem_cons.1 ha with rfl | ha
      · exact c2 rfl
      · exact ih2 hb a ha
def Right14 (l : List L39) : Prop := l.length ≤ 50 ∧ ∀ a ∈ l, SmallA a ∧ SortS a.2.2.2.2
theorem right14_eq (k : Nat) (l : List L39) (hg : ∀ a ∈ l, Gd39 a) (hk : 100 < k) : ∃ b, smithylaw14_right.f (k + 40) l = some b ∧ (b = true → Right14 l) := by
  unfold smithylaw14_right.f
  rcases great13 l (k + 40) (by omega) with h | ⟨h, h1, h2⟩
  · rw [h]; exact ⟨false, rfl, fun h => by cases h⟩
  · rw [h, Option.bind_some, if_neg (by simp)]
    obtain ⟨b, c1, c2⟩ := right14_loop k l (fun a ha => ⟨(hg a ha).2.2.2.2, (h2 a ha).2⟩) (by omega) h1 l.length (k + 40) 0 (by omega) (by omega)
    exact ⟨b, c1, fun hb => ⟨h1, fun a ha => ⟨h2 a ha, c2 hb a (by simpa using ha)⟩⟩⟩
end GW
set_option linter.unusedVariables false
set_option linter.unusedSimpArgs false
set_option maxRecDepth 100000
namespace GW
open Go Go.RowKit
def Ids (mp : List (List Int × Option Nat)) (n : Nat) : Prop := ∀ a v, aget mp a = some v → ∃ i, v = some i ∧ i < n
theorem Ids.put {mp : List (List Int × Option Nat)} {n : Nat} (h : Ids mp n) (a : List Int) : Ids (aput mp a (some n)) (n + 1) := fun b v hb => by
  rw [aget_aput] at hb
  by_cases c : b = a
  · rw [if_pos c] at hb
    obtain rfl := Option.some.inj hb
    exact ⟨n, rfl, by omega⟩
  · rw [if_neg c] at hb
    obtain ⟨i, h1, h2⟩ := h b v hb
    exact ⟨i, h1, by omega⟩
def Unk (l : List L39) (mp : List (List Int × Option Nat)) (ms : List (List Int)) : Prop := ∀ a v, aget mp a = some v → findA l a = none → ms ≠ []
theorem half_eq (l : List L39) (a : List Int) (k : Nat) (hk : l.length < k) (hl : l.length < 4611686018427387904) : smithylaw14_half_Account.f k l a = some (match findA l a with | some x => (x, true) | none => (noA, false)) := by
  unfold smithylaw14_half_Account.f
  rw [find_eq l a k hk hl]
  rfl
theorem nonce_ok (l : List L39) (k : Nat) (hk : l.length < k) (hl : l.length < 4611686018427387904) (mp : List (List Int × Option Nat)) (es : List L76) (m1 : List (List (List Int × List Int))) (m2 : List (List (List Int × Bool))) (rf : Int) (lg : List L51) (un : List Clo) (ms : List (List Int)) (a : List Int) (hi : Ids mp es.length) (hu : Unk l mp ms) :
    ∃ n mp' es' m1' m2' ms', state_State_Nonce.f k (l, (mp, es, m1, m2), rf, lg, un, ms) a = some (n, (), (mp', es', m1', m2'), (), lg, un, ms') ∧ Ids mp' es'.length ∧ Unk l mp' ms' ∧ ms' = if findA l a = none ∧ ms = [] then [a] else ms := by
  unfold state_State_Nonce.f state_State_at_i2.f
  simp only []
  cases h : aget mp a with
  | some v =>
    obtain ⟨i, rfl, hv⟩ := hi a v h
    rw [lk_some rfl, if_pos rfl, Option.bind_some]
    refine ⟨_, mp, es, m1, m2, ms, rfl, hi, hu, ?_⟩
    rw [if_neg fun c => hu a _ h c.1 c.2]
  | none =>
    rw [lk_none rfl, if_neg (by simp), half_eq l a k hk hl]
    have hlen : ∀ e : L76, (es ++ [e]).length = es.length + 1 := fun e => by simp
    cases hf : findA l a with
    | some x =>
      refine ⟨_, aput mp a (some es.length), _, _, _, ms, rfl, ?_, ?_, ?_⟩
      · rw [hlen]; exact hi.put a
      · intro b v hb hn
        rw [aget_aput] at hb
        by_cases c : b = a
        · subst c; rw [hf] at hn; cases hn
        · rw [if_neg c] at hb; exact hu b v hb hn
      · rw [if_neg fun c => by cases c.1]
    | none =>
      cases ms with
      | nil =>
        refine ⟨_, aput mp a (some es.length), _, _, _, [a], rfl, ?_, ?_, ?_⟩
        · rw [hlen]; exact hi.put a
        · exact fun _ _ _ _ => by simp
        · simp
      | cons b r =>
        have hb : ¬ ((((b :: r).length : Int) == 0) = true) := by simp; omega
        have hj : ∀ (y2 : List Int) (y3 : Int) (y4 y5 : List Int) (y6 : List (List Int × List Int)), state_State_at_i2.j1 (l, (mp, es, m1, m2), rf, lg, un, b :: r) a false y2 y3 y4 y5 y6 = state_State_at_i2.j2 (l, (mp, es, m1, m2), rf, lg, un, b :: r) a (b :: r) [0, 0, 0, 0, 0, 0, 0, 0, 0, 0, 0, 0, 0, 0, 0, 0, 0, 0, 0, 0] 0 [0, 0, 0, 0] [] [] := fun y2 y3 y4 y5 y6 => by
          unfold state_State_at_i2.j1
          exact (if_pos (show (!false) = true from rfl)).trans (if_neg hb)
        rw [Option.bind_some]
        simp only []
        rw [hj]
        refine ⟨_, aput mp a (some es.length), _, _, _, b :: r, rfl, ?_, ?_, ?_⟩
        · rw [hlen]; exact hi.put a
        · exact fun _ _ _ _ => by simp
        · simp
theorem list_loop (xs : List L39) (a : List Int) (hl : xs.length < 4611686018427387904) : ∀ (l : List L39) (q i : Nat), xs.drop i = l → i ≤ xs.length → l.length < q → state_list_Account.l1 xs a q (i : Int) = some (match findA l a with | some x => (x, true) | none => ((a, 0, [0, 0, 0, 0], [], []), true))
  | [], q, i, hd, hi, hq => by
    obtain ⟨q, rfl⟩ : ∃ m, q = m + 1 := ⟨q - 1, by omega⟩
    have : xs.length ≤ i := by simpa using hd
    show state_list_Account.b1 _ _ _ _ = _
    unfold state_list_Account.b1
    rw [if_neg (by simp; omega)]; rfl
  | x :: l, q, i, hd, hi, hq => by
    simp only [List.length_cons] at hq
    obtain ⟨q, rfl⟩ : ∃ m, q = m + 1 := ⟨q - 1, by omega⟩
    obtain ⟨h1, h2, h3⟩ := gt_dropA hd
    show state_list_Account.b1 _ _ _ _ = _
    unfold state_list_Account.b1 findA
    rw [if_pos (by simp; omega), if_pos (by omega), h1]
    by_cases c : x.1 = a
    · rw [decide_eq_true c, if_pos rfl, if_pos c]
    · rw [decide_eq_false c, if_neg (by simp), if_neg c, next1 i (by omega)]
      exact list_loop xs a hl l q (i + 1) h3 (by omega) (by omega)
def baseA (l : List L39) (a : List Int) : L39 := match findA l a with | some x => x | none => (a, 0, [0, 0, 0, 0], [], [])
theorem list_eq (l : List L39) (a : List Int) (k : Nat) (hk : l.length < k) (hl : l.length < 4611686018427387904) : state_list_Account.f k l a = some (baseA l a, true) := by
  have h := list_loop l a hl l k 0 rfl (by omega) hk
  unfold baseA
  cases hf : findA l a with
  | some x => rw [hf] at h; exact h
  | none => rw [hf] at h; exact h
theorem stateList_loop (l : List L39) (hl : l.length ≤ 50) (hs : ∀ a ∈ l, SmallA a) : ∀ (r q i : Nat), i + r = l.length → r < q → state_List.l1 l q (l.take i) (i : Int) = some l
  | 0, q, i, hi, hq => by
    obtain ⟨q, rfl⟩ : ∃ m, q = m + 1 := ⟨q - 1, by omega⟩
    show state_List.b1 _ _ _ _ = _
    unfold state_List.b1
    rw [if_neg (by simp; omega), List.take_of_length_le (by omega)]; rfl
  | r + 1, q, i, hi, hq => by
    obtain ⟨q, rfl⟩ : ∃ m, q = m + 1 := ⟨q - 1, by omega⟩
    have hil : i < l.length := by omega
    have hw : wr .i64 ((i : Int) + 1) = ((i + 1 : Nat) : Int) := by rw [wr_i64_id (by omega) (by omega)]; omega
    obtain ⟨s1, s2⟩ := hs l[i] (List.getElem_mem hil)
    show state_List.b1 _ _ _ _ = _
    unfold state_List.b1 slices_Clone_byte_byte.f api_Slot_n28.f
    rw [if_pos (by simp; omega), if_pos (by omega), gt_natG l hil, if_pos (by simp only [List.length_nil]; omega), Option.bind_some, if_pos (by simp only [List.length_nil]; omega), Option.bind_some,
      if_pos (by simp only [List.length_take, List.length_cons, List.length_nil]; omega), hw]
    have e : l.take i ++ [((l[i]).1, (l[i]).2.1, (l[i]).2.2.1, [] ++ (l[i]).2.2.2.1, [] ++ (l[i]).2.2.2.2)] = l.take (i + 1) := by
      rw [List.take_succ_eq_append_getElem hil]; rfl
    rw [e]
    exact stateList_loop l hl hs r q (i + 1) (by omega) (by omega)
theorem stateList_eq (l : List L39) (hl : l.length ≤ 50) (hs : ∀ a ∈ l, SmallA a) (k : Nat) (hk : 50 < k) : state_List.f k l = some l := stateList_loop l hl hs l.length k 0 (by omega) (by omega)
end GW
set_option linter.unusedVariables false
set_option linter.unusedSimpArgs false
set_option maxRecDepth 100000
namespace GW
open Go Go.RowKit
theorem balance_ok (l : List L39) (k : Nat) (hk : l.length < k) (hl : l.length < 4611686018427387904) (mp : List (List Int × Option Nat)) (es : List L76) (m1 : List (List (List Int × List Int))) (m2 : List (List (List Int × Bool))) (rf : Int) (lg : List L51) (un : List Clo) (a : List Int) (hi : Ids mp es.length) :
    ∃ n mp' es' m1' m2', state_State_Balance.f k (l, (mp, es, m1, m2), rf, lg, un, []) a = some (n, (), (mp', es', m1', m2'), (), lg, un, []) ∧ Ids mp' es'.length := by
  unfold state_State_Balance.f state_State_at.f
  simp only []
  cases h : aget mp a with
  | some v =>
    obtain ⟨i, rfl, hv⟩ := hi a v h
    rw [lk_some rfl, if_pos rfl, Option.bind_some]
    exact ⟨_, mp, es, m1, m2, rfl, hi⟩
  | none =>
    rw [lk_none rfl, if_neg (by simp), list_eq l a k hk hl]
    refine ⟨_, aput mp a (some es.length), _, _, _, rfl, ?_⟩
    have hlen : ∀ e : L76, (es ++ [e]).length = es.length + 1 := fun e => by simp
    rw [hlen]; exact hi.put a
theorem miss_last (l : List L39) (qs : List (List Int)) (k : Nat) (hk : l.length < k) (hl : l.length < 4611686018427387904) (hal : qs.length ≤ 50) (rf : Int) : ∀ (r q i : Nat) (t : W2) (mp : List (List Int × Option Nat)) (es : List L76) (m1 : List (List (List Int × List Int))) (m2 : List (List (List Int × Bool))) (lg : List L51) (un : List Clo), t.1 = l → i + r = qs.length → r < q → Ids mp es.length →
    smithylaw14_StateMissing.l1 k qs t q (i : Int) mp es m1 m2 lg un [] = some true
  | 0, q, i, t, mp, es, m1, m2, lg, un, ht, hi, hq, hd => by
    obtain ⟨q, rfl⟩ : ∃ m, q = m + 1 := ⟨q - 1, by omega⟩
    show smithylaw14_StateMissing.b1 _ _ _ _ _ _ _ _ _ _ _ _ = _
    unfold smithylaw14_StateMissing.b1
    rw [if_neg (by simp; omega)]; rfl
  | r + 1, q, i, t, mp, es, m1, m2, lg, un, ht, hi, hq, hd => by
    obtain ⟨q, rfl⟩ : ∃ m, q = m + 1 := ⟨q - 1, by omega⟩
    subst ht
    show smithylaw14_StateMissing.b1 _ _ _ _ _ _ _ _ _ _ _ _ = _
    unfold smithylaw14_StateMissing.b1
    rw [if_pos (by simp; omega), if_pos (by omega), next1 i (by omega)]
    obtain ⟨n, mp', es', m1', m2', h1, h2⟩ := balance_ok t.1 k hk hl mp es m1 m2 t.2.2.1 lg un (gt qs (i : Int)) hd
    rw [h1, Option.bind_some]
    exact miss_last t.1 qs k hk hl hal rf r q (i + 1) t mp' es' m1' m2' lg un rfl (by omega) (by omega) h2
theorem miss_first (l : List L39) (hr : Right14 l) (qs : List (List Int)) (k : Nat) (hk : 200 < k) (hal : qs.length ≤ 50) : ∀ (r q i : Nat) (t : W2) (mp : List (List Int × Option Nat)) (es : List L76) (m1 : List (List (List Int × List Int))) (m2 : List (List (List Int × Bool))) (lg : List L51) (un : List Clo) (ms : List (List Int)), t.1 = l → i + r = qs.length → r < q → Ids mp es.length → Unk l mp ms →
    smithylaw14_StateMissing.l2 k l qs t q ms (i : Int) mp es m1 m2 lg un ms = some true
  | 0, q, i, t, mp, es, m1, m2, lg, un, ms, ht, hi, hq, hd, hu => by
    obtain ⟨q, rfl⟩ : ∃ m, q = m + 1 := ⟨q - 1, by omega⟩
    have hl := hr.1
    show smithylaw14_StateMissing.b2 _ _ _ _ _ _ _ _ _ _ _ _ _ _ = _
    unfold smithylaw14_StateMissing.b2
    rw [if_neg (by simp; omega)]
    unfold smithylaw14_StateMissing.j2
    rw [stateList_eq l hl (fun a ha => (hr.2 a ha).1) k (by omega), Option.bind_some]
    exact miss_last l qs k (by omega) (by omega) hal 0 qs.length k 0 _ [] [] [] [] [] [] rfl (by omega) (by omega) (fun a v h => by cases h)
  | r + 1, q, i, t, mp, es, m1, m2, lg, un, ms, ht, hi, hq, hd, hu => by
    obtain ⟨q, rfl⟩ : ∃ m, q = m + 1 := ⟨q - 1, by omega⟩
    have hl := hr.1
    subst ht
    show smithylaw14_StateMissing.b2 _ _ _ _ _ _ _ _ _ _ _ _ _ _ = _
    unfold smithylaw14_StateMissing.b2
    rw [if_pos (by simp; omega), if_pos (by omega)]
    obtain ⟨n, mp', es', m1', m2', ms', h1, h2, h3, h4⟩ := nonce_ok t.1 k (by omega) (by omega) mp es m1 m2 t.2.2.1 lg un ms (gt qs (i : Int)) hd hu
    have ih := miss_first t.1 hr qs k hk hal r q (i + 1) t mp' es' m1' m2' lg un ms' rfl (by omega) (by omega) h2 h3
    rw [h1, Option.bind_some, find_eq t.1 (gt qs (i : Int)) k (by omega) (by omega), Option.bind_some]
    have hj4 : ∀ y, y = ms' → smithylaw14_StateMissing.j4 t (i : Int) (smithylaw14_StateMissing.l2 k t.1 qs t q) (n, (), (mp', es', m1', m2'), (), lg, un, ms') y = some true := fun y hy => by
      subst hy
      unfold smithylaw14_StateMissing.j4 state_State_Missing.f smithylaw14_StateMissing.j5
      simp only [next1 i (by omega : i < 4611686018427387904)]
      cases y with
      | nil => exact ih
      | cons b y =>
        have c1 : ¬ ((((b :: y).length : Int) == 0) = true) := by simp; omega
        have c2 : (0 : Int) ≤ 0 ∧ 0 < (((b :: y).length : Int)) := ⟨Int.le_refl _, by simp⟩
        rw [if_neg c1, if_pos c2, Option.bind_some]
        have c3 : decide (0 < (((b :: y).length : Int))) = true := decide_eq_true c2.2
        simp only [c3, beq_self_eq_true, Bool.not_true, Bool.false_eq_true, if_false, if_true, if_pos c2, decide_true]
        exact ih
    unfold smithylaw14_StateMissing.j6
    cases hf : findA t.1 (gt qs (i : Int)) with
    | some x =>
      rw [hf] at h4
      rw [if_neg (by simp), if_neg (by simp)]
      exact hj4 ms (by rw [h4, if_neg fun c => by cases c.1])
    | none =>
      rw [hf] at h4
      rw [if_pos (by rfl)]
      cases ms with
      | nil => rw [if_pos (by rfl)]; exact hj4 _ (by rw [h4, if_pos ⟨rfl, rfl⟩])
      | cons b y =>
        have c1 : ¬ ((((b :: y).length : Int) == 0) = true) := by simp; omega
        rw [if_neg c1]
        exact hj4 _ (by rw [h4, if_neg fun c => by cases c.2])
theorem smithylaw14_StateMissing_true (a0 : List L39) (a1 : List (List Int)) (w0 : Gd22 a0) (w1 : Gd23 a1) : ∃ k : Nat, smithylaw14_StateMissing.f k a0 a1 = some true := by
  refine ⟨1000, ?_⟩
  have fx : smithylaw14_fixed.f 1000 = some true := by kernel_rfl
  obtain ⟨b, h1, h2⟩ := right14_eq 960 a0 w0.1 (by omega)
  unfold smithylaw14_StateMissing.f smithylaw14_StateMissing.j1
  rw [h1, Option.bind_some, fx]
  cases b with
  | false => rfl
  | true =>
    rw [if_neg (by simp)]
    by_cases c : (50 : Int) < (a1.length : Int)
    · rw [decide_eq_true c]; rfl
    · rw [decide_eq_false c, if_neg (by simp)]
      exact miss_first a0 (h2 rfl) a1 1000 (by omega) (by omega) a1.length 1000 0 _ [] [] [] [] [] [] [] rfl (by omega) (by omega) (fun a v h => by cases h) (fun a v h => by cases h)
end GW
