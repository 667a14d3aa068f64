import Derived.Test.YtmidfllhoogifaaG0
import Derived.Test.YtmidfllhoogifaaGWPlain
import Derived.Sort.LotA
import Derived.Sort.Defs
import Derived.Laws.Bits64b
import Derived.Sort.LotB
import Derived.Sort.LotC
import Derived.Sort.LotD3
set_option linter.unusedVariables false
set_option linter.unusedSimpArgs false
set_option maxRecDepth 100000
namespace GW
open Go Go.RowKit
def SmallA (a : L30) : Prop := a.2.2.2.1.length ≤ 3000 ∧ a.2.2.2.2.length ≤ 100
theorem great_loop (l : List L30) (hl : l.length ≤ 50) : ∀ (r q i : Nat), i + r = l.length → r < q → smithyref13_Great.l1 l q (i : Int) = some true ∨ (smithyref13_Great.l1 l q (i : Int) = some false ∧ ∀ a ∈ l.drop i, SmallA a)
  | 0, q, i, hi, hq => by
    obtain ⟨q, rfl⟩ : ∃ m, q = m + 1 := ⟨q - 1, by omega⟩
    refine .inr ⟨?_, fun a ha => by rw [List.drop_eq_nil_of_le (by omega)] at ha; cases ha⟩
    show smithyref13_Great.b1 _ _ _ = _
    unfold smithyref13_Great.b1
    rw [if_neg (by simp; omega)]; rfl
  | r + 1, q, i, hi, hq => by
    obtain ⟨q, rfl⟩ : ∃ m, q = m + 1 := ⟨q - 1, by omega⟩
    have hw : wr .i64 ((i : Int) + 1) = ((i + 1 : Nat) : Int) := by rw [wr_i64_id (by omega) (by omega)]; omega
    have e1 : smithyref13_Great.l1 l (q + 1) (i : Int) = smithyref13_Great.b1 l (smithyref13_Great.l1 l q) (i : Int) := rfl
    rw [e1]
    unfold smithyref13_Great.b1
    rw [if_pos (by simp; omega), if_pos (by omega)]
    by_cases c1 : (3000 : Int) < ((gt l (i : Int)).2.2.2.1.length : Int)
    · rw [if_pos (decide_eq_true c1)]; exact .inl rfl
    · rw [if_neg (by simpa using c1)]
      unfold smithyref13_Great.j2
      by_cases c2 : (100 : Int) < ((gt l (i : Int)).2.2.2.2.length : Int)
      · rw [decide_eq_true c2]; exact .inl rfl
      · rw [decide_eq_false c2, if_neg (by simp), hw]
        rcases great_loop l hl r q (i + 1) (by omega) (by omega) with h | ⟨h, h2⟩
        · exact .inl h
        · refine .inr ⟨h, fun a ha => ?_⟩
          rw [List.drop_eq_getElem_cons (by omega)] at ha
          rcases List.mem_cons.1 ha with rfl | ha
          · have : gt l (i : Int) = l[i] := by unfold gt; rw [Int.toNat_natCast, List.getD_eq_getElem?_getD, List.getElem?_eq_getElem (by omega)]; rfl
            rw [this] at c1 c2
            exact ⟨by omega, by omega⟩
          · exact h2 a ha
theorem great13 (l : List L30) (k : Nat) (hk : 51 < k) : smithyref13_Great.f k l = some true ∨ (smithyref13_Great.f k l = some false ∧ l.length ≤ 50 ∧ ∀ a ∈ l, SmallA a) := by
  unfold smithyref13_Great.f
  by_cases c : (50 : Int) < (l.length : Int)
  · rw [if_pos (decide_eq_true c)]; exact .inl rfl
  · rw [if_neg (by simpa using c)]
    rcases great_loop l (by omega) l.length k 0 (by omega) (by omega) with h | ⟨h, h2⟩
    · exact .inl h
    · exact .inr ⟨h, by omega, by simpa using h2⟩
end GW
set_option linter.unusedVariables false
set_option linter.unusedSimpArgs false
set_option maxRecDepth 100000
namespace GW
open Go Go.RowKit
def findA : List L30 → List Int → Option L30
  | [], _ => none
  | x :: l, a => if x.1 = a then some x else findA l a
theorem findA_mem {l : List L30} {a : List Int} {x : L30} (h : findA l a = some x) : x ∈ l ∧ x.1 = a := by
  induction l with
  | nil => cases h
  | cons y l ih =>
    unfold findA at h
    by_cases c : y.1 = a
    · rw [if_pos c] at h; obtain rfl := Option.some.inj h; exact ⟨List.mem_cons_self, c⟩
    · rw [if_neg c] at h; exact ⟨List.mem_cons_of_mem _ (ih h).1, (ih h).2⟩
theorem gt_dropA {α : Type} [Inhabited α] {xs : List α} {i : Nat} {x : α} {l : List α} (h : xs.drop i = x :: l) : gt xs (i : Int) = x ∧ i < xs.length ∧ xs.drop (i + 1) = l := by
  have hi : i < xs.length := by
    refine Decidable.byContradiction fun c => ?_
    rw [List.drop_eq_nil_of_le (by omega)] at h
    cases h
  rw [List.drop_eq_getElem_cons hi] at h
  simp only [List.cons.injEq] at h
  refine ⟨?_, hi, h.2⟩
  unfold gt
  rw [Int.toNat_natCast, List.getD_eq_getElem?_getD, List.getElem?_eq_getElem hi]
  exact h.1
theorem next1 (i : Nat) (h : i < 4611686018427387904) : wr .i64 ((i : Int) + 1) = ((i + 1 : Nat) : Int) := by rw [wr_i64_id (by omega) (by omega)]; omega
theorem same_l (x : L30) (hl : x.2.2.2.2.length < 4611686018427387904) : ∀ (r i q : Nat), i + r = x.2.2.2.2.length → r < q → smithyref13_Same.l1 x x q (i : Int) = some true
  | 0, i, q, hi, hq => by
    obtain ⟨q, rfl⟩ : ∃ m, q = m + 1 := ⟨q - 1, by omega⟩
    show smithyref13_Same.b1 _ _ _ _ = _
    unfold smithyref13_Same.b1
    rw [if_neg (by simp; omega)]; rfl
  | r + 1, i, q, hi, hq => by
    obtain ⟨q, rfl⟩ : ∃ m, q = m + 1 := ⟨q - 1, by omega⟩
    show smithyref13_Same.b1 _ _ _ _ = _
    unfold smithyref13_Same.b1
    rw [if_pos (by simp; omega), if_pos (by omega), if_pos (by omega), if_neg (by simp), next1 i (by omega)]
    exact same_l x hl r (i + 1) q (by omega) (by omega)
theorem same_self (x : L30) (k : Nat) (hk : x.2.2.2.2.length < k) (hl : x.2.2.2.2.length < 4611686018427387904) : smithyref13_Same.f k x x = some true := by
  unfold smithyref13_Same.f smithyref13_Same.j1
  rw [if_neg (by simp), if_neg (by simp), if_neg (by simp), if_neg (by simp), if_neg (by simp)]
  exact same_l x hl x.2.2.2.2.length 0 k (by omega) hk
end GW
set_option linter.unusedVariables false
set_option linter.unusedSimpArgs false
set_option maxRecDepth 100000
namespace GW
open Go Go.RowKit
def Ad (a : List Int) : Prop := a.length = 20 ∧ ∀ y ∈ a, inK .u8 y
theorem cb_lt : ∀ a b : List UInt8, Lib.compareBytes a b < 0 ↔ a < b
  | [], [] => by simp [Lib.compareBytes]
  | [], _ :: _ => by simp [Lib.compareBytes]
  | _ :: _, [] => by simp [Lib.compareBytes]
  | a :: u, b :: v => by
    have ih := cb_lt u v
    show (if a < b then (-1 : Int) else if b < a then 1 else Lib.compareBytes u v) < 0 ↔ _
    rw [List.cons_lt_cons_iff]
    by_cases c1 : a < b
    · simp [c1]
    · rw [if_neg c1]
      by_cases c2 : b < a
      · rw [if_pos c2]
        have : a ≠ b := fun e => by subst e; exact c1 c2
        simp [c1, this]
      · rw [if_neg c2, ih]
        have : a = b := UInt8.le_antisymm (UInt8.not_lt.1 c2) (UInt8.not_lt.1 c1)
        simp [this, UInt8.lt_irrefl]
def akey (a : List Int) : List UInt8 := u8s ((a.drop 0).take 20)
theorem akey_eq {a : List Int} (h : Ad a) : akey a = u8s a := by
  unfold akey
  rw [List.drop_zero, List.take_of_length_le (by rw [h.1]; omega)]
theorem u8_injI {x y : Int} (hx : 0 ≤ x ∧ x < 256) (hy : 0 ≤ y ∧ y < 256) (h : UInt8.ofNat x.toNat = UInt8.ofNat y.toNat) : x = y := by
  have := congrArg UInt8.toNat h
  rw [UInt8.toNat_ofNat', UInt8.toNat_ofNat', Nat.mod_eq_of_lt (by omega), Nat.mod_eq_of_lt (by omega)] at this
  omega
theorem u8s_inj : ∀ {a b : List Int}, (∀ y ∈ a, inK .u8 y) → (∀ y ∈ b, inK .u8 y) → u8s a = u8s b → a = b
  | [], [], _, _, _ => rfl
  | [], _ :: _, _, _, h => by simp [u8s] at h
  | _ :: _, [], _, _, h => by simp [u8s] at h
  | x :: a, y :: b, ha, hb, h => by
    have h1 : UInt8.ofNat x.toNat :: u8s a = UInt8.ofNat y.toNat :: u8s b := h
    simp only [List.cons.injEq] at h1
    rw [u8_injI (inK_u8 (ha x (by simp))) (inK_u8 (hb y (by simp))) h1.1, u8s_inj (fun z hz => ha z (by simp [hz])) (fun z hz => hb z (by simp [hz])) h1.2]
theorem akey_inj {a b : List Int} (ha : Ad a) (hb : Ad b) (h : akey a = akey b) : a = b := by
  rw [akey_eq ha, akey_eq hb] at h
  exact u8s_inj ha.2 hb.2 h
end GW
set_option linter.unusedVariables false
set_option linter.unusedSimpArgs false
set_option maxRecDepth 100000
namespace GW
open Go Go.RowKit
def LtA (x y : L30) : Prop := akey x.1 < akey y.1
def putA : List L30 → L30 → List L30
  | [], a => [a]
  | x :: l, a => if akey a.1 < akey x.1 then a :: x :: l else if x.1 = a.1 then a :: l else x :: putA l a
theorem putA_find (l : List L30) (a : L30) (b : List Int) : findA (putA l a) b = if a.1 = b then some a else findA l b := by
  induction l with
  | nil => rfl
  | cons x l ih =>
    unfold putA
    split
    · rfl
    · split
      · rename_i h
        show (if a.1 = b then some a else findA l b) = if a.1 = b then some a else if x.1 = b then some x else findA l b
        by_cases c : a.1 = b
        · rw [if_pos c, if_pos c]
        · rw [if_neg c, if_neg c, if_neg (fun e : x.1 = b => c (h.symm.trans e))]
      · rename_i h
        show (if x.1 = b then some x else findA (putA l a) b) = if a.1 = b then some a else if x.1 = b then some x else findA l b
        rw [ih]
        by_cases c : a.1 = b
        · rw [if_pos c, if_pos c, if_neg (fun e : x.1 = b => h (e.trans c.symm))]
        · rw [if_neg c, if_neg c]
theorem putA_mem {l : List L30} {a x : L30} (h : x ∈ putA l a) : x = a ∨ x ∈ l := by
  induction l with
  | nil => exact .inl (List.mem_singleton.1 h)
  | cons y l ih =>
    unfold putA at h
    split at h
    · rcases List.mem_cons.1 h with h | h
      · exact .inl h
      · exact .inr h
    · split at h
      · rcases List.mem_cons.1 h with h | h
        · exact .inl h
        · exact .inr (List.mem_cons_of_mem _ h)
      · rcases List.mem_cons.1 h with h | h
        · exact .inr (h ▸ List.mem_cons_self)
        · rcases ih h with h | h
          · exact .inl h
          · exact .inr (List.mem_cons_of_mem _ h)
theorem putA_length (l : List L30) (a : L30) : (putA l a).length ≤ l.length + 1 := by
  induction l with
  | nil => exact Nat.le_refl _
  | cons y l ih =>
    unfold putA
    split
    · simp
    · split
      · simp
      · simp only [List.length_cons]; omega
theorem putA_sorted {l : List L30} {a : L30} (hl : l.Pairwise LtA) (ha : Ad a.1) (hA : ∀ x ∈ l, Ad x.1) : (putA l a).Pairwise LtA := by
  induction l with
  | nil => exact List.pairwise_singleton _ _
  | cons y l ih =>
    have hc := List.pairwise_cons.1 hl
    unfold putA
    split
    · rename_i h
      refine List.pairwise_cons.2 ⟨fun z hz => ?_, hl⟩
      rcases List.mem_cons.1 hz with rfl | hz
      · exact h
      · exact List.lt_trans h (hc.1 z hz)
    · rename_i h
      split
      · rename_i h2
        refine List.pairwise_cons.2 ⟨fun z hz => ?_, hc.2⟩
        have := hc.1 z hz
        unfold LtA at this ⊢
        rw [← h2]; exact this
      · rename_i h2
        refine List.pairwise_cons.2 ⟨fun z hz => ?_, ih hc.2 (fun x hx => hA x (List.mem_cons_of_mem _ hx))⟩
        rcases putA_mem hz with rfl | hz
        · have h3 : akey y.1 ≤ akey z.1 := List.not_lt.1 h
          have h4 : akey y.1 ≠ akey z.1 := fun e => h2 (akey_inj (hA y List.mem_cons_self) ha e)
          show akey y.1 < akey z.1
          exact Decidable.byContradiction fun hn => h4 (List.le_antisymm h3 (List.not_lt.1 hn))
        · exact hc.1 z hz
theorem lt_ne {x y : L30} (h : LtA x y) : x.1 ≠ y.1 := fun e => by
  unfold LtA at h
  rw [e] at h
  exact List.lt_irrefl _ h
theorem findA_sorted {l : List L30} (hs : l.Pairwise LtA) {x : L30} (hx : x ∈ l) : findA l x.1 = some x := by
  induction l with
  | nil => cases hx
  | cons y l ih =>
    have hc := List.pairwise_cons.1 hs
    unfold findA
    rcases List.mem_cons.1 hx with rfl | hx
    · rw [if_pos rfl]
    · rw [if_neg (lt_ne (hc.1 x hx)), ih hc.2 hx]
end GW
set_option linter.unusedVariables false
set_option linter.unusedSimpArgs false
set_option maxRecDepth 100000
namespace GW
open Go Go.RowKit
def Wd (a : List Int) : Prop := a.length = 4 ∧ ∀ y ∈ a, inK .u64 y
def wv (a : List Int) : Int := rd a 0 + rd a 1 * 18446744073709551616 + rd a 2 * 340282366920938463463374607431768211456 + rd a 3 * 6277101735386680763835789423207666416102355444464034512896
theorem inK_of_u64 {x : Int} (h0 : 0 ≤ x) (h1 : x < 18446744073709551616) : inK .u64 x := by
  have : x ≤ 18446744073709551615 := by omega
  simpa [inK, Lit.wf, IntKind.min, IntKind.max, IntKind.signed, IntKind.bits] using And.intro h0 this
theorem Wd.lanes {a : List Int} (h : Wd a) : ∃ a0 a1 a2 a3 : Int, a = [a0, a1, a2, a3] ∧ (0 ≤ a0 ∧ a0 < 18446744073709551616) ∧ (0 ≤ a1 ∧ a1 < 18446744073709551616) ∧ (0 ≤ a2 ∧ a2 < 18446744073709551616) ∧ (0 ≤ a3 ∧ a3 < 18446744073709551616) := by
  obtain ⟨hl, hx⟩ := h
  match a, hl with
  | [a0, a1, a2, a3], _ => exact ⟨a0, a1, a2, a3, rfl, inK_u64 (hx a0 (by simp)), inK_u64 (hx a1 (by simp)), inK_u64 (hx a2 (by simp)), inK_u64 (hx a3 (by simp))⟩
theorem Wd.mk {a0 a1 a2 a3 : Int} (h0 : 0 ≤ a0 ∧ a0 < 18446744073709551616) (h1 : 0 ≤ a1 ∧ a1 < 18446744073709551616) (h2 : 0 ≤ a2 ∧ a2 < 18446744073709551616) (h3 : 0 ≤ a3 ∧ a3 < 18446744073709551616) : Wd [a0, a1, a2, a3] := by
  refine ⟨rfl, fun y hy => ?_⟩
  simp only [List.mem_cons, List.not_mem_nil, or_false] at hy
  rcases hy with rfl | rfl | rfl | rfl
  · exact inK_of_u64 h0.1 h0.2
  · exact inK_of_u64 h1.1 h1.2
  · exact inK_of_u64 h2.1 h2.2
  · exact inK_of_u64 h3.1 h3.2
theorem wv_lanes (a0 a1 a2 a3 : Int) : wv [a0, a1, a2, a3] = a0 + a1 * 18446744073709551616 + a2 * 340282366920938463463374607431768211456 + a3 * 6277101735386680763835789423207666416102355444464034512896 := rfl
theorem Wd.lt {a : List Int} (h : Wd a) : 0 ≤ wv a ∧ wv a < 115792089237316195423570985008687907853269984665640564039457584007913129639936 := by
  obtain ⟨a0, a1, a2, a3, rfl, h0, h1, h2, h3⟩ := h.lanes
  rw [wv_lanes]; omega
theorem Wd.inj {a b : List Int} (h : Wd a) (k : Wd b) (e : wv a = wv b) : a = b := by
  obtain ⟨a0, a1, a2, a3, rfl, h0, h1, h2, h3⟩ := h.lanes
  obtain ⟨b0, b1, b2, b3, rfl, k0, k1, k2, k3⟩ := k.lanes
  rw [wv_lanes, wv_lanes] at e
  have e0 : a0 = b0 := by omega
  subst e0
  have e1 : a1 = b1 := by omega
  subst e1
  have e2 : a2 = b2 := by omega
  subst e2
  have e3 : a3 = b3 := by omega
  rw [e3]
theorem Wd.of {x : Int} (h : inK .u64 x) : Wd [x, 0, 0, 0] := Wd.mk (inK_u64 h) (by omega) (by omega) (by omega)
theorem Wd.of' {x : Int} (h0 : 0 ≤ x) (h1 : x < 18446744073709551616) : Wd [x, 0, 0, 0] := Wd.mk ⟨h0, h1⟩ (by omega) (by omega) (by omega)
theorem Wd.zero : Wd [0, 0, 0, 0] := Wd.of' (by omega) (by omega)
def dv (B : Int) : List Int → Int
  | [] => 0
  | x :: r => x + B * dv B r
theorem rd_getD (a : List Int) (i : Nat) : rd a (i : Int) = a.getD i 0 := rfl
def Dig (B : Int) (a : List Int) : Prop := ∀ y ∈ a, 0 ≤ y ∧ y < B
theorem Dig.rd {B : Int} (hB : 0 < B) {a : List Int} (h : Dig B a) (i : Nat) : 0 ≤ a.getD i 0 ∧ a.getD i 0 < B := by
  rw [List.getD_eq_getElem?_getD]
  by_cases hi : i < a.length
  · rw [List.getElem?_eq_getElem hi]; exact h _ (List.getElem_mem hi)
  · rw [List.getElem?_eq_none (by omega)]; exact ⟨Int.le_refl _, hB⟩
theorem Dig.set {B : Int} {a : List Int} (h : Dig B a) (i : Nat) {v : Int} (hv : 0 ≤ v ∧ v < B) : Dig B (a.set i v) := fun y hy => by
  rcases List.mem_or_eq_of_mem_set hy with h1 | rfl
  · exact h y h1
  · exact hv
theorem Dig.nil (B : Int) : Dig B [] := fun y hy => by cases hy
theorem dv_lt {B : Int} (hB : 0 < B) : ∀ {a : List Int}, Dig B a → 0 ≤ dv B a ∧ dv B a < B ^ a.length
  | [], _ => by simp [dv]
  | x :: r, h => by
    obtain ⟨h1, h2⟩ := h x (by simp)
    obtain ⟨h3, h4⟩ := dv_lt hB (a := r) fun y hy => h y (by simp [hy])
    have h5 : B * dv B r ≤ B * (B ^ r.length - 1) := Int.mul_le_mul_of_nonneg_left (by omega) (by omega)
    have h6 : 0 ≤ B * dv B r := Int.mul_nonneg (by omega) h3
    simp only [dv, List.length_cons, Int.pow_succ]
    have h7 : B * (B ^ r.length - 1) = B ^ r.length * B - B := by grind
    omega
end GW
set_option linter.unusedVariables false
set_option linter.unusedSimpArgs false
set_option maxRecDepth 100000
namespace GW
open Go Go.RowKit
theorem dv_split (B : Int) : ∀ (a : List Int) (i : Nat), dv B a = dv B (a.take i) + a.getD i 0 * B ^ i + B ^ (i + 1) * dv B (a.drop (i + 1))
  | [], i => by simp [dv]
  | x :: r, 0 => by simp [dv, Int.pow_succ]
  | x :: r, i + 1 => by
    have := dv_split B r i
    simp only [List.take_succ_cons, dv, List.getD_cons_succ, List.drop_succ_cons, Int.pow_succ] at this ⊢
    rw [this]
    grind
theorem dv_zero (B : Int) : ∀ (a : List Int), (∀ j, a.getD j 0 = 0) → dv B a = 0
  | [], _ => rfl
  | x :: r, h => by
    have h0 : x = 0 := h 0
    rw [dv, dv_zero B r (fun j => h (j + 1)), h0, Int.mul_zero, Int.add_zero]
theorem dv_ext (B : Int) : ∀ (a b : List Int), (∀ j, a.getD j 0 = b.getD j 0) → dv B a = dv B b
  | [], b, h => (dv_zero B b (fun j => (h j).symm.trans (by simp))).symm
  | x :: r, [], h => dv_zero B (x :: r) (fun j => (h j).trans (by simp))
  | x :: r, y :: s, h => by
    have h0 : x = y := h 0
    rw [dv, dv, h0, dv_ext B r s (fun j => h (j + 1))]
theorem Dig.take {B : Int} {a : List Int} (h : Dig B a) (i : Nat) : Dig B (a.take i) := fun y hy => h y (List.take_subset _ _ hy)
theorem Dig.drop {B : Int} {a : List Int} (h : Dig B a) (i : Nat) : Dig B (a.drop i) := fun y hy => h y (List.drop_subset _ _ hy)
theorem getD_drop (a : List Int) (i j : Nat) : (a.drop i).getD j 0 = a.getD (i + j) 0 := by
  rw [List.getD_eq_getElem?_getD, List.getD_eq_getElem?_getD, List.getElem?_drop]
theorem dv_at {B : Int} (hB : 0 < B) {a b : List Int} (ha : Dig B a) (hb : Dig B b) (i : Nat) (hi : ∀ j, i < j → a.getD j 0 = b.getD j 0) (h : a.getD i 0 < b.getD i 0) : dv B a < dv B b := by
  have e : dv B (a.drop (i + 1)) = dv B (b.drop (i + 1)) := dv_ext B _ _ (fun j => by rw [getD_drop, getD_drop, hi _ (by omega)])
  rw [dv_split B a i, dv_split B b i, e]
  obtain ⟨_, h1⟩ := dv_lt hB (ha.take i)
  obtain ⟨h2, _⟩ := dv_lt hB (hb.take i)
  have h3 : B ^ (a.take i).length ≤ B ^ i := by
    have : ∀ m n : Nat, m ≤ n → B ^ m ≤ B ^ n := fun m n hmn => by
      obtain ⟨d, rfl⟩ := Nat.exists_eq_add_of_le hmn
      rw [Int.pow_add]
      have := Int.pow_pos (n := B) (m := d) hB
      have h4 : B ^ m * 1 ≤ B ^ m * B ^ d := Int.mul_le_mul_of_nonneg_left (by omega) (Int.le_of_lt (Int.pow_pos hB))
      omega
    exact this _ _ (by rw [List.length_take]; omega)
  have h4 : (a.getD i 0 + 1) * B ^ i ≤ b.getD i 0 * B ^ i := Int.mul_le_mul_of_nonneg_right (by omega) (Int.le_of_lt (Int.pow_pos hB))
  rw [Int.add_mul, Int.one_mul] at h4
  omega
theorem of_lanesW (k : Nat) (x0 x1 x2 x3 : Int) : smithyref01_Of.f (k + 40) [x0, x1, x2, x3] = some [wr .i64 (Int.tmod (shr x0 0) 256), wr .i64 (Int.tmod (shr x0 8) 256), wr .i64 (Int.tmod (shr x0 16) 256), wr .i64 (Int.tmod (shr x0 24) 256), wr .i64 (Int.tmod (shr x0 32) 256), wr .i64 (Int.tmod (shr x0 40) 256), wr .i64 (Int.tmod (shr x0 48) 256), wr .i64 (Int.tmod (shr x0 56) 256), wr .i64 (Int.tmod (shr x1 0) 256), wr .i64 (Int.tmod (shr x1 8) 256), wr .i64 (Int.tmod (shr x1 16) 256), wr .i64 (Int.tmod (shr x1 24) 256), wr .i64 (Int.tmod (shr x1 32) 256), wr .i64 (Int.tmod (shr x1 40) 256), wr .i64 (Int.tmod (shr x1 48) 256), wr .i64 (Int.tmod (shr x1 56) 256), wr .i64 (Int.tmod (shr x2 0) 256), wr .i64 (Int.tmod (shr x2 8) 256), wr .i64 (Int.tmod (shr x2 16) 256), wr .i64 (Int.tmod (shr x2 24) 256), wr .i64 (Int.tmod (shr x2 32) 256), wr .i64 (Int.tmod (shr x2 40) 256), wr .i64 (Int.tmod (shr x2 48) 256), wr .i64 (Int.tmod (shr x2 56) 256), wr .i64 (Int.tmod (shr x3 0) 256), wr .i64 (Int.tmod (shr x3 8) 256), wr .i64 (Int.tmod (shr x3 16) 256), wr .i64 (Int.tmod (shr x3 24) 256), wr .i64 (Int.tmod (shr x3 32) 256), wr .i64 (Int.tmod (shr x3 40) 256), wr .i64 (Int.tmod (shr x3 48) 256), wr .i64 (Int.tmod (shr x3 56) 256)] := by kernel_rfl
theorem limb_dig (x : Int) (n : Nat) (h : 0 ≤ x) (h1 : x < 18446744073709551616) : wr .i64 (Int.tmod (shr x n) 256) = x / 2 ^ n % 256 := by
  unfold shr
  have hp : (0 : Int) < 2 ^ n := Int.pow_pos (by omega)
  rw [Int.fdiv_eq_ediv_of_nonneg _ (Int.le_of_lt hp)]
  have h2 : 0 ≤ x / 2 ^ n := Int.ediv_nonneg h (Int.le_of_lt hp)
  rw [tmod_pos h2, wr_i64_id (by omega) (by omega)]
theorem limb_dv (x : Int) (h : 0 ≤ x) (h1 : x < 18446744073709551616) (r : List Int) : dv 256 (x / 2 ^ 0 % 256 :: x / 2 ^ 8 % 256 :: x / 2 ^ 16 % 256 :: x / 2 ^ 24 % 256 :: x / 2 ^ 32 % 256 :: x / 2 ^ 40 % 256 :: x / 2 ^ 48 % 256 :: x / 2 ^ 56 % 256 :: r) = x + 18446744073709551616 * dv 256 r := by
  simp only [dv, Int.reducePow]
  generalize dv 256 r = y
  omega
theorem ofD_eq (k : Nat) {a : List Int} (ha : Wd a) : ∃ d, smithyref01_Of.f (k + 40) a = some d ∧ d.length = 32 ∧ Dig 256 d ∧ dv 256 d = wv a := by
  obtain ⟨a0, a1, a2, a3, rfl, h0, h1, h2, h3⟩ := ha.lanes
  refine ⟨_, of_lanesW k a0 a1 a2 a3, rfl, ?_, ?_⟩
  · intro y hy
    simp only [limb_dig a0 _ h0.1 h0.2, limb_dig a1 _ h1.1 h1.2, limb_dig a2 _ h2.1 h2.2, limb_dig a3 _ h3.1 h3.2, List.mem_cons, List.not_mem_nil, or_false] at hy
    rcases hy with rfl | rfl | rfl | rfl | rfl | rfl | rfl | rfl | rfl | rfl | rfl | rfl | rfl | rfl | rfl | rfl | rfl | rfl | rfl | rfl | rfl | rfl | rfl | rfl | rfl | rfl | rfl | rfl | rfl | rfl | rfl | rfl <;> omega
  · simp only [limb_dig a0 _ h0.1 h0.2, limb_dig a1 _ h1.1 h1.2, limb_dig a2 _ h2.1 h2.2, limb_dig a3 _ h3.1 h3.2]
    rw [limb_dv a0 h0.1 h0.2, limb_dv a1 h1.1 h1.2, limb_dv a2 h2.1 h2.2, limb_dv a3 h3.1 h3.2, wv_lanes]
    simp only [dv]
    omega
end GW
set_option linter.unusedVariables false
set_option linter.unusedSimpArgs false
set_option maxRecDepth 100000
namespace GW
open Go Go.RowKit
def cmpI (a b : Int) : Int := if a = b then 0 else if a < b then -1 else 1
theorem cmp_step (x y : List Int) (q i : Nat) (hi : i < 4) (h : rd x i = rd y i) : word_Compare.l1 x y (q + 1) (i : Int) = word_Compare.l1 x y q ((i : Int) - 1) := by
  show word_Compare.b1 x y _ _ = _
  unfold word_Compare.b1
  rw [if_pos (by omega), if_pos (by simpa using h), wr_i64_id (by omega) (by omega)]
theorem cmp_stop (x y : List Int) (q i : Nat) (hi : i < 4) (h : rd x i ≠ rd y i) : word_Compare.l1 x y (q + 1) (i : Int) = some (if rd x i < rd y i then -1 else 1) := by
  show word_Compare.b1 x y _ _ = _
  unfold word_Compare.b1
  rw [if_pos (by omega), if_neg (by simpa using h)]
  unfold word_Compare.j1
  rw [if_pos (by omega)]
  by_cases c : rd x i < rd y i
  · rw [if_pos (by simpa using c), if_pos c]
  · rw [if_neg (by simpa using c), if_neg c]
theorem cmp_eq (k : Nat) {a b : List Int} (ha : Wd a) (hb : Wd b) : word_Compare.f (k + 5) a b = some (cmpI (wv a) (wv b)) := by
  unfold word_Compare.f cmpI
  by_cases e : a = b
  · subst e
    rw [if_pos (by simp), if_pos rfl]
  rw [if_neg (by simpa using e), if_neg (fun h => e (ha.inj hb h))]
  obtain ⟨a0, a1, a2, a3, rfl, h0, h1, h2, h3⟩ := ha.lanes
  obtain ⟨b0, b1, b2, b3, rfl, k0, k1, k2, k3⟩ := hb.lanes
  have r0 : ∀ x0 x1 x2 x3 : Int, rd [x0, x1, x2, x3] ((0 : Nat) : Int) = x0 := fun _ _ _ _ => rfl
  have r1 : ∀ x0 x1 x2 x3 : Int, rd [x0, x1, x2, x3] ((1 : Nat) : Int) = x1 := fun _ _ _ _ => rfl
  have r2 : ∀ x0 x1 x2 x3 : Int, rd [x0, x1, x2, x3] ((2 : Nat) : Int) = x2 := fun _ _ _ _ => rfl
  have r3 : ∀ x0 x1 x2 x3 : Int, rd [x0, x1, x2, x3] ((3 : Nat) : Int) = x3 := fun _ _ _ _ => rfl
  have goal : ∀ (p q : Int), (p < q ↔ wv [a0, a1, a2, a3] < wv [b0, b1, b2, b3]) → some (if p < q then (-1 : Int) else 1) = some (if wv [a0, a1, a2, a3] < wv [b0, b1, b2, b3] then -1 else 1) := fun p q h => by
    by_cases c : p < q
    · rw [if_pos c, if_pos (h.1 c)]
    · rw [if_neg c, if_neg (fun u => c (h.2 u))]
  simp only [wv_lanes] at goal ⊢
  rw [show (word_Compare.l1 [a0, a1, a2, a3] [b0, b1, b2, b3] (k + 5) 3) = word_Compare.l1 [a0, a1, a2, a3] [b0, b1, b2, b3] (k + 4 + 1) ((3 : Nat) : Int) from rfl]
  by_cases c3 : a3 = b3
  · rw [cmp_step [a0, a1, a2, a3] [b0, b1, b2, b3] _ 3 (by omega) c3, show (((3 : Nat) : Int) - 1) = ((2 : Nat) : Int) from rfl, show k + 4 = k + 3 + 1 from rfl]
    by_cases c2 : a2 = b2
    · rw [cmp_step [a0, a1, a2, a3] [b0, b1, b2, b3] _ 2 (by omega) c2, show (((2 : Nat) : Int) - 1) = ((1 : Nat) : Int) from rfl, show k + 3 = k + 2 + 1 from rfl]
      by_cases c1 : a1 = b1
      · rw [cmp_step [a0, a1, a2, a3] [b0, b1, b2, b3] _ 1 (by omega) c1, show (((1 : Nat) : Int) - 1) = ((0 : Nat) : Int) from rfl, show k + 2 = k + 1 + 1 from rfl]
        by_cases c0 : a0 = b0
        · exact absurd (by rw [c0, c1, c2, c3]) e
        · rw [cmp_stop [a0, a1, a2, a3] [b0, b1, b2, b3] _ 0 (by omega) c0, r0, r0]; exact goal _ _ (by omega)
      · rw [cmp_stop [a0, a1, a2, a3] [b0, b1, b2, b3] _ 1 (by omega) c1, r1, r1]; exact goal _ _ (by omega)
    · rw [cmp_stop [a0, a1, a2, a3] [b0, b1, b2, b3] _ 2 (by omega) c2, r2, r2]; exact goal _ _ (by omega)
  · rw [cmp_stop [a0, a1, a2, a3] [b0, b1, b2, b3] _ 3 (by omega) c3, r3, r3]; exact goal _ _ (by omega)
theorem cmpI_lt (a b : Int) : decide (cmpI a b < 0) = decide (a < b) := by
  unfold cmpI
  by_cases h : a = b
  · subst h; simp
  · rw [if_neg h]
    by_cases k : a < b
    · rw [if_pos k]; simp [k]
    · rw [if_neg k]; simp [k]
end GW
set_option linter.unusedVariables false
set_option linter.unusedSimpArgs false
set_option maxRecDepth 100000
namespace GW
open Go Go.RowKit
theorem cmpD_loop {x y : List Int} (hx : Dig 256 x) (hy : Dig 256 y) (hxl : x.length = 32) (hyl : y.length = 32) : ∀ (r q : Nat), r ≤ 32 → r < q → (∀ j, r ≤ j → x.getD j 0 = y.getD j 0) → smithyref01_Compare.l1 x y q ((r : Int) - 1) = some (cmpI (dv 256 x) (dv 256 y))
  | 0, q, hr, hq, h => by
    obtain ⟨q, rfl⟩ : ∃ m, q = m + 1 := ⟨q - 1, by omega⟩
    show smithyref01_Compare.b1 x y _ _ = _
    unfold smithyref01_Compare.b1 smithyref01_Compare.j1
    rw [if_neg (by simp), dv_ext 256 x y (fun j => h j (by omega))]
    simp [cmpI]
  | r + 1, q, hr, hq, h => by
    obtain ⟨q, rfl⟩ : ∃ m, q = m + 1 := ⟨q - 1, by omega⟩
    rw [show ((r + 1 : Nat) : Int) - 1 = (r : Int) from by omega]
    show smithyref01_Compare.b1 x y _ _ = _
    unfold smithyref01_Compare.b1
    rw [if_pos (by simp), if_pos (by omega), rd_getD, rd_getD]
    by_cases c : x.getD r 0 < y.getD r 0
    · rw [if_pos (by simpa using c)]
      have := dv_at (by omega) hx hy r (fun j hj => h j (by omega)) c
      unfold cmpI
      rw [if_neg (by omega), if_pos this]
    rw [if_neg (by simpa using c)]
    by_cases c2 : y.getD r 0 < x.getD r 0
    · rw [if_pos (by simpa using c2)]
      have := dv_at (by omega) hy hx r (fun j hj => (h j (by omega)).symm) c2
      unfold cmpI
      rw [if_neg (by omega), if_neg (by omega)]
    rw [if_neg (by simpa using c2), wr_i64_id (by omega) (by omega)]
    refine cmpD_loop hx hy hxl hyl r q (by omega) (by omega) (fun j hj => ?_)
    by_cases e : j = r
    · subst e; omega
    · exact h j (by omega)
theorem cmpD_eq (k : Nat) {x y : List Int} (hx : Dig 256 x) (hy : Dig 256 y) (hxl : x.length = 32) (hyl : y.length = 32) : smithyref01_Compare.f (k + 40) x y = some (cmpI (dv 256 x) (dv 256 y)) :=
  cmpD_loop hx hy hxl hyl 32 (k + 40) (by omega) (by omega) (fun j hj => by rw [List.getD_eq_getElem?_getD, List.getD_eq_getElem?_getD, List.getElem?_eq_none (by omega), List.getElem?_eq_none (by omega)])
end GW
set_option linter.unusedVariables false
set_option linter.unusedSimpArgs false
set_option maxRecDepth 100000
namespace GW
open Go Go.RowKit
theorem gt_atG {α : Type} [Inhabited α] (xs : List α) {i : Int} (h0 : 0 ≤ i) (h1 : i < xs.length) : gt xs i ∈ xs := by
  unfold gt
  have h : i.toNat < xs.length := by omega
  rw [List.getD_eq_getElem?_getD, List.getElem?_eq_getElem h]
  exact List.getElem_mem h
theorem lessD_eq (k : Nat) {a b : List Int} (ha : Wd a) (hb : Wd b) : smithyref13_less.f (k + 40) a b = some (decide (wv a < wv b)) := by
  obtain ⟨d, d1, d2, d3, d4⟩ := ofD_eq k ha
  obtain ⟨e, e1, e2, e3, e4⟩ := ofD_eq k hb
  unfold smithyref13_less.f
  rw [d1, Option.bind_some, e1, Option.bind_some, cmpD_eq k d3 e3 d2 e2, Option.bind_some, cmpI_lt, d4, e4]
theorem cmpI_ge (a b : Int) : decide (0 ≤ cmpI a b) = !decide (a < b) := by
  unfold cmpI
  by_cases h : a = b
  · subst h; simp
  · rw [if_neg h]
    by_cases h2 : a < b <;> simp [h2]
theorem right_eq (k : Nat) (x : L30) (hx : Gd28 x.2.2.2.2) : ∀ (r q i : Nat), i + r = x.2.2.2.2.length → r < q → ∃ b, store_Right.l1 (k + 40) x q (i : Int) = some b ∧ smithyref13_Right.l1 (k + 40) x q (i : Int) = some b
  | 0, q, i, hi, hq => by
    obtain ⟨q, rfl⟩ : ∃ m, q = m + 1 := ⟨q - 1, by omega⟩
    refine ⟨true, ?_, ?_⟩
    · show store_Right.b1 _ _ _ _ = _
      unfold store_Right.b1
      rw [if_neg (by simp; omega)]; rfl
    · show smithyref13_Right.b1 _ _ _ _ = _
      unfold smithyref13_Right.b1
      rw [if_neg (by simp; omega)]; rfl
  | r + 1, q, i, hi, hq => by
    obtain ⟨q, rfl⟩ : ∃ m, q = m + 1 := ⟨q - 1, by omega⟩
    have hm := hx.2
    simp only [maxLen] at hm
    have hw : wr .i64 ((i : Int) + 1) = ((i + 1 : Nat) : Int) := by rw [wr_i64_id (by omega) (by omega)]; omega
    obtain ⟨b, ih1, ih2⟩ := right_eq k x hx r q (i + 1) (by omega) (by omega)
    have hc : decide ((i : Int) < ((x.2.2.2.2).length : Int)) = true := decide_eq_true (by omega)
    have hb : (0 : Int) ≤ (i : Int) ∧ (i : Int) < ((x.2.2.2.2).length : Int) := by omega
    have e1 : store_Right.l1 (k + 40) x (q + 1) (i : Int) = store_Right.b1 (k + 40) x (store_Right.l1 (k + 40) x q) (i : Int) := rfl
    have e2 : smithyref13_Right.l1 (k + 40) x (q + 1) (i : Int) = smithyref13_Right.b1 (k + 40) x (smithyref13_Right.l1 (k + 40) x q) (i : Int) := rfl
    rw [e1, e2]
    unfold store_Right.b1 smithyref13_Right.b1
    rw [if_pos hc, if_pos hb, if_pos hc, if_pos hb]
    by_cases c : (gt x.2.2.2.2 (i : Int)).2 = [0, 0, 0, 0]
    · rw [decide_eq_true c, if_pos rfl, if_pos rfl]
      exact ⟨false, rfl, rfl⟩
    · rw [decide_eq_false c, if_neg (show ¬ (false = true) by simp), if_neg (show ¬ (false = true) by simp)]
      have j1 : ∀ t, store_Right.j2 (i : Int) (store_Right.l1 (k + 40) x q) t = if t = true then some false else some b := fun t => by
        unfold store_Right.j2; rw [hw, ih1]
      have j2 : ∀ t, smithyref13_Right.j2 (i : Int) (smithyref13_Right.l1 (k + 40) x q) t = if t = true then some false else some b := fun t => by
        unfold smithyref13_Right.j2; rw [hw, ih2]
      by_cases c0 : 0 < i
      · have h0 : decide ((0 : Int) < (i : Int)) = true := decide_eq_true (by omega)
        have hp : wr .i64 ((i : Int) - 1) = (i : Int) - 1 := wr_i64_id (by omega) (by omega)
        rw [if_pos h0, if_pos h0, hp, if_pos (by omega), if_pos (by omega)]
        have g1 := (hx.1 _ (gt_atG x.2.2.2.2 (i := (i : Int) - 1) (by omega) (by omega))).1
        have g2 := (hx.1 _ (gt_atG x.2.2.2.2 (i := (i : Int)) (by omega) (by omega))).1
        have w1 : Wd (gt x.2.2.2.2 ((i : Int) - 1)).1 := g1
        have w2 : Wd (gt x.2.2.2.2 (i : Int)).1 := g2
        rw [show k + 40 = (k + 35) + 5 from rfl, cmp_eq (k + 35) w1 w2, Option.bind_some, show k + 35 + 5 = k + 40 from rfl, lessD_eq k w1 w2, Option.bind_some, cmpI_ge, j1, j2]
        split <;> exact ⟨_, rfl, rfl⟩
      · have h0 : decide ((0 : Int) < (i : Int)) = false := decide_eq_false (by omega)
        rw [h0, if_neg (show ¬ (false = true) by simp), if_neg (show ¬ (false = true) by simp), j1, j2, if_neg (show ¬ (false = true) by simp)]
        exact ⟨b, rfl, rfl⟩
theorem rights_eq (k : Nat) (x : L30) (hx : Gd28 x.2.2.2.2) (hk : x.2.2.2.2.length < k + 40) : ∃ b, store_Right.f (k + 40) x = some b ∧ smithyref13_Right.f (k + 40) x = some b := right_eq k x hx x.2.2.2.2.length (k + 40) 0 (by omega) (by omega)
end GW
set_option linter.unusedVariables false
set_option linter.unusedSimpArgs false
set_option linter.unusedSectionVars false
set_option maxRecDepth 100000
namespace GW
open Go Go.RowKit
section
variable {α β : Type} [DecidableEq α]
theorem aget_aput (kvs : List (α × β)) (x : α) (y : β) (k : α) : aget (aput kvs x y) k = if k = x then some y else aget kvs k := by
  induction kvs with
  | nil => rfl
  | cons p r ih =>
    obtain ⟨q, v⟩ := p
    unfold aput
    by_cases c : x = q
    · rw [if_pos c]
      subst c
      show (if k = x then some y else aget r k) = if k = x then some y else if k = x then some v else aget r k
      by_cases c2 : k = x
      · rw [if_pos c2, if_pos c2]
      · rw [if_neg c2, if_neg c2, if_neg c2]
    · rw [if_neg c]
      show (if k = q then some v else aget (aput r x y) k) = if k = x then some y else if k = q then some v else aget r k
      rw [ih]
      by_cases c2 : k = q
      · rw [if_pos c2, if_pos c2, if_neg (fun e : k = x => c (e.symm.trans c2))]
      · rw [if_neg c2, if_neg c2]
theorem aget_adel (kvs : List (α × β)) (x : α) (k : α) : aget (adel kvs x) k = if k = x then none else aget kvs k := by
  induction kvs with
  | nil => show none = if k = x then none else none; split <;> rfl
  | cons p r ih =>
    obtain ⟨q, v⟩ := p
    by_cases c : q = x
    · have h1 : adel ((q, v) :: r) x = adel r x := by simp [adel, c]
      rw [h1, ih]
      show _ = if k = x then none else if k = q then some v else aget r k
      by_cases c2 : k = x
      · rw [if_pos c2, if_pos c2]
      · rw [if_neg c2, if_neg c2, if_neg (fun e : k = q => c2 (e.trans c))]
    · have h1 : adel ((q, v) :: r) x = (q, v) :: adel r x := by simp [adel, c]
      rw [h1]
      show (if k = q then some v else aget (adel r x) k) = if k = x then none else if k = q then some v else aget r k
      rw [ih]
      by_cases c2 : k = q
      · rw [if_pos c2, if_pos c2, if_neg (fun e : k = x => c (c2.symm.trans e))]
      · rw [if_neg c2, if_neg c2]
theorem aget_mem_iff {kvs : List (α × β)} (hn : (kvs.map Prod.fst).Nodup) (k : α) (v : β) : aget kvs k = some v ↔ (k, v) ∈ kvs := by
  induction kvs with
  | nil => simp [aget]
  | cons p r ih =>
    obtain ⟨q, u⟩ := p
    simp only [List.map_cons, List.nodup_cons] at hn
    unfold aget
    by_cases c : k = q
    · subst c
      rw [if_pos rfl]
      constructor
      · intro h; obtain rfl := Option.some.inj h; exact List.mem_cons_self
      · intro h
        rcases List.mem_cons.1 h with h | h
        · simp only [Prod.mk.injEq, true_and] at h; rw [h]
        · exact absurd (List.mem_map.2 ⟨_, h, rfl⟩) hn.1
    · rw [if_neg c, ih hn.2]
      constructor
      · exact fun h => List.mem_cons_of_mem _ h
      · intro h
        rcases List.mem_cons.1 h with h | h
        · simp only [Prod.mk.injEq] at h; exact absurd h.1 c
        · exact h
theorem adel_sub (kvs : List (α × β)) (x : α) : ∀ p ∈ adel kvs x, p ∈ kvs := fun p h => (List.mem_filter.1 h).1
theorem adel_length_lt {kvs : List (α × β)} {p : α × β} (h : p ∈ kvs) : (adel kvs p.1).length < kvs.length := by
  unfold adel
  have h1 := List.length_filter_le (fun q : α × β => !decide (q.1 = p.1)) kvs
  refine Nat.lt_of_le_of_ne h1 fun e => ?_
  have := (List.length_filter_eq_length_iff.1 e) p h
  simp at this
theorem adel_nodup' {kvs : List (α × β)} (h : (kvs.map Prod.fst).Nodup) (x : α) : ((adel kvs x).map Prod.fst).Nodup :=
  List.Sublist.nodup (List.Sublist.map _ List.filter_sublist) h
theorem lk_some {o : Option β} {z v : β} (h : o = some v) : lk o z = (v, true) := by rw [h]; rfl
theorem lk_none {o : Option β} {z : β} (h : o = none) : lk o z = (z, false) := by rw [h]; rfl
end
end GW
set_option linter.unusedVariables false
set_option linter.unusedSimpArgs false
set_option maxRecDepth 100000
namespace GW
open Go Go.RowKit
abbrev Kv : Type := List ((List Int) × L30)
abbrev Vs : Type := List (Int × List L30)
structure Acc (k : Nat) (x : L30) : Prop where
  gd : Gd30 x
  sm : SmallA x
  ri : smithyref13_Right.f k x = some true
structure VRel (k sz : Nat) (s : L72) (V : Vs) : Prop where
  len : s.length = V.length
  pos : 0 < V.length
  s0 : gt s ((0 : Nat) : Int) = (-1, [])
  v0 : gt V ((0 : Nat) : Int) = (-1, [])
  par : ∀ j : Nat, j < V.length → (gt s (j : Int)).1 = (gt V (j : Int)).1
  parlt : ∀ j : Nat, 0 < j → j < V.length → ∃ p : Nat, (gt V (j : Int)).1 = (p : Int) ∧ p < j
  kv : ∀ j : Nat, j < V.length → ∀ e ∈ (gt s (j : Int)).2, e.2.1 = e.1 ∧ Acc k e.2
  nd : ∀ j : Nat, j < V.length → ((gt s (j : Int)).2.map Prod.fst).Nodup
  find : ∀ j : Nat, 0 < j → j < V.length → ∀ a, findA (gt V (j : Int)).2 a = match aget (gt s (j : Int)).2 a with | some x => some x | none => findA (gt V (gt V (j : Int)).1).2 a
  sorted : ∀ j : Nat, j < V.length → (gt V (j : Int)).2.Pairwise LtA
  acc : ∀ j : Nat, j < V.length → ∀ x ∈ (gt V (j : Int)).2, Acc k x
  vsz : ∀ j : Nat, j < V.length → (gt V (j : Int)).2.length ≤ sz
  ssz : ∀ j : Nat, j < V.length → (gt s (j : Int)).2.length ≤ sz
theorem VRel.first (k : Nat) : VRel k 0 [((-1), ([] : Kv))] [((-1), ([] : List L30))] := by
  refine ⟨rfl, by simp, rfl, rfl, ?_, ?_, ?_, ?_, ?_, ?_, ?_, ?_, ?_⟩ <;> intro j hj
  · obtain rfl : j = 0 := by simpa using hj
    rfl
  · intro h; simp only [List.length_singleton] at h; omega
  · obtain rfl : j = 0 := by simpa using hj
    intro e he; cases he
  · obtain rfl : j = 0 := by simpa using hj
    exact List.nodup_nil
  · intro h; simp only [List.length_singleton] at h; omega
  · obtain rfl : j = 0 := by simpa using hj
    exact List.Pairwise.nil
  · obtain rfl : j = 0 := by simpa using hj
    intro e he; cases he
  · obtain rfl : j = 0 := by simpa using hj
    exact Nat.le_refl _
  · obtain rfl : j = 0 := by simpa using hj
    exact Nat.le_refl _
theorem acc_ad {k : Nat} {x : L30} (h : Acc k x) : Ad x.1 := h.gd.1
theorem storeOwn_eq {x : L30} (h : SmallA x) : store_own.f x = some x := by
  unfold store_own.f slices_Clone_byte_byte.f api_Slot.f
  obtain ⟨h1, h2⟩ := h
  rw [if_pos (by simp; omega), Option.bind_some, if_pos (by simp; omega)]; rfl
theorem has_eq (s : L72) (v : Int) : store_Store_has.f s v = some (decide (0 ≤ v ∧ v < (s.length : Int))) := by
  unfold store_Store_has.f
  by_cases c : 0 ≤ v
  · rw [if_pos (by simpa using c)]; simp [c]
  · rw [if_neg (by simpa using c)]; simp [c]
def putsK (kvs : Kv) (l : List L30) : Kv := l.foldl (fun m x => aput m x.1 x) kvs
def putsA (L : List L30) (l : List L30) : List L30 := l.foldl putA L
theorem commit_loop (s : L72) (p : Int) (l : List L30) (hs : ∀ x ∈ l, SmallA x) (hl : l.length < 4000000) : ∀ (d : List L30) (q i : Nat) (kvs : Kv), l.drop i = d → i ≤ l.length → d.length < q → store_Store_Commit.l1 s p l q (i : Int) kvs = store_Store_Commit.j1 s p (putsK kvs d)
  | [], q, i, kvs, hd, hi, hq => by
    obtain ⟨q, rfl⟩ : ∃ m, q = m + 1 := ⟨q - 1, by omega⟩
    have : l.length ≤ i := by simpa using hd
    show store_Store_Commit.b1 _ _ _ _ _ _ = _
    unfold store_Store_Commit.b1
    rw [if_neg (by simp; omega)]; rfl
  | x :: d, q, i, kvs, hd, hi, hq => by
    simp only [List.length_cons] at hq
    obtain ⟨q, rfl⟩ : ∃ m, q = m + 1 := ⟨q - 1, by omega⟩
    obtain ⟨h1, h2, h3⟩ := gt_dropA hd
    have hx : x ∈ l := List.drop_subset i l (by rw [hd]; exact List.mem_cons_self)
    show store_Store_Commit.b1 _ _ _ _ _ _ = _
    unfold store_Store_Commit.b1
    rw [if_pos (by simp; omega), if_pos (by omega), h1, storeOwn_eq (hs x hx), Option.bind_some, next1 i (by omega)]
    exact commit_loop s p l hs hl d q (i + 1) _ h3 (by omega) (by omega)
theorem wrong_loop (k : Nat) (hk : 200 < k) (l : List L30) (hg : ∀ x ∈ l, Gd30 x) (hs : ∀ x ∈ l, SmallA x) (hl : l.length < 4000000) : ∀ (d : List L30) (q i : Nat), l.drop i = d → i ≤ l.length → d.length < q →
    (∃ n : Nat, api_Account_n43_1f32.l1 k l q (i : Int) = some (n : Int) ∧ ∃ x ∈ l, smithyref13_Right.f k x = some false) ∨ (api_Account_n43_1f32.l1 k l q (i : Int) = some (-1) ∧ ∀ x ∈ d, smithyref13_Right.f k x = some true)
  | [], q, i, hd, hi, hq => by
    obtain ⟨q, rfl⟩ : ∃ m, q = m + 1 := ⟨q - 1, by omega⟩
    have : l.length ≤ i := by simpa using hd
    refine .inr ⟨?_, fun x hx => by cases hx⟩
    show api_Account_n43_1f32.b1 _ _ _ _ = _
    unfold api_Account_n43_1f32.b1
    rw [if_neg (by simp; omega)]; rfl
  | x :: d, q, i, hd, hi, hq => by
    simp only [List.length_cons] at hq
    obtain ⟨q, rfl⟩ : ∃ m, q = m + 1 := ⟨q - 1, by omega⟩
    obtain ⟨h1, h2, h3⟩ := gt_dropA hd
    have hx : x ∈ l := List.drop_subset i l (by rw [hd]; exact List.mem_cons_self)
    obtain ⟨b, b1, b2⟩ := rights_eq (k - 40) x (hg x hx).2.2.2.2 (by have := (hs x hx).2; omega)
    rw [show k - 40 + 40 = k by omega] at b1 b2
    have e : api_Account_n43_1f32.l1 k l (q + 1) (i : Int) = api_Account_n43_1f32.b1 k l (api_Account_n43_1f32.l1 k l q) (i : Int) := rfl
    rw [e]
    unfold api_Account_n43_1f32.b1 store_Store_Commit_1.f
    rw [if_pos (by simp; omega), if_pos (by omega), h1, b1, Option.bind_some, Option.bind_some, next1 i (by omega)]
    cases b with
    | false => exact .inl ⟨i, by rw [if_pos (by simp)], x, hx, b2⟩
    | true =>
      rw [if_neg (by simp)]
      rcases wrong_loop k hk l hg hs hl d q (i + 1) h3 (by omega) (by omega) with h | ⟨h, h4⟩
      · exact .inl h
      · refine .inr ⟨h, fun y hy => ?_⟩
        rcases List.mem_cons.1 hy with rfl | hy
        · exact b2
        · exact h4 y hy
theorem wrong_eq (k : Nat) (hk : 200 < k) (l : List L30) (hg : ∀ x ∈ l, Gd30 x) (hs : ∀ x ∈ l, SmallA x) (hl : l.length < 4000000) (hlk : l.length < k) :
    (api_Account_n31_1f32.f k l = some true ∧ ∃ x ∈ l, smithyref13_Right.f k x = some false) ∨ (api_Account_n31_1f32.f k l = some false ∧ ∀ x ∈ l, Acc k x) := by
  unfold api_Account_n31_1f32.f api_Account_n43_1f32.f
  rcases wrong_loop k hk l hg hs hl l k 0 rfl (by omega) hlk with ⟨n, h, h2⟩ | ⟨h, h2⟩
  · refine .inl ⟨?_, h2⟩
    rw [show (0 : Int) = ((0 : Nat) : Int) from rfl, h, Option.bind_some]; simp
  · refine .inr ⟨?_, fun x hx => ⟨hg x hx, hs x hx, h2 x hx⟩⟩
    rw [show (0 : Int) = ((0 : Nat) : Int) from rfl, h, Option.bind_some]; rfl
theorem putsK_facts {k : Nat} : ∀ (l : List L30) (kvs : Kv), (∀ x ∈ l, Acc k x) → (∀ e ∈ kvs, e.2.1 = e.1 ∧ Acc k e.2) → (kvs.map Prod.fst).Nodup → (∀ e ∈ putsK kvs l, e.2.1 = e.1 ∧ Acc k e.2) ∧ ((putsK kvs l).map Prod.fst).Nodup ∧ (putsK kvs l).length ≤ kvs.length + l.length
  | [], kvs, hl, h1, h2 => ⟨h1, h2, Nat.le_refl _⟩
  | x :: l, kvs, hl, h1, h2 => by
    have hn := aput_nodup h2 x.1 x
    have hm : ∀ e ∈ aput kvs x.1 x, e.2.1 = e.1 ∧ Acc k e.2 := fun e he => by
      have := (aget_mem_iff hn e.1 e.2).2 he
      rw [aget_aput] at this
      split at this
      · rename_i c
        obtain h3 := Option.some.inj this
        exact ⟨by rw [← h3, c], h3 ▸ hl x List.mem_cons_self⟩
      · exact h1 e ((aget_mem_iff h2 e.1 e.2).1 this)
    have hln : (aput kvs x.1 x).length ≤ kvs.length + 1 := by
      have h3 : ((aput kvs x.1 x).map Prod.fst).length = (aput kvs x.1 x).length := List.length_map ..
      rw [← h3, aput_keys]
      split <;> simp
    obtain ⟨a1, a2, a3⟩ := putsK_facts l (aput kvs x.1 x) (fun y hy => hl y (List.mem_cons_of_mem _ hy)) hm hn
    exact ⟨a1, a2, by simp only [List.length_cons]; have : (putsK kvs (x :: l)).length = (putsK (aput kvs x.1 x) l).length := rfl; omega⟩
theorem putsA_facts {k : Nat} : ∀ (l : List L30) (L : List L30), (∀ x ∈ l, Acc k x) → (∀ x ∈ L, Acc k x) → L.Pairwise LtA → (∀ x ∈ putsA L l, Acc k x) ∧ (putsA L l).Pairwise LtA ∧ (putsA L l).length ≤ L.length + l.length
  | [], L, hl, h1, h2 => ⟨h1, h2, Nat.le_refl _⟩
  | x :: l, L, hl, h1, h2 => by
    obtain ⟨a1, a2, a3⟩ := putsA_facts l (putA L x) (fun y hy => hl y (List.mem_cons_of_mem _ hy)) (fun y hy => by
      rcases putA_mem hy with rfl | hy
      · exact hl y List.mem_cons_self
      · exact h1 y hy) (putA_sorted h2 (acc_ad (hl x List.mem_cons_self)) (fun y hy => acc_ad (h1 y hy)))
    have := putA_length L x
    exact ⟨a1, a2, by simp only [List.length_cons]; have : (putsA L (x :: l)).length = (putsA (putA L x) l).length := rfl; omega⟩
theorem puts_find : ∀ (l : List L30) (kvs : Kv) (L L0 : List L30), (∀ a, findA L a = match aget kvs a with | some x => some x | none => findA L0 a) → ∀ a, findA (putsA L l) a = match aget (putsK kvs l) a with | some x => some x | none => findA L0 a
  | [], kvs, L, L0, h, a => h a
  | x :: l, kvs, L, L0, h, a => by
    refine puts_find l (aput kvs x.1 x) (putA L x) L0 (fun b => ?_) a
    rw [putA_find, aget_aput, h b]
    by_cases c : x.1 = b
    · rw [if_pos c, if_pos c.symm]
    · rw [if_neg c, if_neg (Ne.symm c)]
theorem gt_append {α : Type} [Inhabited α] (xs : List α) (y : α) (j : Nat) : gt (xs ++ [y]) (j : Int) = if j < xs.length then gt xs (j : Int) else if j = xs.length then y else default := by
  unfold gt
  rw [Int.toNat_natCast, List.getD_eq_getElem?_getD, List.getD_eq_getElem?_getD]
  by_cases c : j < xs.length
  · rw [if_pos c, List.getElem?_append_left c]
  · rw [if_neg c]
    by_cases c2 : j = xs.length
    · subst c2; rw [if_pos rfl, List.getElem?_append_right (by omega)]; simp
    · rw [if_neg c2, List.getElem?_append_right (by omega), List.getElem?_eq_none (by simp; omega)]; rfl
theorem VRel.commit {k sz : Nat} {s : L72} {V : Vs} (R : VRel k sz s V) {p : Nat} (hp : p < V.length) {l : List L30} (hl : ∀ x ∈ l, Acc k x) : VRel k (sz + l.length) (s ++ [((p : Int), putsK [] l)]) (V ++ [((p : Int), putsA (gt V (p : Int)).2 l)]) := by
  have hlen := R.len
  obtain ⟨k1, k2, k3⟩ := putsK_facts l [] hl (fun e he => by cases he) List.nodup_nil
  obtain ⟨a1, a2, a3⟩ := putsA_facts l (gt V (p : Int)).2 hl (R.acc p hp) (R.sorted p hp)
  have a4 := R.vsz p hp
  have gs : ∀ j : Nat, j < V.length → gt (s ++ [((p : Int), putsK [] l)]) (j : Int) = gt s (j : Int) := fun j hj => by rw [gt_append, if_pos (by omega)]
  have gv : ∀ j : Nat, j < V.length → gt (V ++ [((p : Int), putsA (gt V (p : Int)).2 l)]) (j : Int) = gt V (j : Int) := fun j hj => by rw [gt_append, if_pos hj]
  have gs1 : gt (s ++ [((p : Int), putsK [] l)]) ((V.length : Nat) : Int) = ((p : Int), putsK [] l) := by rw [gt_append, if_neg (by omega), if_pos (by omega)]
  have gv1 : gt (V ++ [((p : Int), putsA (gt V (p : Int)).2 l)]) ((V.length : Nat) : Int) = ((p : Int), putsA (gt V (p : Int)).2 l) := by rw [gt_append, if_neg (by omega), if_pos (by omega)]
  have hpos := R.pos
  have cases' : ∀ j : Nat, j < (V ++ [((p : Int), putsA (gt V (p : Int)).2 l)]).length → j < V.length ∨ j = V.length := fun j hj => by simp only [List.length_append, List.length_singleton] at hj; omega
  refine ⟨by simp [hlen], by simp, by rw [gs 0 hpos]; exact R.s0, by rw [gv 0 hpos]; exact R.v0, ?_, ?_, ?_, ?_, ?_, ?_, ?_, ?_, ?_⟩
  · intro j hj
    rcases cases' j hj with h | rfl
    · rw [gs j h, gv j h]; exact R.par j h
    · rw [gs1, gv1]
  · intro j h0 hj
    rcases cases' j hj with h | rfl
    · rw [gv j h]; exact R.parlt j h0 h
    · rw [gv1]; exact ⟨p, rfl, hp⟩
  · intro j hj
    rcases cases' j hj with h | rfl
    · rw [gs j h]; exact R.kv j h
    · rw [gs1]; exact k1
  · intro j hj
    rcases cases' j hj with h | rfl
    · rw [gs j h]; exact R.nd j h
    · rw [gs1]; exact k2
  · intro j h0 hj a
    rcases cases' j hj with h | rfl
    · obtain ⟨p', p1, p2⟩ := R.parlt j h0 h
      rw [gs j h, gv j h, p1, gv p' (by omega), ← p1]; exact R.find j h0 h a
    · rw [gs1, gv1]
      show findA (putsA (gt V (p : Int)).2 l) a = match aget (putsK [] l) a with | some x => some x | none => findA (gt (V ++ [((p : Int), putsA (gt V (p : Int)).2 l)]) (p : Int)).2 a
      rw [gv p hp]
      exact puts_find l [] _ _ (fun b => rfl) a
  · intro j hj
    rcases cases' j hj with h | rfl
    · rw [gv j h]; exact R.sorted j h
    · rw [gv1]; exact a2
  · intro j hj
    rcases cases' j hj with h | rfl
    · rw [gv j h]; exact R.acc j h
    · rw [gv1]; exact a1
  · intro j hj
    rcases cases' j hj with h | rfl
    · rw [gv j h]; have := R.vsz j h; omega
    · rw [gv1]; show (putsA (gt V (p : Int)).2 l).length ≤ _; omega
  · intro j hj
    rcases cases' j hj with h | rfl
    · rw [gs j h]; have := R.ssz j h; omega
    · rw [gs1]; simp only [List.length_nil] at k3; show (putsK [] l).length ≤ _; omega
theorem commit_eq {k sz : Nat} {s : L72} {V : Vs} (R : VRel k sz s V) (hk : 200 < k) (hV : V.length < 1000) (p : Int) (l : List L30) (hg : ∀ x ∈ l, Gd30 x) (hs : ∀ x ∈ l, SmallA x) (hl : l.length < 4000000) (hlk : l.length < k) :
    (store_Store_Commit.f k s p l = some (0, 12, s) ∧ ¬ (0 ≤ p ∧ p < (V.length : Int))) ∨
    (store_Store_Commit.f k s p l = some (0, 1, s) ∧ (0 ≤ p ∧ p < (V.length : Int)) ∧ ∃ x ∈ l, smithyref13_Right.f k x = some false) ∨
    (store_Store_Commit.f k s p l = some ((V.length : Int), 0, s ++ [(p, putsK [] l)]) ∧ (0 ≤ p ∧ p < (V.length : Int)) ∧ ∀ x ∈ l, Acc k x) := by
  have hlen := R.len
  unfold store_Store_Commit.f
  rw [has_eq, Option.bind_some]
  by_cases c : 0 ≤ p ∧ p < (V.length : Int)
  · refine .inr ?_
    rw [if_neg (by simp; omega)]
    rcases wrong_eq k hk l hg hs hl hlk with ⟨h, h2⟩ | ⟨h, h2⟩
    · exact .inl ⟨by rw [h, Option.bind_some, if_pos rfl], c, h2⟩
    · refine .inr ⟨?_, c, h2⟩
      rw [h, Option.bind_some, if_neg (by simp), if_neg (by simp; omega)]
      refine (commit_loop s p l hs hl l k 0 [] rfl (by omega) hlk).trans ?_
      unfold store_Store_Commit.j1
      have hw : wr .i64 (((s ++ [(p, putsK [] l)]).length : Int) - 1) = (V.length : Int) := by
        rw [wr_i64_id (by simp <;> omega) (by simp <;> omega)]; simp [hlen]
      rw [if_pos (by simp only [List.length_singleton]; omega), hw]
  · refine .inl ⟨by rw [if_pos (by simp; omega)], c⟩
end GW
set_option linter.unusedVariables false
set_option linter.unusedSimpArgs false
set_option maxRecDepth 100000
namespace GW
open Go Go.RowKit
end GW
set_option linter.unusedVariables false
set_option linter.unusedSimpArgs false
set_option linter.unusedSectionVars false
set_option maxRecDepth 100000
namespace GW
open Go Go.RowKit
section
variable {α : Type} [Inhabited α]
theorem at_toArray (xs : List α) (i : Nat) : xs.toArray[i]! = gt xs (i : Int) := by
  unfold gt
  rw [Int.toNat_natCast, List.getD_eq_getElem?_getD]
  by_cases h : i < xs.length
  · rw [getElem!_pos xs.toArray i (by simpa using h), List.getElem?_eq_getElem h]; simp
  · rw [getElem!_neg xs.toArray i (by simpa using h), List.getElem?_eq_none (by omega)]; rfl
theorem swp_toArray (xs : List α) (i j : Nat) : Sort.swp xs.toArray i j = ((xs.set i (gt xs (j : Int))).set j (gt xs (i : Int))).toArray := by
  unfold Sort.swp
  rw [at_toArray, at_toArray]
  simp
theorem swp_len (xs : List α) (i j : Nat) : (Sort.swp xs.toArray i j).toList.length = xs.length := by rw [swp_toArray]; simp
theorem insInner_size (lt : α → α → Bool) (a : Nat) : ∀ (j : Nat) (d : Array α), (Sort.insInner lt a j d).size = d.size
  | 0, d => rfl
  | j + 1, d => by
    unfold Sort.insInner
    split
    · rw [insInner_size lt a j]; simp [Sort.swp]
    · rfl
end
def ltC (cf : L30 → L30 → Int) (x y : L30) : Bool := decide (cf x y < 0)
section
variable {cf : L30 → L30 → Int} (hC : ∀ x y, store_Store_All_1.f x y = some (cf x y))
include hC
theorem ins_inner (a : Nat) (y2 : Int) (rec1 : List L30 → Int → Option (List L30)) : ∀ (j q : Nat) (xs : List L30), j < xs.length → xs.length < 4611686018427387904 → j < q →
    api_Account_n50_0z_3f35.l2 (a : Int) y2 rec1 q xs (j : Int) = api_Account_n50_0z_3f35.j1 y2 rec1 (Sort.insInner (ltC cf) a j xs.toArray).toList
  | 0, q, xs, hj, hl, hq => by
    obtain ⟨q, rfl⟩ : ∃ m, q = m + 1 := ⟨q - 1, by omega⟩
    show api_Account_n50_0z_3f35.b2 _ _ _ _ _ _ = _
    unfold api_Account_n50_0z_3f35.b2
    rw [if_neg (by simp)]
    rfl
  | j + 1, q, xs, hj, hl, hq => by
    obtain ⟨q, rfl⟩ : ∃ m, q = m + 1 := ⟨q - 1, by omega⟩
    have hw : wr .i64 (((j + 1 : Nat) : Int) - 1) = (j : Int) := by rw [wr_i64_id (by omega) (by omega)]; omega
    show api_Account_n50_0z_3f35.b2 _ _ _ _ _ _ = _
    unfold api_Account_n50_0z_3f35.b2 Sort.insInner
    rw [hw]
    by_cases c : a < j + 1
    · rw [if_pos (decide_eq_true (by omega)), if_pos (by omega), if_pos (by omega), hC, Option.bind_some]
      unfold api_Account_n50_0z_3f35.j2
      rw [at_toArray, at_toArray]
      by_cases c2 : cf (gt xs ((j + 1 : Nat) : Int)) (gt xs (j : Int)) < 0
      · rw [if_pos (decide_eq_true c2), hw, if_pos (by omega), if_pos (by omega), if_pos (by rw [List.length_set]; omega), show ltC cf (gt xs ((j + 1 : Nat) : Int)) (gt xs (j : Int)) = true from decide_eq_true c2, if_pos (by simpa using c)]
        unfold api_Account_n50_0z_3f35.j3
        rw [hw, Int.toNat_natCast, Int.toNat_natCast, ins_inner a y2 rec1 j q _ (by simp; omega) (by simpa using hl) (by omega), swp_toArray]
      · rw [if_neg (by simpa using c2), show ltC cf (gt xs ((j + 1 : Nat) : Int)) (gt xs (j : Int)) = false from decide_eq_false c2, if_neg (by simp)]
    · rw [if_neg (by simp; omega), if_neg (by simp; omega)]
      rfl
theorem ins_outer (a b k : Nat) : ∀ (r i q : Nat) (xs : List L30), b ≤ i + r → b ≤ xs.length → i < 4611686018427387904 → xs.length < 4611686018427387904 → xs.length < k → r < q →
    api_Account_n50_0z_3f35.l1 k (a : Int) (b : Int) q xs (i : Int) = some (Sort.insOuter (ltC cf) a b i xs.toArray).toList
  | r, i, q, xs, hi, hb, hi2, hl, hk, hq => by
    obtain ⟨q, rfl⟩ : ∃ m, q = m + 1 := ⟨q - 1, by omega⟩
    show api_Account_n50_0z_3f35.b1 _ _ _ _ _ _ = _
    unfold api_Account_n50_0z_3f35.b1
    rw [Sort.insOuter]
    by_cases c : i < b
    · rw [if_pos (decide_eq_true (by omega)), if_pos c]
      obtain ⟨r, rfl⟩ : ∃ m, r = m + 1 := ⟨r - 1, by omega⟩
      rw [ins_inner hC a _ _ i k xs (by omega) hl (by omega)]
      unfold api_Account_n50_0z_3f35.j1
      have hs := insInner_size (ltC cf) a i xs.toArray
      have hs' : (Sort.insInner (ltC cf) a i xs.toArray).toList.length = xs.length := by simpa using hs
      rw [show wr .i64 ((i : Int) + 1) = ((i + 1 : Nat) : Int) by rw [wr_i64_id (by omega) (by omega)]; omega]
      rw [ins_outer a b k r (i + 1) q _ (by omega) (by omega) (by omega) (by omega) (by omega) (by omega)]
    · rw [if_neg (by simp; omega), if_neg c]
theorem ins_eq (a b k : Nat) (xs : List L30) (ha : a ≤ b) (hb : b ≤ xs.length) (hl : xs.length < 4611686018427387904 - 1) (hk : xs.length + 1 < k) :
    api_Account_n50_0z_3f35.f k xs (a : Int) (b : Int) = some (Sort.insertionSort (ltC cf) xs.toArray a b).toList := by
  unfold api_Account_n50_0z_3f35.f
  rw [show wr .i64 ((a : Int) + 1) = ((a + 1 : Nat) : Int) by rw [wr_i64_id (by omega) (by omega)]; omega]
  exact ins_outer hC a b k b (a + 1) k xs (by omega) hb (by omega) (by omega) (by omega) (by omega)
end
end GW
set_option linter.unusedVariables false
set_option linter.unusedSimpArgs false
set_option linter.unusedSectionVars false
set_option maxRecDepth 100000
namespace GW
open Go Go.RowKit
theorem siftDown_size {α : Type} [Inhabited α] (lt : α → α → Bool) (hi first : Nat) : ∀ (r root : Nat) (d : Array α), hi ≤ root + r → (Sort.siftDown lt hi first root d).size = d.size
  | r, root, d, h => by
    rw [Sort.siftDown]
    by_cases c : 2 * root + 1 ≥ hi
    · rw [dif_pos c]
    · rw [dif_neg c]
      obtain ⟨r, rfl⟩ : ∃ m, r = m + 1 := ⟨r - 1, by omega⟩
      split
      · split
        · rfl
        · split
          · rw [siftDown_size lt hi first r _ _ (by omega)]; simp [Sort.swp]
          · rfl
      · split
        · rfl
        · rw [siftDown_size lt hi first r _ _ (by omega)]; simp [Sort.swp]
theorem heapBuild_size {α : Type} [Inhabited α] (lt : α → α → Bool) (hi first : Nat) : ∀ (n : Nat) (d : Array α), (Sort.heapBuild lt hi first n d).size = d.size
  | 0, d => rfl
  | n + 1, d => by
    show (Sort.heapBuild lt hi first n (Sort.siftDown lt hi first n d)).size = _
    rw [heapBuild_size lt hi first n, siftDown_size lt hi first hi n d (by omega)]
theorem wrn {x : Int} (n : Nat) (h : x = (n : Int)) (hn : n < 9223372036854775808) : wr .i64 x = (n : Int) := by rw [h, wr_i64_id (by omega) (by omega)]
section
variable {cf : L30 → L30 → Int} (hC : ∀ x y, store_Store_All_1.f x y = some (cf x y))
include hC
theorem sift_j1 (first root c : Nat) (xs : List L30) (rec1 : List L30 → Int → Option (List L30)) (hl : xs.length < 2305843009213693952) (h1 : first + root < xs.length) (h2 : first + c < xs.length) :
    api_Account_n61_0z_4f35.j1 (first : Int) xs (root : Int) rec1 (c : Int) = if ltC cf (gt xs ((first + root : Nat) : Int)) (gt xs ((first + c : Nat) : Int)) = true then rec1 (Sort.swp xs.toArray (first + root) (first + c)).toList (c : Int) else some xs := by
  have f1 : wr .i64 ((first : Int) + (root : Int)) = ((first + root : Nat) : Int) := wrn _ (by omega) (by omega)
  have f2 : wr .i64 ((first : Int) + (c : Int)) = ((first + c : Nat) : Int) := wrn _ (by omega) (by omega)
  unfold api_Account_n61_0z_4f35.j1
  simp only [f1, f2]
  rw [if_pos (by omega), if_pos (by omega), hC, Option.bind_some]
  unfold api_Account_n61_0z_4f35.j2
  simp only [f1, f2]
  by_cases c2 : cf (gt xs ((first + root : Nat) : Int)) (gt xs ((first + c : Nat) : Int)) < 0
  · rw [decide_eq_true c2, show ltC cf (gt xs ((first + root : Nat) : Int)) (gt xs ((first + c : Nat) : Int)) = true from decide_eq_true c2, if_neg (by simp), if_pos rfl, if_pos (by omega), if_pos (by omega), if_pos (by rw [List.length_set]; omega)]
    unfold api_Account_n61_0z_4f35.j3
    simp only [f1, f2]
    rw [Int.toNat_natCast, Int.toNat_natCast, swp_toArray]
  · rw [decide_eq_false c2, show ltC cf (gt xs ((first + root : Nat) : Int)) (gt xs ((first + c : Nat) : Int)) = false from decide_eq_false c2, if_pos (by simp), if_neg (by simp)]
theorem sift_eq (hi first : Nat) : ∀ (r root q : Nat) (xs : List L30), hi ≤ root + r → r < q → first + hi ≤ xs.length → xs.length < 2305843009213693952 → root < 4000000000000000000 →
    api_Account_n61_0z_4f35.l1 (hi : Int) (first : Int) q xs (root : Int) = some (Sort.siftDown (ltC cf) hi first root xs.toArray).toList
  | r, root, q, xs, h, hq, hb, hl, h0 => by
    obtain ⟨q, rfl⟩ : ∃ m, q = m + 1 := ⟨q - 1, by omega⟩
    rw [Sort.siftDown]
    have e0 : wr .i64 (2 * (root : Int)) = ((2 * root : Nat) : Int) := wrn _ (by omega) (by omega)
    have e1 : wr .i64 (((2 * root : Nat) : Int) + 1) = ((2 * root + 1 : Nat) : Int) := wrn _ (by omega) (by omega)
    have e2 : wr .i64 (((2 * root + 1 : Nat) : Int) + 1) = ((2 * root + 1 + 1 : Nat) : Int) := wrn _ (by omega) (by omega)
    show api_Account_n61_0z_4f35.b1 _ _ _ _ _ = _
    unfold api_Account_n61_0z_4f35.b1
    by_cases c : 2 * root + 1 ≥ hi
    · rw [dif_pos c]
      simp only [e0, e1]
      rw [if_pos (decide_eq_true (by omega))]
    · rw [dif_neg c]
      obtain ⟨r, rfl⟩ : ∃ m, r = m + 1 := ⟨r - 1, by omega⟩
      simp only [e0, e1, e2]
      rw [if_neg (by simp; omega)]
      simp only [at_toArray]
      have hj4 : ∀ b : Bool, api_Account_n61_0z_4f35.j4 (first : Int) xs (root : Int) (api_Account_n61_0z_4f35.l1 (hi : Int) (first : Int) q) b = api_Account_n61_0z_4f35.j1 (first : Int) xs (root : Int) (api_Account_n61_0z_4f35.l1 (hi : Int) (first : Int) q) ((if b = true then 2 * root + 2 else 2 * root + 1 : Nat) : Int) := fun b => by
        unfold api_Account_n61_0z_4f35.j4
        simp only [e0, e1, e2]
        cases b <;> rfl
      by_cases c1 : 2 * root + 1 + 1 < hi
      · have f1 : wr .i64 ((first : Int) + ((2 * root + 1 : Nat) : Int)) = ((first + (2 * root + 1) : Nat) : Int) := wrn _ (by omega) (by omega)
        have f2 : wr .i64 (((first + (2 * root + 1) : Nat) : Int) + 1) = ((first + (2 * root + 1) + 1 : Nat) : Int) := wrn _ (by omega) (by omega)
        simp only [f1, f2]
        rw [if_pos (decide_eq_true (by omega)), if_pos (by omega), if_pos (by omega), hC, Option.bind_some, hj4]
        by_cases c2 : cf (gt xs ((first + (2 * root + 1) : Nat) : Int)) (gt xs ((first + (2 * root + 1) + 1 : Nat) : Int)) < 0
        · rw [decide_eq_true c2, show ltC cf (gt xs ((first + (2 * root + 1) : Nat) : Int)) (gt xs ((first + (2 * root + 1) + 1 : Nat) : Int)) = true from decide_eq_true c2, if_pos rfl, if_pos (by simpa using c1), sift_j1 hC first root (2 * root + 2) xs _ hl (by omega) (by omega)]
          cases h3 : ltC cf (gt xs ((first + root : Nat) : Int)) (gt xs ((first + (2 * root + 2) : Nat) : Int)) with
          | true =>
            rw [if_pos rfl, if_neg (by simp), dif_pos (by omega), sift_eq hi first r (2 * root + 2) q _ (by omega) (by omega) (by rw [swp_len]; omega) (by rw [swp_len]; omega) (by omega)]
          | false => rw [if_neg (by simp), if_pos (by simp)]
        · rw [decide_eq_false c2, show ltC cf (gt xs ((first + (2 * root + 1) : Nat) : Int)) (gt xs ((first + (2 * root + 1) + 1 : Nat) : Int)) = false from decide_eq_false c2, if_neg (show ¬ (false = true) by simp), if_neg (by simp), sift_j1 hC first root (2 * root + 1) xs _ hl (by omega) (by omega)]
          cases h3 : ltC cf (gt xs ((first + root : Nat) : Int)) (gt xs ((first + (2 * root + 1) : Nat) : Int)) with
          | true =>
            rw [if_pos rfl, if_neg (by simp), sift_eq hi first r (2 * root + 1) q _ (by omega) (by omega) (by rw [swp_len]; omega) (by rw [swp_len]; omega) (by omega)]
          | false => rw [if_neg (by simp), if_pos (by simp)]
      · rw [if_neg (by simp; omega), hj4, if_neg (show ¬ (false = true) by simp), if_neg (by simp; omega), sift_j1 hC first root (2 * root + 1) xs _ hl (by omega) (by omega)]
        cases h3 : ltC cf (gt xs ((first + root : Nat) : Int)) (gt xs ((first + (2 * root + 1) : Nat) : Int)) with
        | true =>
          rw [if_pos rfl, if_neg (by simp), sift_eq hi first r (2 * root + 1) q _ (by omega) (by omega) (by rw [swp_len]; omega) (by rw [swp_len]; omega) (by omega)]
        | false => rw [if_neg (by simp), if_pos (by simp)]
theorem siftf_eq (K hi first root : Nat) (xs : List L30) (hk : hi + 1 < K) (hb : first + hi ≤ xs.length) (hl : xs.length < 2305843009213693952) (h0 : root < 4000000000000000000) :
    api_Account_n61_0z_4f35.f K xs (root : Int) (hi : Int) (first : Int) = some (Sort.siftDown (ltC cf) hi first root xs.toArray).toList := sift_eq hC hi first hi root K xs (by omega) (by omega) hb hl h0
theorem heap_build (a b K : Nat) (hab : a ≤ b) (hk : b + 1 < K) : ∀ (n q : Nat) (xs : List L30), n < q → n < 4000000000000000000 → b ≤ xs.length → xs.length < 2305843009213693952 →
    api_Account_n51_0z_3f35.l2 K (a : Int) (b : Int) q xs ((n : Int) - 1) = api_Account_n51_0z_3f35.j1 K (a : Int) (b : Int) (Sort.heapBuild (ltC cf) (b - a) a n xs.toArray).toList
  | 0, q, xs, hq, hn, hb, hl => by
    obtain ⟨q, rfl⟩ : ∃ m, q = m + 1 := ⟨q - 1, by omega⟩
    show api_Account_n51_0z_3f35.b2 _ _ _ _ _ _ = _
    unfold api_Account_n51_0z_3f35.b2
    rw [if_neg (by simp)]
    rfl
  | n + 1, q, xs, hq, hn, hb, hl => by
    obtain ⟨q, rfl⟩ : ∃ m, q = m + 1 := ⟨q - 1, by omega⟩
    show api_Account_n51_0z_3f35.b2 _ _ _ _ _ _ = _
    unfold api_Account_n51_0z_3f35.b2
    have e0 : ((n + 1 : Nat) : Int) - 1 = (n : Int) := by omega
    have e1 : wr .i64 ((b : Int) - (a : Int)) = ((b - a : Nat) : Int) := wrn _ (by omega) (by omega)
    have e2 : wr .i64 ((n : Int) - 1) = (n : Int) - 1 := wr_i64_id (by omega) (by omega)
    simp only [e0, e1, e2]
    have hs := siftDown_size (ltC cf) (b - a) a (b - a) n xs.toArray (by omega)
    have hs' : (Sort.siftDown (ltC cf) (b - a) a n xs.toArray).toList.length = xs.length := by simpa using hs
    rw [if_pos (decide_eq_true (by omega)), siftf_eq hC K (b - a) a n xs (by omega) (by omega) hl (by omega), Option.bind_some, heap_build a b K hab hk n q _ (by omega) (by omega) (by omega) (by omega)]
    rfl
theorem heap_pop (a K : Nat) : ∀ (n q : Nat) (xs : List L30), n < q → n + 1 < K → a + n ≤ xs.length → xs.length < 2305843009213693952 →
    api_Account_n51_0z_3f35.l1 K (a : Int) q xs ((n : Int) - 1) = some (Sort.heapPop (ltC cf) a n xs.toArray).toList
  | 0, q, xs, hq, hk, hb, hl => by
    obtain ⟨q, rfl⟩ : ∃ m, q = m + 1 := ⟨q - 1, by omega⟩
    show api_Account_n51_0z_3f35.b1 _ _ _ _ _ = _
    unfold api_Account_n51_0z_3f35.b1
    rw [if_neg (by simp)]
    rfl
  | n + 1, q, xs, hq, hk, hb, hl => by
    obtain ⟨q, rfl⟩ : ∃ m, q = m + 1 := ⟨q - 1, by omega⟩
    show api_Account_n51_0z_3f35.b1 _ _ _ _ _ = _
    unfold api_Account_n51_0z_3f35.b1
    have e0 : ((n + 1 : Nat) : Int) - 1 = (n : Int) := by omega
    have e1 : wr .i64 ((a : Int) + (n : Int)) = ((a + n : Nat) : Int) := wrn _ (by omega) (by omega)
    have e2 : wr .i64 ((n : Int) - 1) = (n : Int) - 1 := wr_i64_id (by omega) (by omega)
    simp only [e0, e1]
    rw [if_pos (decide_eq_true (by omega)), if_pos (by omega), if_pos (by omega), if_pos (by rw [List.length_set]; omega)]
    unfold api_Account_n51_0z_3f35.j2
    simp only [e1, e2]
    have hw : ((xs.set (Int.toNat (a : Int)) (gt xs ((a + n : Nat) : Int))).set (Int.toNat ((a + n : Nat) : Int)) (gt xs (a : Int))) = (Sort.swp xs.toArray a (a + n)).toList := by rw [swp_toArray, Int.toNat_natCast, Int.toNat_natCast]
    rw [hw]
    have hl2 := swp_len xs a (a + n)
    have hs := siftDown_size (ltC cf) n a n 0 (Sort.swp xs.toArray a (a + n)) (by omega)
    have hs' : (Sort.siftDown (ltC cf) n a 0 (Sort.swp xs.toArray a (a + n))).toList.length = xs.length := by
      have h3 : (Sort.swp xs.toArray a (a + n)).size = xs.length := by simpa using hl2
      rw [Array.length_toList, hs, h3]
    rw [show (0 : Int) = ((0 : Nat) : Int) from rfl, siftf_eq hC K n a 0 _ (by omega) (by omega) (by omega) (by omega), Option.bind_some, Array.toArray_toList, heap_pop a K n q _ (by omega) (by omega) (by omega) (by omega)]
    rfl
theorem heap_eq (a b K : Nat) (xs : List L30) (ha : a ≤ b) (hb : b ≤ xs.length) (hl : xs.length < 2305843009213693952) (hk : xs.length + 5 < K) :
    api_Account_n51_0z_3f35.f K xs (a : Int) (b : Int) = some (Sort.heapSort (ltC cf) xs.toArray a b).toList := by
  unfold api_Account_n51_0z_3f35.f Sort.heapSort
  have e1 : wr .i64 ((b : Int) - (a : Int)) = ((b - a : Nat) : Int) := wrn _ (by omega) (by omega)
  have e2 : wr .i64 (((b - a : Nat) : Int) - 1) = ((b - a : Nat) : Int) - 1 := wr_i64_id (by omega) (by omega)
  have e3 : Int.tdiv (((b - a : Nat) : Int) - 1) 2 = ((((b - a - 1) / 2 + 1 : Nat) : Int)) - 1 := by
    by_cases c : b = a
    · subst c; simp
    · rw [Int.tdiv_eq_ediv_of_nonneg (by omega)]; omega
  have e4 : wr .i64 (((((b - a - 1) / 2 + 1 : Nat) : Int)) - 1) = ((((b - a - 1) / 2 + 1 : Nat) : Int)) - 1 := wr_i64_id (by omega) (by omega)
  simp only [e1, e2, e3, e4]
  rw [heap_build hC a b K ha (by omega) _ K xs (by omega) (by omega) hb hl]
  unfold api_Account_n51_0z_3f35.j1
  simp only [e1, e2]
  have hs := heapBuild_size (ltC cf) (b - a) a ((b - a - 1) / 2 + 1) xs.toArray
  have hs' : (Sort.heapBuild (ltC cf) (b - a) a ((b - a - 1) / 2 + 1) xs.toArray).toList.length = xs.length := by simpa using hs
  rw [heap_pop hC a K (b - a) K _ (by omega) (by omega) (by omega) (by omega)]
end
end GW
set_option linter.unusedVariables false
set_option linter.unusedSimpArgs false
set_option linter.unusedSectionVars false
set_option maxRecDepth 100000
namespace GW
open Go Go.RowKit
section
variable {α : Type} [Inhabited α]
theorem scanSorted_bd (lt : α → α → Bool) (d : Array α) (b : Nat) : ∀ (r i : Nat), b ≤ i + r → i ≤ Sort.scanSorted lt d b i ∧ (Sort.scanSorted lt d b i ≤ b ∨ Sort.scanSorted lt d b i = i)
  | r, i, h => by
    rw [Sort.scanSorted]
    split
    · rename_i c
      simp only [Bool.and_eq_true, decide_eq_true_eq] at c
      obtain ⟨r, rfl⟩ : ∃ m, r = m + 1 := ⟨r - 1, by omega⟩
      have := scanSorted_bd lt d b r (i + 1) (by omega)
      omega
    · omega
theorem shiftDown_size (lt : α → α → Bool) : ∀ (j : Nat) (d : Array α), (Sort.shiftDown lt j d).size = d.size
  | 0, d => rfl
  | j + 1, d => by
    unfold Sort.shiftDown
    split
    · rfl
    · rw [shiftDown_size lt j]; simp [Sort.swp]
theorem shiftUp_size (lt : α → α → Bool) (b : Nat) : ∀ (r j : Nat) (d : Array α), b ≤ j + r → (Sort.shiftUp lt b j d).size = d.size
  | r, j, d, h => by
    rw [Sort.shiftUp]
    split
    · obtain ⟨r, rfl⟩ : ∃ m, r = m + 1 := ⟨r - 1, by omega⟩
      split
      · rfl
      · rw [shiftUp_size lt b r (j + 1) _ (by omega)]; simp [Sort.swp]
    · rfl
end
section
variable {cf : L30 → L30 → Int} (hC : ∀ x y, store_Store_All_1.f x y = some (cf x y))
include hC
theorem pins_up (b : Nat) (y44 y70 : Int) (rec1 : List L30 → Int → Int → Option (Bool × List L30)) : ∀ (r j q : Nat) (xs : List L30), b ≤ j + r → r < q → 1 ≤ j → b ≤ xs.length → xs.length < 2305843009213693952 → j < 4000000000000000000 →
    api_Account_n55_0z_3f35.l2 (b : Int) y44 rec1 y70 q xs (j : Int) = api_Account_n55_0z_3f35.j2 y44 rec1 (Sort.shiftUp (ltC cf) b j xs.toArray).toList y70
  | r, j, q, xs, h, hq, hj, hb, hl, h4 => by
    obtain ⟨q, rfl⟩ : ∃ m, q = m + 1 := ⟨q - 1, by omega⟩
    show api_Account_n55_0z_3f35.b2 _ _ _ _ _ _ _ = _
    unfold api_Account_n55_0z_3f35.b2
    have e1 : wr .i64 ((j : Int) - 1) = ((j - 1 : Nat) : Int) := wrn _ (by omega) (by omega)
    have e2 : wr .i64 ((j : Int) + 1) = ((j + 1 : Nat) : Int) := wrn _ (by omega) (by omega)
    rw [Sort.shiftUp]
    simp only [e1]
    by_cases c : j < b
    · obtain ⟨r, rfl⟩ : ∃ m, r = m + 1 := ⟨r - 1, by omega⟩
      rw [if_pos (show decide ((j : Int) < (b : Int)) = true from decide_eq_true (by omega)), if_pos c, if_pos (by omega), if_pos (by omega), hC, Option.bind_some, at_toArray, at_toArray]
      unfold api_Account_n55_0z_3f35.j7
      simp only [e1]
      by_cases c2 : cf (gt xs (j : Int)) (gt xs ((j - 1 : Nat) : Int)) < 0
      · rw [decide_eq_true c2, show ltC cf (gt xs (j : Int)) (gt xs ((j - 1 : Nat) : Int)) = true from decide_eq_true c2, if_neg (show ¬ ((!true) = true) by simp), if_neg (show ¬ ((!true) = true) by simp), if_pos (by omega), if_pos (by omega), if_pos (by rw [List.length_set]; omega)]
        unfold api_Account_n55_0z_3f35.j6
        simp only [e1, e2]
        have hw : ((xs.set (Int.toNat (j : Int)) (gt xs ((j - 1 : Nat) : Int))).set (Int.toNat ((j - 1 : Nat) : Int)) (gt xs (j : Int))) = (Sort.swp xs.toArray j (j - 1)).toList := by rw [swp_toArray, Int.toNat_natCast, Int.toNat_natCast]
        have hl2 := swp_len xs j (j - 1)
        rw [hw, pins_up b y44 y70 rec1 r (j + 1) q _ (by omega) (by omega) (by omega) (by omega) (by omega) (by omega), Array.toArray_toList]
      · rw [decide_eq_false c2, show ltC cf (gt xs (j : Int)) (gt xs ((j - 1 : Nat) : Int)) = false from decide_eq_false c2, if_pos (by simp), if_pos (by simp)]
    · rw [if_neg (show ¬ decide ((j : Int) < (b : Int)) = true by simp; omega), if_neg c]
theorem pins_down (b K : Nat) (y44 y70 : Int) (rec1 : List L30 → Int → Int → Option (Bool × List L30)) : ∀ (j q : Nat) (xs : List L30), j < xs.length → j < q → xs.length < 2305843009213693952 →
    api_Account_n55_0z_3f35.l3 K (b : Int) y44 rec1 y70 q xs (j : Int) = api_Account_n55_0z_3f35.j5 K (b : Int) y44 rec1 y70 (Sort.shiftDown (ltC cf) j xs.toArray).toList
  | 0, q, xs, hj, hq, hl => by
    obtain ⟨q, rfl⟩ : ∃ m, q = m + 1 := ⟨q - 1, by omega⟩
    show api_Account_n55_0z_3f35.b3 _ _ _ _ _ _ _ _ = _
    unfold api_Account_n55_0z_3f35.b3
    rw [if_neg (by simp)]
    rfl
  | j + 1, q, xs, hj, hq, hl => by
    obtain ⟨q, rfl⟩ : ∃ m, q = m + 1 := ⟨q - 1, by omega⟩
    show api_Account_n55_0z_3f35.b3 _ _ _ _ _ _ _ _ = _
    unfold api_Account_n55_0z_3f35.b3 Sort.shiftDown
    have e1 : wr .i64 (((j + 1 : Nat) : Int) - 1) = (j : Int) := wrn _ (by omega) (by omega)
    simp only [e1]
    rw [if_pos (show decide ((1 : Int) ≤ ((j + 1 : Nat) : Int)) = true from decide_eq_true (by omega)), if_pos (by omega), if_pos (by omega), hC, Option.bind_some, at_toArray, at_toArray]
    unfold api_Account_n55_0z_3f35.j9
    simp only [e1]
    by_cases c2 : cf (gt xs ((j + 1 : Nat) : Int)) (gt xs (j : Int)) < 0
    · rw [decide_eq_true c2, show ltC cf (gt xs ((j + 1 : Nat) : Int)) (gt xs (j : Int)) = true from decide_eq_true c2, if_neg (show ¬ ((!true) = true) by simp), if_neg (show ¬ ((!true) = true) by simp), if_pos (by omega), if_pos (by omega), if_pos (by rw [List.length_set]; omega)]
      unfold api_Account_n55_0z_3f35.j8
      simp only [e1]
      have hw : ((xs.set (Int.toNat ((j + 1 : Nat) : Int)) (gt xs (j : Int))).set (Int.toNat (j : Int)) (gt xs ((j + 1 : Nat) : Int))) = (Sort.swp xs.toArray (j + 1) j).toList := by rw [swp_toArray, Int.toNat_natCast, Int.toNat_natCast]
      have hl2 := swp_len xs (j + 1) j
      rw [hw, pins_down b K y44 y70 rec1 j q _ (by omega) (by omega) (by omega), Array.toArray_toList]
    · rw [decide_eq_false c2, show ltC cf (gt xs ((j + 1 : Nat) : Int)) (gt xs (j : Int)) = false from decide_eq_false c2, if_pos (by simp), if_pos (by simp)]
theorem pins_scan (a b K : Nat) (y44 : Int) (xs : List L30) (rec1 : List L30 → Int → Int → Option (Bool × List L30)) (hb : b ≤ xs.length) (hl : xs.length < 2305843009213693952) : ∀ (r i q : Nat), b ≤ i + r → r < q → 1 ≤ i → i < 4000000000000000000 →
    api_Account_n55_0z_3f35.l4 K (a : Int) (b : Int) xs y44 rec1 q (i : Int) = api_Account_n55_0z_3f35.j3 K (a : Int) (b : Int) xs y44 rec1 ((Sort.scanSorted (ltC cf) xs.toArray b i : Nat) : Int)
  | r, i, q, h, hq, hi, h4 => by
    obtain ⟨q, rfl⟩ : ∃ m, q = m + 1 := ⟨q - 1, by omega⟩
    show api_Account_n55_0z_3f35.b4 _ _ _ _ _ _ _ _ = _
    unfold api_Account_n55_0z_3f35.b4
    have e1 : wr .i64 ((i : Int) - 1) = ((i - 1 : Nat) : Int) := wrn _ (by omega) (by omega)
    have e2 : wr .i64 ((i : Int) + 1) = ((i + 1 : Nat) : Int) := wrn _ (by omega) (by omega)
    rw [Sort.scanSorted]
    simp only [e1]
    by_cases c : i < b
    · obtain ⟨r, rfl⟩ : ∃ m, r = m + 1 := ⟨r - 1, by omega⟩
      rw [if_pos (show decide ((i : Int) < (b : Int)) = true from decide_eq_true (by omega)), if_pos (by omega), if_pos (by omega), hC, Option.bind_some, at_toArray, at_toArray]
      unfold api_Account_n55_0z_3f35.j10
      by_cases c2 : cf (gt xs (i : Int)) (gt xs ((i - 1 : Nat) : Int)) < 0
      · rw [decide_eq_true c2, show ltC cf (gt xs (i : Int)) (gt xs ((i - 1 : Nat) : Int)) = true from decide_eq_true c2, if_neg (by simp), if_neg (by simp)]
      · rw [decide_eq_false c2, show ltC cf (gt xs (i : Int)) (gt xs ((i - 1 : Nat) : Int)) = false from decide_eq_false c2, if_pos (by simp), if_pos (by simpa using c), e2]
        exact pins_scan a b K y44 xs rec1 hb hl r (i + 1) q (by omega) (by omega) (by omega) (by omega)
    · rw [if_neg (show ¬ decide ((i : Int) < (b : Int)) = true by simp; omega), if_neg (by simp; omega)]
      unfold api_Account_n55_0z_3f35.j10
      rw [if_neg (by simp)]
theorem pins_loop (a b K : Nat) (hab : a < b) : ∀ (s i q : Nat) (xs : List L30), s ≤ 5 → s < q → a < i → i ≤ b → b ≤ xs.length → xs.length < 2305843009213693952 → xs.length + 5 < K →
    api_Account_n55_0z_3f35.l1 K (a : Int) (b : Int) q xs ((5 - s : Nat) : Int) (i : Int) = some ((Sort.partialIns (ltC cf) a b s i xs.toArray).2, (Sort.partialIns (ltC cf) a b s i xs.toArray).1.toList)
  | 0, i, q, xs, hs, hq, hi, hib, hb, hl, hk => by
    obtain ⟨q, rfl⟩ : ∃ m, q = m + 1 := ⟨q - 1, by omega⟩
    show api_Account_n55_0z_3f35.b1 _ _ _ _ _ _ _ = _
    unfold api_Account_n55_0z_3f35.b1
    rw [if_neg (by simp)]
    rfl
  | s + 1, i, q, xs, hs, hq, hi, hib, hb, hl, hk => by
    obtain ⟨q, rfl⟩ : ∃ m, q = m + 1 := ⟨q - 1, by omega⟩
    show api_Account_n55_0z_3f35.b1 _ _ _ _ _ _ _ = _
    unfold api_Account_n55_0z_3f35.b1 Sort.partialIns
    rw [if_pos (show decide (((5 - (s + 1) : Nat) : Int) < 5) = true from decide_eq_true (by omega)), pins_scan hC a b K _ xs _ hb hl b i K (by omega) (by omega) (by omega) (by omega)]
    have hbd := scanSorted_bd (ltC cf) xs.toArray b b i (by omega)
    generalize Sort.scanSorted (ltC cf) xs.toArray b i = i2 at hbd ⊢
    simp only []
    unfold api_Account_n55_0z_3f35.j3
    have e1 : wr .i64 ((i2 : Int) - 1) = ((i2 - 1 : Nat) : Int) := wrn _ (by omega) (by omega)
    have e2 : wr .i64 ((b : Int) - (a : Int)) = ((b - a : Nat) : Int) := wrn _ (by omega) (by omega)
    have e3 : wr .i64 ((i2 : Int) - (a : Int)) = ((i2 - a : Nat) : Int) := wrn _ (by omega) (by omega)
    have e4 : wr .i64 ((b : Int) - (i2 : Int)) = ((b - i2 : Nat) : Int) := wrn _ (by omega) (by omega)
    have e5 : wr .i64 ((i2 : Int) + 1) = ((i2 + 1 : Nat) : Int) := wrn _ (by omega) (by omega)
    have e6 : wr .i64 (((5 - (s + 1) : Nat) : Int) + 1) = ((5 - s : Nat) : Int) := wrn _ (by omega) (by omega)
    simp only [e1, e2]
    by_cases c1 : i2 = b
    · rw [if_pos (show ((i2 : Int) == (b : Int)) = true by simp; omega), if_pos c1]
    · rw [if_neg (show ¬ ((i2 : Int) == (b : Int)) = true by simp; omega), if_neg c1]
      by_cases c2 : b - a < 50
      · rw [if_pos (show decide (((b - a : Nat) : Int) < 50) = true from decide_eq_true (by omega)), if_pos c2]
      · rw [if_neg (show ¬ decide (((b - a : Nat) : Int) < 50) = true by simp; omega), if_neg c2, if_pos (by omega), if_pos (by omega), if_pos (by rw [List.length_set]; omega)]
        unfold api_Account_n55_0z_3f35.j4
        have hw : ((xs.set (Int.toNat (i2 : Int)) (gt xs ((i2 - 1 : Nat) : Int))).set (Int.toNat ((i2 - 1 : Nat) : Int)) (gt xs (i2 : Int))) = (Sort.swp xs.toArray i2 (i2 - 1)).toList := by rw [swp_toArray, Int.toNat_natCast, Int.toNat_natCast]
        have hl2 := swp_len xs i2 (i2 - 1)
        simp only [e1, e3, hw]
        have j5 : ∀ (d : Array L30), d.size = xs.length → api_Account_n55_0z_3f35.j5 K (b : Int) ((5 - (s + 1) : Nat) : Int) (api_Account_n55_0z_3f35.l1 K (a : Int) (b : Int) q) (i2 : Int) d.toList = some ((Sort.partialIns (ltC cf) a b s i2 (if b - i2 ≥ 2 then Sort.shiftUp (ltC cf) b (i2 + 1) d else d)).2, (Sort.partialIns (ltC cf) a b s i2 (if b - i2 ≥ 2 then Sort.shiftUp (ltC cf) b (i2 + 1) d else d)).1.toList) := fun d hd => by
          unfold api_Account_n55_0z_3f35.j5
          simp only [e4, e5]
          have hdl : d.toList.length = xs.length := by simpa using hd
          by_cases c3 : b - i2 ≥ 2
          · have hu := shiftUp_size (ltC cf) b b (i2 + 1) d (by omega)
            have hul : (Sort.shiftUp (ltC cf) b (i2 + 1) d).toList.length = xs.length := by rw [Array.length_toList, hu, hd]
            rw [if_pos (show decide ((2 : Int) ≤ ((b - i2 : Nat) : Int)) = true from decide_eq_true (by omega)), if_pos c3, pins_up hC b _ _ _ b (i2 + 1) K _ (by omega) (by omega) (by omega) (by omega) (by omega) (by omega), Array.toArray_toList]
            unfold api_Account_n55_0z_3f35.j2
            rw [e6, pins_loop a b K hab s i2 q _ (by omega) (by omega) (by omega) (by omega) (by omega) (by omega) (by omega), Array.toArray_toList]
          · rw [if_neg (show ¬ decide ((2 : Int) ≤ ((b - i2 : Nat) : Int)) = true by simp; omega), if_neg c3]
            unfold api_Account_n55_0z_3f35.j2
            rw [e6, pins_loop a b K hab s i2 q _ (by omega) (by omega) (by omega) (by omega) (by omega) (by omega) (by omega), Array.toArray_toList]
        have hsz : (Sort.swp xs.toArray i2 (i2 - 1)).size = xs.length := by simpa using hl2
        by_cases c3 : i2 - a ≥ 2
        · rw [if_pos (show decide ((2 : Int) ≤ ((i2 - a : Nat) : Int)) = true from decide_eq_true (by omega)), pins_down hC b K _ _ _ (i2 - 1) K _ (by omega) (by omega) (by omega), Array.toArray_toList, j5 _ (by rw [shiftDown_size, hsz])]
          simp only [if_pos c3]
        · rw [if_neg (show ¬ decide ((2 : Int) ≤ ((i2 - a : Nat) : Int)) = true by simp; omega), j5 _ hsz]
          simp only [if_neg c3]
theorem pins_eq (a b K : Nat) (xs : List L30) (hab : a < b) (hb : b ≤ xs.length) (hl : xs.length < 2305843009213693952) (hk : xs.length + 10 < K) :
    api_Account_n55_0z_3f35.f K xs (a : Int) (b : Int) = some ((Sort.partialInsertionSort (ltC cf) xs.toArray a b).2, (Sort.partialInsertionSort (ltC cf) xs.toArray a b).1.toList) := by
  unfold api_Account_n55_0z_3f35.f Sort.partialInsertionSort
  rw [show wr .i64 ((a : Int) + 1) = ((a + 1 : Nat) : Int) from wrn _ (by omega) (by omega)]
  exact pins_loop hC a b K hab 5 (a + 1) K xs (by omega) (by omega) (by omega) (by omega) hb hl (by omega)
end
end GW
set_option linter.unusedVariables false
set_option linter.unusedSimpArgs false
set_option linter.unusedSectionVars false
set_option maxRecDepth 100000
namespace GW
open Go Go.RowKit
section
variable {α : Type} [Inhabited α]
theorem scanUp_bd (p : α → Bool) (d : Array α) (j : Nat) : ∀ (r i : Nat), j + 1 ≤ i + r → i ≤ Sort.scanUp p d j i ∧ (Sort.scanUp p d j i ≤ j + 1 ∨ Sort.scanUp p d j i = i)
  | r, i, h => by
    rw [Sort.scanUp]
    split
    · rename_i c
      simp only [Bool.and_eq_true, decide_eq_true_eq] at c
      obtain ⟨r, rfl⟩ : ∃ m, r = m + 1 := ⟨r - 1, by omega⟩
      have := scanUp_bd p d j r (i + 1) (by omega)
      omega
    · omega
theorem scanDown_bd (p : α → Bool) (d : Array α) (i : Nat) : ∀ j : Nat, Sort.scanDown p d i j ≤ j ∧ (i ≤ j + 1 → i ≤ Sort.scanDown p d i j + 1 ∨ j = 0)
  | 0 => ⟨Nat.le_refl _, fun _ => .inr rfl⟩
  | j + 1 => by
    unfold Sort.scanDown
    split
    · rename_i c
      simp only [Bool.and_eq_true, decide_eq_true_eq] at c
      have := scanDown_bd p d i j
      refine ⟨by omega, fun _ => ?_⟩
      by_cases h0 : j = 0
      · subst h0
        left
        show i ≤ 0 + 1
        omega
      · have := this.2 (by omega)
        omega
    · exact ⟨Nat.le_refl _, fun h => by omega⟩
end
section
variable {cf : L30 → L30 → Int} (hC : ∀ x y, store_Store_All_1.f x y = some (cf x y))
include hC
theorem peq_down (a i : Nat) (xs : List L30) (rec1 : List L30 → Int → Int → Option (Int × List L30)) (hi : 1 ≤ i) (ha : a < xs.length) (hl : xs.length < 2305843009213693952) : ∀ (j q : Nat), j < xs.length → j < q →
    api_Account_n56_0z_4f35.l2 (a : Int) xs rec1 (i : Int) q (j : Int) = api_Account_n56_0z_4f35.j4 xs rec1 (i : Int) ((Sort.scanDown (fun x => ltC cf (gt xs (a : Int)) x) xs.toArray i j : Nat) : Int)
  | 0, q, hj, hq => by
    obtain ⟨q, rfl⟩ : ∃ m, q = m + 1 := ⟨q - 1, by omega⟩
    show api_Account_n56_0z_4f35.b2 _ _ _ _ _ _ = _
    unfold api_Account_n56_0z_4f35.b2
    rw [if_neg (by simp; omega)]
    rfl
  | j + 1, q, hj, hq => by
    obtain ⟨q, rfl⟩ : ∃ m, q = m + 1 := ⟨q - 1, by omega⟩
    show api_Account_n56_0z_4f35.b2 _ _ _ _ _ _ = _
    unfold api_Account_n56_0z_4f35.b2 Sort.scanDown
    by_cases c : i ≤ j + 1
    · rw [if_pos (show decide ((i : Int) ≤ ((j + 1 : Nat) : Int)) = true from decide_eq_true (by omega)), if_pos (by omega), if_pos (by omega), hC, Option.bind_some, at_toArray]
      unfold api_Account_n56_0z_4f35.j6
      by_cases c2 : cf (gt xs (a : Int)) (gt xs ((j + 1 : Nat) : Int)) < 0
      · rw [if_pos (decide_eq_true c2), show ltC cf (gt xs (a : Int)) (gt xs ((j + 1 : Nat) : Int)) = true from decide_eq_true c2, if_pos (by simpa using c)]
        rw [show wr .i64 (((j + 1 : Nat) : Int) - 1) = (j : Int) from wrn _ (by omega) (by omega)]
        exact peq_down a i xs rec1 hi ha hl j q (by omega) (by omega)
      · rw [if_neg (by simpa using c2), show ltC cf (gt xs (a : Int)) (gt xs ((j + 1 : Nat) : Int)) = false from decide_eq_false c2, if_neg (by simp)]
    · rw [if_neg (show ¬ decide ((i : Int) ≤ ((j + 1 : Nat) : Int)) = true by simp; omega), if_neg (by simp; omega)]
      unfold api_Account_n56_0z_4f35.j6
      rw [if_neg (by simp)]
theorem peq_up (a j K : Nat) (xs : List L30) (rec1 : List L30 → Int → Int → Option (Int × List L30)) (ha : a < xs.length) (hj : j < xs.length) (hl : xs.length < 2305843009213693952) : ∀ (r i q : Nat), j + 1 ≤ i + r → r < q → i < 4000000000000000000 →
    api_Account_n56_0z_4f35.l3 K (a : Int) xs (j : Int) rec1 q (i : Int) = api_Account_n56_0z_4f35.j3 K (a : Int) xs (j : Int) rec1 ((Sort.scanUp (fun x => !ltC cf (gt xs (a : Int)) x) xs.toArray j i : Nat) : Int)
  | r, i, q, h, hq, h4 => by
    obtain ⟨q, rfl⟩ : ∃ m, q = m + 1 := ⟨q - 1, by omega⟩
    show api_Account_n56_0z_4f35.b3 _ _ _ _ _ _ _ = _
    unfold api_Account_n56_0z_4f35.b3
    rw [Sort.scanUp]
    by_cases c : i ≤ j
    · obtain ⟨r, rfl⟩ : ∃ m, r = m + 1 := ⟨r - 1, by omega⟩
      rw [if_pos (show decide ((i : Int) ≤ (j : Int)) = true from decide_eq_true (by omega)), if_pos (by omega), if_pos (by omega), hC, Option.bind_some, at_toArray]
      unfold api_Account_n56_0z_4f35.j7
      by_cases c2 : cf (gt xs (a : Int)) (gt xs (i : Int)) < 0
      · rw [decide_eq_true c2, show ltC cf (gt xs (a : Int)) (gt xs (i : Int)) = true from decide_eq_true c2, if_neg (by simp), if_neg (by simp)]
      · rw [decide_eq_false c2, show ltC cf (gt xs (a : Int)) (gt xs (i : Int)) = false from decide_eq_false c2, if_pos (by simp), if_pos (by simpa using c)]
        rw [show wr .i64 ((i : Int) + 1) = ((i + 1 : Nat) : Int) from wrn _ (by omega) (by omega)]
        exact peq_up a j K xs rec1 ha hj hl r (i + 1) q (by omega) (by omega) (by omega)
    · rw [if_neg (show ¬ decide ((i : Int) ≤ (j : Int)) = true by simp; omega), if_neg (by simp; omega)]
      unfold api_Account_n56_0z_4f35.j7
      rw [if_neg (by simp)]
theorem peq_loop (a K : Nat) : ∀ (r i j q : Nat) (xs : List L30), j + 1 ≤ i + r → r < q → 1 ≤ i → i ≤ xs.length → a < xs.length → j < xs.length → xs.length < 2305843009213693952 → xs.length + 1 < K →
    api_Account_n56_0z_4f35.l1 K (a : Int) q xs (j : Int) (i : Int) = some (((Sort.partEqLoop (ltC cf) a i j xs.toArray).1 : Int), (Sort.partEqLoop (ltC cf) a i j xs.toArray).2.toList)
  | r, i, j, q, xs, h, hq, hi, hix, ha, hj, hl, hk => by
    obtain ⟨q, rfl⟩ : ∃ m, q = m + 1 := ⟨q - 1, by omega⟩
    show api_Account_n56_0z_4f35.b1 _ _ _ _ _ _ = _
    unfold api_Account_n56_0z_4f35.b1
    rw [Sort.partEqLoop, peq_up hC a j K xs _ ha hj hl (j + 1) i K (by omega) (by omega) (by omega)]
    unfold api_Account_n56_0z_4f35.j3
    have hb1 := scanUp_bd (fun x => !ltC cf (gt xs (a : Int)) x) xs.toArray j (j + 1) i (by omega)
    simp only [at_toArray]
    generalize Sort.scanUp (fun x => !ltC cf (gt xs (a : Int)) x) xs.toArray j i = i2 at hb1 ⊢
    rw [peq_down hC a i2 xs _ (by omega) ha hl j K hj (by omega)]
    have hb2 := scanDown_bd (fun x => ltC cf (gt xs (a : Int)) x) xs.toArray i2 j
    generalize Sort.scanDown (fun x => ltC cf (gt xs (a : Int)) x) xs.toArray i2 j = j2 at hb2 ⊢
    unfold api_Account_n56_0z_4f35.j4
    by_cases c : i2 > j2
    · rw [if_pos (show decide ((j2 : Int) < (i2 : Int)) = true from decide_eq_true (by omega)), if_pos c]
      rfl
    · obtain ⟨r, rfl⟩ : ∃ m, r = m + 1 := ⟨r - 1, by omega⟩
      rw [if_neg (show ¬ decide ((j2 : Int) < (i2 : Int)) = true by simp; omega), if_neg c, if_pos (by omega), if_pos (by omega), if_pos (by rw [List.length_set]; omega), dif_pos (by omega)]
      unfold api_Account_n56_0z_4f35.j5
      have e1 : wr .i64 ((j2 : Int) - 1) = ((j2 - 1 : Nat) : Int) := wrn _ (by omega) (by omega)
      have e2 : wr .i64 ((i2 : Int) + 1) = ((i2 + 1 : Nat) : Int) := wrn _ (by omega) (by omega)
      have hw : ((xs.set (Int.toNat (i2 : Int)) (gt xs (j2 : Int))).set (Int.toNat (j2 : Int)) (gt xs (i2 : Int))) = (Sort.swp xs.toArray i2 j2).toList := by rw [swp_toArray, Int.toNat_natCast, Int.toNat_natCast]
      have hl2 := swp_len xs i2 j2
      rw [e1, e2, hw, peq_loop a K r (i2 + 1) (j2 - 1) q _ (by omega) (by omega) (by omega) (by omega) (by omega) (by omega) (by omega) (by omega), Array.toArray_toList]
theorem peq_eq (a b p K : Nat) (xs : List L30) (hap : a ≤ p) (hpb : p < b) (hb : b ≤ xs.length) (hl : xs.length < 2305843009213693952) (hk : xs.length + 5 < K) :
    api_Account_n56_0z_4f35.f K xs (a : Int) (b : Int) (p : Int) = some (((Sort.partitionEqual (ltC cf) xs.toArray a b p).1 : Int), (Sort.partitionEqual (ltC cf) xs.toArray a b p).2.toList) := by
  unfold api_Account_n56_0z_4f35.f Sort.partitionEqual
  rw [if_pos (by omega), if_pos (by omega), if_pos (by rw [List.length_set]; omega)]
  unfold api_Account_n56_0z_4f35.j1
  have e1 : wr .i64 ((b : Int) - 1) = ((b - 1 : Nat) : Int) := wrn _ (by omega) (by omega)
  have e2 : wr .i64 ((a : Int) + 1) = ((a + 1 : Nat) : Int) := wrn _ (by omega) (by omega)
  have hw : ((xs.set (Int.toNat (a : Int)) (gt xs (p : Int))).set (Int.toNat (p : Int)) (gt xs (a : Int))) = (Sort.swp xs.toArray a p).toList := by rw [swp_toArray, Int.toNat_natCast, Int.toNat_natCast]
  have hl2 := swp_len xs a p
  rw [e1, e2, hw, peq_loop hC a K b (a + 1) (b - 1) K _ (by omega) (by omega) (by omega) (by omega) (by omega) (by omega) (by omega) (by omega), Array.toArray_toList]
end
end GW
set_option linter.unusedVariables false
set_option linter.unusedSimpArgs false
set_option linter.unusedSectionVars false
set_option maxRecDepth 100000
namespace GW
open Go Go.RowKit
section
variable {cf : L30 → L30 → Int} (hC : ∀ x y, store_Store_All_1.f x y = some (cf x y))
include hC
theorem part_down (a i : Nat) (xs : List L30) (rec1 : List L30 → Int → Int → Option (Int × Bool × List L30)) (hi : 1 ≤ i) (ha : a < xs.length) (hl : xs.length < 2305843009213693952) : ∀ (j q : Nat), j < xs.length → j < q →
    api_Account_n57_0z_4f35.l2 (a : Int) xs rec1 (i : Int) q (j : Int) = api_Account_n57_0z_4f35.j9 (a : Int) xs rec1 (i : Int) ((Sort.scanDown (fun x => !ltC cf x (gt xs (a : Int))) xs.toArray i j : Nat) : Int)
  | 0, q, hj, hq => by
    obtain ⟨q, rfl⟩ : ∃ m, q = m + 1 := ⟨q - 1, by omega⟩
    show api_Account_n57_0z_4f35.b2 _ _ _ _ _ _ = _
    unfold api_Account_n57_0z_4f35.b2
    rw [if_neg (by simp; omega)]
    rfl
  | j + 1, q, hj, hq => by
    obtain ⟨q, rfl⟩ : ∃ m, q = m + 1 := ⟨q - 1, by omega⟩
    show api_Account_n57_0z_4f35.b2 _ _ _ _ _ _ = _
    unfold api_Account_n57_0z_4f35.b2 Sort.scanDown
    by_cases c : i ≤ j + 1
    · rw [if_pos (show decide ((i : Int) ≤ ((j + 1 : Nat) : Int)) = true from decide_eq_true (by omega)), if_pos (by omega), if_pos (by omega), hC, Option.bind_some, at_toArray]
      unfold api_Account_n57_0z_4f35.j11
      by_cases c2 : cf (gt xs ((j + 1 : Nat) : Int)) (gt xs (a : Int)) < 0
      · rw [decide_eq_true c2, show ltC cf (gt xs ((j + 1 : Nat) : Int)) (gt xs (a : Int)) = true from decide_eq_true c2, if_neg (by simp), if_neg (by simp)]
      · rw [decide_eq_false c2, show ltC cf (gt xs ((j + 1 : Nat) : Int)) (gt xs (a : Int)) = false from decide_eq_false c2, if_pos (by simp), if_pos (by simpa using c)]
        rw [show wr .i64 (((j + 1 : Nat) : Int) - 1) = (j : Int) from wrn _ (by omega) (by omega)]
        exact part_down a i xs rec1 hi ha hl j q (by omega) (by omega)
    · rw [if_neg (show ¬ decide ((i : Int) ≤ ((j + 1 : Nat) : Int)) = true by simp; omega), if_neg (by simp; omega)]
      unfold api_Account_n57_0z_4f35.j11
      rw [if_neg (by simp)]
theorem part_up (a j K : Nat) (xs : List L30) (rec1 : List L30 → Int → Int → Option (Int × Bool × List L30)) (ha : a < xs.length) (hj : j < xs.length) (hl : xs.length < 2305843009213693952) : ∀ (r i q : Nat), j + 1 ≤ i + r → r < q → i < 4000000000000000000 →
    api_Account_n57_0z_4f35.l3 K (a : Int) xs (j : Int) rec1 q (i : Int) = api_Account_n57_0z_4f35.j8 K (a : Int) xs (j : Int) rec1 ((Sort.scanUp (fun x => ltC cf x (gt xs (a : Int))) xs.toArray j i : Nat) : Int)
  | r, i, q, h, hq, h4 => by
    obtain ⟨q, rfl⟩ : ∃ m, q = m + 1 := ⟨q - 1, by omega⟩
    show api_Account_n57_0z_4f35.b3 _ _ _ _ _ _ _ = _
    unfold api_Account_n57_0z_4f35.b3
    rw [Sort.scanUp]
    by_cases c : i ≤ j
    · obtain ⟨r, rfl⟩ : ∃ m, r = m + 1 := ⟨r - 1, by omega⟩
      rw [if_pos (show decide ((i : Int) ≤ (j : Int)) = true from decide_eq_true (by omega)), if_pos (by omega), if_pos (by omega), hC, Option.bind_some, at_toArray]
      unfold api_Account_n57_0z_4f35.j12
      by_cases c2 : cf (gt xs (i : Int)) (gt xs (a : Int)) < 0
      · rw [if_pos (decide_eq_true c2), show ltC cf (gt xs (i : Int)) (gt xs (a : Int)) = true from decide_eq_true c2, if_pos (by simpa using c)]
        rw [show wr .i64 ((i : Int) + 1) = ((i + 1 : Nat) : Int) from wrn _ (by omega) (by omega)]
        exact part_up a j K xs rec1 ha hj hl r (i + 1) q (by omega) (by omega) (by omega)
      · rw [if_neg (by simpa using c2), show ltC cf (gt xs (i : Int)) (gt xs (a : Int)) = false from decide_eq_false c2, if_neg (by simp)]
    · rw [if_neg (show ¬ decide ((i : Int) ≤ (j : Int)) = true by simp; omega), if_neg (by simp; omega)]
      unfold api_Account_n57_0z_4f35.j12
      rw [if_neg (by simp)]
theorem part_loop (a K : Nat) : ∀ (r i j q : Nat) (xs : List L30), j + 1 ≤ i + r → r < q → 1 ≤ i → i ≤ xs.length → a < xs.length → j < xs.length → xs.length < 2305843009213693952 → xs.length + 1 < K →
    api_Account_n57_0z_4f35.l1 K (a : Int) q xs (j : Int) (i : Int) = some (((Sort.partLoop (ltC cf) a i j xs.toArray).1 : Int), false, (Sort.swp (Sort.partLoop (ltC cf) a i j xs.toArray).2 (Sort.partLoop (ltC cf) a i j xs.toArray).1 a).toList)
  | r, i, j, q, xs, h, hq, hi, hix, ha, hj, hl, hk => by
    obtain ⟨q, rfl⟩ : ∃ m, q = m + 1 := ⟨q - 1, by omega⟩
    show api_Account_n57_0z_4f35.b1 _ _ _ _ _ _ = _
    unfold api_Account_n57_0z_4f35.b1
    rw [Sort.partLoop, part_up hC a j K xs _ ha hj hl (j + 1) i K (by omega) (by omega) (by omega)]
    unfold api_Account_n57_0z_4f35.j8
    have hb1 := scanUp_bd (fun x => ltC cf x (gt xs (a : Int))) xs.toArray j (j + 1) i (by omega)
    simp only [at_toArray]
    generalize Sort.scanUp (fun x => ltC cf x (gt xs (a : Int))) xs.toArray j i = i2 at hb1 ⊢
    rw [part_down hC a i2 xs _ (by omega) ha hl j K hj (by omega)]
    have hb2 := scanDown_bd (fun x => !ltC cf x (gt xs (a : Int))) xs.toArray i2 j
    generalize Sort.scanDown (fun x => !ltC cf x (gt xs (a : Int))) xs.toArray i2 j = j2 at hb2 ⊢
    unfold api_Account_n57_0z_4f35.j9
    by_cases c : i2 > j2
    · rw [if_pos (show decide ((j2 : Int) < (i2 : Int)) = true from decide_eq_true (by omega)), if_pos c]
      unfold api_Account_n57_0z_4f35.j6 api_Account_n57_0z_4f35.j7
      rw [if_pos (by omega), if_pos (by omega), if_pos (by rw [List.length_set]; omega), Int.toNat_natCast, Int.toNat_natCast]
      simp only [swp_toArray]
    · obtain ⟨r, rfl⟩ : ∃ m, r = m + 1 := ⟨r - 1, by omega⟩
      rw [if_neg (show ¬ decide ((j2 : Int) < (i2 : Int)) = true by simp; omega), if_neg c, if_pos (by omega), if_pos (by omega), if_pos (by rw [List.length_set]; omega), dif_pos (by omega)]
      unfold api_Account_n57_0z_4f35.j10
      have e1 : wr .i64 ((j2 : Int) - 1) = ((j2 - 1 : Nat) : Int) := wrn _ (by omega) (by omega)
      have e2 : wr .i64 ((i2 : Int) + 1) = ((i2 + 1 : Nat) : Int) := wrn _ (by omega) (by omega)
      have hw : ((xs.set (Int.toNat (i2 : Int)) (gt xs (j2 : Int))).set (Int.toNat (j2 : Int)) (gt xs (i2 : Int))) = (Sort.swp xs.toArray i2 j2).toList := by rw [swp_toArray, Int.toNat_natCast, Int.toNat_natCast]
      have hl2 := swp_len xs i2 j2
      rw [e1, e2, hw, part_loop a K r (i2 + 1) (j2 - 1) q _ (by omega) (by omega) (by omega) (by omega) (by omega) (by omega) (by omega) (by omega), Array.toArray_toList]
theorem part_down4 (a p i K : Nat) (x1 xs : List L30) (hx : ((x1.set (Int.toNat (a : Int)) (gt x1 (p : Int))).set (Int.toNat (p : Int)) (gt x1 (a : Int))) = xs) (hi : 1 ≤ i) (ha : a < xs.length) (hl : xs.length < 2305843009213693952) : ∀ (j q : Nat), j < xs.length → j < q →
    api_Account_n57_0z_4f35.l4 K x1 (a : Int) (p : Int) (i : Int) q (j : Int) = api_Account_n57_0z_4f35.j3 K x1 (a : Int) (p : Int) (i : Int) ((Sort.scanDown (fun x => !ltC cf x (gt xs (a : Int))) xs.toArray i j : Nat) : Int)
  | 0, q, hj, hq => by
    obtain ⟨q, rfl⟩ : ∃ m, q = m + 1 := ⟨q - 1, by omega⟩
    show api_Account_n57_0z_4f35.b4 _ _ _ _ _ _ _ = _
    unfold api_Account_n57_0z_4f35.b4
    rw [if_neg (by simp; omega)]
    rfl
  | j + 1, q, hj, hq => by
    obtain ⟨q, rfl⟩ : ∃ m, q = m + 1 := ⟨q - 1, by omega⟩
    show api_Account_n57_0z_4f35.b4 _ _ _ _ _ _ _ = _
    unfold api_Account_n57_0z_4f35.b4 Sort.scanDown
    simp only [hx]
    by_cases c : i ≤ j + 1
    · rw [if_pos (show decide ((i : Int) ≤ ((j + 1 : Nat) : Int)) = true from decide_eq_true (by omega)), if_pos (by omega), if_pos (by omega), hC, Option.bind_some, at_toArray]
      unfold api_Account_n57_0z_4f35.j13
      by_cases c2 : cf (gt xs ((j + 1 : Nat) : Int)) (gt xs (a : Int)) < 0
      · rw [decide_eq_true c2, show ltC cf (gt xs ((j + 1 : Nat) : Int)) (gt xs (a : Int)) = true from decide_eq_true c2, if_neg (by simp), if_neg (by simp)]
      · rw [decide_eq_false c2, show ltC cf (gt xs ((j + 1 : Nat) : Int)) (gt xs (a : Int)) = false from decide_eq_false c2, if_pos (by simp), if_pos (by simpa using c)]
        rw [show wr .i64 (((j + 1 : Nat) : Int) - 1) = (j : Int) from wrn _ (by omega) (by omega)]
        exact part_down4 a p i K x1 xs hx hi ha hl j q (by omega) (by omega)
    · rw [if_neg (show ¬ decide ((i : Int) ≤ ((j + 1 : Nat) : Int)) = true by simp; omega), if_neg (by simp; omega)]
      unfold api_Account_n57_0z_4f35.j13
      rw [if_neg (by simp)]
theorem part_up5 (a b p K : Nat) (x1 xs : List L30) (hx : ((x1.set (Int.toNat (a : Int)) (gt x1 (p : Int))).set (Int.toNat (p : Int)) (gt x1 (a : Int))) = xs) (ha : a < xs.length) (hb : b ≤ xs.length) (h1 : 1 ≤ b) (hl : xs.length < 2305843009213693952) : ∀ (r i q : Nat), b ≤ i + r → r < q → i < 4000000000000000000 →
    api_Account_n57_0z_4f35.l5 K x1 (a : Int) (b : Int) (p : Int) q (i : Int) = api_Account_n57_0z_4f35.j2 K x1 (a : Int) (b : Int) (p : Int) ((Sort.scanUp (fun x => ltC cf x (gt xs (a : Int))) xs.toArray (b - 1) i : Nat) : Int)
  | r, i, q, h, hq, h4 => by
    obtain ⟨q, rfl⟩ : ∃ m, q = m + 1 := ⟨q - 1, by omega⟩
    show api_Account_n57_0z_4f35.b5 _ _ _ _ _ _ _ = _
    unfold api_Account_n57_0z_4f35.b5
    have e1 : wr .i64 ((b : Int) - 1) = ((b - 1 : Nat) : Int) := wrn _ (by omega) (by omega)
    rw [Sort.scanUp]
    simp only [hx, e1]
    by_cases c : i ≤ b - 1
    · obtain ⟨r, rfl⟩ : ∃ m, r = m + 1 := ⟨r - 1, by omega⟩
      rw [if_pos (show decide ((i : Int) ≤ ((b - 1 : Nat) : Int)) = true from decide_eq_true (by omega)), if_pos (by omega), if_pos (by omega), hC, Option.bind_some, at_toArray]
      unfold api_Account_n57_0z_4f35.j14
      by_cases c2 : cf (gt xs (i : Int)) (gt xs (a : Int)) < 0
      · rw [if_pos (decide_eq_true c2), show ltC cf (gt xs (i : Int)) (gt xs (a : Int)) = true from decide_eq_true c2, if_pos (by simpa using c)]
        rw [show wr .i64 ((i : Int) + 1) = ((i + 1 : Nat) : Int) from wrn _ (by omega) (by omega)]
        exact part_up5 a b p K x1 xs hx ha hb h1 hl r (i + 1) q (by omega) (by omega) (by omega)
      · rw [if_neg (by simpa using c2), show ltC cf (gt xs (i : Int)) (gt xs (a : Int)) = false from decide_eq_false c2, if_neg (by simp)]
    · rw [if_neg (show ¬ decide ((i : Int) ≤ ((b - 1 : Nat) : Int)) = true by simp; omega), if_neg (by simp; omega)]
      unfold api_Account_n57_0z_4f35.j14
      rw [if_neg (by simp)]
theorem part_eq (a b p K : Nat) (x1 : List L30) (hap : a ≤ p) (hpb : p < b) (hb : b ≤ x1.length) (hl : x1.length < 2305843009213693952) (hk : x1.length + 5 < K) :
    api_Account_n57_0z_4f35.f K x1 (a : Int) (b : Int) (p : Int) = some (((Sort.partition (ltC cf) x1.toArray a b p).1 : Int), (Sort.partition (ltC cf) x1.toArray a b p).2.1, (Sort.partition (ltC cf) x1.toArray a b p).2.2.toList) := by
  unfold api_Account_n57_0z_4f35.f Sort.partition
  rw [if_pos (by omega), if_pos (by omega), if_pos (by rw [List.length_set]; omega)]
  unfold api_Account_n57_0z_4f35.j1
  have e2 : wr .i64 ((a : Int) + 1) = ((a + 1 : Nat) : Int) := wrn _ (by omega) (by omega)
  have hw : ((x1.set (Int.toNat (a : Int)) (gt x1 (p : Int))).set (Int.toNat (p : Int)) (gt x1 (a : Int))) = (Sort.swp x1.toArray a p).toList := by rw [swp_toArray, Int.toNat_natCast, Int.toNat_natCast]
  have hl2 := swp_len x1 a p
  have hd : Sort.swp x1.toArray a p = (Sort.swp x1.toArray a p).toList.toArray := by rw [Array.toArray_toList]
  rw [hd]
  generalize hxs : (Sort.swp x1.toArray a p).toList = xs at hw hl2 ⊢
  have e1 : wr .i64 ((b : Int) - 1) = ((b - 1 : Nat) : Int) := wrn _ (by omega) (by omega)
  rw [e2, part_up5 hC a b p K x1 xs hw (by omega) (by omega) (by omega) (by omega) b (a + 1) K (by omega) (by omega) (by omega)]
  unfold api_Account_n57_0z_4f35.j2
  have hb1 := scanUp_bd (fun x => ltC cf x (gt xs (a : Int))) xs.toArray (b - 1) b (a + 1) (by omega)
  simp only [at_toArray, e1]
  generalize Sort.scanUp (fun x => ltC cf x (gt xs (a : Int))) xs.toArray (b - 1) (a + 1) = i2 at hb1 ⊢
  rw [part_down4 hC a p i2 K x1 xs hw (by omega) (by omega) (by omega) (b - 1) K (by omega) (by omega)]
  have hb2 := scanDown_bd (fun x => !ltC cf x (gt xs (a : Int))) xs.toArray i2 (b - 1)
  generalize Sort.scanDown (fun x => !ltC cf x (gt xs (a : Int))) xs.toArray i2 (b - 1) = j2 at hb2 ⊢
  unfold api_Account_n57_0z_4f35.j3
  simp only [hw]
  by_cases c : i2 > j2
  · rw [if_pos (show decide ((j2 : Int) < (i2 : Int)) = true from decide_eq_true (by omega)), if_pos c, if_pos (by omega), if_pos (by omega), if_pos (by rw [List.length_set]; omega)]
    unfold api_Account_n57_0z_4f35.j4
    simp only [hw]
    rw [Int.toNat_natCast, Int.toNat_natCast]
    simp only [swp_toArray]
  · rw [if_neg (show ¬ decide ((j2 : Int) < (i2 : Int)) = true by simp; omega), if_neg c, if_pos (by omega), if_pos (by omega), if_pos (by rw [List.length_set]; omega)]
    unfold api_Account_n57_0z_4f35.j5
    simp only [hw]
    have f1 : wr .i64 ((j2 : Int) - 1) = ((j2 - 1 : Nat) : Int) := wrn _ (by omega) (by omega)
    have f2 : wr .i64 ((i2 : Int) + 1) = ((i2 + 1 : Nat) : Int) := wrn _ (by omega) (by omega)
    have hw2 : ((xs.set (Int.toNat (i2 : Int)) (gt xs (j2 : Int))).set (Int.toNat (j2 : Int)) (gt xs (i2 : Int))) = (Sort.swp xs.toArray i2 j2).toList := by rw [swp_toArray, Int.toNat_natCast, Int.toNat_natCast]
    have hl3 := swp_len xs i2 j2
    rw [f1, f2, hw2, part_loop hC a K (b + 1) (i2 + 1) (j2 - 1) K _ (by omega) (by omega) (by omega) (by omega) (by omega) (by omega) (by omega) (by omega), Array.toArray_toList]
end
end GW
set_option linter.unusedVariables false
set_option linter.unusedSimpArgs false
set_option linter.unusedSectionVars false
set_option maxRecDepth 100000
namespace GW
open Go Go.RowKit
section
variable {α : Type} [Inhabited α]
end
end GW
set_option linter.unusedVariables false
set_option linter.unusedSimpArgs false
set_option linter.unusedSectionVars false
set_option maxRecDepth 100000
namespace GW
open Go Go.RowKit
theorem shl_u64 (u v : UInt64) (n : Nat) (h : v.toNat = n) (hn : n < 64) : shl .u64 (u.toNat : Int) n = ((u <<< v).toNat : Int) := by
  have h1 : shl .u64 (u.toNat : Int) n = ((u.toNat : Int) * 2 ^ n) % 18446744073709551616 := by
    have := wr_u64 ((u.toNat : Int) * 2 ^ n)
    exact this
  rw [h1, UInt64.toNat_shiftLeft, h, Nat.mod_eq_of_lt hn, Nat.shiftLeft_eq]
  simp
theorem shr_u64 (u v : UInt64) (n : Nat) (h : v.toNat = n) (hn : n < 64) : shr (u.toNat : Int) n = ((u >>> v).toNat : Int) := by
  unfold shr
  rw [Int.fdiv_eq_ediv_of_nonneg _ (Int.le_of_lt (Int.pow_pos (by omega))), UInt64.toNat_shiftRight, h, Nat.mod_eq_of_lt hn, Nat.shiftRight_eq_div_pow]
  simp
theorem xor_u64 (u v : UInt64) : bits .xor .u64 (u.toNat : Int) (v.toNat : Int) = ((u ^^^ v).toNat : Int) := by
  rw [bits_xor_u64_nat u.toNat v.toNat u.toNat_lt v.toNat_lt, UInt64.toNat_xor]
theorem xor_next (u : UInt64) : slices_xorshift_Next.f (u.toNat : Int) = some (((Sort.xorNext u).toNat : Int), ((Sort.xorNext u).toNat : Int)) := by
  unfold slices_xorshift_Next.f Sort.xorNext
  simp only [shl_u64 _ 13 13 rfl (by omega), shr_u64 _ 7 7 rfl (by omega), shl_u64 _ 17 17 rfl (by omega), xor_u64]
end GW
set_option linter.unusedVariables false
set_option linter.unusedSimpArgs false
set_option linter.unusedSectionVars false
set_option maxRecDepth 100000
namespace GW
open Go Go.RowKit
theorem bl_shift (s n : Nat) (h : 2 ^ s ≤ n) : Sort.bitsLen n = Sort.bitsLen (n / 2 ^ s) + s := by
  have hp : 0 < 2 ^ s := Nat.pow_pos (by omega)
  have h1 : n / 2 ^ s ≠ 0 := by
    have := Nat.div_le_div_right (c := 2 ^ s) h
    rw [Nat.div_self hp] at this
    omega
  have h0 : n ≠ 0 := by omega
  unfold Sort.bitsLen
  rw [if_neg h0, if_neg h1]
  obtain ⟨a1, a2⟩ := (Nat.log2_eq_iff (k := (n / 2 ^ s).log2) h1).1 rfl
  have : n.log2 = (n / 2 ^ s).log2 + s := by
    refine (Nat.log2_eq_iff h0).2 ⟨?_, ?_⟩
    · rw [Nat.pow_add]
      exact (Nat.le_div_iff_mul_le hp).1 a1
    · rw [show (n / 2 ^ s).log2 + s + 1 = (n / 2 ^ s).log2 + 1 + s by omega, Nat.pow_add]
      exact (Nat.div_lt_iff_lt_mul hp).1 a2
  omega
theorem len8 : ∀ i : Fin 256, bits_Len64.j3 0 (i.val : Int) = some ((Sort.bitsLen i.val : Nat) : Int) := by decide +kernel
theorem shr_nat (n s : Nat) : shr (n : Int) s = ((n / 2 ^ s : Nat) : Int) := by
  unfold shr
  rw [Int.fdiv_eq_ediv_of_nonneg _ (Int.le_of_lt (Int.pow_pos (by omega)))]
  simp
theorem bl_le8 (m : Nat) (hm : m < 256) : Sort.bitsLen m ≤ 8 := by
  have : ∀ i : Fin 256, Sort.bitsLen i.val ≤ 8 := by decide +kernel
  exact this ⟨m, hm⟩
theorem len_j3 (y : Nat) (hy : y ≤ 64) (m : Nat) (hm : m < 256) : bits_Len64.j3 (y : Int) (m : Int) = some ((y + Sort.bitsLen m : Nat) : Int) := by
  have h8 := len8 ⟨m, hm⟩
  have h9 := bl_le8 m hm
  unfold bits_Len64.j3 at h8 ⊢
  simp only at h8
  split at h8
  · rename_i c
    rw [if_pos c]
    have h10 := Option.some.inj h8
    have hb : wr .i64 (bt txt0 (wr .u8 (m : Int))) = ((Sort.bitsLen m : Nat) : Int) := by
      have e : wr .i64 (0 + wr .i64 (bt txt0 (wr .u8 (m : Int)))) = wr .i64 (bt txt0 (wr .u8 (m : Int))) := by
        rw [Int.zero_add, wr_i64, wr_i64]; omega
      rw [← e]; exact h10
    rw [hb, wrn (y + Sort.bitsLen m) (by omega) (by omega)]
  · cases h8
theorem len_j2 (y : Nat) (hy : y ≤ 48) (m : Nat) (hm : m < 65536) : bits_Len64.j2 (y : Int) (m : Int) = some ((y + Sort.bitsLen m : Nat) : Int) := by
  unfold bits_Len64.j2
  by_cases c : 256 ≤ m
  · rw [if_pos (show decide ((256 : Int) ≤ (m : Int)) = true from decide_eq_true (by omega)), wrn (y + 8) (by omega) (by omega), shr_nat, len_j3 (y + 8) (by omega) _ (by omega), bl_shift 8 m c]
    congr 2; omega
  · rw [if_neg (show ¬ decide ((256 : Int) ≤ (m : Int)) = true by simp; omega), len_j3 y (by omega) m (by omega)]
theorem len_j1 (y : Nat) (hy : y ≤ 32) (m : Nat) (hm : m < 4294967296) : bits_Len64.j1 (y : Int) (m : Int) = some ((y + Sort.bitsLen m : Nat) : Int) := by
  unfold bits_Len64.j1
  by_cases c : 65536 ≤ m
  · rw [if_pos (show decide ((65536 : Int) ≤ (m : Int)) = true from decide_eq_true (by omega)), wrn (y + 16) (by omega) (by omega), shr_nat, len_j2 (y + 16) (by omega) _ (by omega), bl_shift 16 m c]
    congr 2; omega
  · rw [if_neg (show ¬ decide ((65536 : Int) ≤ (m : Int)) = true by simp; omega), len_j2 y (by omega) m (by omega)]
theorem len_eq (n : Nat) (hn : n < 18446744073709551616) : bits_Len.f (n : Int) = some ((Sort.bitsLen n : Nat) : Int) := by
  have h : bits_Len64.f (n : Int) = some ((Sort.bitsLen n : Nat) : Int) := by
    unfold bits_Len64.f
    by_cases c : 4294967296 ≤ n
    · rw [if_pos (show decide ((4294967296 : Int) ≤ (n : Int)) = true from decide_eq_true (by omega)), shr_nat, show (32 : Int) = ((32 : Nat) : Int) from rfl, len_j1 32 (by omega) _ (by omega), bl_shift 32 n c]
      congr 2; omega
    · rw [if_neg (show ¬ decide ((4294967296 : Int) ≤ (n : Int)) = true by simp; omega), show (0 : Int) = ((0 : Nat) : Int) from rfl, len_j1 0 (by omega) n (by omega)]
      congr 2; omega
  unfold bits_Len.f
  rw [h]; rfl
end GW
set_option linter.unusedVariables false
set_option linter.unusedSimpArgs false
set_option linter.unusedSectionVars false
set_option maxRecDepth 100000
namespace GW
open Go Go.RowKit
theorem pow_bl (l : Nat) (h : l ≠ 0) : l < 2 ^ Sort.bitsLen l ∧ 2 ^ Sort.bitsLen l ≤ 2 * l := by
  unfold Sort.bitsLen
  rw [if_neg h]
  obtain ⟨a1, a2⟩ := (Nat.log2_eq_iff (k := l.log2) h).1 rfl
  refine ⟨a2, ?_⟩
  rw [Nat.pow_succ]; omega
theorem brk_step (a b M idx q : Nat) (r : UInt64) (xs : List L30) (hab : a + 8 ≤ b) (hb : b ≤ xs.length) (hl : xs.length < 2305843009213693952) (hM1 : 1 ≤ M) (hM2 : M ≤ 2 * (b - a)) (hi : idx ≤ a + (b - a) / 4 * 2 + 1) :
    api_Account_n52_0z_3f35.l1 (a : Int) (b : Int) (M : Int) (q + 1) xs (idx : Int) (r.toNat : Int) = api_Account_n52_0z_3f35.l1 (a : Int) (b : Int) (M : Int) q (Sort.breakStep a (b - a) M (r, xs.toArray) idx).2.toList ((idx + 1 : Nat) : Int) (((Sort.breakStep a (b - a) M (r, xs.toArray) idx).1.toNat : Nat) : Int) := by
  show api_Account_n52_0z_3f35.b1 _ _ _ _ _ _ _ = _
  unfold api_Account_n52_0z_3f35.b1 Sort.breakStep
  have e1 : wr .i64 ((b : Int) - (a : Int)) = ((b - a : Nat) : Int) := wrn _ (by omega) (by omega)
  have e2 : wr .i64 (Int.tdiv ((b - a : Nat) : Int) 4) = (((b - a) / 4 : Nat) : Int) := by rw [Int.tdiv_eq_ediv_of_nonneg (by omega)]; exact wrn _ (by omega) (by omega)
  have e3 : wr .i64 ((((b - a) / 4 : Nat) : Int) * 2) = (((b - a) / 4 * 2 : Nat) : Int) := wrn _ (by omega) (by omega)
  have e4 : wr .i64 ((a : Int) + (((b - a) / 4 * 2 : Nat) : Int)) = ((a + (b - a) / 4 * 2 : Nat) : Int) := wrn _ (by omega) (by omega)
  have e5 : wr .i64 (((a + (b - a) / 4 * 2 : Nat) : Int) + 1) = ((a + (b - a) / 4 * 2 + 1 : Nat) : Int) := wrn _ (by omega) (by omega)
  have e6 : wr .u64 ((M : Int) - 1) = ((M - 1 : Nat) : Int) := by rw [wr_u64_id (by omega) (by omega)]; omega
  simp only [e1, e2, e3, e4, e5, e6, xor_next, Option.bind_some]
  rw [if_pos (show decide ((idx : Int) ≤ ((a + (b - a) / 4 * 2 + 1 : Nat) : Int)) = true from decide_eq_true (by omega))]
  rw [bits_and_u64_nat _ (M - 1) (Sort.xorNext r).toNat_lt (by omega)]
  have hle : (Sort.xorNext r).toNat &&& (M - 1) ≤ M - 1 := Nat.and_le_right
  generalize (Sort.xorNext r).toNat &&& (M - 1) = o at hle ⊢
  rw [wrn o rfl (by omega)]
  have j2 : ∀ p : Nat, p < b - a → api_Account_n52_0z_3f35.j2 (a : Int) xs (idx : Int) (api_Account_n52_0z_3f35.l1 (a : Int) (b : Int) (M : Int) q) (((Sort.xorNext r).toNat : Int), ((Sort.xorNext r).toNat : Int)) (p : Int) = api_Account_n52_0z_3f35.l1 (a : Int) (b : Int) (M : Int) q (Sort.swp xs.toArray idx (a + p)).toList ((idx + 1 : Nat) : Int) ((Sort.xorNext r).toNat : Int) := fun p hp => by
    unfold api_Account_n52_0z_3f35.j2 api_Account_n52_0z_3f35.j1
    have f1 : wr .i64 ((a : Int) + (p : Int)) = ((a + p : Nat) : Int) := wrn _ (by omega) (by omega)
    have f2 : wr .i64 ((idx : Int) + 1) = ((idx + 1 : Nat) : Int) := wrn _ (by omega) (by omega)
    simp only [f1, f2]
    rw [if_pos (by omega), if_pos (by omega), if_pos (by rw [List.length_set]; omega), swp_toArray, Int.toNat_natCast, Int.toNat_natCast]
  by_cases c : o ≥ b - a
  · rw [if_pos (show decide (((b - a : Nat) : Int) ≤ (o : Int)) = true from decide_eq_true (by omega)), wrn (o - (b - a)) (by omega) (by omega), j2 _ (by omega)]
    simp only [if_pos c]
  · rw [if_neg (show ¬ decide (((b - a : Nat) : Int) ≤ (o : Int)) = true by simp; omega), j2 _ (by omega)]
    simp only [if_neg c]
theorem brk_end (a b M idx q : Nat) (r : Int) (xs : List L30) (hab : a + 8 ≤ b) (hb : b ≤ xs.length) (hl : xs.length < 2305843009213693952) (hi : a + (b - a) / 4 * 2 + 1 < idx) :
    api_Account_n52_0z_3f35.l1 (a : Int) (b : Int) (M : Int) (q + 1) xs (idx : Int) r = some xs := by
  show api_Account_n52_0z_3f35.b1 _ _ _ _ _ _ _ = _
  unfold api_Account_n52_0z_3f35.b1
  have e1 : wr .i64 ((b : Int) - (a : Int)) = ((b - a : Nat) : Int) := wrn _ (by omega) (by omega)
  have e2 : wr .i64 (Int.tdiv ((b - a : Nat) : Int) 4) = (((b - a) / 4 : Nat) : Int) := by rw [Int.tdiv_eq_ediv_of_nonneg (by omega)]; exact wrn _ (by omega) (by omega)
  have e3 : wr .i64 ((((b - a) / 4 : Nat) : Int) * 2) = (((b - a) / 4 * 2 : Nat) : Int) := wrn _ (by omega) (by omega)
  have e4 : wr .i64 ((a : Int) + (((b - a) / 4 * 2 : Nat) : Int)) = ((a + (b - a) / 4 * 2 : Nat) : Int) := wrn _ (by omega) (by omega)
  have e5 : wr .i64 (((a + (b - a) / 4 * 2 : Nat) : Int) + 1) = ((a + (b - a) / 4 * 2 + 1 : Nat) : Int) := wrn _ (by omega) (by omega)
  simp only [e1, e2, e3, e4, e5]
  rw [if_neg (by simp; omega)]
theorem breakStep_size {α : Type} [Inhabited α] (a l M : Nat) (st : UInt64 × Array α) (idx : Nat) : (Sort.breakStep a l M st idx).2.size = st.2.size := by
  unfold Sort.breakStep; simp [Sort.swp]
theorem next_pow (l : Nat) (h0 : l ≠ 0) (hl : l < 2305843009213693952) : slices_nextPowerOfTwo.f (l : Int) = some ((1 <<< Sort.bitsLen l : Nat) : Int) := by
  have hp := pow_bl l h0
  have ht : Sort.bitsLen l < 64 := by
    refine Decidable.byContradiction fun c => ?_
    have := Nat.pow_le_pow_right (n := 2) (by omega) (show 64 ≤ Sort.bitsLen l by omega)
    omega
  unfold slices_nextPowerOfTwo.f
  rw [wr_u64_id (by omega) (by omega), len_eq l (by omega), Option.bind_some, if_pos (by omega), Int.toNat_natCast, Nat.min_eq_left (by omega), Nat.shiftLeft_eq, Nat.one_mul]
  have h1 : shl .u64 1 (Sort.bitsLen l) = ((1 : Int) * 2 ^ Sort.bitsLen l) % 18446744073709551616 := wr_u64 _
  rw [h1]
  have h2 : ((2 ^ Sort.bitsLen l : Nat) : Int) = (2 : Int) ^ Sort.bitsLen l := by simp
  rw [Int.one_mul, ← h2, Int.emod_eq_of_lt (by omega) (by omega)]
theorem brk_eq (a b K : Nat) (xs : List L30) (hab : a ≤ b) (hb : b ≤ xs.length) (hl : xs.length < 2305843009213693952) (hk : 10 < K) :
    api_Account_n52_0z_3f35.f K xs (a : Int) (b : Int) = some (Sort.breakPatterns xs.toArray a b).toList := by
  unfold api_Account_n52_0z_3f35.f Sort.breakPatterns
  have e1 : wr .i64 ((b : Int) - (a : Int)) = ((b - a : Nat) : Int) := wrn _ (by omega) (by omega)
  have e2 : wr .i64 (Int.tdiv ((b - a : Nat) : Int) 4) = (((b - a) / 4 : Nat) : Int) := by rw [Int.tdiv_eq_ediv_of_nonneg (by omega)]; exact wrn _ (by omega) (by omega)
  have e3 : wr .i64 ((((b - a) / 4 : Nat) : Int) * 2) = (((b - a) / 4 * 2 : Nat) : Int) := wrn _ (by omega) (by omega)
  have e4 : wr .i64 ((a : Int) + (((b - a) / 4 * 2 : Nat) : Int)) = ((a + (b - a) / 4 * 2 : Nat) : Int) := wrn _ (by omega) (by omega)
  simp only [e1, e2, e3, e4]
  by_cases c : b - a ≥ 8
  · have e5 : wr .i64 (((a + (b - a) / 4 * 2 : Nat) : Int) - 1) = ((a + (b - a) / 4 * 2 - 1 : Nat) : Int) := wrn _ (by omega) (by omega)
    have e6 : wr .u64 ((b - a : Nat) : Int) = (((UInt64.ofNat (b - a)).toNat : Nat) : Int) := by
      rw [wr_u64_id (by omega) (by omega), UInt64.toNat_ofNat_of_lt' (by show b - a < 18446744073709551616; omega)]
    have hp := pow_bl (b - a) (by omega)
    rw [if_pos (show decide ((8 : Int) ≤ ((b - a : Nat) : Int)) = true from decide_eq_true (by omega)), next_pow (b - a) (by omega) (by omega), Option.bind_some, e5, e6]
    simp only [if_pos c]
    have hM : (1 <<< Sort.bitsLen (b - a) : Nat) = 2 ^ Sort.bitsLen (b - a) := by rw [Nat.shiftLeft_eq, Nat.one_mul]
    have hM1 : 1 ≤ (1 <<< Sort.bitsLen (b - a) : Nat) := by rw [hM]; omega
    have hM2 : (1 <<< Sort.bitsLen (b - a) : Nat) ≤ 2 * (b - a) := by rw [hM]; exact hp.2
    generalize (1 <<< Sort.bitsLen (b - a) : Nat) = M at hM1 hM2 ⊢
    obtain ⟨K, rfl⟩ : ∃ m, K = m + 1 + 1 + 1 + 1 := ⟨K - 4, by omega⟩
    rw [brk_step a b M _ _ _ xs (by omega) hb hl hM1 hM2 (by omega)]
    have h1 := breakStep_size a (b - a) M (UInt64.ofNat (b - a), xs.toArray) (a + (b - a) / 4 * 2 - 1)
    generalize Sort.breakStep a (b - a) M (UInt64.ofNat (b - a), xs.toArray) (a + (b - a) / 4 * 2 - 1) = s1 at h1 ⊢
    have h1' : s1.2.toList.length = xs.length := by simpa using h1
    rw [brk_step a b M _ _ _ _ (by omega) (by omega) (by omega) hM1 hM2 (by omega), Array.toArray_toList]
    have h2 := breakStep_size a (b - a) M s1 (a + (b - a) / 4 * 2 - 1 + 1)
    rw [show (s1.1, s1.2) = s1 from rfl]
    generalize Sort.breakStep a (b - a) M s1 (a + (b - a) / 4 * 2 - 1 + 1) = s2 at h2 ⊢
    have h2' : s2.2.toList.length = xs.length := by rw [Array.length_toList, h2]; simpa using h1
    rw [brk_step a b M _ _ _ _ (by omega) (by omega) (by omega) hM1 hM2 (by omega), Array.toArray_toList]
    have h3 := breakStep_size a (b - a) M s2 (a + (b - a) / 4 * 2 - 1 + 1 + 1)
    rw [show (s2.1, s2.2) = s2 from rfl]
    rw [show a + (b - a) / 4 * 2 - 1 + 2 = a + (b - a) / 4 * 2 - 1 + 1 + 1 from rfl]
    generalize Sort.breakStep a (b - a) M s2 (a + (b - a) / 4 * 2 - 1 + 1 + 1) = s3 at h3 ⊢
    have h3' : s3.2.toList.length = xs.length := by rw [Array.length_toList, h3]; simpa using h2'
    rw [brk_end a b M _ _ _ _ (by omega) (by omega) (by omega) (by omega)]
  · rw [if_neg (show ¬ decide ((8 : Int) ≤ ((b - a : Nat) : Int)) = true by simp; omega)]
    simp only [if_neg c]
end GW
set_option linter.unusedVariables false
set_option linter.unusedSimpArgs false
set_option linter.unusedSectionVars false
set_option maxRecDepth 100000
namespace GW
open Go Go.RowKit
section
variable {cf : L30 → L30 → Int} (hC : ∀ x y, store_Store_All_1.f x y = some (cf x y))
include hC
theorem ord_eq (xs : List L30) (a b s : Nat) (ha : a < xs.length) (hb : b < xs.length) (hs : s < 1000) :
    api_Account_n66_0z_4f35.f xs (a : Int) (b : Int) (s : Int) = some (((Sort.order2 (ltC cf) xs.toArray a b s).1 : Int), ((Sort.order2 (ltC cf) xs.toArray a b s).2.1 : Int), ((Sort.order2 (ltC cf) xs.toArray a b s).2.2 : Int)) := by
  unfold api_Account_n66_0z_4f35.f Sort.order2
  rw [if_pos (by omega), if_pos (by omega), hC, Option.bind_some, at_toArray, at_toArray]
  unfold api_Account_n66_0z_4f35.j1
  have e1 : wr .i64 ((s : Int) + 1) = ((s + 1 : Nat) : Int) := wrn _ (by omega) (by omega)
  rw [e1]
  by_cases c : cf (gt xs (b : Int)) (gt xs (a : Int)) < 0
  · rw [if_pos (decide_eq_true c), if_pos (show ltC cf (gt xs (b : Int)) (gt xs (a : Int)) = true from decide_eq_true c)]
  · rw [if_neg (by simpa using c), if_neg (by rw [show ltC cf (gt xs (b : Int)) (gt xs (a : Int)) = false from decide_eq_false c]; simp)]
omit hC in
theorem order2_lt (lt : L30 → L30 → Bool) (d : Array L30) (a b s n : Nat) (ha : a < n) (hb : b < n) : (Sort.order2 lt d a b s).1 < n ∧ (Sort.order2 lt d a b s).2.1 < n ∧ (Sort.order2 lt d a b s).2.2 ≤ s + 1 := by
  unfold Sort.order2
  split
  · exact ⟨hb, ha, Nat.le_refl _⟩
  · exact ⟨ha, hb, Nat.le_succ _⟩
theorem med_eq (xs : List L30) (a b c s : Nat) (ha : a < xs.length) (hb : b < xs.length) (hc : c < xs.length) (hs : s < 900) :
    api_Account_n65_0z_5f35.f xs (a : Int) (b : Int) (c : Int) (s : Int) = some (((Sort.median (ltC cf) xs.toArray a b c s).1 : Int), ((Sort.median (ltC cf) xs.toArray a b c s).2 : Int)) := by
  unfold api_Account_n65_0z_5f35.f Sort.median
  have h1 := order2_lt (ltC cf) xs.toArray a b s xs.length ha hb
  have h2 := order2_lt (ltC cf) xs.toArray (Sort.order2 (ltC cf) xs.toArray a b s).2.1 c (Sort.order2 (ltC cf) xs.toArray a b s).2.2 xs.length h1.2.1 hc
  rw [ord_eq hC xs a b s ha hb (by omega), Option.bind_some]
  simp only []
  rw [ord_eq hC xs _ c _ h1.2.1 hc (by omega), Option.bind_some]
  simp only []
  rw [ord_eq hC xs _ _ _ h1.1 h2.1 (by omega), Option.bind_some]
omit hC in
theorem median_lt (lt : L30 → L30 → Bool) (d : Array L30) (a b c s n : Nat) (ha : a < n) (hb : b < n) (hc : c < n) : (Sort.median lt d a b c s).1 < n ∧ (Sort.median lt d a b c s).2 ≤ s + 3 := by
  unfold Sort.median
  have h1 := order2_lt lt d a b s n ha hb
  have h2 := order2_lt lt d (Sort.order2 lt d a b s).2.1 c (Sort.order2 lt d a b s).2.2 n h1.2.1 hc
  have h3 := order2_lt lt d (Sort.order2 lt d a b s).1 (Sort.order2 lt d (Sort.order2 lt d a b s).2.1 c (Sort.order2 lt d a b s).2.2).1 (Sort.order2 lt d (Sort.order2 lt d a b s).2.1 c (Sort.order2 lt d a b s).2.2).2.2 n h1.1 h2.1
  exact ⟨h3.2.1, Nat.le_trans h3.2.2 (by omega)⟩
theorem madj_eq (xs : List L30) (a s : Nat) (h0 : 1 ≤ a) (ha : a + 1 < xs.length) (hl : xs.length < 2305843009213693952) (hs : s < 900) :
    api_Account_n64_0z_3f35.f xs (a : Int) (s : Int) = some (((Sort.medianAdjacent (ltC cf) xs.toArray a s).1 : Int), ((Sort.medianAdjacent (ltC cf) xs.toArray a s).2 : Int)) := by
  unfold api_Account_n64_0z_3f35.f Sort.medianAdjacent
  have e1 : wr .i64 ((a : Int) - 1) = ((a - 1 : Nat) : Int) := wrn _ (by omega) (by omega)
  have e2 : wr .i64 ((a : Int) + 1) = ((a + 1 : Nat) : Int) := wrn _ (by omega) (by omega)
  rw [e1, e2, med_eq hC xs (a - 1) a (a + 1) s (by omega) (by omega) (by omega) hs, Option.bind_some]
def hintN : Sort.Hint → Int
  | .unknown => 0
  | .increasing => 1
  | .decreasing => 2
theorem piv_eq (xs : List L30) (a b : Nat) (hab : a < b) (hb : b ≤ xs.length) (hl : xs.length < 2305843009213693952) :
    api_Account_n53_0z_3f35.f xs (a : Int) (b : Int) = some (((Sort.choosePivot (ltC cf) xs.toArray a b).1 : Int), hintN (Sort.choosePivot (ltC cf) xs.toArray a b).2) := by
  unfold api_Account_n53_0z_3f35.f Sort.choosePivot
  have e1 : wr .i64 ((b : Int) - (a : Int)) = ((b - a : Nat) : Int) := wrn _ (by omega) (by omega)
  have e2 : wr .i64 (Int.tdiv ((b - a : Nat) : Int) 4) = (((b - a) / 4 : Nat) : Int) := by rw [Int.tdiv_eq_ediv_of_nonneg (by omega)]; exact wrn _ (by omega) (by omega)
  have e3 : ∀ m : Nat, m ≤ 3 → wr .i64 ((((b - a) / 4 : Nat) : Int) * (m : Int)) = (((b - a) / 4 * m : Nat) : Int) := fun m hm => wrn _ (by simp) (by
    have : (b - a) / 4 * m ≤ (b - a) / 4 * 3 := Nat.mul_le_mul_left _ hm
    omega)
  have e4 : ∀ m : Nat, m ≤ 3 → wr .i64 ((a : Int) + (((b - a) / 4 * m : Nat) : Int)) = ((a + (b - a) / 4 * m : Nat) : Int) := fun m hm => wrn _ (by omega) (by
    have : (b - a) / 4 * m ≤ (b - a) / 4 * 3 := Nat.mul_le_mul_left _ hm
    omega)
  have m1 := e3 1 (by omega); have m2 := e3 2 (by omega); have m3 := e3 3 (by omega)
  have n1 := e4 1 (by omega); have n2 := e4 2 (by omega); have n3 := e4 3 (by omega)
  have fin : ∀ (p s : Nat), api_Account_n53_0z_3f35.j1 (p : Int) (s : Int) = some ((p : Int), hintN (if s = 0 then .increasing else if s = 12 then .decreasing else .unknown)) := fun p s => by
    unfold api_Account_n53_0z_3f35.j1
    by_cases c0 : s = 0
    · subst c0; simp [hintN]
    · by_cases c1 : s = 12
      · subst c1; simp [hintN]
      · rw [if_neg (by simp; omega), if_neg (by simp; omega), if_neg c0, if_neg c1]; rfl
  simp only [e1, e2]
  rw [show (1 : Int) = ((1 : Nat) : Int) from rfl, show (2 : Int) = ((2 : Nat) : Int) from rfl, show (3 : Int) = ((3 : Nat) : Int) from rfl, m1, m2, m3, n1, n2, n3]
  have j2 : ∀ (p q r t : Nat), p < xs.length → q < xs.length → r < xs.length → t < 900 → api_Account_n53_0z_3f35.j2 xs (r : Int) (q : Int) (p : Int) (t : Int) = some (((Sort.median (ltC cf) xs.toArray p q r t).1 : Int), hintN (if (Sort.median (ltC cf) xs.toArray p q r t).2 = 0 then .increasing else if (Sort.median (ltC cf) xs.toArray p q r t).2 = 12 then .decreasing else .unknown)) := fun p q r t hp hq hr ht => by
    unfold api_Account_n53_0z_3f35.j2
    rw [med_eq hC xs p q r t hp hq hr ht, Option.bind_some]
    exact fin _ _
  by_cases c8 : b - a ≥ 8
  · rw [if_pos (show decide ((8 : Int) ≤ ((b - a : Nat) : Int)) = true from decide_eq_true (by omega))]
    simp only [if_pos c8]
    by_cases c50 : b - a ≥ 50
    · rw [if_pos (show decide ((50 : Int) ≤ ((b - a : Nat) : Int)) = true from decide_eq_true (by omega))]
      simp only [if_pos c50]
      have b1 : 1 ≤ a + (b - a) / 4 * 1 ∧ a + (b - a) / 4 * 1 + 1 < xs.length := by omega
      have b2 : 1 ≤ a + (b - a) / 4 * 2 ∧ a + (b - a) / 4 * 2 + 1 < xs.length := by omega
      have b3 : 1 ≤ a + (b - a) / 4 * 3 ∧ a + (b - a) / 4 * 3 + 1 < xs.length := by omega
      have q1 : (Sort.medianAdjacent (ltC cf) xs.toArray (a + (b - a) / 4 * 1) 0).1 < xs.length ∧ (Sort.medianAdjacent (ltC cf) xs.toArray (a + (b - a) / 4 * 1) 0).2 ≤ 0 + 3 := median_lt (ltC cf) xs.toArray _ _ _ 0 xs.length (by omega) (by omega) (by omega)
      have g1 := madj_eq hC xs (a + (b - a) / 4 * 1) 0 b1.1 b1.2 hl (by omega)
      rw [show (((0 : Nat) : Int)) = (0 : Int) from rfl] at g1
      rw [g1, Option.bind_some]
      generalize Sort.medianAdjacent (ltC cf) xs.toArray (a + (b - a) / 4 * 1) 0 = r1 at q1 ⊢
      simp only []
      have q2 : (Sort.medianAdjacent (ltC cf) xs.toArray (a + (b - a) / 4 * 2) r1.2).1 < xs.length ∧ (Sort.medianAdjacent (ltC cf) xs.toArray (a + (b - a) / 4 * 2) r1.2).2 ≤ r1.2 + 3 := median_lt (ltC cf) xs.toArray _ _ _ _ xs.length (by omega) (by omega) (by omega)
      rw [madj_eq hC xs (a + (b - a) / 4 * 2) r1.2 b2.1 b2.2 hl (by omega), Option.bind_some]
      generalize Sort.medianAdjacent (ltC cf) xs.toArray (a + (b - a) / 4 * 2) r1.2 = r2 at q2 ⊢
      simp only []
      have q3 : (Sort.medianAdjacent (ltC cf) xs.toArray (a + (b - a) / 4 * 3) r2.2).1 < xs.length ∧ (Sort.medianAdjacent (ltC cf) xs.toArray (a + (b - a) / 4 * 3) r2.2).2 ≤ r2.2 + 3 := median_lt (ltC cf) xs.toArray _ _ _ _ xs.length (by omega) (by omega) (by omega)
      rw [madj_eq hC xs (a + (b - a) / 4 * 3) r2.2 b3.1 b3.2 hl (by omega), Option.bind_some]
      generalize Sort.medianAdjacent (ltC cf) xs.toArray (a + (b - a) / 4 * 3) r2.2 = r3 at q3 ⊢
      simp only []
      exact j2 r1.1 r2.1 r3.1 r3.2 q1.1 q2.1 q3.1 (by omega)
    · rw [if_neg (show ¬ decide ((50 : Int) ≤ ((b - a : Nat) : Int)) = true by simp; omega)]
      simp only [if_neg c50]
      exact j2 _ _ _ 0 (by omega) (by omega) (by omega) (by omega)
  · rw [if_neg (show ¬ decide ((8 : Int) ≤ ((b - a : Nat) : Int)) = true by simp; omega)]
    simp only [if_neg c8]
    exact fin _ 0
end
end GW
set_option linter.unusedVariables false
set_option linter.unusedSimpArgs false
set_option linter.unusedSectionVars false
set_option maxRecDepth 100000
namespace GW
open Go Go.RowKit
theorem rev_loop : ∀ (r i j q : Nat) (xs : List L30), j ≤ i + r → r < q → j < xs.length → xs.length < 2305843009213693952 →
    api_Account_n54_0z_3f35.l1 q xs (j : Int) (i : Int) = some (Sort.reverseLoop i j xs.toArray).toList
  | r, i, j, q, xs, h, hq, hj, hl => by
    obtain ⟨q, rfl⟩ : ∃ m, q = m + 1 := ⟨q - 1, by omega⟩
    show api_Account_n54_0z_3f35.b1 _ _ _ _ = _
    unfold api_Account_n54_0z_3f35.b1
    rw [Sort.reverseLoop]
    by_cases c : i < j
    · obtain ⟨r, rfl⟩ : ∃ m, r = m + 1 := ⟨r - 1, by omega⟩
      rw [if_pos (decide_eq_true (by omega)), if_pos c, if_pos (by omega), if_pos (by omega), if_pos (by rw [List.length_set]; omega)]
      unfold api_Account_n54_0z_3f35.j1
      have e1 : wr .i64 ((j : Int) - 1) = ((j - 1 : Nat) : Int) := wrn _ (by omega) (by omega)
      have e2 : wr .i64 ((i : Int) + 1) = ((i + 1 : Nat) : Int) := wrn _ (by omega) (by omega)
      have hw : ((xs.set (Int.toNat (i : Int)) (gt xs (j : Int))).set (Int.toNat (j : Int)) (gt xs (i : Int))) = (Sort.swp xs.toArray i j).toList := by rw [swp_toArray, Int.toNat_natCast, Int.toNat_natCast]
      have hl2 := swp_len xs i j
      rw [e1, e2, hw, rev_loop r (i + 1) (j - 1) q _ (by omega) (by omega) (by omega) (by omega), Array.toArray_toList]
    · rw [if_neg (by simp; omega), if_neg c]
theorem rev_eq (a b K : Nat) (xs : List L30) (hab : a < b) (hb : b ≤ xs.length) (hl : xs.length < 2305843009213693952) (hk : xs.length + 1 < K) :
    api_Account_n54_0z_3f35.f K xs (a : Int) (b : Int) = some (Sort.reverseRange xs.toArray a b).toList := by
  unfold api_Account_n54_0z_3f35.f Sort.reverseRange
  rw [show wr .i64 ((b : Int) - 1) = ((b - 1 : Nat) : Int) from wrn _ (by omega) (by omega)]
  exact rev_loop b a (b - 1) K xs (by omega) (by omega) (by omega) hl
end GW
set_option linter.unusedVariables false
set_option linter.unusedSimpArgs false
set_option linter.unusedSectionVars false
set_option maxRecDepth 100000
namespace GW
open Go Go.RowKit
section
variable {cf : L30 → L30 → Int} (hC : ∀ x y, store_Store_All_1.f x y = some (cf x y))
include hC
theorem pdq_front (K a b lim : Nat) (self0 : api_Account_n46_0z_4f35.Ty) (rec1 : List L30 → Bool → Bool → Int → Int → Int → Option (List L30)) (d : Array L30) (wb wp : Bool) (hab : ¬ b - a ≤ 12) (h0 : ¬ lim = 0) (hlim : lim < 1000000) (hb : b ≤ d.size) (hl : d.size < 2305843009213693952) (hK : d.size + 20 ≤ K) :
    api_Account_n46_0z_4f35.b1 K self0 rec1 d.toList wp wb (a : Int) (b : Int) (lim : Int) =
      (let d1 := if (!wb) = true then Sort.breakPatterns d a b else d
       let limit := if (!wb) = true then lim - 1 else lim
       let c := Sort.choosePivot (ltC cf) d1 a b
       let d2 := if c.2 = .decreasing then Sort.reverseRange d1 a b else d1
       let pivot := if c.2 = .decreasing then (b - 1) - (c.1 - a) else c.1
       let hint := if c.2 = .decreasing then Sort.Hint.increasing else c.2
       let pi := if (wb && wp && decide (hint = .increasing)) = true then Sort.partialInsertionSort (ltC cf) d2 a b else (d2, false)
       if pi.2 = true then some pi.1.toList else api_Account_n46_0z_4f35.j3 K self0 wp wb (a : Int) (b : Int) rec1 (limit : Int) (pivot : Int) pi.1.toList) := by
  have hdl : d.toList.length = d.size := Array.length_toList
  have e1 : wr .i64 ((b : Int) - (a : Int)) = ((b - a : Nat) : Int) := wrn _ (by omega) (by omega)
  have e2 : wr .i64 ((b : Int) - 1) = ((b - 1 : Nat) : Int) := wrn _ (by omega) (by omega)
  have hj5 : ∀ (limit pivot : Nat) (d2 : Array L30), d2.size = d.size → ∀ (hint : Sort.Hint), api_Account_n46_0z_4f35.j2 K self0 wp wb (a : Int) (b : Int) rec1 (limit : Int) d2.toList (hintN hint) (pivot : Int) =
      (let pi := if (wb && wp && decide (hint = .increasing)) = true then Sort.partialInsertionSort (ltC cf) d2 a b else (d2, false)
       if pi.2 = true then some pi.1.toList else api_Account_n46_0z_4f35.j3 K self0 wp wb (a : Int) (b : Int) rec1 (limit : Int) (pivot : Int) pi.1.toList) := fun limit pivot d2 h2 hint => by
    have h2l : d2.toList.length = d.size := by rw [Array.length_toList, h2]
    have hp := pins_eq hC a b K d2.toList (by omega) (by omega) (by omega) (by omega)
    rw [Array.toArray_toList] at hp
    unfold api_Account_n46_0z_4f35.j2 api_Account_n46_0z_4f35.j5
    cases wb <;> cases wp <;> cases hint <;> simp [hintN, hp]
  have hj1 : ∀ (limit : Nat) (d1 : Array L30), d1.size = d.size → api_Account_n46_0z_4f35.j1 K self0 wp wb (a : Int) (b : Int) rec1 d1.toList (limit : Int) =
      (let c := Sort.choosePivot (ltC cf) d1 a b
       let d2 := if c.2 = .decreasing then Sort.reverseRange d1 a b else d1
       let pivot := if c.2 = .decreasing then (b - 1) - (c.1 - a) else c.1
       let hint := if c.2 = .decreasing then Sort.Hint.increasing else c.2
       let pi := if (wb && wp && decide (hint = .increasing)) = true then Sort.partialInsertionSort (ltC cf) d2 a b else (d2, false)
       if pi.2 = true then some pi.1.toList else api_Account_n46_0z_4f35.j3 K self0 wp wb (a : Int) (b : Int) rec1 (limit : Int) (pivot : Int) pi.1.toList) := fun limit d1 h1 => by
    have h1l : d1.toList.length = d.size := by rw [Array.length_toList, h1]
    have hp := piv_eq hC d1.toList a b (by omega) (by omega) (by omega)
    have hr := rev_eq a b K d1.toList (by omega) (by omega) (by omega) (by omega)
    rw [Array.toArray_toList] at hp hr
    have hc := Sort.choosePivot_holds (ltC cf) d1 a b (by omega)
    unfold api_Account_n46_0z_4f35.j1
    rw [hp, Option.bind_some]
    generalize Sort.choosePivot (ltC cf) d1 a b = c at hc ⊢
    obtain ⟨c1, c2⟩ := c
    simp only at hc ⊢
    have e3 : wr .i64 ((c1 : Int) - (a : Int)) = ((c1 - a : Nat) : Int) := wrn _ (by omega) (by omega)
    have e4 : wr .i64 (((b - 1 : Nat) : Int) - ((c1 - a : Nat) : Int)) = ((b - 1 - (c1 - a) : Nat) : Int) := wrn _ (by omega) (by omega)
    have hsz := (Sort.reverseRange_holds d1 a b (by omega) (by omega)).1
    cases c2 with
    | decreasing =>
      rw [if_pos (show (hintN Sort.Hint.decreasing == 2) = true from rfl), hr, Option.bind_some, e2, e3, e4]
      simp only [if_true]
      exact hj5 limit (b - 1 - (c1 - a)) (Sort.reverseRange d1 a b) (by omega) .increasing
    | unknown =>
      rw [if_neg (show ¬ (hintN Sort.Hint.unknown == 2) = true from by decide)]
      have := hj5 limit c1 d1 h1 .unknown
      simpa using this
    | increasing =>
      rw [if_neg (show ¬ (hintN Sort.Hint.increasing == 2) = true from by decide)]
      have := hj5 limit c1 d1 h1 .increasing
      simpa using this
  unfold api_Account_n46_0z_4f35.b1
  rw [e1, if_neg (show ¬ decide (((b - a : Nat) : Int) ≤ 12) = true by simp; omega), if_neg (show ¬ ((lim : Int) == 0) = true by simp; omega)]
  cases wb with
  | true => simpa using hj1 lim d rfl
  | false =>
    have hbk := brk_eq a b K d.toList (by omega) (by omega) (by omega) (by omega)
    rw [Array.toArray_toList] at hbk
    have e5 : wr .i64 ((lim : Int) - 1) = ((lim - 1 : Nat) : Int) := wrn _ (by omega) (by omega)
    have hsz := (Sort.breakPatterns_holds d a b (by omega) (by omega)).1
    rw [if_pos (show (!false) = true from rfl), hbk, Option.bind_some, e5]
    have := hj1 (lim - 1) (Sort.breakPatterns d a b) hsz
    simpa using this
theorem pdq_j3 (K a b lim pivot : Nat) (self0 : api_Account_n46_0z_4f35.Ty) (rec1 : List L30 → Bool → Bool → Int → Int → Int → Option (List L30)) (d : Array L30) (wb wp : Bool) (hp : pivot < b) (ha : a ≤ b) (hb : b ≤ d.size) (hl : d.size < 2305843009213693952) :
    api_Account_n46_0z_4f35.j3 K self0 wp wb (a : Int) (b : Int) rec1 (lim : Int) (pivot : Int) d.toList = api_Account_n46_0z_4f35.j4 K self0 wp wb (a : Int) (b : Int) rec1 (lim : Int) (pivot : Int) d.toList (decide (a > 0) && !ltC cf d[a - 1]! d[pivot]!) := by
  have hdl : d.toList.length = d.size := Array.length_toList
  unfold api_Account_n46_0z_4f35.j3
  by_cases c : 0 < a
  · have e1 : wr .i64 ((a : Int) - 1) = ((a - 1 : Nat) : Int) := wrn _ (by omega) (by omega)
    rw [if_pos (show decide ((0 : Int) < (a : Int)) = true from decide_eq_true (by omega)), e1, if_pos (by omega), if_pos (by omega), hC, Option.bind_some]
    have h1 := at_toArray d.toList (a - 1)
    have h2 := at_toArray d.toList pivot
    rw [Array.toArray_toList] at h1 h2
    rw [h1, h2, decide_eq_true c, Bool.true_and]; rfl
  · rw [if_neg (show ¬ decide ((0 : Int) < (a : Int)) = true by simp; omega), decide_eq_false c, Bool.false_and]
omit hC in
theorem pdq_fin (F N : Nat) (e : Array L30) (a b lim : Nat) (X : Option (List L30)) (hF : N + 20 + (b - a) < F) (hh : ∀ K F q, N + 20 + (b - a) ≤ K → N + 20 + (b - a) ≤ F → b - a < q → api_Account_n46_0z_4f35.l1 K (api_Account_n46_0z_4f35.f F) q e.toList true true (a : Int) (b : Int) (lim : Int) = X) : api_Account_n46_0z_4f35.f F e.toList (a : Int) (b : Int) (lim : Int) = X := by
  obtain ⟨F, rfl⟩ : ∃ m, F = m + 1 := ⟨F - 1, by omega⟩
  exact hh F F F (by omega) (by omega) (by omega)
theorem pdq_loop (h : Sort.SWO (ltC cf)) (d : Array L30) (a b limit : Nat) (wb wp : Bool) : a ≤ b → b ≤ d.size → Sort.Below (ltC cf) a b d → d.size < 2305843009213693952 → limit < 1000000 → ∀ K F q, d.size + 20 + (b - a) ≤ K → d.size + 20 + (b - a) ≤ F → b - a < q →
    api_Account_n46_0z_4f35.l1 K (api_Account_n46_0z_4f35.f F) q d.toList wp wb (a : Int) (b : Int) (limit : Int) = some (Sort.pdq (ltC cf) d a b limit wb wp).toList := by
  fun_induction Sort.pdq (ltC cf) d a b limit wb wp
  case case1 d a b limit wb wp h12 =>
    intro hab hb _ hl hlim K F q hK hF hq
    obtain ⟨q, rfl⟩ : ∃ m, q = m + 1 := ⟨q - 1, by omega⟩
    have hdl : d.toList.length = d.size := Array.length_toList
    show api_Account_n46_0z_4f35.b1 _ _ _ _ _ _ _ _ _ = _
    unfold api_Account_n46_0z_4f35.b1
    have := ins_eq hC a b K d.toList hab (by omega) (by omega) (by omega)
    rw [Array.toArray_toList] at this
    rw [show wr .i64 ((b : Int) - (a : Int)) = ((b - a : Nat) : Int) from wrn _ (by omega) (by omega), if_pos (show decide (((b - a : Nat) : Int) ≤ 12) = true from decide_eq_true (by omega)), this]; rfl
  case case2 d a b wb wp h12 =>
    intro hab hb _ hl hlim K F q hK hF hq
    obtain ⟨q, rfl⟩ : ∃ m, q = m + 1 := ⟨q - 1, by omega⟩
    have hdl : d.toList.length = d.size := Array.length_toList
    show api_Account_n46_0z_4f35.b1 _ _ _ _ _ _ _ _ _ = _
    unfold api_Account_n46_0z_4f35.b1
    have := heap_eq hC a b K d.toList hab (by omega) (by omega) (by omega)
    rw [Array.toArray_toList] at this
    rw [show wr .i64 ((b : Int) - (a : Int)) = ((b - a : Nat) : Int) from wrn _ (by omega) (by omega), if_neg (show ¬ decide (((b - a : Nat) : Int) ≤ 12) = true by simp; omega), if_pos (show (((0 : Nat) : Int) == 0) = true from rfl), this]; rfl
  case case3 d a b limit wb wp h12 hl0 d1 c d2 hint pi hpi2 =>
    intro hab hb hB hl hlim K F q hK hF hq
    obtain ⟨q, rfl⟩ : ∃ m, q = m + 1 := ⟨q - 1, by omega⟩
    refine (pdq_front hC K a b limit (api_Account_n46_0z_4f35.f F) _ d wb wp h12 hl0 hlim hb hl (by omega)).trans ?_
    exact if_pos hpi2
  case case4 d a b limit0 wb wp h12 hl0 d1 limit c d2 pivot hint pi hpi2 d3 hc mid d4 hx hg ih1 =>
    intro hab hb hB hl hlim K F q hK hF hq
    obtain ⟨q, rfl⟩ : ∃ m, q = m + 1 := ⟨q - 1, by omega⟩
    refine (pdq_front hC K a b limit0 (api_Account_n46_0z_4f35.f F) _ d wb wp h12 hl0 hlim hb hl (by omega)).trans ?_
    refine (if_neg hpi2).trans ?_
    have s1 : Sort.PermIn a b d d1 := Sort.step_break d hab hb _
    have b1 : b ≤ d1.size := by rw [s1.1]; exact hb
    have s2 : Sort.PermIn a b d1 d2 := Sort.step_reverse Sort.reverseRange_holds d1 hab b1 _
    have b2 : b ≤ d2.size := by rw [s2.1]; exact b1
    have B2 : Sort.Below (ltC cf) a b d2 := (hB.perm hb s1).perm b1 s2
    have s3 := Sort.step_partial (Sort.partialInsertionSort_holds (lt := ltC cf)) h d2 (a := a) (b := b) (by omega) b2 B2 ((wb && wp && decide (hint = Sort.Hint.increasing)) = true)
    have s3' : Sort.PermIn a b d2 d3 := s3.1
    have b3 : b ≤ d3.size := by rw [s3'.1]; exact b2
    have e3 : d3.size = d.size := by rw [s3'.1, s2.1, s1.1]
    have B3 : Sort.Below (ltC cf) a b d3 := B2.perm b2 s3'
    have hc0 := Sort.choosePivot_holds (ltC cf) d1 a b (by omega)
    have hpv : a ≤ pivot ∧ pivot < b := Sort.pivot_range hc0.1 hc0.2 _
    refine (pdq_j3 hC K a b limit pivot (api_Account_n46_0z_4f35.f F) _ d3 wb wp hpv.2 hab b3 (by omega)).trans ?_
    have hpe := peq_eq hC a b pivot K d3.toList hpv.1 hpv.2 (by rw [Array.length_toList]; exact b3) (by rw [Array.length_toList]; omega) (by rw [Array.length_toList]; omega)
    rw [Array.toArray_toList, hx] at hpe
    unfold api_Account_n46_0z_4f35.j4
    rw [if_pos hc, hpe, Option.bind_some]
    simp only [Bool.and_eq_true, decide_eq_true_eq, Bool.not_eq_true'] at hc
    obtain ⟨_, hm2, hs4, hB4, hfin⟩ := Sort.round_eq h (Sort.partitionEqual_holds (lt := ltC cf)) hc.1 hpv.1 hpv.2 b3 B3 hc.2 hx
    have hlim2 : limit ≤ limit0 := by show (if _ then _ else _) ≤ _; (split; exact Nat.sub_le _ _; exact Nat.le_refl _)
    exact ih1 hm2 (by rw [hs4]; exact b3) hB4 (by omega) (by omega) K F q (by omega) (by omega) (by omega)
  case case5 d a b limit wb wp h12 hl0 d1 c d2 pivot hint pi hpi2 d3 hc mid d4 hx hg =>
    intro hab hb hB
    have s1 : Sort.PermIn a b d d1 := Sort.step_break d hab hb _
    have b1 : b ≤ d1.size := by rw [s1.1]; exact hb
    have s2 : Sort.PermIn a b d1 d2 := Sort.step_reverse Sort.reverseRange_holds d1 hab b1 _
    have b2 : b ≤ d2.size := by rw [s2.1]; exact b1
    have B2 : Sort.Below (ltC cf) a b d2 := (hB.perm hb s1).perm b1 s2
    have s3 := Sort.step_partial (Sort.partialInsertionSort_holds (lt := ltC cf)) h d2 (a := a) (b := b) (by omega) b2 B2 ((wb && wp && decide (hint = Sort.Hint.increasing)) = true)
    have s3' : Sort.PermIn a b d2 d3 := s3.1
    have b3 : b ≤ d3.size := by rw [s3'.1]; exact b2
    have B3 : Sort.Below (ltC cf) a b d3 := B2.perm b2 s3'
    have hc0 := Sort.choosePivot_holds (ltC cf) d1 a b (by omega)
    have hpv : a ≤ pivot ∧ pivot < b := Sort.pivot_range hc0.1 hc0.2 _
    simp only [Bool.and_eq_true, decide_eq_true_eq, Bool.not_eq_true'] at hc
    obtain ⟨g1, g2, _⟩ := Sort.round_eq h (Sort.partitionEqual_holds (lt := ltC cf)) hc.1 hpv.1 hpv.2 b3 B3 hc.2 hx
    exact absurd ⟨g1, g2⟩ hg
  case case6 d a b limit0 wb wp h12 hl0 d1 limit c d2 pivot hint pi hpi2 d3 hc mid ap d4 hx hg hlt ih3 ih2 ih1 =>
    intro hab hb hB hl hlim K F q hK hF hq
    obtain ⟨q, rfl⟩ : ∃ m, q = m + 1 := ⟨q - 1, by omega⟩
    refine (pdq_front hC K a b limit0 (api_Account_n46_0z_4f35.f F) _ d wb wp h12 hl0 hlim hb hl (by omega)).trans ?_
    refine (if_neg hpi2).trans ?_
    have s1 : Sort.PermIn a b d d1 := Sort.step_break d hab hb _
    have b1 : b ≤ d1.size := by rw [s1.1]; exact hb
    have s2 : Sort.PermIn a b d1 d2 := Sort.step_reverse Sort.reverseRange_holds d1 hab b1 _
    have b2 : b ≤ d2.size := by rw [s2.1]; exact b1
    have B2 : Sort.Below (ltC cf) a b d2 := (hB.perm hb s1).perm b1 s2
    have s3 := Sort.step_partial (Sort.partialInsertionSort_holds (lt := ltC cf)) h d2 (a := a) (b := b) (by omega) b2 B2 ((wb && wp && decide (hint = Sort.Hint.increasing)) = true)
    have s3' : Sort.PermIn a b d2 d3 := s3.1
    have b3 : b ≤ d3.size := by rw [s3'.1]; exact b2
    have e3 : d3.size = d.size := by rw [s3'.1, s2.1, s1.1]
    have B3 : Sort.Below (ltC cf) a b d3 := B2.perm b2 s3'
    have hc0 := Sort.choosePivot_holds (ltC cf) d1 a b (by omega)
    have hpv : a ≤ pivot ∧ pivot < b := Sort.pivot_range hc0.1 hc0.2 _
    refine (pdq_j3 hC K a b limit pivot (api_Account_n46_0z_4f35.f F) _ d3 wb wp hpv.2 hab b3 (by omega)).trans ?_
    have hpe := part_eq hC a b pivot K d3.toList hpv.1 hpv.2 (by rw [Array.length_toList]; exact b3) (by rw [Array.length_toList]; omega) (by rw [Array.length_toList]; omega)
    rw [Array.toArray_toList, hx] at hpe
    unfold api_Account_n46_0z_4f35.j4
    rw [if_neg hc, hpe, Option.bind_some]
    obtain ⟨g1, g2, hs4, hBa, hBr, hleft, _⟩ := Sort.round_part h (Sort.partition_holds (lt := ltC cf)) hpv.1 hpv.2 b3 B3 hx
    have hlim2 : limit ≤ limit0 := by show (if _ then _ else _) ≤ _; (split; exact Nat.sub_le _ _; exact Nat.le_refl _)
    have f1 : wr .i64 ((mid : Int) - (a : Int)) = ((mid - a : Nat) : Int) := wrn _ (by omega) (by omega)
    have f2 : wr .i64 ((b : Int) - (mid : Int)) = ((b - mid : Nat) : Int) := wrn _ (by omega) (by omega)
    have f3 : wr .i64 ((b : Int) - (a : Int)) = ((b - a : Nat) : Int) := wrn _ (by omega) (by omega)
    have f4 : wr .i64 (Int.tdiv ((b - a : Nat) : Int) 8) = (((b - a) / 8 : Nat) : Int) := by rw [Int.tdiv_eq_ediv_of_nonneg (by omega)]; exact wrn _ (by omega) (by omega)
    have f5 : wr .i64 ((mid : Int) + 1) = ((mid + 1 : Nat) : Int) := wrn _ (by omega) (by omega)
    simp only [f1, f2, f3, f4, f5]
    rw [if_pos (show decide (((mid - a : Nat) : Int) < ((b - mid : Nat) : Int)) = true from decide_eq_true (by omega))]
    have hb4 : b ≤ d4.size := by omega
    obtain ⟨l1, l2⟩ := Sort.pdq_holds (Sort.insertionSort_holds (lt := ltC cf)) (Sort.heapSort_holds (lt := ltC cf)) (Sort.partialInsertionSort_holds (lt := ltC cf)) (Sort.partition_holds (lt := ltC cf)) (Sort.partitionEqual_holds (lt := ltC cf)) Sort.reverseRange_holds h d4 a mid limit true true g1 (by omega) hBa
    obtain ⟨hBL, hfin⟩ := hleft _ l1 l2
    rw [pdq_fin F d4.size d4 a mid limit _ (by omega) (fun K F q k1 k2 k3 => ih3 g1 (by omega) hBa (by omega) (by omega) K F q (by omega) (by omega) k3), Option.bind_some]
    have := ih1 (by omega) (by rw [l1.1]; exact hb4) hBL (by rw [l1.1]; omega) (by omega) K F q (by rw [l1.1]; omega) (by rw [l1.1]; omega) (by omega)
    rw [← this]
    congr 1
    simp only [ge_iff_le, decide_eq_decide]; omega
  case case7 d a b limit0 wb wp h12 hl0 d1 limit c d2 pivot hint pi hpi2 d3 hc mid ap d4 hx hg hlt ih3 ih2 ih1 =>
    intro hab hb hB hl hlim K F q hK hF hq
    obtain ⟨q, rfl⟩ : ∃ m, q = m + 1 := ⟨q - 1, by omega⟩
    refine (pdq_front hC K a b limit0 (api_Account_n46_0z_4f35.f F) _ d wb wp h12 hl0 hlim hb hl (by omega)).trans ?_
    refine (if_neg hpi2).trans ?_
    have s1 : Sort.PermIn a b d d1 := Sort.step_break d hab hb _
    have b1 : b ≤ d1.size := by rw [s1.1]; exact hb
    have s2 : Sort.PermIn a b d1 d2 := Sort.step_reverse Sort.reverseRange_holds d1 hab b1 _
    have b2 : b ≤ d2.size := by rw [s2.1]; exact b1
    have B2 : Sort.Below (ltC cf) a b d2 := (hB.perm hb s1).perm b1 s2
    have s3 := Sort.step_partial (Sort.partialInsertionSort_holds (lt := ltC cf)) h d2 (a := a) (b := b) (by omega) b2 B2 ((wb && wp && decide (hint = Sort.Hint.increasing)) = true)
    have s3' : Sort.PermIn a b d2 d3 := s3.1
    have b3 : b ≤ d3.size := by rw [s3'.1]; exact b2
    have e3 : d3.size = d.size := by rw [s3'.1, s2.1, s1.1]
    have B3 : Sort.Below (ltC cf) a b d3 := B2.perm b2 s3'
    have hc0 := Sort.choosePivot_holds (ltC cf) d1 a b (by omega)
    have hpv : a ≤ pivot ∧ pivot < b := Sort.pivot_range hc0.1 hc0.2 _
    refine (pdq_j3 hC K a b limit pivot (api_Account_n46_0z_4f35.f F) _ d3 wb wp hpv.2 hab b3 (by omega)).trans ?_
    have hpe := part_eq hC a b pivot K d3.toList hpv.1 hpv.2 (by rw [Array.length_toList]; exact b3) (by rw [Array.length_toList]; omega) (by rw [Array.length_toList]; omega)
    rw [Array.toArray_toList, hx] at hpe
    unfold api_Account_n46_0z_4f35.j4
    rw [if_neg hc, hpe, Option.bind_some]
    obtain ⟨g1, g2, hs4, hBa, hBr, _, hright⟩ := Sort.round_part h (Sort.partition_holds (lt := ltC cf)) hpv.1 hpv.2 b3 B3 hx
    have hlim2 : limit ≤ limit0 := by show (if _ then _ else _) ≤ _; (split; exact Nat.sub_le _ _; exact Nat.le_refl _)
    have f1 : wr .i64 ((mid : Int) - (a : Int)) = ((mid - a : Nat) : Int) := wrn _ (by omega) (by omega)
    have f2 : wr .i64 ((b : Int) - (mid : Int)) = ((b - mid : Nat) : Int) := wrn _ (by omega) (by omega)
    have f3 : wr .i64 ((b : Int) - (a : Int)) = ((b - a : Nat) : Int) := wrn _ (by omega) (by omega)
    have f4 : wr .i64 (Int.tdiv ((b - a : Nat) : Int) 8) = (((b - a) / 8 : Nat) : Int) := by rw [Int.tdiv_eq_ediv_of_nonneg (by omega)]; exact wrn _ (by omega) (by omega)
    have f5 : wr .i64 ((mid : Int) + 1) = ((mid + 1 : Nat) : Int) := wrn _ (by omega) (by omega)
    simp only [f1, f2, f3, f4, f5]
    rw [if_neg (show ¬ decide (((mid - a : Nat) : Int) < ((b - mid : Nat) : Int)) = true by simp; omega)]
    have hb4 : b ≤ d4.size := by omega
    obtain ⟨l1, l2⟩ := Sort.pdq_holds (Sort.insertionSort_holds (lt := ltC cf)) (Sort.heapSort_holds (lt := ltC cf)) (Sort.partialInsertionSort_holds (lt := ltC cf)) (Sort.partition_holds (lt := ltC cf)) (Sort.partitionEqual_holds (lt := ltC cf)) Sort.reverseRange_holds h d4 (mid + 1) b limit true true (by omega) (by omega) hBr
    obtain ⟨hBL, hfin⟩ := hright _ l1 l2
    rw [pdq_fin F d4.size d4 (mid + 1) b limit _ (by omega) (fun K F q k1 k2 k3 => ih3 (by omega) (by omega) hBr (by omega) (by omega) K F q (by omega) (by omega) k3), Option.bind_some]
    have := ih1 g1 (by rw [l1.1]; omega) hBL (by rw [l1.1]; omega) (by omega) K F q (by rw [l1.1]; omega) (by rw [l1.1]; omega) (by omega)
    rw [← this]
    congr 1
    simp only [ge_iff_le, decide_eq_decide]; omega
  case case8 d a b limit wb wp h12 hl0 d1 c d2 pivot hint pi hpi2 d3 hc mid ap d4 hx hg =>
    intro hab hb hB
    have s1 : Sort.PermIn a b d d1 := Sort.step_break d hab hb _
    have b1 : b ≤ d1.size := by rw [s1.1]; exact hb
    have s2 : Sort.PermIn a b d1 d2 := Sort.step_reverse Sort.reverseRange_holds d1 hab b1 _
    have b2 : b ≤ d2.size := by rw [s2.1]; exact b1
    have B2 : Sort.Below (ltC cf) a b d2 := (hB.perm hb s1).perm b1 s2
    have s3 := Sort.step_partial (Sort.partialInsertionSort_holds (lt := ltC cf)) h d2 (a := a) (b := b) (by omega) b2 B2 ((wb && wp && decide (hint = Sort.Hint.increasing)) = true)
    have s3' : Sort.PermIn a b d2 d3 := s3.1
    have b3 : b ≤ d3.size := by rw [s3'.1]; exact b2
    have B3 : Sort.Below (ltC cf) a b d3 := B2.perm b2 s3'
    have hc0 := Sort.choosePivot_holds (ltC cf) d1 a b (by omega)
    have hpv : a ≤ pivot ∧ pivot < b := Sort.pivot_range hc0.1 hc0.2 _
    obtain ⟨g1, g2, _⟩ := Sort.round_part h (Sort.partition_holds (lt := ltC cf)) hpv.1 hpv.2 b3 B3 hx
    exact absurd ⟨g1, g2⟩ hg
theorem sort_eq (h : Sort.SWO (ltC cf)) (k : Nat) (xs : List L30) (hl : xs.length < 1000000000000) (hk : 2 * xs.length + 30 < k) : ∃ ys, api_Account_n34_0z_1f35.f k xs = some ys ∧ ys.Perm xs ∧ ys.Pairwise (fun x y => ¬ cf y x < 0) := by
  have hlen : Sort.bitsLen xs.length < 1000 := by
    have := pow_bl xs.length
    unfold Sort.bitsLen at this ⊢
    split
    · omega
    · rename_i h0
      rw [if_neg h0] at this
      refine Decidable.byContradiction fun c => ?_
      have h1 := Nat.pow_le_pow_right (n := 2) (by omega) (show 64 ≤ xs.length.log2 + 1 by omega)
      have h2 := (this h0).2
      omega
  obtain ⟨p1, p2⟩ := Sort.pdq_holds (Sort.insertionSort_holds (lt := ltC cf)) (Sort.heapSort_holds (lt := ltC cf)) (Sort.partialInsertionSort_holds (lt := ltC cf)) (Sort.partition_holds (lt := ltC cf)) (Sort.partitionEqual_holds (lt := ltC cf)) Sort.reverseRange_holds h xs.toArray 0 xs.length (Sort.bitsLen xs.length) true true (Nat.zero_le _) (by simp) (Or.inl rfl)
  refine ⟨(Sort.pdq (ltC cf) xs.toArray 0 xs.length (Sort.bitsLen xs.length) true true).toList, ?_, ?_, ?_⟩
  · unfold api_Account_n34_0z_1f35.f
    rw [wr_u64_id (by omega) (by omega), len_eq xs.length (by omega), Option.bind_some]
    obtain ⟨k, rfl⟩ : ∃ m, k = m + 1 := ⟨k - 1, by omega⟩
    have := pdq_loop hC h xs.toArray 0 xs.length (Sort.bitsLen xs.length) true true (Nat.zero_le _) (by simp) (Or.inl rfl) (by simp; omega) (by omega) k k k (by simp; omega) (by simp; omega) (by omega)
    show Option.bind (api_Account_n46_0z_4f35.l1 k (api_Account_n46_0z_4f35.f k) k xs true true 0 (xs.length : Int) _) _ = _
    rw [show (0 : Int) = ((0 : Nat) : Int) from rfl, show xs = xs.toArray.toList from rfl, show xs.toArray.toList.length = xs.length from rfl, this]; rfl
  · have h3 := p1.2.2
    have h4 : (Sort.pdq (ltC cf) xs.toArray 0 xs.length (Sort.bitsLen xs.length) true true).size = xs.length := by rw [p1.1]; simp
    have e1 : (xs.toArray.extract 0 xs.length).toList = xs := by simp
    have e2 : ∀ R : Array L30, R.size = xs.length → (R.extract 0 xs.length).toList = R.toList := fun R h => by rw [← h]; simp
    rw [e1, e2 _ h4] at h3
    exact h3
  · generalize Sort.pdq (ltC cf) xs.toArray 0 xs.length (Sort.bitsLen xs.length) true true = R at p1 p2
    have hR : R.size = xs.length := by rw [p1.1]; simp
    rw [List.pairwise_iff_getElem]
    intro i j hi hj hij
    have := p2 i j (Nat.zero_le _) hij (by simpa [hR] using hj)
    rw [getElem!_pos R i (by simpa using hi), getElem!_pos R j (by simpa using hj)] at this
    unfold ltC at this
    simpa using this
end
end GW
set_option linter.unusedVariables false
set_option linter.unusedSimpArgs false
set_option maxRecDepth 100000
namespace GW
open Go Go.RowKit
def emptyB (x : L30) : Bool := (x.2.1 == 0) && decide (x.2.2.1 = [0, 0, 0, 0]) && ((x.2.2.2.1.length : Int) == 0) && ((x.2.2.2.2.length : Int) == 0)
theorem emptyP (x : L30) : store_Empty.f x = some (emptyB x) := by
  unfold store_Empty.f emptyB
  cases (x.2.1 == 0) <;> cases decide (x.2.2.1 = [0, 0, 0, 0]) <;> cases ((x.2.2.2.1.length : Int) == 0) <;> rfl
def cfA (x y : L30) : Int := Lib.compareBytes (akey x.1) (akey y.1)
theorem cfA_C (x y : L30) : store_Store_All_1.f x y = some (cfA x y) := rfl
theorem cfA_lt (x y : L30) : ltC cfA x y = decide (akey x.1 < akey y.1) := by
  unfold ltC cfA
  exact decide_eq_decide.2 (cb_lt _ _)
theorem swoA : Sort.SWO (ltC cfA) where
  irrefl x := by rw [cfA_lt]; exact decide_eq_false (List.lt_irrefl (akey x.1))
  trans x y z h1 h2 := by rw [cfA_lt] at *; simp only [decide_eq_true_eq] at *; exact List.lt_trans h1 h2
  ntrans x y z h1 h2 := by
    rw [cfA_lt] at *
    simp only [decide_eq_false_iff_not, List.not_lt] at *
    exact List.le_trans h2 h1
theorem nodup_of_map {α β : Type} {f : α → β} {l : List α} (h : (l.map f).Nodup) : l.Nodup := List.Pairwise.of_map f (fun a b h e => h (by rw [e])) h
structure AllInv (C rest : List Int → Option L30) (out : List L30) (seen : List (List Int × Bool)) : Prop where
  sb : ∀ a b, aget seen a = some b → b = true
  o1 : ∀ x ∈ out, aget seen x.1 = some true ∧ C x.1 = some x ∧ emptyB x = false
  nd : (out.map (fun x => x.1)).Nodup
  o2 : ∀ a x, aget seen a = some true → C a = some x → emptyB x = false → x ∈ out
  un : ∀ a, aget seen a = none → C a = rest a
def restO (R : Kv) (up : List Int → Option L30) (a : List Int) : Option L30 := match aget R a with
  | some x => some x
  | none => up a
theorem AllInv.step {C up : List Int → Option L30} {R : Kv} {out : List L30} {seen : List (List Int × Bool)} (h : AllInv C (restO R up) out seen) {e : List Int × L30} (he : e ∈ R) (hn : (R.map Prod.fst).Nodup) (hk : e.2.1 = e.1) :
    ((aget seen e.1 = some true ∨ emptyB e.2 = true) → AllInv C (restO (adel R e.1) up) out (aput seen e.1 true)) ∧ (aget seen e.1 = none → emptyB e.2 = false → AllInv C (restO (adel R e.1) up) (out ++ [e.2]) (aput seen e.1 true)) := by
  have hg : aget R e.1 = some e.2 := (aget_mem_iff hn e.1 e.2).2 he
  have sb' : ∀ a b, aget (aput seen e.1 true) a = some b → b = true := fun a b hb => by
    rw [aget_aput] at hb
    split at hb
    · exact (Option.some.inj hb).symm
    · exact h.sb a b hb
  have un' : ∀ a, aget (aput seen e.1 true) a = none → C a = restO (adel R e.1) up a := fun a ha => by
    rw [aget_aput] at ha
    split at ha
    · cases ha
    · rename_i c
      rw [h.un a ha]
      unfold restO
      rw [aget_adel, if_neg c]
  have seen' : ∀ a, aget seen a = some true → aget (aput seen e.1 true) a = some true := fun a ha => by
    rw [aget_aput]; split
    · rfl
    · exact ha
  have hC : aget seen e.1 = none → C e.1 = some e.2 := fun hs => by rw [h.un _ hs]; unfold restO; rw [hg]
  refine ⟨fun hh => ⟨sb', fun x hx => ⟨seen' _ (h.o1 x hx).1, (h.o1 x hx).2⟩, h.nd, fun a x ha hc hx => ?_, un'⟩, fun hs he0 => ⟨sb', fun x hx => ?_, ?_, fun a x ha hc hx => ?_, un'⟩⟩
  · rw [aget_aput] at ha
    split at ha
    · rename_i c
      subst c
      cases hs : aget seen e.1 with
      | some b =>
        obtain rfl := h.sb _ _ hs
        exact h.o2 _ x hs hc hx
      | none =>
        rcases hh with hh | hh
        · rw [hs] at hh; cases hh
        · rw [hC hs] at hc
          obtain rfl := Option.some.inj hc
          rw [hh] at hx; cases hx
    · exact h.o2 a x ha hc hx
  · rcases List.mem_append.1 hx with hx | hx
    · exact ⟨seen' _ (h.o1 x hx).1, (h.o1 x hx).2⟩
    · obtain rfl := List.mem_singleton.1 hx
      rw [hk]
      exact ⟨by rw [aget_aput, if_pos rfl], hC hs, he0⟩
  · rw [List.map_append]
    refine List.nodup_append.2 ⟨h.nd, by simp, fun a ha b hb hab => ?_⟩
    obtain ⟨x, hx, rfl⟩ := List.mem_map.1 ha
    have hb2 : b = e.2.1 := by simpa using hb
    have := (h.o1 x hx).1
    rw [show x.1 = e.1 from hab.trans (hb2.trans hk), hs] at this
    cases this
  · rw [aget_aput] at ha
    split at ha
    · rename_i c
      subst c
      rw [hC hs] at hc
      obtain rfl := Option.some.inj hc
      simp
    · exact List.mem_append_left _ (h.o2 a x ha hc hx)
theorem AllInv.le {C rest : List Int → Option L30} {out : List L30} {seen : List (List Int × Bool)} (h : AllInv C rest out seen) {L : List L30} (hL : ∀ a x, C a = some x → x ∈ L) : out.length ≤ L.length := by
  have hn : out.Nodup := by
    exact nodup_of_map h.nd
  exact List.Nodup.length_le_of_subset hn (fun x hx => hL _ x (h.o1 x hx).2.1)
theorem all_inner (s : L72) (v : Int) (hv : 0 ≤ v ∧ v < (s.length : Int)) (rec1 : List L30 → List (List Int × Bool) → Int → Option (List L30)) (C up : List Int → Option L30) (L res : List L30) (hL : ∀ a x, C a = some x → x ∈ L) (hLl : L.length ≤ 100000)
    (hrec : ∀ out seen, AllInv C up out seen → rec1 out seen (gt s v).1 = some res) : ∀ (n q : Nat) (R : Kv) (out : List L30) (seen : List (List Int × Bool)), R.length ≤ n → n < q → (R.map Prod.fst).Nodup → (∀ e ∈ R, e.2.1 = e.1 ∧ SmallA e.2) → AllInv C (restO R up) out seen → store_Store_All.l2 s v rec1 q R out seen = some res
  | n, q, [], out, seen, hn, hq, hnd, hkv, h => by
    obtain ⟨q, rfl⟩ : ∃ m, q = m + 1 := ⟨q - 1, by omega⟩
    show store_Store_All.b2 _ _ _ _ _ _ _ = _
    unfold store_Store_All.b2
    rw [rngL_nil]
    unfold store_Store_All.j2
    rw [if_pos hv]
    exact hrec out seen ⟨h.sb, h.o1, h.nd, h.o2, h.un⟩
  | n, q, e0 :: R0, out, seen, hn, hq, hnd, hkv, h => by
    obtain ⟨q, rfl⟩ : ∃ m, q = m + 1 := ⟨q - 1, by omega⟩
    show store_Store_All.b2 _ _ _ _ _ _ _ = _
    unfold store_Store_All.b2
    refine rngL_cons (by simp) (fun e he => ?_)
    obtain ⟨h1, h2⟩ := hkv e he
    obtain ⟨s1, s2⟩ := h.step he hnd h1
    have hlt := adel_length_lt he
    obtain ⟨n, rfl⟩ : ∃ m, n = m + 1 := ⟨n - 1, by simp only [List.length_cons] at hn; omega⟩
    have go : ∀ out', AllInv C (restO (adel (e0 :: R0) e.1) up) out' (aput seen e.1 true) → store_Store_All.l2 s v rec1 q (adel (e0 :: R0) e.1) out' (aput seen e.1 true) = some res := fun out' h' =>
      all_inner s v hv rec1 C up L res hL hLl hrec n q _ _ _ (by omega) (by omega) (adel_nodup' hnd _) (fun e' he' => hkv e' (adel_sub _ _ e' he')) h'
    cases hs : aget seen e.1 with
    | some b =>
      obtain rfl := h.sb _ _ hs
      rw [lk_some rfl, if_neg (by simp)]
      unfold store_Store_All.j4 store_Store_All.j3
      rw [if_neg (by simp)]
      exact go out (s1 (.inl hs))
    | none =>
      rw [lk_none rfl, if_pos (by simp), emptyP, Option.bind_some]
      unfold store_Store_All.j4 store_Store_All.j3
      cases he2 : emptyB e.2 with
      | true =>
        rw [if_neg (by simp)]
        exact go out (s1 (.inr he2))
      | false =>
        have hle := h.le hL
        rw [if_pos (by simp), storeOwn_eq h2, Option.bind_some, if_pos (by simp only [List.length_singleton]; omega)]
        exact go _ (s2 hs he2)
theorem all_end (k : Nat) (C : List Int → Option L30) (L out : List L30) (seen : List (List Int × Bool)) (hs : L.Pairwise LtA) (hC : ∀ a, C a = findA L a) (hA : ∀ x ∈ L, Ad x.1) (h : AllInv C (fun _ => none) out seen) (hl : L.length ≤ 100000) (hk : 2 * L.length + 30 < k) : store_Store_All.j1 k out = some (L.filter fun x => !emptyB x) := by
  have hL : ∀ a x, C a = some x → x ∈ L := fun a x hx => (findA_mem ((hC a).symm.trans hx)).1
  have hle := h.le hL
  obtain ⟨ys, y1, y2, y3⟩ := sort_eq cfA_C swoA k out (by omega) (by omega)
  unfold store_Store_All.j1
  rw [y1, Option.bind_some]
  congr 1
  have hmem : ∀ x, x ∈ out ↔ x ∈ L.filter fun x => !emptyB x := fun x => by
    rw [List.mem_filter]
    constructor
    · intro hx
      obtain ⟨a1, a2, a3⟩ := h.o1 x hx
      exact ⟨hL _ x a2, by rw [a3]; rfl⟩
    · rintro ⟨hx, he⟩
      have hc : C x.1 = some x := (hC _).trans (findA_sorted hs hx)
      have he' : emptyB x = false := by simpa using he
      cases hsn : aget seen x.1 with
      | some b =>
        obtain rfl := h.sb _ _ hsn
        exact h.o2 _ x hsn hc he'
      | none => have := h.un _ hsn; rw [hc] at this; cases this
  have hn : out.Nodup := nodup_of_map h.nd
  have hfl : (L.filter fun x => !emptyB x).Pairwise LtA := List.Pairwise.sublist List.filter_sublist hs
  have hfn : (L.filter fun x => !emptyB x).Nodup := hfl.imp (fun {x y} hxy (e : x = y) => lt_ne hxy (by rw [e]))
  have hperm : out.Perm (L.filter fun x => !emptyB x) := (List.perm_ext_iff_of_nodup hn hfn).2 hmem
  refine List.Perm.eq_of_pairwise (le := fun x y => ¬ cfA y x < 0) (fun x y hx hy h1 h2 => ?_) y3 (hfl.imp fun {x y} hxy hn => ?_) (y2.trans hperm)
  · have hx' : x ∈ L := (List.mem_filter.1 ((hmem x).1 (y2.mem_iff.1 hx))).1
    have hy' : y ∈ L := (List.mem_filter.1 hy).1
    have e : akey x.1 = akey y.1 := by
      unfold cfA at h1 h2
      rw [cb_lt] at h1 h2
      exact List.le_antisymm (List.not_lt.1 h1) (List.not_lt.1 h2)
    have e2 := akey_inj (hA x hx') (hA y hy') e
    have f1 := findA_sorted hs hx'
    have f2 := findA_sorted hs hy'
    rw [e2, f2] at f1
    exact (Option.some.inj f1).symm
  · unfold cfA at hn
    rw [cb_lt] at hn
    exact List.lt_irrefl _ (List.lt_trans hn hxy)
theorem all_outer {k sz : Nat} {s : L72} {V : Vs} (R : VRel k sz s V) (hsz : sz ≤ 100000) (C : List Int → Option L30) (L : List L30) (hs : L.Pairwise LtA) (hC : ∀ a, C a = findA L a) (hA : ∀ x ∈ L, Ad x.1) (hl : L.length ≤ 100000) (hk : 2 * L.length + 30 < k) (hk2 : sz < k) : ∀ (v q : Nat) (out : List L30) (seen : List (List Int × Bool)), v < V.length → v + 1 < q → AllInv C (fun a => findA (gt V (v : Int)).2 a) out seen → store_Store_All.l1 k s q out seen (v : Int) = some (L.filter fun x => !emptyB x) := by
  intro v
  induction v using Nat.strongRecOn with
  | ind v ih =>
    intro q out seen hv hq h
    obtain ⟨q, rfl⟩ : ∃ m, q = m + 1 := ⟨q - 1, by omega⟩
    have hlen := R.len
    show store_Store_All.b1 _ _ _ _ _ _ = _
    unfold store_Store_All.b1
    rw [if_pos (by simp), if_pos (by omega)]
    have hL : ∀ a x, C a = some x → x ∈ L := fun a x hx => (findA_mem ((hC a).symm.trans hx)).1
    by_cases h0 : v = 0
    · subst h0
      refine all_inner s _ (by omega) _ C (fun _ => none) L _ hL hl (fun out seen h' => ?_) _ k _ out seen (Nat.le_refl _) (by rw [R.s0]; show 0 < k; omega) (R.nd 0 hv) (fun e he => ⟨(R.kv 0 hv e he).1, (R.kv 0 hv e he).2.sm⟩) ?_
      · rw [R.s0]
        obtain ⟨q, rfl⟩ : ∃ m, q = m + 1 := ⟨q - 1, by omega⟩
        show store_Store_All.b1 _ _ _ _ _ _ = _
        unfold store_Store_All.b1
        rw [if_neg (by simp)]
        exact all_end k C L out seen hs hC hA h' hl hk
      · rw [R.s0]
        refine ⟨h.sb, h.o1, h.nd, h.o2, fun a ha => ?_⟩
        rw [h.un a ha, R.v0]; rfl
    · obtain ⟨p, p1, p2⟩ := R.parlt v (by omega) hv
      have hss := R.ssz v hv
      refine all_inner s _ (by omega) _ C (fun a => findA (gt V (p : Int)).2 a) L _ hL hl (fun out seen h' => ?_) _ k _ out seen (Nat.le_refl _) (by omega) (R.nd v hv) (fun e he => ⟨(R.kv v hv e he).1, (R.kv v hv e he).2.sm⟩) ?_
      · rw [R.par v hv, p1]
        exact ih p p2 q out seen (by omega) (by omega) h'
      · refine ⟨h.sb, h.o1, h.nd, h.o2, fun a ha => ?_⟩
        rw [h.un a ha, R.find v (by omega) hv a, p1]; rfl
theorem all_eq {k sz : Nat} {s : L72} {V : Vs} (R : VRel k sz s V) (hsz : sz ≤ 100000) (hk : 2 * sz + 30 < k) (hV : V.length + 1 < k) (v : Int) : store_Store_All.f k s v = some (if 0 ≤ v ∧ v < (V.length : Int) then (gt V v).2.filter fun x => !emptyB x else []) := by
  have hlen := R.len
  unfold store_Store_All.f
  rw [has_eq, Option.bind_some]
  by_cases c : 0 ≤ v ∧ v < (V.length : Int)
  · rw [if_neg (by simp; omega), if_pos c]
    obtain ⟨n, rfl⟩ := Int.eq_ofNat_of_zero_le c.1
    have hn : n < V.length := by omega
    have h1 := R.vsz n hn
    exact all_outer R hsz (fun a => findA (gt V (n : Int)).2 a) _ (R.sorted n hn) (fun a => rfl) (fun x hx => acc_ad (R.acc n hn x hx)) (by omega) (by omega) (by omega) n k [] [] hn (by omega) ⟨fun a b h => (by cases h), fun x hx => (by cases hx), List.nodup_nil, fun a x h => (by cases h), fun a h => rfl⟩
  · rw [if_pos (by simp; omega), if_neg c]
end GW
set_option linter.unusedVariables false
set_option linter.unusedSimpArgs false
set_option maxRecDepth 100000
namespace GW
open Go Go.RowKit
theorem VRel.mono {k sz sz' : Nat} {s : L72} {V : Vs} (R : VRel k sz s V) (h : sz ≤ sz') : VRel k sz' s V :=
  ⟨R.len, R.pos, R.s0, R.v0, R.par, R.parlt, R.kv, R.nd, R.find, R.sorted, R.acc, fun j hj => Nat.le_trans (R.vsz j hj) h, fun j hj => Nat.le_trans (R.ssz j hj) h⟩
theorem sameAll_loop (l : List L30) (k : Nat) (hk : 200 < k) (hs : ∀ x ∈ l, SmallA x) (hl : l.length < 4000000) : ∀ (d : List L30) (q i : Nat), l.drop i = d → i ≤ l.length → d.length < q → smithyref13_SameAll.l1 k l l q (i : Int) = some true
  | [], q, i, hd, hi, hq => by
    obtain ⟨q, rfl⟩ : ∃ m, q = m + 1 := ⟨q - 1, by omega⟩
    have : l.length ≤ i := by simpa using hd
    show smithyref13_SameAll.b1 _ _ _ _ _ = _
    unfold smithyref13_SameAll.b1
    rw [if_neg (by simp; omega)]; rfl
  | x :: d, q, i, hd, hi, hq => by
    simp only [List.length_cons] at hq
    obtain ⟨q, rfl⟩ : ∃ m, q = m + 1 := ⟨q - 1, by omega⟩
    obtain ⟨h1, h2, h3⟩ := gt_dropA hd
    have hx : x ∈ l := List.drop_subset i l (by rw [hd]; exact List.mem_cons_self)
    have := hs x hx
    show smithyref13_SameAll.b1 _ _ _ _ _ = _
    unfold smithyref13_SameAll.b1
    rw [if_pos (by simp; omega), if_pos (by omega), if_pos (by omega), h1, same_self x k (by have := this.2; omega) (by have := this.2; omega), Option.bind_some, if_neg (by simp), next1 i (by omega)]
    exact sameAll_loop l k hk hs hl d q (i + 1) h3 (by omega) (by omega)
theorem sameAll_self (l : List L30) (k : Nat) (hk : 200 < k) (hs : ∀ x ∈ l, SmallA x) (hl : l.length < 4000000) (hlk : l.length < k) : smithyref13_SameAll.f k l l = some true := by
  unfold smithyref13_SameAll.f
  rw [if_neg (by simp)]
  exact sameAll_loop l k hk hs hl l k 0 rfl (by omega) hlk
end GW
set_option linter.unusedVariables false
set_option linter.unusedSimpArgs false
set_option maxRecDepth 100000
namespace GW
open Go Go.RowKit
theorem fixed13 (k : Nat) : smithylaw13_fixed.f (k + 200) = some true := by kernel_rfl
theorem cut_loop (k : Nat) (hk : 60 < k) (x : List (Int × List L30)) : ∀ (r q i : Nat), i + r = 31 → r < q → i ≤ x.length → (∀ o ∈ x.take i, o.2.length ≤ 50 ∧ ∀ a ∈ o.2, SmallA a) → ∃ t, smithylaw13_cut.l1 k x q (i : Int) = some t ∧ (∀ o ∈ t, o ∈ x) ∧ t.length ≤ 31 ∧ ∀ o ∈ t, o.2.length ≤ 50 ∧ ∀ a ∈ o.2, SmallA a
  | r, q, i, hr, hq, hi, h => by
    obtain ⟨q, rfl⟩ : ∃ m, q = m + 1 := ⟨q - 1, by omega⟩
    have e : smithylaw13_cut.l1 k x (q + 1) (i : Int) = smithylaw13_cut.b1 k x (smithylaw13_cut.l1 k x q) (i : Int) := rfl
    rw [e]
    unfold smithylaw13_cut.b1
    have htk : ∀ n : Nat, n = i → i ≤ 31 → ∃ t, some (x.take (Int.toNat (n : Int))) = some t ∧ (∀ o ∈ t, o ∈ x) ∧ t.length ≤ 31 ∧ ∀ o ∈ t, o.2.length ≤ 50 ∧ ∀ a ∈ o.2, SmallA a := fun n hn h31 => by
      subst hn
      exact ⟨_, rfl, fun o ho => List.take_subset _ _ (by simpa using ho), by simp; omega, fun o ho => h o (by simpa using ho)⟩
    by_cases c : i < x.length
    · rw [if_pos (by simpa using c), if_pos (by omega)]
      by_cases c2 : 30 < i
      · rw [if_pos (by simp; omega)]
        unfold smithylaw13_cut.j2
        rw [if_pos rfl, if_pos (by omega)]
        exact htk i rfl (by omega)
      · obtain ⟨r, rfl⟩ : ∃ m, r = m + 1 := ⟨r - 1, by omega⟩
        rw [if_neg (by simp; omega)]
        unfold smithylaw13_cut.j2
        rcases great13 (gt x (i : Int)).2 k (by omega) with hgr | ⟨hgr, g1, g2⟩
        · rw [hgr, Option.bind_some, if_pos rfl, if_pos (by omega)]
          exact htk i rfl (by omega)
        · rw [hgr, Option.bind_some, if_neg (by simp), next1 i (by omega)]
          refine cut_loop k hk x r q (i + 1) (by omega) (by omega) (by omega) (fun o ho => ?_)
          rw [List.take_succ_eq_append_getElem c] at ho
          rcases List.mem_append.1 ho with ho | ho
          · exact h o ho
          · have : gt x (i : Int) = x[i] := by unfold gt; rw [Int.toNat_natCast, List.getD_eq_getElem?_getD, List.getElem?_eq_getElem c]; rfl
            rw [List.mem_singleton.1 ho, ← this]
            exact ⟨g1, g2⟩
    · rw [if_neg (by simpa using c)]
      have hx : x.take i = x := List.take_of_length_le (by omega)
      rw [hx] at h
      exact ⟨x, rfl, fun o ho => ho, by omega, h⟩
theorem cut_eq (k : Nat) (hk : 60 < k) (x : List (Int × List L30)) : ∃ t, smithylaw13_cut.f k x = some t ∧ (∀ o ∈ t, o ∈ x) ∧ t.length ≤ 31 ∧ ∀ o ∈ t, o.2.length ≤ 50 ∧ ∀ a ∈ o.2, SmallA a :=
  cut_loop k hk x 31 k 0 (by omega) (by omega) (by omega) (by simp)
end GW
set_option linter.unusedVariables false
set_option linter.unusedSimpArgs false
set_option maxRecDepth 100000
namespace GW
open Go Go.RowKit
theorem commit2_l1 (s : L72) (p : Int) (l : List L30) : ∀ (q : Nat) (i : Int) (kvs : Kv), store_Store_Commit_2z.l1 s p l q i kvs = store_Store_Commit.l1 s p l q i kvs
  | 0, _, _ => rfl
  | q + 1, i, kvs => by
    have h : store_Store_Commit_2z.l1 s p l q = store_Store_Commit.l1 s p l q := funext fun i => funext fun kvs => commit2_l1 s p l q i kvs
    show store_Store_Commit_2z.b1 s p l (store_Store_Commit_2z.l1 s p l q) i kvs = store_Store_Commit.b1 s p l (store_Store_Commit.l1 s p l q) i kvs
    rw [h]
    rfl
theorem commit2 (k : Nat) (s : L72) (p : Int) (l : List L30) : store_Store_Commit_2z.f k s p l = store_Store_Commit.f k s p l := by
  unfold store_Store_Commit_2z.f store_Store_Commit.f
  rw [commit2_l1]
def tellV (V : Vs) (i : Nat) : List L30 := (gt V (i : Int)).2.filter fun x => !emptyB x
theorem tellV_facts {k sz : Nat} {s : L72} {V : Vs} (R : VRel k sz s V) {i : Nat} (hi : i < V.length) : (tellV V i).length ≤ sz ∧ ∀ x ∈ tellV V i, SmallA x :=
  ⟨Nat.le_trans (List.length_filter_le _ _) (R.vsz i hi), fun x hx => (R.acc i hi x (List.mem_filter.1 hx).1).sm⟩
theorem all_tell {k sz : Nat} {s : L72} {V : Vs} (R : VRel k sz s V) (hsz : sz ≤ 10000) (hk : 30000 < k) (hV : V.length < 1000) {i : Nat} (hi : i < V.length) : store_Store_All.f k s (i : Int) = some (tellV V i) := by
  rw [all_eq R (by omega) (by omega) (by omega), if_pos (by omega)]
  rfl
theorem never_l1 (k : Nat) (hk : 30000 < k) {sz : Nat} {s : L72} {V : Vs} (R : VRel k sz s V) (hsz : sz ≤ 10000) (hV : V.length < 1000) (n : Nat) (hn : n ≤ V.length) (was : List (List L30)) (hw : was.length = n) (hg : ∀ i : Nat, i < n → gt was (i : Int) = tellV V i) :
    ∀ (r q i : Nat), i + r = n → r < q → smithylaw13_StoreNever.l1 k (n : Int) was s q (i : Int) = some true
  | 0, q, i, hi, hq => by
    obtain ⟨q, rfl⟩ : ∃ m, q = m + 1 := ⟨q - 1, by omega⟩
    show smithylaw13_StoreNever.b1 _ _ _ _ _ _ = _
    unfold smithylaw13_StoreNever.b1 smithylaw13_StoreNever.j4
    rw [if_neg (by simp; omega)]
  | r + 1, q, i, hi, hq => by
    obtain ⟨q, rfl⟩ : ∃ m, q = m + 1 := ⟨q - 1, by omega⟩
    have hf := tellV_facts R (i := i) (by omega)
    show smithylaw13_StoreNever.b1 _ _ _ _ _ _ = _
    unfold smithylaw13_StoreNever.b1 smithylaw13_StoreNever.j5
    rw [if_pos (by simp; omega), all_tell R hsz hk hV (by omega), Option.bind_some, if_pos (by omega), hg i (by omega), sameAll_self _ k (by omega) hf.2 (by omega) (by omega), Option.bind_some, if_neg (by simp), next1 i (by omega)]
    exact never_l1 k hk R hsz hV n hn was hw hg r q (i + 1) (by omega) (by omega)
theorem skip_l3 (y63 : Int) (rec2 : Int → L72 → Option Bool) (t14 : Int × Int × L72) (t16 : List L30) (ht : t16.length ≤ 10000) : ∀ (r q i : Nat), i + r = t16.length → r < q → smithylaw13_StoreNever.l3 y63 rec2 t14 t16 q (i : Int) = smithylaw13_StoreNever.j6 y63 rec2 t14.2.2
  | 0, q, i, hi, hq => by
    obtain ⟨q, rfl⟩ : ∃ m, q = m + 1 := ⟨q - 1, by omega⟩
    show smithylaw13_StoreNever.b3 _ _ _ _ _ _ = _
    unfold smithylaw13_StoreNever.b3
    rw [if_neg (by simp; omega)]
  | r + 1, q, i, hi, hq => by
    obtain ⟨q, rfl⟩ : ∃ m, q = m + 1 := ⟨q - 1, by omega⟩
    show smithylaw13_StoreNever.b3 _ _ _ _ _ _ = _
    unfold smithylaw13_StoreNever.b3
    rw [if_pos (by simp; omega), if_pos (by omega), next1 i (by omega)]
    exact skip_l3 y63 rec2 t14 t16 ht r q (i + 1) (by omega) (by omega)
theorem skip_l4 (k : Nat) (y63 : Int) (rec2 : Int → L72 → Option Bool) (y79 : List L30) (t14 : Int × Int × L72) (ht : y79.length ≤ 10000) : ∀ (r q i : Nat), i + r = y79.length → r < q → smithylaw13_StoreNever.l4 k y63 rec2 y79 t14 q (i : Int) = smithylaw13_StoreNever.j8 k y63 rec2 t14
  | 0, q, i, hi, hq => by
    obtain ⟨q, rfl⟩ : ∃ m, q = m + 1 := ⟨q - 1, by omega⟩
    show smithylaw13_StoreNever.b4 _ _ _ _ _ _ _ = _
    unfold smithylaw13_StoreNever.b4
    rw [if_neg (by simp; omega)]
  | r + 1, q, i, hi, hq => by
    obtain ⟨q, rfl⟩ : ∃ m, q = m + 1 := ⟨q - 1, by omega⟩
    show smithylaw13_StoreNever.b4 _ _ _ _ _ _ _ = _
    unfold smithylaw13_StoreNever.b4
    rw [if_pos (by simp; omega), if_pos (by omega), next1 i (by omega)]
    exact skip_l4 k y63 rec2 y79 t14 ht r q (i + 1) (by omega) (by omega)
theorem copy_l5 (k : Nat) (t10 : List (Int × List L30)) (y63 : Int) (y64 : L72) (rec2 : Int → L72 → Option Bool) (l : List L30) (hl : (gt t10 y63).2 = l) (hs : ∀ x ∈ l, SmallA x) (h50 : l.length ≤ 50) : ∀ (d : List L30) (q i : Nat) (y : List L30), l.drop i = d → i ≤ l.length → d.length < q → y.length ≤ i → smithylaw13_StoreNever.l5 k t10 y63 y64 rec2 q y (i : Int) = smithylaw13_StoreNever.j7 k t10 y63 y64 rec2 (y ++ d)
  | [], q, i, y, hd, hi, hq, hy => by
    obtain ⟨q, rfl⟩ : ∃ m, q = m + 1 := ⟨q - 1, by omega⟩
    have : l.length ≤ i := by simpa using hd
    show smithylaw13_StoreNever.b5 _ _ _ _ _ _ _ _ = _
    unfold smithylaw13_StoreNever.b5
    rw [hl, if_neg (by simp; omega), List.append_nil]
  | x :: d, q, i, y, hd, hi, hq, hy => by
    simp only [List.length_cons] at hq
    obtain ⟨q, rfl⟩ : ∃ m, q = m + 1 := ⟨q - 1, by omega⟩
    obtain ⟨h1, h2, h3⟩ := gt_dropA hd
    have hx := hs x (List.drop_subset i l (by rw [hd]; exact List.mem_cons_self))
    obtain ⟨hx1, hx2⟩ := hx
    show smithylaw13_StoreNever.b5 _ _ _ _ _ _ _ _ = _
    unfold smithylaw13_StoreNever.b5
    rw [hl, if_pos (by simp; omega), if_pos (by omega), h1, if_pos (by simp only [List.length_nil]; omega), if_pos (by simp only [List.length_nil]; omega), if_pos (by simp only [List.length_singleton]; omega), next1 i (by omega)]
    simp only [List.nil_append]
    rw [show [(x.1, x.2.1, x.2.2.1, x.2.2.2.1, x.2.2.2.2)] = [x] from rfl, copy_l5 k t10 y63 y64 rec2 l hl hs h50 d q (i + 1) (y ++ [x]) h3 (by omega) (by omega) (by simp; omega), List.append_assoc]
    rfl
theorem never_l2 (k : Nat) (hk : 30000 < k) (n : Nat) (hn0 : 0 < n) (hn : n ≤ 40) (was : List (List L30)) (hw : was.length = n) (t : List (Int × List L30)) (hg : ∀ o ∈ t, ∀ x ∈ o.2, Gd30 x) (hs : ∀ o ∈ t, o.2.length ≤ 50 ∧ ∀ x ∈ o.2, SmallA x) (ht : t.length ≤ 31) :
    ∀ (d : List (Int × List L30)) (q i : Nat) (s : L72) (V : Vs), t.drop i = d → i ≤ t.length → d.length < q → VRel k (2000 + 50 * i) s V → V.length ≤ n + i → n ≤ V.length → (∀ j : Nat, j < n → gt was (j : Int) = tellV V j) → smithylaw13_StoreNever.l2 k (n : Int) was t q (i : Int) s = some true
  | [], q, i, s, V, hd, hi, hq, R, hV, hV2, hwas => by
    obtain ⟨q, rfl⟩ : ∃ m, q = m + 1 := ⟨q - 1, by omega⟩
    have : t.length ≤ i := by simpa using hd
    show smithylaw13_StoreNever.b2 _ _ _ _ _ _ _ = _
    unfold smithylaw13_StoreNever.b2 smithylaw13_StoreNever.j3
    rw [if_neg (by simp; omega)]
    exact never_l1 k hk R (by omega) (by omega) n hV2 was hw hwas n k 0 (by omega) (by omega)
  | o :: d, q, i, s, V, hd, hi, hq, R, hV, hV2, hwas => by
    simp only [List.length_cons] at hq
    obtain ⟨q, rfl⟩ : ∃ m, q = m + 1 := ⟨q - 1, by omega⟩
    obtain ⟨h1, h2, h3⟩ := gt_dropA hd
    have ho : o ∈ t := List.drop_subset i t (by rw [hd]; exact List.mem_cons_self)
    obtain ⟨h4, h5⟩ := hs o ho
    have fin : ∀ (e1 e2 : Int) (s' : L72) (V' : Vs), VRel k (2000 + 50 * (i + 1)) s' V' → V'.length ≤ n + (i + 1) → n ≤ V'.length → (∀ j : Nat, j < n → tellV V' j = tellV V j) → smithylaw13_StoreNever.l4 k (i : Int) (smithylaw13_StoreNever.l2 k (n : Int) was t q) o.2 (e1, e2, s') k 0 = some true := fun e1 e2 s' V' R' hV' hV2' hk' => by
      have hlen := R'.len
      refine (skip_l4 k (i : Int) _ o.2 (e1, e2, s') (by omega) o.2.length k 0 (by omega) (by omega)).trans ?_
      unfold smithylaw13_StoreNever.j8 store_Store_Len.f
      have hv : wr .i64 ((s'.length : Int) - 1) = ((V'.length - 1 : Nat) : Int) := by rw [wr_i64_id (by omega) (by omega)]; omega
      have hf := tellV_facts R' (i := V'.length - 1) (by omega)
      rw [Option.bind_some, hv, all_tell R' (by omega) hk (by omega) (by omega), Option.bind_some]
      refine (skip_l3 (i : Int) _ (e1, e2, s') _ (by omega) (tellV V' (V'.length - 1)).length k 0 (by omega) (by omega)).trans ?_
      unfold smithylaw13_StoreNever.j6
      rw [next1 i (by omega)]
      exact never_l2 k hk n hn0 hn was hw t hg hs ht d q (i + 1) s' V' h3 (by omega) (by omega) R' hV' hV2' (fun j hj => by rw [hk' j hj]; exact hwas j hj)
    show smithylaw13_StoreNever.b2 _ _ _ _ _ _ _ = _
    unfold smithylaw13_StoreNever.b2
    rw [if_pos (by simp; omega), if_pos (by omega)]
    refine (copy_l5 k t (i : Int) s _ o.2 (by rw [h1]) h5 h4 o.2 k 0 [] rfl (by omega) (by omega) (by simp)).trans ?_
    unfold smithylaw13_StoreNever.j7
    rw [List.nil_append, h1, commit2]
    rcases commit_eq R (by omega) (by omega) o.1 o.2 (hg o ho) h5 (by omega) (by omega) with ⟨h, -⟩ | ⟨h, -, -⟩ | ⟨h, hc, ha⟩
    · rw [h, Option.bind_some]
      exact fin _ _ s V (R.mono (by omega)) (by omega) hV2 (fun _ _ => rfl)
    · rw [h, Option.bind_some]
      exact fin _ _ s V (R.mono (by omega)) (by omega) hV2 (fun _ _ => rfl)
    · rw [h, Option.bind_some]
      obtain ⟨p, hp⟩ := Int.eq_ofNat_of_zero_le hc.1
      have R1 := R.commit (p := p) (by omega) ha
      rw [← hp] at R1
      refine fin _ _ _ _ (R1.mono (by omega)) (by simp; omega) (by simp; omega) (fun j hj => ?_)
      unfold tellV
      rw [gt_append, if_pos (by omega)]
theorem never_l6 (k : Nat) (hk : 30000 < k) (x2 : List (Int × List L30)) (w1 : Gd35 x2) {s : L72} {V : Vs} (R : VRel k 2000 s V) (hV : V.length ≤ 32) : ∀ (r q i : Nat) (was : List (List L30)), i + r = V.length → r < q → was.length = i → (∀ j : Nat, j < i → gt was (j : Int) = tellV V j) → smithylaw13_StoreNever.l6 k x2 s (V.length : Int) q was (i : Int) = some true
  | 0, q, i, was, hi, hq, hl, hw => by
    obtain ⟨q, rfl⟩ : ∃ m, q = m + 1 := ⟨q - 1, by omega⟩
    obtain ⟨t, h1, h2, h3, h4⟩ := cut_eq k (by omega) x2
    have hpos := R.pos
    show smithylaw13_StoreNever.b6 _ _ _ _ _ _ _ = _
    unfold smithylaw13_StoreNever.b6 smithylaw13_StoreNever.j2
    rw [if_neg (by simp; omega), h1, Option.bind_some]
    exact never_l2 k hk V.length hpos (by omega) was (by omega) t (fun o ho x hx => (w1.1 o (h2 o ho)).2.1 x hx) h4 h3 t k 0 s V rfl (by omega) (by omega) R (by omega) (Nat.le_refl _) (fun j hj => hw j (by omega))
  | r + 1, q, i, was, hi, hq, hl, hw => by
    obtain ⟨q, rfl⟩ : ∃ m, q = m + 1 := ⟨q - 1, by omega⟩
    show smithylaw13_StoreNever.b6 _ _ _ _ _ _ _ = _
    unfold smithylaw13_StoreNever.b6
    rw [if_pos (by simp; omega), all_tell R (by omega) hk (by omega) (by omega), Option.bind_some, if_pos (by simp only [List.length_singleton]; omega), next1 i (by omega)]
    refine never_l6 k hk x2 w1 R hV r q (i + 1) _ (by omega) (by omega) (by simp; omega) (fun j hj => ?_)
    rw [gt_append]
    by_cases c : j < i
    · rw [if_pos (by omega)]; exact hw j c
    · obtain rfl : j = i := by omega
      rw [if_neg (by omega), if_pos (by omega)]
theorem never_l7 (k : Nat) (hk : 30000 < k) (x2 : List (Int × List L30)) (w1 : Gd35 x2) (t : List (Int × List L30)) (hg : ∀ o ∈ t, ∀ x ∈ o.2, Gd30 x) (hs : ∀ o ∈ t, o.2.length ≤ 50 ∧ ∀ x ∈ o.2, SmallA x) (ht : t.length ≤ 31) : ∀ (d : List (Int × List L30)) (q i : Nat) (s : L72) (V : Vs), t.drop i = d → i ≤ t.length → d.length < q → VRel k (50 * i) s V → V.length ≤ i + 1 → smithylaw13_StoreNever.l7 k x2 t q (i : Int) s = some true
  | [], q, i, s, V, hd, hi, hq, R, hV => by
    obtain ⟨q, rfl⟩ : ∃ m, q = m + 1 := ⟨q - 1, by omega⟩
    have : t.length ≤ i := by simpa using hd
    have hlen := R.len
    show smithylaw13_StoreNever.b7 _ _ _ _ _ _ = _
    unfold smithylaw13_StoreNever.b7 smithylaw13_StoreNever.j1 store_Store_Len.f
    rw [if_neg (by simp; omega), Option.bind_some, show (s.length : Int) = (V.length : Int) by omega]
    exact never_l6 k hk x2 w1 (R.mono (by omega)) (by omega) V.length k 0 [] (by omega) (by omega) rfl (fun j hj => by omega)
  | o :: d, q, i, s, V, hd, hi, hq, R, hV => by
    simp only [List.length_cons] at hq
    obtain ⟨q, rfl⟩ : ∃ m, q = m + 1 := ⟨q - 1, by omega⟩
    obtain ⟨h1, h2, h3⟩ := gt_dropA hd
    have ho : o ∈ t := List.drop_subset i t (by rw [hd]; exact List.mem_cons_self)
    obtain ⟨h4, h5⟩ := hs o ho
    show smithylaw13_StoreNever.b7 _ _ _ _ _ _ = _
    unfold smithylaw13_StoreNever.b7
    rw [if_pos (by simp; omega), if_pos (by omega), h1, next1 i (by omega)]
    rcases commit_eq R (by omega) (by omega) o.1 o.2 (hg o ho) h5 (by omega) (by omega) with ⟨h, -⟩ | ⟨h, -, -⟩ | ⟨h, hc, ha⟩
    · rw [h, Option.bind_some]
      exact never_l7 k hk x2 w1 t hg hs ht d q (i + 1) s V h3 (by omega) (by omega) (R.mono (by omega)) (by omega)
    · rw [h, Option.bind_some]
      exact never_l7 k hk x2 w1 t hg hs ht d q (i + 1) s V h3 (by omega) (by omega) (R.mono (by omega)) (by omega)
    · rw [h, Option.bind_some]
      obtain ⟨p, hp⟩ := Int.eq_ofNat_of_zero_le hc.1
      have R1 := R.commit (p := p) (by omega) ha
      rw [← hp] at R1
      exact never_l7 k hk x2 w1 t hg hs ht d q (i + 1) _ _ h3 (by omega) (by omega) (R1.mono (by omega)) (by simp; omega)
theorem smithylaw13_StoreNever_true (a0 : List (Int × (List L30))) (a1 : List (Int × (List L30))) (w0 : Gd35 a0) (w1 : Gd35 a1) : ∃ k : Nat, smithylaw13_StoreNever.f k a0 a1 = some true := by
  refine ⟨40000, ?_⟩
  have fx := fixed13 39800
  unfold smithylaw13_StoreNever.f
  obtain ⟨t, h1, h2, h3, h4⟩ := cut_eq 40000 (by omega) a0
  rw [show store_New.f = some [((-1), ([] : Kv))] from rfl, Option.bind_some, fx, Option.bind_some, if_neg (by simp), h1, Option.bind_some]
  exact never_l7 40000 (by omega) a1 w1 t (fun o ho x hx => (w0.1 o (h2 o ho)).2.1 x hx) h4 h3 t 40000 0 _ _ rfl (by omega) (by omega) (VRel.first 40000) (by simp)
end GW
