import Derived.Test.YtnloindmiejbeaaG0
import Derived.Test.YtnloindmiejbeaaGWPlain
import Derived.Laws.Bits64b
set_option linter.unusedVariables false
set_option linter.unusedSimpArgs false
set_option maxRecDepth 100000
namespace GW
open Go Go.RowKit
def SmallA (a : L76) : Prop := a.2.2.2.1.length ≤ 3000 ∧ a.2.2.2.2.length ≤ 100
theorem great_loop (l : List L76) (hl : l.length ≤ 50) : ∀ (r q i : Nat), i + r = l.length → r < q → smithyref13_Great.l1 l q (i : Int) = some true ∨ (smithyref13_Great.l1 l q (i : Int) = some false ∧ ∀ a ∈ l.drop i, SmallA a)
  | 0, q, i, hi, hq => by
    obtain ⟨q, rfl⟩ : ∃ m, q = m + 1 := ⟨q - 1, by omega⟩
    refine .inr ⟨?_, fun a ha => by rw [List.drop_eq_nil_of_le (by omega)] at ha; cases ha⟩
    show smithyref13_Great.b1 _ _ _ = _
    unfold smithyref13_Great.b1
    rw [if_neg (by simp; omega)]; rfl
  | r + 1, q, i, hi, hq => by
    obtain ⟨q, rfl⟩ : ∃ m, q = m + 1 := ⟨q - 1, by omega⟩
    have hw : wr .i64 ((i : Int) + 1) = ((i + 1 : Nat) : Int) := by rw [wr_i64_id (by omega) (by omega)]; omega
    have e1 : smithyref13_Great.l1 l (q + 1) (i : Int) = smithyref13_Great.b1 l (smithyref13_Great.l1 l q) (i : Int) := rfl
    rw [e1]
    unfold smithyref13_Great.b1
    rw [if_pos (by simp; omega), if_pos (by omega)]
    by_cases c1 : (3000 : Int) < ((gt l (i : Int)).2.2.2.1.length : Int)
    · rw [if_pos (decide_eq_true c1)]; exact .inl rfl
    · rw [if_neg (by simpa using c1)]
      unfold smithyref13_Great.j2
      by_cases c2 : (100 : Int) < ((gt l (i : Int)).2.2.2.2.length : Int)
      · rw [decide_eq_true c2]; exact .inl rfl
      · rw [decide_eq_false c2, if_neg (by simp), hw]
        rcases great_loop l hl r q (i + 1) (by omega) (by omega) with h | ⟨h, h2⟩
        · exact .inl h
        · refine .inr ⟨h, fun a ha => ?_⟩
          rw [List.drop_eq_getElem_cons (by omega)] at ha
          rcases List.mem_cons.1 ha with rfl | ha
          · have : gt l (i : Int) = l[i] := by unfold gt; rw [Int.toNat_natCast, List.getD_eq_getElem?_getD, List.getElem?_eq_getElem (by omega)]; rfl
            rw [this] at c1 c2
            exact ⟨by omega, by omega⟩
          · exact h2 a ha
theorem great13 (l : List L76) (k : Nat) (hk : 51 < k) : smithyref13_Great.f k l = some true ∨ (smithyref13_Great.f k l = some false ∧ l.length ≤ 50 ∧ ∀ a ∈ l, SmallA a) := by
  unfold smithyref13_Great.f
  by_cases c : (50 : Int) < (l.length : Int)
  · rw [if_pos (decide_eq_true c)]; exact .inl rfl
  · rw [if_neg (by simpa using c)]
    rcases great_loop l (by omega) l.length k 0 (by omega) (by omega) with h | ⟨h, h2⟩
    · exact .inl h
    · exact .inr ⟨h, by omega, by simpa using h2⟩
end GW
set_option linter.unusedVariables false
set_option linter.unusedSimpArgs false
set_option maxRecDepth 100000
namespace GW
open Go Go.RowKit
theorem either_eq (c : Bool) (a b : Int) : gas_either.f c a b = some (if c = true then a else b) := by
  cases c <;> rfl
def bytesCost : List Int → Int
  | [] => 0
  | b :: r => (if b = 0 then 4 else 16) + bytesCost r
theorem bytesCost_bd (l : List Int) : 0 ≤ bytesCost l ∧ bytesCost l ≤ 16 * l.length := by
  induction l with
  | nil => simp [bytesCost]
  | cons b r ih => simp only [bytesCost, List.length_cons]; split <;> omega
theorem drop_rd (l : List Int) (i : Nat) (h : i < l.length) : l.drop i = rd l (i : Int) :: l.drop (i + 1) := by
  rw [List.drop_eq_getElem_cons h]
  simp [rd, List.getD_eq_getElem?_getD, List.getElem?_eq_getElem h]
theorem words_eq (n : Nat) (h : n ≤ 5000) : mem_Words.f (wr .u64 (n : Int)) = some (((n + 31) / 32 : Nat) : Int) ∧ smithyref10_Words.f (wr .u64 (n : Int)) = some (((n + 31) / 32 : Nat) : Int) := by
  have e0 : wr .u64 (n : Int) = (n : Int) := wr_u64_id (by omega) (by omega)
  rw [e0]
  unfold mem_Words.f mem_Words.j1 smithyref10_Words.f
  rw [tdiv_pos (by omega), tmod_pos (by omega), wr_u64_id (x := (n : Int) / 32) (by omega) (by omega), wr_u64_id (x := (n : Int) / 32 + 1) (by omega) (by omega)]
  by_cases h0 : (n : Int) % 32 = 0
  · have h1 : ¬ 0 < (n : Int) % 32 := by omega
    simp [h0]
    omega
  · have h1 : 0 < (n : Int) % 32 := by omega
    simp [h0, h1]
    omega
theorem impl_loop (x : List Int) (c : Bool) (hl : x.length ≤ 5000) (d : Nat) : ∀ (k i : Nat) (y : Int), i + d = x.length → d < k → 0 ≤ y → y ≤ 100000000000000 + 16 * i →
    gas_Intrinsic.l1 x c k i y = gas_Intrinsic.j1 x c (y + bytesCost (x.drop i)) := by
  induction d with
  | zero =>
    intro k i y hi hk h0 h1
    obtain ⟨k, rfl⟩ : ∃ m, k = m + 1 := ⟨k - 1, by omega⟩
    show gas_Intrinsic.b1 x c _ i y = _
    unfold gas_Intrinsic.b1
    rw [List.drop_of_length_le (by omega)]
    have h2 : ¬ ((i : Int) < (x.length : Int)) := by omega
    simp [h2, bytesCost]
  | succ d ih =>
    intro k i y hi hk h0 h1
    obtain ⟨k, rfl⟩ : ∃ m, k = m + 1 := ⟨k - 1, by omega⟩
    show gas_Intrinsic.b1 x c _ i y = _
    unfold gas_Intrinsic.b1
    have h2 : (i : Int) < (x.length : Int) := by omega
    have e1 : wr .i64 ((i : Int) + 1) = ((i + 1 : Nat) : Int) := by rw [wr_i64_id (by omega) (by omega)]; omega
    rw [drop_rd x i (by omega)]
    simp only [h2, decide_true, if_true]
    rw [if_pos ⟨by omega, trivial⟩, either_eq, Option.bind_some, e1]
    by_cases hb : rd x (i : Int) = 0
    · have e2 : wr .u64 (y + 4) = y + 4 := wr_u64_id (by omega) (by omega)
      simp only [hb, beq_self_eq_true, if_true, e2]
      rw [ih k (i + 1) _ (by omega) (by omega) (by omega) (by omega)]
      simp [bytesCost, Int.add_assoc]
    · have hb' : (rd x (i : Int) == 0) = false := by simpa using hb
      have e2 : wr .u64 (y + 16) = y + 16 := wr_u64_id (by omega) (by omega)
      simp only [hb', Bool.false_eq_true, if_false, e2]
      rw [ih k (i + 1) _ (by omega) (by omega) (by omega) (by omega)]
      simp [bytesCost, hb, Int.add_assoc]
theorem ref_loop (x : List Int) (c : Bool) (a s : Int) (hl : x.length ≤ 5000) (d : Nat) : ∀ (k i : Nat) (y : Int), i + d = x.length → d < k → 0 ≤ y → y ≤ 100000000000000 + 16 * i →
    smithyref12_Intrinsic.l1 x c a s k i y = smithyref12_Intrinsic.j1 x c a s (y + bytesCost (x.drop i)) := by
  induction d with
  | zero =>
    intro k i y hi hk h0 h1
    obtain ⟨k, rfl⟩ : ∃ m, k = m + 1 := ⟨k - 1, by omega⟩
    show smithyref12_Intrinsic.b1 x c a s _ i y = _
    unfold smithyref12_Intrinsic.b1
    rw [List.drop_of_length_le (by omega)]
    have h2 : ¬ ((i : Int) < (x.length : Int)) := by omega
    simp [h2, bytesCost]
  | succ d ih =>
    intro k i y hi hk h0 h1
    obtain ⟨k, rfl⟩ : ∃ m, k = m + 1 := ⟨k - 1, by omega⟩
    show smithyref12_Intrinsic.b1 x c a s _ i y = _
    unfold smithyref12_Intrinsic.b1
    have h2 : (i : Int) < (x.length : Int) := by omega
    have e1 : wr .i64 ((i : Int) + 1) = ((i + 1 : Nat) : Int) := by rw [wr_i64_id (by omega) (by omega)]; omega
    have e4 : wr .u64 (y + 4) = y + 4 := wr_u64_id (by omega) (by omega)
    have e16 : wr .u64 (y + 4 + 12) = y + 4 + 12 := wr_u64_id (by omega) (by omega)
    rw [drop_rd x i (by omega)]
    simp only [h2, decide_true, if_true]
    rw [if_pos ⟨by omega, trivial⟩, e4, e16]
    unfold smithyref12_Intrinsic.j3
    rw [e1]
    by_cases hb : rd x (i : Int) = 0
    · have hb' : (rd x (i : Int) != 0) = false := by simp [hb]
      simp only [hb', Bool.false_eq_true, if_false]
      rw [ih k (i + 1) _ (by omega) (by omega) (by omega) (by omega)]
      simp [bytesCost, hb, Int.add_assoc]
    · have hb' : (rd x (i : Int) != 0) = true := by simpa using hb
      simp only [hb', if_true]
      rw [ih k (i + 1) _ (by omega) (by omega) (by omega) (by omega)]
      simp [bytesCost, hb, Int.add_assoc]
theorem intrinsic_eq (k : Nat) (a0 : List Int) (a1 : Bool) (p q : Int) (h : a0.length ≤ 5000) (b2 : 0 ≤ p ∧ p ≤ 4294967296) (b3 : 0 ≤ q ∧ q ≤ 4294967296) (hk : a0.length < k) : ∃ v, gas_Intrinsic.f k a0 a1 p q = some v ∧ smithyref12_Intrinsic.f k a0 a1 p q = some v := by
  have hb := bytesCost_bd a0
  unfold gas_Intrinsic.f smithyref12_Intrinsic.f
  have e1 : wr .u64 (wr .u64 (21000 + wr .u64 (2400 * p)) + wr .u64 (1900 * q)) = 21000 + 2400 * p + 1900 * q := by
    rw [wr_u64_id (x := 2400 * p) (by omega) (by omega), wr_u64_id (x := 21000 + 2400 * p) (by omega) (by omega), wr_u64_id (x := 1900 * q) (by omega) (by omega), wr_u64_id (by omega) (by omega)]
  rw [e1]
  have i1 := impl_loop a0 a1 (by omega) a0.length k 0 (21000 + 2400 * p + 1900 * q) (by omega) (by omega) (by omega) (by omega)
  have i2 := ref_loop a0 a1 p q (by omega) a0.length k 0 21000 (by omega) (by omega) (by omega) (by omega)
  simp only [Int.natCast_zero, List.drop_zero] at i1 i2
  rw [i1, i2]
  obtain ⟨u1, u2⟩ := words_eq a0.length (by omega)
  unfold gas_Intrinsic.j1 smithyref12_Intrinsic.j1 gas_Intrinsic.j2 smithyref12_Intrinsic.j2
  rw [u1, u2]
  generalize bytesCost a0 = s at *
  have hw : (((a0.length + 31) / 32 : Nat) : Int) ≤ 200 := by omega
  have hw0 : (0 : Int) ≤ (((a0.length + 31) / 32 : Nat) : Int) := by omega
  generalize (((a0.length + 31) / 32 : Nat) : Int) = w at *
  simp only [Option.bind_some]
  cases a1
  · simp only [Bool.false_eq_true, if_false, Option.bind_some]
    rw [wr_u64_id (x := p * 2400) (by omega) (by omega), wr_u64_id (x := q * 1900) (by omega) (by omega), wr_u64_id (x := 21000 + s + p * 2400) (by omega) (by omega), wr_u64_id (by omega) (by omega)]
    exact ⟨_, rfl, congrArg some (by omega)⟩
  · simp only [if_true, Option.bind_some]
    rw [wr_u64_id (x := p * 2400) (by omega) (by omega), wr_u64_id (x := q * 1900) (by omega) (by omega), wr_u64_id (x := 2 * w) (by omega) (by omega), wr_u64_id (x := 32000 + 2 * w) (by omega) (by omega), wr_u64_id (x := 21000 + s + 32000) (by omega) (by omega), wr_u64_id (x := 21000 + s + 32000 + 2 * w) (by omega) (by omega), wr_u64_id (x := 21000 + s + 32000 + 2 * w + p * 2400) (by omega) (by omega), wr_u64_id (x := 21000 + 2400 * p + 1900 * q + s + (32000 + 2 * w)) (by omega) (by omega), wr_u64_id (by omega) (by omega)]
    exact ⟨_, rfl, congrArg some (by omega)⟩
end GW
set_option linter.unusedVariables false
set_option linter.unusedSimpArgs false
set_option maxRecDepth 100000
namespace GW
open Go Go.RowKit
theorem gt_dropG {α : Type} [Inhabited α] {x : List α} {i : Nat} {a : α} {r : List α} (h : x.drop i = a :: r) : gt x (i : Int) = a ∧ i < x.length ∧ x.drop (i + 1) = r := by
  have hl : i < x.length := by
    refine Decidable.byContradiction fun c => ?_
    rw [List.drop_eq_nil_of_le (by omega)] at h
    cases h
  rw [List.drop_eq_getElem_cons hl] at h
  simp only [List.cons.injEq] at h
  exact ⟨by rw [gt_get x (i : Int) (by simpa using hl)]; simpa using h.1, hl, h.2⟩
abbrev Wm := (List Int) × (List (List Int))
abbrev TxT := (List Int) × (List Int) × Bool × Int × (List Int) × (List Int) × Int × (List Int) × (List Int) × (List Wm)
def Small (x : TxT) : Prop := x.2.2.2.2.2.1.length ≤ 3000 ∧ x.2.2.2.2.2.2.2.2.2.length ≤ 30 ∧ ∀ w ∈ x.2.2.2.2.2.2.2.2.2, w.2.length ≤ 30
theorem great_loop19 (x : TxT) (hx : x.2.2.2.2.2.2.2.2.2.length < 10000) : ∀ (l : List Wm) (q i : Nat), x.2.2.2.2.2.2.2.2.2.drop i = l → i ≤ x.2.2.2.2.2.2.2.2.2.length → l.length < q → smithyref19_Great.l1 x q (i : Int) = some true ∨ (smithyref19_Great.l1 x q (i : Int) = some false ∧ ∀ w ∈ l, w.2.length ≤ 30) := by
  intro l
  induction l with
  | nil =>
    intro q i hd hi hq
    obtain ⟨q, rfl⟩ : ∃ m, q = m + 1 := ⟨q - 1, by omega⟩
    have : x.2.2.2.2.2.2.2.2.2.length ≤ i := by simpa using hd
    right
    refine ⟨?_, by simp⟩
    show smithyref19_Great.b1 x _ _ = _
    unfold smithyref19_Great.b1
    rw [if_neg (by simp; omega)]
    rfl
  | cons w l ih =>
    intro q i hd hi hq
    simp only [List.length_cons] at hq
    obtain ⟨q, rfl⟩ : ∃ m, q = m + 1 := ⟨q - 1, by omega⟩
    obtain ⟨g, hi2, hr⟩ := gt_dropG hd
    have e : smithyref19_Great.l1 x (q + 1) (i : Int) = if (30 : Int) < (w.2.length : Int) then some true else smithyref19_Great.l1 x q ((i + 1 : Nat) : Int) := by
      show smithyref19_Great.b1 x _ _ = _
      unfold smithyref19_Great.b1
      simp only [g]
      rw [if_pos (by simp; omega), if_pos (by omega), wr_i64_id (by omega) (by omega)]
      by_cases c : (30 : Int) < (w.2.length : Int)
      · rw [if_pos (by simpa using c), if_pos c]
      · rw [if_neg (by simpa using c), if_neg c]; rfl
    rw [e]
    by_cases c : (30 : Int) < (w.2.length : Int)
    · rw [if_pos c]; exact Or.inl rfl
    · rw [if_neg c]
      rcases ih q (i + 1) hr (by omega) (by omega) with h | ⟨h1, h2⟩
      · exact Or.inl h
      · refine Or.inr ⟨h1, fun v hv => ?_⟩
        rcases List.mem_cons.1 hv with rfl | hv
        · omega
        · exact h2 v hv
theorem great19 (x : TxT) (k : Nat) (hk : 100 < k) : smithyref19_Great.f k x = some true ∨ (smithyref19_Great.f k x = some false ∧ Small x) := by
  unfold smithyref19_Great.f
  by_cases c1 : (3000 : Int) < (x.2.2.2.2.2.1.length : Int)
  · rw [if_pos (by simpa using c1)]; exact Or.inl rfl
  · rw [if_neg (by simpa using c1)]
    by_cases c2 : (30 : Int) < (x.2.2.2.2.2.2.2.2.2.length : Int)
    · rw [decide_eq_true c2]; exact Or.inl rfl
    · rw [decide_eq_false c2]
      unfold smithyref19_Great.j1
      rw [if_neg (by simp)]
      rcases great_loop19 x (by omega) x.2.2.2.2.2.2.2.2.2 k 0 rfl (by omega) (by omega) with h | ⟨h1, h2⟩
      · exact Or.inl h
      · exact Or.inr ⟨h1, by omega, by omega, h2⟩
end GW
set_option linter.unusedVariables false
set_option linter.unusedSimpArgs false
set_option maxRecDepth 100000
namespace GW
open Go Go.RowKit
def Wd (a : List Int) : Prop := a.length = 4 ∧ ∀ y ∈ a, inK .u64 y
def wv (a : List Int) : Int := rd a 0 + rd a 1 * 18446744073709551616 + rd a 2 * 340282366920938463463374607431768211456 + rd a 3 * 6277101735386680763835789423207666416102355444464034512896
theorem inK_of_u64 {x : Int} (h0 : 0 ≤ x) (h1 : x < 18446744073709551616) : inK .u64 x := by
  have : x ≤ 18446744073709551615 := by omega
  simpa [inK, Lit.wf, IntKind.min, IntKind.max, IntKind.signed, IntKind.bits] using And.intro h0 this
theorem Wd.lanes {a : List Int} (h : Wd a) : ∃ a0 a1 a2 a3 : Int, a = [a0, a1, a2, a3] ∧ (0 ≤ a0 ∧ a0 < 18446744073709551616) ∧ (0 ≤ a1 ∧ a1 < 18446744073709551616) ∧ (0 ≤ a2 ∧ a2 < 18446744073709551616) ∧ (0 ≤ a3 ∧ a3 < 18446744073709551616) := by
  obtain ⟨hl, hx⟩ := h
  match a, hl with
  | [a0, a1, a2, a3], _ => exact ⟨a0, a1, a2, a3, rfl, inK_u64 (hx a0 (by simp)), inK_u64 (hx a1 (by simp)), inK_u64 (hx a2 (by simp)), inK_u64 (hx a3 (by simp))⟩
theorem Wd.mk {a0 a1 a2 a3 : Int} (h0 : 0 ≤ a0 ∧ a0 < 18446744073709551616) (h1 : 0 ≤ a1 ∧ a1 < 18446744073709551616) (h2 : 0 ≤ a2 ∧ a2 < 18446744073709551616) (h3 : 0 ≤ a3 ∧ a3 < 18446744073709551616) : Wd [a0, a1, a2, a3] := by
  refine ⟨rfl, fun y hy => ?_⟩
  simp only [List.mem_cons, List.not_mem_nil, or_false] at hy
  rcases hy with rfl | rfl | rfl | rfl
  · exact inK_of_u64 h0.1 h0.2
  · exact inK_of_u64 h1.1 h1.2
  · exact inK_of_u64 h2.1 h2.2
  · exact inK_of_u64 h3.1 h3.2
theorem wv_lanes (a0 a1 a2 a3 : Int) : wv [a0, a1, a2, a3] = a0 + a1 * 18446744073709551616 + a2 * 340282366920938463463374607431768211456 + a3 * 6277101735386680763835789423207666416102355444464034512896 := rfl
theorem Wd.lt {a : List Int} (h : Wd a) : 0 ≤ wv a ∧ wv a < 115792089237316195423570985008687907853269984665640564039457584007913129639936 := by
  obtain ⟨a0, a1, a2, a3, rfl, h0, h1, h2, h3⟩ := h.lanes
  rw [wv_lanes]; omega
theorem Wd.inj {a b : List Int} (h : Wd a) (k : Wd b) (e : wv a = wv b) : a = b := by
  obtain ⟨a0, a1, a2, a3, rfl, h0, h1, h2, h3⟩ := h.lanes
  obtain ⟨b0, b1, b2, b3, rfl, k0, k1, k2, k3⟩ := k.lanes
  rw [wv_lanes, wv_lanes] at e
  have e0 : a0 = b0 := by omega
  subst e0
  have e1 : a1 = b1 := by omega
  subst e1
  have e2 : a2 = b2 := by omega
  subst e2
  have e3 : a3 = b3 := by omega
  rw [e3]
theorem Wd.of {x : Int} (h : inK .u64 x) : Wd [x, 0, 0, 0] := Wd.mk (inK_u64 h) (by omega) (by omega) (by omega)
theorem Wd.of' {x : Int} (h0 : 0 ≤ x) (h1 : x < 18446744073709551616) : Wd [x, 0, 0, 0] := Wd.mk ⟨h0, h1⟩ (by omega) (by omega) (by omega)
theorem wv_of (x : Int) : wv [x, 0, 0, 0] = x := by rw [wv_lanes]; omega
theorem Wd.zero : Wd [0, 0, 0, 0] := Wd.of' (by omega) (by omega)
theorem Wd.eq0 {a : List Int} (h : Wd a) : a = [0, 0, 0, 0] ↔ wv a = 0 := ⟨fun e => by rw [e]; rfl, fun e => h.inj Wd.zero (e.trans rfl)⟩
def dv (B : Int) : List Int → Int
  | [] => 0
  | x :: r => x + B * dv B r
theorem dv_append (B : Int) (a b : List Int) : dv B (a ++ b) = dv B a + B ^ a.length * dv B b := by
  induction a with
  | nil => simp [dv]
  | cons x r ih => simp only [List.cons_append, dv, ih, List.length_cons, Int.pow_succ]; grind
theorem dv_set (B : Int) : ∀ (a : List Int) (i : Nat) (v : Int), i < a.length → dv B (a.set i v) = dv B a + (v - a.getD i 0) * B ^ i
  | x :: r, 0, v, _ => by simp [dv]; omega
  | x :: r, i + 1, v, h => by
    simp only [List.set_cons_succ, dv, dv_set B r i v (by simpa using h), List.getD_cons_succ, Int.pow_succ]; grind
theorem wv_dv {a : List Int} (h : a.length = 4) : wv a = dv 18446744073709551616 a := by
  match a, h with
  | [a0, a1, a2, a3], _ => rw [wv_lanes]; simp only [dv]; omega
theorem rd_getD (a : List Int) (i : Nat) : rd a (i : Int) = a.getD i 0 := rfl
def Dig (B : Int) (a : List Int) : Prop := ∀ y ∈ a, 0 ≤ y ∧ y < B
theorem Dig.rd {B : Int} (hB : 0 < B) {a : List Int} (h : Dig B a) (i : Nat) : 0 ≤ a.getD i 0 ∧ a.getD i 0 < B := by
  rw [List.getD_eq_getElem?_getD]
  by_cases hi : i < a.length
  · rw [List.getElem?_eq_getElem hi]; exact h _ (List.getElem_mem hi)
  · rw [List.getElem?_eq_none (by omega)]; exact ⟨Int.le_refl _, hB⟩
theorem Dig.set {B : Int} {a : List Int} (h : Dig B a) (i : Nat) {v : Int} (hv : 0 ≤ v ∧ v < B) : Dig B (a.set i v) := fun y hy => by
  rcases List.mem_or_eq_of_mem_set hy with h1 | rfl
  · exact h y h1
  · exact hv
theorem Dig.nil (B : Int) : Dig B [] := fun y hy => by cases hy
theorem Dig.snoc {B : Int} {a : List Int} (h : Dig B a) {v : Int} (hv : 0 ≤ v ∧ v < B) : Dig B (a ++ [v]) := fun y hy => by
  rcases List.mem_append.1 hy with h1 | h1
  · exact h y h1
  · obtain rfl := List.mem_singleton.1 h1; exact hv
theorem dv_lt {B : Int} (hB : 0 < B) : ∀ {a : List Int}, Dig B a → 0 ≤ dv B a ∧ dv B a < B ^ a.length
  | [], _ => by simp [dv]
  | x :: r, h => by
    obtain ⟨h1, h2⟩ := h x (by simp)
    obtain ⟨h3, h4⟩ := dv_lt hB (a := r) fun y hy => h y (by simp [hy])
    have h5 : B * dv B r ≤ B * (B ^ r.length - 1) := Int.mul_le_mul_of_nonneg_left (by omega) (by omega)
    have h6 : 0 ≤ B * dv B r := Int.mul_nonneg (by omega) h3
    simp only [dv, List.length_cons, Int.pow_succ]
    have h7 : B * (B ^ r.length - 1) = B ^ r.length * B - B := by grind
    omega
theorem take_snoc {a : List Int} {i : Nat} (h : i < a.length) : a.take (i + 1) = a.take i ++ [a.getD i 0] := by
  rw [List.take_add_one, List.getElem?_eq_getElem h, List.getD_eq_getElem?_getD, List.getElem?_eq_getElem h]; rfl
theorem dv_take_succ (B : Int) {a : List Int} {i : Nat} (h : i < a.length) : dv B (a.take (i + 1)) = dv B (a.take i) + a.getD i 0 * B ^ i := by
  rw [take_snoc h, dv_append, List.length_take, Nat.min_eq_left (by omega)]
  simp only [dv]; grind
end GW
set_option linter.unusedVariables false
set_option linter.unusedSimpArgs false
set_option maxRecDepth 100000
namespace GW
open Go Go.RowKit
theorem add_step (x y acc : List Int) (q i : Nat) (c : Int) (hi : i < 4) (hx : 0 ≤ rd x i) (hy : 0 ≤ rd y i) (hc : 0 ≤ c ∧ c ≤ 1) :
    word_Add.l1 x y (q + 1) (i : Int) c acc = word_Add.l1 x y q ((i + 1 : Nat) : Int) ((rd x i + rd y i + c) / 18446744073709551616) (acc.set i ((rd x i + rd y i + c) % 18446744073709551616)) := by
  show word_Add.b1 x y _ _ _ _ = _
  unfold word_Add.b1
  rw [if_pos (by simp; omega), if_pos (by omega), if_pos ⟨hx, hy, hc.1, hc.2⟩, wr_i64_id (by omega) (by omega)]
  rfl
theorem add_eq (k : Nat) {a b : List Int} (ha : Wd a) (hb : Wd b) : ∃ c, word_Add.f (k + 5) a b = some c ∧ Wd c ∧ wv c = (wv a + wv b) % 115792089237316195423570985008687907853269984665640564039457584007913129639936 := by
  obtain ⟨a0, a1, a2, a3, rfl, h0, h1, h2, h3⟩ := ha.lanes
  obtain ⟨b0, b1, b2, b3, rfl, k0, k1, k2, k3⟩ := hb.lanes
  have r0 : ∀ x0 x1 x2 x3 : Int, rd [x0, x1, x2, x3] ((0 : Nat) : Int) = x0 := fun _ _ _ _ => rfl
  have r1 : ∀ x0 x1 x2 x3 : Int, rd [x0, x1, x2, x3] ((1 : Nat) : Int) = x1 := fun _ _ _ _ => rfl
  have r2 : ∀ x0 x1 x2 x3 : Int, rd [x0, x1, x2, x3] ((2 : Nat) : Int) = x2 := fun _ _ _ _ => rfl
  have r3 : ∀ x0 x1 x2 x3 : Int, rd [x0, x1, x2, x3] ((3 : Nat) : Int) = x3 := fun _ _ _ _ => rfl
  unfold word_Add.f
  rw [show (word_Add.l1 [a0, a1, a2, a3] [b0, b1, b2, b3] (k + 5) 0 0 [0, 0, 0, 0]) = word_Add.l1 [a0, a1, a2, a3] [b0, b1, b2, b3] (k + 4 + 1) ((0 : Nat) : Int) 0 [0, 0, 0, 0] from rfl]
  rw [add_step _ _ _ _ 0 _ (by omega) (by rw [r0]; omega) (by rw [r0]; omega) (by omega), r0, r0]
  rw [show k + 4 = k + 3 + 1 from rfl, add_step _ _ _ _ 1 _ (by omega) (by rw [r1]; omega) (by rw [r1]; omega) (by omega), r1, r1]
  rw [show k + 3 = k + 2 + 1 from rfl, add_step _ _ _ _ 2 _ (by omega) (by rw [r2]; omega) (by rw [r2]; omega) (by omega), r2, r2]
  rw [show k + 2 = k + 1 + 1 from rfl, add_step _ _ _ _ 3 _ (by omega) (by rw [r3]; omega) (by rw [r3]; omega) (by omega), r3, r3]
  refine ⟨_, rfl, Wd.mk ?_ ?_ ?_ ?_, ?_⟩
  · omega
  · omega
  · omega
  · omega
  · refine (wv_lanes _ _ _ _).trans ?_
    rw [wv_lanes, wv_lanes]
    omega
end GW
set_option linter.unusedVariables false
set_option linter.unusedSimpArgs false
set_option maxRecDepth 100000
namespace GW
open Go Go.RowKit
theorem sub_step (x y acc : List Int) (q i : Nat) (c : Int) (hi : i < 4) (hx : 0 ≤ rd x i) (hy : 0 ≤ rd y i ∧ rd y i < 18446744073709551616) (hc : 0 ≤ c ∧ c ≤ 1) :
    word_Sub.l1 x y (q + 1) (i : Int) c acc = word_Sub.l1 x y q ((i + 1 : Nat) : Int) (if rd x i < rd y i + c then 1 else 0) (acc.set i ((rd x i - rd y i - c) % 18446744073709551616)) := by
  show word_Sub.b1 x y _ _ _ _ = _
  unfold word_Sub.b1
  rw [if_pos (by simp; omega), if_pos (by omega), if_pos ⟨hx, hy, hc.1, hc.2⟩, wr_i64_id (by omega) (by omega)]
  rfl
theorem sub_eq (k : Nat) {a b : List Int} (ha : Wd a) (hb : Wd b) : ∃ c, word_Sub.f (k + 5) a b = some c ∧ Wd c ∧ wv c = (wv a - wv b) % 115792089237316195423570985008687907853269984665640564039457584007913129639936 := by
  obtain ⟨a0, a1, a2, a3, rfl, h0, h1, h2, h3⟩ := ha.lanes
  obtain ⟨b0, b1, b2, b3, rfl, k0, k1, k2, k3⟩ := hb.lanes
  have r0 : ∀ x0 x1 x2 x3 : Int, rd [x0, x1, x2, x3] ((0 : Nat) : Int) = x0 := fun _ _ _ _ => rfl
  have r1 : ∀ x0 x1 x2 x3 : Int, rd [x0, x1, x2, x3] ((1 : Nat) : Int) = x1 := fun _ _ _ _ => rfl
  have r2 : ∀ x0 x1 x2 x3 : Int, rd [x0, x1, x2, x3] ((2 : Nat) : Int) = x2 := fun _ _ _ _ => rfl
  have r3 : ∀ x0 x1 x2 x3 : Int, rd [x0, x1, x2, x3] ((3 : Nat) : Int) = x3 := fun _ _ _ _ => rfl
  have cb : ∀ (p : Prop) [Decidable p], (0 : Int) ≤ (if p then 1 else 0) ∧ (if p then (1 : Int) else 0) ≤ 1 := fun p _ => by split <;> omega
  have ce : ∀ x y c : Int, (0 ≤ x ∧ x < 18446744073709551616) → (0 ≤ y ∧ y < 18446744073709551616) → (0 ≤ c ∧ c ≤ 1) → (x - y - c) % 18446744073709551616 = x - y - c + 18446744073709551616 * (if x < y + c then 1 else 0) := fun x y c hx hy hc => by split <;> omega
  unfold word_Sub.f
  rw [show (word_Sub.l1 [a0, a1, a2, a3] [b0, b1, b2, b3] (k + 5) 0 0 [0, 0, 0, 0]) = word_Sub.l1 [a0, a1, a2, a3] [b0, b1, b2, b3] (k + 4 + 1) ((0 : Nat) : Int) 0 [0, 0, 0, 0] from rfl]
  rw [sub_step _ _ _ _ 0 _ (by omega) (by rw [r0]; omega) (by rw [r0]; omega) (by omega), r0, r0]
  rw [show k + 4 = k + 3 + 1 from rfl, sub_step _ _ _ _ 1 _ (by omega) (by rw [r1]; omega) (by rw [r1]; omega) (cb _), r1, r1]
  rw [show k + 3 = k + 2 + 1 from rfl, sub_step _ _ _ _ 2 _ (by omega) (by rw [r2]; omega) (by rw [r2]; omega) (cb _), r2, r2]
  rw [show k + 2 = k + 1 + 1 from rfl, sub_step _ _ _ _ 3 _ (by omega) (by rw [r3]; omega) (by rw [r3]; omega) (cb _), r3, r3]
  refine ⟨_, rfl, Wd.mk ?_ ?_ ?_ ?_, ?_⟩
  · omega
  · omega
  · omega
  · omega
  · refine (wv_lanes _ _ _ _).trans ?_
    rw [wv_lanes, wv_lanes]
    have e0 := ce a0 b0 0 h0 k0 (by omega)
    have c0 := cb (a0 < b0 + 0)
    rw [e0]
    generalize (if a0 < b0 + 0 then (1 : Int) else 0) = u0 at *
    have e1 := ce a1 b1 u0 h1 k1 c0
    have c1 := cb (a1 < b1 + u0)
    rw [e1]
    generalize (if a1 < b1 + u0 then (1 : Int) else 0) = u1 at *
    have e2 := ce a2 b2 u1 h2 k2 c1
    have c2 := cb (a2 < b2 + u1)
    rw [e2]
    generalize (if a2 < b2 + u1 then (1 : Int) else 0) = u2 at *
    have e3 := ce a3 b3 u2 h3 k3 c2
    have c3 := cb (a3 < b3 + u2)
    rw [e3]
    generalize (if a3 < b3 + u2 then (1 : Int) else 0) = u3 at *
    omega
end GW
set_option linter.unusedVariables false
set_option linter.unusedSimpArgs false
set_option maxRecDepth 100000
namespace GW
open Go Go.RowKit
theorem half_hi (x : Int) (h : 0 ≤ x) : shr x 32 = x / 4294967296 := by
  unfold shr
  rw [Int.fdiv_eq_ediv_of_nonneg _ (by decide)]
  rfl
theorem half_lo (x : Int) (h : 0 ≤ x) (h1 : x < 18446744073709551616) : bits .and .u64 x 4294967295 = x % 4294967296 := by
  obtain ⟨n, rfl⟩ := Int.eq_ofNat_of_zero_le h
  rw [show (4294967295 : Int) = ((4294967295 : Nat) : Int) from rfl, bits_and_u64_nat n 4294967295 (by omega) (by omega)]
  have : n &&& 4294967295 = n % 4294967296 := Nat.and_two_pow_sub_one_eq_mod n 32
  rw [this]
  omega
theorem prod_le (a b A B : Int) (ha : 0 ≤ a ∧ a ≤ A) (hb : 0 ≤ b ∧ b ≤ B) : 0 ≤ a * b ∧ a * b ≤ A * B :=
  ⟨Int.mul_nonneg ha.1 hb.1, Int.mul_le_mul ha.2 hb.2 hb.1 (by omega)⟩
theorem mul64_eq {x y : Int} (hx : 0 ≤ x ∧ x < 18446744073709551616) (hy : 0 ≤ y ∧ y < 18446744073709551616) :
    bits_Mul64.f x y = some (x * y / 18446744073709551616, x * y % 18446744073709551616) ∧ 0 ≤ x * y ∧ x * y ≤ 340282366920938463426481119284349108225 := by
  have hP := prod_le x y 18446744073709551615 18446744073709551615 (by omega) (by omega)
  refine ⟨?_, hP.1, by omega⟩
  unfold bits_Mul64.f
  rw [half_hi x hx.1, half_hi y hy.1, half_lo x hx.1 hx.2, half_lo y hy.1 hy.2]
  have ex : x = x % 4294967296 + 4294967296 * (x / 4294967296) := by omega
  have ey : y = y % 4294967296 + 4294967296 * (y / 4294967296) := by omega
  have bx0 : 0 ≤ x % 4294967296 ∧ x % 4294967296 ≤ 4294967295 := by omega
  have bx1 : 0 ≤ x / 4294967296 ∧ x / 4294967296 ≤ 4294967295 := by omega
  have by0 : 0 ≤ y % 4294967296 ∧ y % 4294967296 ≤ 4294967295 := by omega
  have by1 : 0 ≤ y / 4294967296 ∧ y / 4294967296 ≤ 4294967295 := by omega
  generalize x % 4294967296 = x0 at *
  generalize x / 4294967296 = x1 at *
  generalize y % 4294967296 = y0 at *
  generalize y / 4294967296 = y1 at *
  have pa := prod_le x0 y0 4294967295 4294967295 bx0 by0
  have pb := prod_le x1 y0 4294967295 4294967295 bx1 by0
  have pc := prod_le x0 y1 4294967295 4294967295 bx0 by1
  have pd := prod_le x1 y1 4294967295 4294967295 bx1 by1
  have e : x * y = x0 * y0 + 4294967296 * (x1 * y0 + x0 * y1) + 18446744073709551616 * (x1 * y1) := by rw [ex, ey]; grind
  rw [e] at hP
  rw [e]
  clear e ex ey hx hy
  generalize x0 * y0 = a at *
  generalize x1 * y0 = b at *
  generalize x0 * y1 = c at *
  generalize x1 * y1 = d at *
  rw [wr_u64_id (x := d) (by omega) (by omega), wr_u64_id (x := b) (by omega) (by omega), wr_u64_id (x := a) (by omega) (by omega), wr_u64_id (x := c) (by omega) (by omega), half_hi a pa.1]
  rw [wr_u64_id (x := b + a / 4294967296) (by omega) (by omega)]
  have ht : 0 ≤ b + a / 4294967296 ∧ b + a / 4294967296 < 18446744073709551616 := by omega
  generalize htt : b + a / 4294967296 = t at *
  rw [half_hi t ht.1, half_lo t ht.1 ht.2, wr_u64_id (x := t % 4294967296 + c) (by omega) (by omega), half_hi _ (by omega)]
  rw [wr_u64_id (x := d + t / 4294967296) (by omega) (by omega), wr_u64_id (x := d + t / 4294967296 + _) (by omega) (by omega), wr_u64]
  refine congrArg some (Prod.ext ?_ rfl)
  show d + t / 4294967296 + (t % 4294967296 + c) / 4294967296 = _
  omega
def BB : Int := 18446744073709551616
theorem prow_step (x y all : List Int) (rec1 : Int → List Int → Option (List Int × List Int)) (q i j : Nat) (c : Int) (hi : i < 4) (hj : j < 4) (hx : Dig BB x) (hy : Dig BB y) (ha : Dig BB all) (hc : 0 ≤ c ∧ c < BB) :
    ∃ c' v, wide_Product.l2 x y (i : Int) rec1 (q + 1) (j : Int) c all = wide_Product.l2 x y (i : Int) rec1 q ((j + 1 : Nat) : Int) c' (all.set (i + j) v) ∧ (0 ≤ c' ∧ c' < BB) ∧ (0 ≤ v ∧ v < BB) ∧ v + BB * c' = x.getD i 0 * y.getD j 0 + all.getD (i + j) 0 + c := by
  have hB : (0 : Int) < BB := by decide
  have h1 := hx.rd hB i
  have h2 := hy.rd hB j
  have h3 := ha.rd hB (i + j)
  unfold BB at h1 h2 h3 hc ⊢
  obtain ⟨m1, m2, m3⟩ := mul64_eq h1 h2
  have hw : wr .i64 ((i : Int) + (j : Int)) = ((i + j : Nat) : Int) := by rw [wr_i64_id (by omega) (by omega)]; omega
  have e : wide_Product.l2 x y (i : Int) rec1 (q + 1) (j : Int) c all = wide_Product.b2 x y (i : Int) rec1 (wide_Product.l2 x y (i : Int) rec1 q) (j : Int) c all := rfl
  rw [e]
  unfold wide_Product.b2
  rw [if_pos (by simp; omega), if_pos (by omega), if_pos (by omega), rd_getD, rd_getD, m1, Option.bind_some, hw, rd_getD, if_pos (by omega)]
  simp only []
  generalize x.getD i 0 * y.getD j 0 = p at *
  generalize all.getD (i + j) 0 = u at *
  rw [if_pos (by omega), if_pos (by omega), Int.toNat_natCast, show wr .i64 ((j : Int) + 1) = ((j + 1 : Nat) : Int) from by rw [wr_i64_id (by omega) (by omega)]; omega]
  rw [wr_u64_id (x := p / 18446744073709551616 + _) (by omega) (by omega), wr_u64_id (by omega) (by omega)]
  exact ⟨_, _, rfl, by omega, by omega, by omega⟩
theorem prow (x y : List Int) (rec1 : Int → List Int → Option (List Int × List Int)) (i : Nat) (hi : i < 4) (hx : Dig BB x) (hy : Dig BB y) (hyl : y.length = 4) : ∀ (r j q : Nat) (c : Int) (all : List Int), j + r = 4 → r < q → all.length = 8 → Dig BB all → (0 ≤ c ∧ c < BB) →
    ∃ c' all', wide_Product.l2 x y (i : Int) rec1 q (j : Int) c all = wide_Product.j3 (i : Int) rec1 c' all' ∧ (0 ≤ c' ∧ c' < BB) ∧ all'.length = 8 ∧ Dig BB all' ∧ (∀ p, i + 4 ≤ p → all'.getD p 0 = all.getD p 0) ∧
      dv BB all' + c' * BB ^ (i + 4) = dv BB all + c * BB ^ (i + j) + x.getD i 0 * (dv BB y - dv BB (y.take j)) * BB ^ i
  | 0, j, q, c, all, hj, hq, hl, ha, hc => by
    obtain ⟨q, rfl⟩ : ∃ m, q = m + 1 := ⟨q - 1, by omega⟩
    obtain rfl : j = 4 := by omega
    refine ⟨c, all, ?_, hc, hl, ha, fun p _ => rfl, ?_⟩
    · show wide_Product.b2 x y _ _ _ _ _ _ = _
      unfold wide_Product.b2
      rw [if_neg (by simp)]
    · rw [List.take_of_length_le (by omega), Int.sub_self, Int.mul_zero, Int.zero_mul, Int.add_zero]
  | r + 1, j, q, c, all, hj, hq, hl, ha, hc => by
    obtain ⟨q, rfl⟩ : ∃ m, q = m + 1 := ⟨q - 1, by omega⟩
    obtain ⟨c1, v, e1, hc1, hv, e2⟩ := prow_step x y all rec1 q i j c hi (by omega) hx hy ha hc
    obtain ⟨c', all', f1, f2, f3, f4, f5, f6⟩ := prow x y rec1 i hi hx hy hyl r (j + 1) q c1 (all.set (i + j) v) (by omega) (by omega) (by simpa using hl) (ha.set _ hv) hc1
    refine ⟨c', all', e1.trans f1, f2, f3, f4, fun p hp => ?_, ?_⟩
    · rw [f5 p hp, List.getD_eq_getElem?_getD, List.getElem?_set_ne (by omega), ← List.getD_eq_getElem?_getD]
    · rw [f6, dv_set _ _ _ _ (by omega), dv_take_succ BB (a := y) (i := j) (by omega)]
      have e3 : BB ^ (i + (j + 1)) = BB * BB ^ (i + j) := by rw [← Nat.add_assoc, Int.pow_succ, Int.mul_comm]
      have e4 : BB ^ (i + j) = BB ^ i * BB ^ j := Int.pow_add _ _ _
      rw [e3, e4]
      have e5 : v = x.getD i 0 * y.getD j 0 + all.getD (i + j) 0 + c - BB * c1 := by omega
      rw [e5]
      grind
theorem prod_loop (k : Nat) (hk : 5 ≤ k) (x y : List Int) (hx : Dig BB x) (hy : Dig BB y) (hxl : x.length = 4) (hyl : y.length = 4) : ∀ (r i q : Nat) (all : List Int), i + r = 4 → r < q → all.length = 8 → Dig BB all → (∀ p, i + 4 ≤ p → all.getD p 0 = 0) → dv BB all = dv BB (x.take i) * dv BB y →
    ∃ all', wide_Product.l1 k x y q (i : Int) all = wide_Product.j1 all' ∧ all'.length = 8 ∧ Dig BB all' ∧ dv BB all' = dv BB x * dv BB y
  | 0, i, q, all, hi, hq, hl, ha, hz, he => by
    obtain ⟨q, rfl⟩ : ∃ m, q = m + 1 := ⟨q - 1, by omega⟩
    obtain rfl : i = 4 := by omega
    refine ⟨all, ?_, hl, ha, ?_⟩
    · show wide_Product.b1 k x y _ _ _ = _
      unfold wide_Product.b1
      rw [if_neg (by simp)]
    · rw [he, List.take_of_length_le (by omega)]
  | r + 1, i, q, all, hi, hq, hl, ha, hz, he => by
    obtain ⟨q, rfl⟩ : ∃ m, q = m + 1 := ⟨q - 1, by omega⟩
    obtain ⟨c', all1, f1, f2, f3, f4, f5, f6⟩ := prow x y (wide_Product.l1 k x y q) i (by omega) hx hy hyl 4 0 k 0 all rfl (by omega) hl ha (by decide)
    have e1 : wide_Product.l1 k x y (q + 1) (i : Int) all = wide_Product.l1 k x y q ((i + 1 : Nat) : Int) (all1.set (i + 4) c') := by
      show wide_Product.b1 k x y _ _ _ = _
      unfold wide_Product.b1
      rw [if_pos (by simp; omega)]
      refine f1.trans ?_
      unfold wide_Product.j3
      have hw : wr .i64 ((i : Int) + 4) = ((i + 4 : Nat) : Int) := by rw [wr_i64_id (by omega) (by omega)]; omega
      rw [hw, if_pos (by omega), Int.toNat_natCast]
      unfold wide_Product.j2
      rw [show wr .i64 ((i : Int) + 1) = ((i + 1 : Nat) : Int) from by rw [wr_i64_id (by omega) (by omega)]; omega]
    have hz1 : all1.getD (i + 4) 0 = 0 := (f5 (i + 4) (by omega)).trans (hz (i + 4) (by omega))
    obtain ⟨all', g1, g2, g3, g4⟩ := prod_loop k hk x y hx hy hxl hyl r (i + 1) q (all1.set (i + 4) c') (by omega) (by omega) (by simpa using f3) (f4.set _ f2)
      (fun p hp => by rw [List.getD_eq_getElem?_getD, List.getElem?_set_ne (by omega), ← List.getD_eq_getElem?_getD, f5 p (by omega), hz p (by omega)])
      (by
        rw [dv_set _ _ _ _ (by omega), hz1, dv_take_succ BB (a := x) (i := i) (by omega)]
        rw [he] at f6
        simp only [List.take_zero, dv] at f6
        grind)
    exact ⟨all', e1.trans g1, g2, g3, g4⟩
theorem product_eq (k : Nat) {a b : List Int} (ha : Wd a) (hb : Wd b) : ∃ lo hi, wide_Product.f (k + 5) a b = some (lo, hi) ∧ Wd lo ∧ Wd hi ∧ wv lo + 115792089237316195423570985008687907853269984665640564039457584007913129639936 * wv hi = wv a * wv b := by
  have dg : ∀ {x : List Int}, Wd x → Dig BB x := fun h y hy => inK_u64 (h.2 y hy)
  obtain ⟨all, e, hl, hd, hv⟩ := prod_loop (k + 5) (by omega) a b (dg ha) (dg hb) ha.1 hb.1 4 0 (k + 5) [0, 0, 0, 0, 0, 0, 0, 0] rfl (by omega) rfl (by unfold Dig; decide)
    (fun p hp => by
      match p with
      | 0 | 1 | 2 | 3 => omega
      | 4 | 5 | 6 | 7 => rfl
      | p + 8 => rfl)
    (by simp only [List.take_zero, dv]; omega)
  refine ⟨(all.drop 0).take 4, (all.drop 4).take 4, ?_, ⟨by simp [hl], fun y hy => ?_⟩, ⟨by simp [hl], fun y hy => ?_⟩, ?_⟩
  · unfold wide_Product.f
    exact e
  · obtain ⟨h0, h1⟩ := hd y (List.drop_subset _ _ (List.take_subset _ _ hy))
    exact inK_of_u64 h0 h1
  · obtain ⟨h0, h1⟩ := hd y (List.drop_subset _ _ (List.take_subset _ _ hy))
    exact inK_of_u64 h0 h1
  · rw [wv_dv (by simp [hl]), wv_dv (by simp [hl]), wv_dv ha.1, wv_dv hb.1]
    have h1 : dv BB all = dv BB (all.take 4) + BB ^ 4 * dv BB (all.drop 4) := by
      have := dv_append BB (all.take 4) (all.drop 4)
      rw [List.take_append_drop, List.length_take, Nat.min_eq_left (by omega)] at this
      exact this
    rw [List.drop_zero, List.take_of_length_le (l := all.drop 4) (by simp [hl])]
    rw [show (18446744073709551616 : Int) = BB from rfl, ← hv, h1]
    rfl
end GW
set_option linter.unusedVariables false
set_option linter.unusedSimpArgs false
set_option maxRecDepth 100000
namespace GW
open Go Go.RowKit
theorem dv_split (B : Int) : ∀ (a : List Int) (i : Nat), dv B a = dv B (a.take i) + a.getD i 0 * B ^ i + B ^ (i + 1) * dv B (a.drop (i + 1))
  | [], i => by simp [dv]
  | x :: r, 0 => by simp [dv, Int.pow_succ]
  | x :: r, i + 1 => by
    have := dv_split B r i
    simp only [List.take_succ_cons, dv, List.getD_cons_succ, List.drop_succ_cons, Int.pow_succ] at this ⊢
    rw [this]
    grind
theorem dv_zero (B : Int) : ∀ (a : List Int), (∀ j, a.getD j 0 = 0) → dv B a = 0
  | [], _ => rfl
  | x :: r, h => by
    have h0 : x = 0 := h 0
    rw [dv, dv_zero B r (fun j => h (j + 1)), h0, Int.mul_zero, Int.add_zero]
theorem dv_ext (B : Int) : ∀ (a b : List Int), (∀ j, a.getD j 0 = b.getD j 0) → dv B a = dv B b
  | [], b, h => (dv_zero B b (fun j => (h j).symm.trans (by simp))).symm
  | x :: r, [], h => dv_zero B (x :: r) (fun j => (h j).trans (by simp))
  | x :: r, y :: s, h => by
    have h0 : x = y := h 0
    rw [dv, dv, h0, dv_ext B r s (fun j => h (j + 1))]
theorem Dig.take {B : Int} {a : List Int} (h : Dig B a) (i : Nat) : Dig B (a.take i) := fun y hy => h y (List.take_subset _ _ hy)
theorem Dig.drop {B : Int} {a : List Int} (h : Dig B a) (i : Nat) : Dig B (a.drop i) := fun y hy => h y (List.drop_subset _ _ hy)
theorem getD_drop (a : List Int) (i j : Nat) : (a.drop i).getD j 0 = a.getD (i + j) 0 := by
  rw [List.getD_eq_getElem?_getD, List.getD_eq_getElem?_getD, List.getElem?_drop]
theorem dv_at {B : Int} (hB : 0 < B) {a b : List Int} (ha : Dig B a) (hb : Dig B b) (i : Nat) (hi : ∀ j, i < j → a.getD j 0 = b.getD j 0) (h : a.getD i 0 < b.getD i 0) : dv B a < dv B b := by
  have e : dv B (a.drop (i + 1)) = dv B (b.drop (i + 1)) := dv_ext B _ _ (fun j => by rw [getD_drop, getD_drop, hi _ (by omega)])
  rw [dv_split B a i, dv_split B b i, e]
  obtain ⟨_, h1⟩ := dv_lt hB (ha.take i)
  obtain ⟨h2, _⟩ := dv_lt hB (hb.take i)
  have h3 : B ^ (a.take i).length ≤ B ^ i := by
    have : ∀ m n : Nat, m ≤ n → B ^ m ≤ B ^ n := fun m n hmn => by
      obtain ⟨d, rfl⟩ := Nat.exists_eq_add_of_le hmn
      rw [Int.pow_add]
      have := Int.pow_pos (n := B) (m := d) hB
      have h4 : B ^ m * 1 ≤ B ^ m * B ^ d := Int.mul_le_mul_of_nonneg_left (by omega) (Int.le_of_lt (Int.pow_pos hB))
      omega
    exact this _ _ (by rw [List.length_take]; omega)
  have h4 : (a.getD i 0 + 1) * B ^ i ≤ b.getD i 0 * B ^ i := Int.mul_le_mul_of_nonneg_right (by omega) (Int.le_of_lt (Int.pow_pos hB))
  rw [Int.add_mul, Int.one_mul] at h4
  omega
theorem of_lanesW (k : Nat) (x0 x1 x2 x3 : Int) : smithyref01_Of.f (k + 40) [x0, x1, x2, x3] = some [wr .i64 (Int.tmod (shr x0 0) 256), wr .i64 (Int.tmod (shr x0 8) 256), wr .i64 (Int.tmod (shr x0 16) 256), wr .i64 (Int.tmod (shr x0 24) 256), wr .i64 (Int.tmod (shr x0 32) 256), wr .i64 (Int.tmod (shr x0 40) 256), wr .i64 (Int.tmod (shr x0 48) 256), wr .i64 (Int.tmod (shr x0 56) 256), wr .i64 (Int.tmod (shr x1 0) 256), wr .i64 (Int.tmod (shr x1 8) 256), wr .i64 (Int.tmod (shr x1 16) 256), wr .i64 (Int.tmod (shr x1 24) 256), wr .i64 (Int.tmod (shr x1 32) 256), wr .i64 (Int.tmod (shr x1 40) 256), wr .i64 (Int.tmod (shr x1 48) 256), wr .i64 (Int.tmod (shr x1 56) 256), wr .i64 (Int.tmod (shr x2 0) 256), wr .i64 (Int.tmod (shr x2 8) 256), wr .i64 (Int.tmod (shr x2 16) 256), wr .i64 (Int.tmod (shr x2 24) 256), wr .i64 (Int.tmod (shr x2 32) 256), wr .i64 (Int.tmod (shr x2 40) 256), wr .i64 (Int.tmod (shr x2 48) 256), wr .i64 (Int.tmod (shr x2 56) 256), wr .i64 (Int.tmod (shr x3 0) 256), wr .i64 (Int.tmod (shr x3 8) 256), wr .i64 (Int.tmod (shr x3 16) 256), wr .i64 (Int.tmod (shr x3 24) 256), wr .i64 (Int.tmod (shr x3 32) 256), wr .i64 (Int.tmod (shr x3 40) 256), wr .i64 (Int.tmod (shr x3 48) 256), wr .i64 (Int.tmod (shr x3 56) 256)] := by kernel_rfl
theorem limb_dig (x : Int) (n : Nat) (h : 0 ≤ x) (h1 : x < 18446744073709551616) : wr .i64 (Int.tmod (shr x n) 256) = x / 2 ^ n % 256 := by
  unfold shr
  have hp : (0 : Int) < 2 ^ n := Int.pow_pos (by omega)
  rw [Int.fdiv_eq_ediv_of_nonneg _ (Int.le_of_lt hp)]
  have h2 : 0 ≤ x / 2 ^ n := Int.ediv_nonneg h (Int.le_of_lt hp)
  rw [tmod_pos h2, wr_i64_id (by omega) (by omega)]
theorem limb_dv (x : Int) (h : 0 ≤ x) (h1 : x < 18446744073709551616) (r : List Int) : dv 256 (x / 2 ^ 0 % 256 :: x / 2 ^ 8 % 256 :: x / 2 ^ 16 % 256 :: x / 2 ^ 24 % 256 :: x / 2 ^ 32 % 256 :: x / 2 ^ 40 % 256 :: x / 2 ^ 48 % 256 :: x / 2 ^ 56 % 256 :: r) = x + 18446744073709551616 * dv 256 r := by
  simp only [dv, Int.reducePow]
  generalize dv 256 r = y
  omega
theorem ofD_eq (k : Nat) {a : List Int} (ha : Wd a) : ∃ d, smithyref01_Of.f (k + 40) a = some d ∧ d.length = 32 ∧ Dig 256 d ∧ dv 256 d = wv a := by
  obtain ⟨a0, a1, a2, a3, rfl, h0, h1, h2, h3⟩ := ha.lanes
  refine ⟨_, of_lanesW k a0 a1 a2 a3, rfl, ?_, ?_⟩
  · intro y hy
    simp only [limb_dig a0 _ h0.1 h0.2, limb_dig a1 _ h1.1 h1.2, limb_dig a2 _ h2.1 h2.2, limb_dig a3 _ h3.1 h3.2, List.mem_cons, List.not_mem_nil, or_false] at hy
    rcases hy with rfl | rfl | rfl | rfl | rfl | rfl | rfl | rfl | rfl | rfl | rfl | rfl | rfl | rfl | rfl | rfl | rfl | rfl | rfl | rfl | rfl | rfl | rfl | rfl | rfl | rfl | rfl | rfl | rfl | rfl | rfl | rfl <;> omega
  · simp only [limb_dig a0 _ h0.1 h0.2, limb_dig a1 _ h1.1 h1.2, limb_dig a2 _ h2.1 h2.2, limb_dig a3 _ h3.1 h3.2]
    rw [limb_dv a0 h0.1 h0.2, limb_dv a1 h1.1 h1.2, limb_dv a2 h2.1 h2.2, limb_dv a3 h3.1 h3.2, wv_lanes]
    simp only [dv]
    omega
end GW
set_option linter.unusedVariables false
set_option linter.unusedSimpArgs false
set_option maxRecDepth 100000
namespace GW
open Go Go.RowKit
def cmpI (a b : Int) : Int := if a = b then 0 else if a < b then -1 else 1
theorem cmp_step (x y : List Int) (q i : Nat) (hi : i < 4) (h : rd x i = rd y i) : word_Compare.l1 x y (q + 1) (i : Int) = word_Compare.l1 x y q ((i : Int) - 1) := by
  show word_Compare.b1 x y _ _ = _
  unfold word_Compare.b1
  rw [if_pos (by omega), if_pos (by simpa using h), wr_i64_id (by omega) (by omega)]
theorem cmp_stop (x y : List Int) (q i : Nat) (hi : i < 4) (h : rd x i ≠ rd y i) : word_Compare.l1 x y (q + 1) (i : Int) = some (if rd x i < rd y i then -1 else 1) := by
  show word_Compare.b1 x y _ _ = _
  unfold word_Compare.b1
  rw [if_pos (by omega), if_neg (by simpa using h)]
  unfold word_Compare.j1
  rw [if_pos (by omega)]
  by_cases c : rd x i < rd y i
  · rw [if_pos (by simpa using c), if_pos c]
  · rw [if_neg (by simpa using c), if_neg c]
theorem cmp_eq (k : Nat) {a b : List Int} (ha : Wd a) (hb : Wd b) : word_Compare.f (k + 5) a b = some (cmpI (wv a) (wv b)) := by
  unfold word_Compare.f cmpI
  by_cases e : a = b
  · subst e
    rw [if_pos (by simp), if_pos rfl]
  rw [if_neg (by simpa using e), if_neg (fun h => e (ha.inj hb h))]
  obtain ⟨a0, a1, a2, a3, rfl, h0, h1, h2, h3⟩ := ha.lanes
  obtain ⟨b0, b1, b2, b3, rfl, k0, k1, k2, k3⟩ := hb.lanes
  have r0 : ∀ x0 x1 x2 x3 : Int, rd [x0, x1, x2, x3] ((0 : Nat) : Int) = x0 := fun _ _ _ _ => rfl
  have r1 : ∀ x0 x1 x2 x3 : Int, rd [x0, x1, x2, x3] ((1 : Nat) : Int) = x1 := fun _ _ _ _ => rfl
  have r2 : ∀ x0 x1 x2 x3 : Int, rd [x0, x1, x2, x3] ((2 : Nat) : Int) = x2 := fun _ _ _ _ => rfl
  have r3 : ∀ x0 x1 x2 x3 : Int, rd [x0, x1, x2, x3] ((3 : Nat) : Int) = x3 := fun _ _ _ _ => rfl
  have goal : ∀ (p q : Int), (p < q ↔ wv [a0, a1, a2, a3] < wv [b0, b1, b2, b3]) → some (if p < q then (-1 : Int) else 1) = some (if wv [a0, a1, a2, a3] < wv [b0, b1, b2, b3] then -1 else 1) := fun p q h => by
    by_cases c : p < q
    · rw [if_pos c, if_pos (h.1 c)]
    · rw [if_neg c, if_neg (fun u => c (h.2 u))]
  simp only [wv_lanes] at goal ⊢
  rw [show (word_Compare.l1 [a0, a1, a2, a3] [b0, b1, b2, b3] (k + 5) 3) = word_Compare.l1 [a0, a1, a2, a3] [b0, b1, b2, b3] (k + 4 + 1) ((3 : Nat) : Int) from rfl]
  by_cases c3 : a3 = b3
  · rw [cmp_step [a0, a1, a2, a3] [b0, b1, b2, b3] _ 3 (by omega) c3, show (((3 : Nat) : Int) - 1) = ((2 : Nat) : Int) from rfl, show k + 4 = k + 3 + 1 from rfl]
    by_cases c2 : a2 = b2
    · rw [cmp_step [a0, a1, a2, a3] [b0, b1, b2, b3] _ 2 (by omega) c2, show (((2 : Nat) : Int) - 1) = ((1 : Nat) : Int) from rfl, show k + 3 = k + 2 + 1 from rfl]
      by_cases c1 : a1 = b1
      · rw [cmp_step [a0, a1, a2, a3] [b0, b1, b2, b3] _ 1 (by omega) c1, show (((1 : Nat) : Int) - 1) = ((0 : Nat) : Int) from rfl, show k + 2 = k + 1 + 1 from rfl]
        by_cases c0 : a0 = b0
        · exact absurd (by rw [c0, c1, c2, c3]) e
        · rw [cmp_stop [a0, a1, a2, a3] [b0, b1, b2, b3] _ 0 (by omega) c0, r0, r0]; exact goal _ _ (by omega)
      · rw [cmp_stop [a0, a1, a2, a3] [b0, b1, b2, b3] _ 1 (by omega) c1, r1, r1]; exact goal _ _ (by omega)
    · rw [cmp_stop [a0, a1, a2, a3] [b0, b1, b2, b3] _ 2 (by omega) c2, r2, r2]; exact goal _ _ (by omega)
  · rw [cmp_stop [a0, a1, a2, a3] [b0, b1, b2, b3] _ 3 (by omega) c3, r3, r3]; exact goal _ _ (by omega)
theorem cmpI_lt (a b : Int) : decide (cmpI a b < 0) = decide (a < b) := by
  unfold cmpI
  by_cases h : a = b
  · subst h; simp
  · rw [if_neg h]
    by_cases k : a < b
    · rw [if_pos k]; simp [k]
    · rw [if_neg k]; simp [k]
end GW
set_option linter.unusedVariables false
set_option linter.unusedSimpArgs false
set_option maxRecDepth 100000
namespace GW
open Go Go.RowKit
theorem cmpD_loop {x y : List Int} (hx : Dig 256 x) (hy : Dig 256 y) (hxl : x.length = 32) (hyl : y.length = 32) : ∀ (r q : Nat), r ≤ 32 → r < q → (∀ j, r ≤ j → x.getD j 0 = y.getD j 0) → smithyref01_Compare.l1 x y q ((r : Int) - 1) = some (cmpI (dv 256 x) (dv 256 y))
  | 0, q, hr, hq, h => by
    obtain ⟨q, rfl⟩ : ∃ m, q = m + 1 := ⟨q - 1, by omega⟩
    show smithyref01_Compare.b1 x y _ _ = _
    unfold smithyref01_Compare.b1 smithyref01_Compare.j1
    rw [if_neg (by simp), dv_ext 256 x y (fun j => h j (by omega))]
    simp [cmpI]
  | r + 1, q, hr, hq, h => by
    obtain ⟨q, rfl⟩ : ∃ m, q = m + 1 := ⟨q - 1, by omega⟩
    rw [show ((r + 1 : Nat) : Int) - 1 = (r : Int) from by omega]
    show smithyref01_Compare.b1 x y _ _ = _
    unfold smithyref01_Compare.b1
    rw [if_pos (by simp), if_pos (by omega), rd_getD, rd_getD]
    by_cases c : x.getD r 0 < y.getD r 0
    · rw [if_pos (by simpa using c)]
      have := dv_at (by omega) hx hy r (fun j hj => h j (by omega)) c
      unfold cmpI
      rw [if_neg (by omega), if_pos this]
    rw [if_neg (by simpa using c)]
    by_cases c2 : y.getD r 0 < x.getD r 0
    · rw [if_pos (by simpa using c2)]
      have := dv_at (by omega) hy hx r (fun j hj => (h j (by omega)).symm) c2
      unfold cmpI
      rw [if_neg (by omega), if_neg (by omega)]
    rw [if_neg (by simpa using c2), wr_i64_id (by omega) (by omega)]
    refine cmpD_loop hx hy hxl hyl r q (by omega) (by omega) (fun j hj => ?_)
    by_cases e : j = r
    · subst e; omega
    · exact h j (by omega)
theorem cmpD_eq (k : Nat) {x y : List Int} (hx : Dig 256 x) (hy : Dig 256 y) (hxl : x.length = 32) (hyl : y.length = 32) : smithyref01_Compare.f (k + 40) x y = some (cmpI (dv 256 x) (dv 256 y)) :=
  cmpD_loop hx hy hxl hyl 32 (k + 40) (by omega) (by omega) (fun j hj => by rw [List.getD_eq_getElem?_getD, List.getD_eq_getElem?_getD, List.getElem?_eq_none (by omega), List.getElem?_eq_none (by omega)])
end GW
set_option linter.unusedVariables false
set_option linter.unusedSimpArgs false
set_option maxRecDepth 100000
namespace GW
open Go Go.RowKit
theorem ofN_loop {d : List Int} (hl : d.length = 32) : ∀ (r i q : Nat) (acc : List Int), i + r = 32 → r < q → acc = d.take i → smithyref02_Of.l1 d q (i : Int) acc = some d
  | 0, i, q, acc, hi, hq, ha => by
    obtain ⟨q, rfl⟩ : ∃ m, q = m + 1 := ⟨q - 1, by omega⟩
    obtain rfl : i = 32 := by omega
    show smithyref02_Of.b1 d _ _ _ = _
    unfold smithyref02_Of.b1 smithyref02_Of.j1
    rw [if_neg (by simp), ha, List.take_of_length_le (by omega)]
  | r + 1, i, q, acc, hi, hq, ha => by
    obtain ⟨q, rfl⟩ : ∃ m, q = m + 1 := ⟨q - 1, by omega⟩
    have hal : acc.length = i := by rw [ha, List.length_take]; omega
    show smithyref02_Of.b1 d _ _ _ = _
    unfold smithyref02_Of.b1
    rw [if_pos (by simp; omega), if_pos (by omega), if_pos (by simp; omega), show wr .i64 ((i : Int) + 1) = ((i + 1 : Nat) : Int) from by rw [wr_i64_id (by omega) (by omega)]; omega]
    exact ofN_loop hl r (i + 1) q _ (by omega) (by omega) (by rw [ha, rd_getD, take_snoc (by omega)])
theorem ofN_eq (k : Nat) {a : List Int} (ha : Wd a) : ∃ d, smithyref02_Of.f (k + 40) a = some d ∧ d.length = 32 ∧ Dig 256 d ∧ dv 256 d = wv a := by
  obtain ⟨d, e, hl, hd, hv⟩ := ofD_eq k ha
  refine ⟨d, ?_, hl, hd, hv⟩
  unfold smithyref02_Of.f
  rw [e, Option.bind_some]
  exact ofN_loop hl 32 0 (k + 40) [] (by omega) (by omega) rfl
theorem atN_eq (x : List Int) (i : Nat) : smithyref02_at.f x (i : Int) = some (x.getD i 0) := by
  unfold smithyref02_at.f
  by_cases h : i < x.length
  · rw [if_pos (by simp; omega), if_pos (by omega), rd_getD]
  · rw [if_neg (by simp; omega), List.getD_eq_getElem?_getD, List.getElem?_eq_none (by omega)]; rfl
theorem plus_loop {x y : List Int} (hx : Dig 256 x) (hy : Dig 256 y) (hxl : x.length < 1000000) (hyl : y.length < 1000000) : ∀ (r i q : Nat) (c : Int) (acc : List Int), i + r = max x.length y.length + 1 → r < q → acc.length = i → Dig 256 acc → (0 ≤ c ∧ c ≤ 1) → dv 256 acc + c * 256 ^ i = dv 256 (x.take i) + dv 256 (y.take i) →
    ∃ z, smithyref02_Plus.l1 x y q (i : Int) c acc = some z ∧ z.length = max x.length y.length + 1 ∧ Dig 256 z ∧ (∃ c', (0 ≤ c' ∧ c' ≤ 1) ∧ dv 256 z + c' * 256 ^ (max x.length y.length + 1) = dv 256 x + dv 256 y)
  | 0, i, q, c, acc, hi, hq, hal, hd, hc, he => by
    obtain ⟨q, rfl⟩ : ∃ m, q = m + 1 := ⟨q - 1, by omega⟩
    refine ⟨acc, ?_, by omega, hd, c, hc, ?_⟩
    · show smithyref02_Plus.b1 x y _ _ _ _ = _
      unfold smithyref02_Plus.b1 smithyref02_Plus.j1
      rw [if_neg]
      have : imax (x.length : Int) (y.length : Int) = ((max x.length y.length : Nat) : Int) := by unfold imax; split <;> omega
      rw [this, wr_i64_id (by omega) (by omega)]
      simp; omega
    · rw [List.take_of_length_le (by omega), List.take_of_length_le (by omega)] at he
      rw [← he, show max x.length y.length + 1 = i by omega]
  | r + 1, i, q, c, acc, hi, hq, hal, hd, hc, he => by
    obtain ⟨q, rfl⟩ : ∃ m, q = m + 1 := ⟨q - 1, by omega⟩
    have hm : imax (x.length : Int) (y.length : Int) = ((max x.length y.length : Nat) : Int) := by unfold imax; split <;> omega
    have h1 := hx.rd (by omega) i
    have h2 := hy.rd (by omega) i
    have e : smithyref02_Plus.l1 x y (q + 1) (i : Int) c acc = smithyref02_Plus.l1 x y q ((i + 1 : Nat) : Int) ((x.getD i 0 + y.getD i 0 + c) / 256) (acc ++ [(x.getD i 0 + y.getD i 0 + c) % 256]) := by
      show smithyref02_Plus.b1 x y _ _ _ _ = _
      unfold smithyref02_Plus.b1
      rw [if_pos (by rw [hm, wr_i64_id (by omega) (by omega)]; simp; omega), atN_eq, Option.bind_some, atN_eq, Option.bind_some, if_pos (by simp; omega), show wr .i64 ((i : Int) + 1) = ((i + 1 : Nat) : Int) from by rw [wr_i64_id (by omega) (by omega)]; omega]
      rw [wr_i64_id (x := x.getD i 0 + y.getD i 0) (by omega) (by omega), wr_i64_id (x := x.getD i 0 + y.getD i 0 + c) (by omega) (by omega), tdiv_pos (by omega), tmod_pos (by omega), wr_i64_id (by omega) (by omega)]
    rw [e]
    refine plus_loop hx hy hxl hyl r (i + 1) q _ _ (by omega) (by omega) (by simp [hal]) (hd.snoc (by omega)) (by omega) ?_
    have tk : ∀ w : List Int, dv 256 (w.take (i + 1)) = dv 256 (w.take i) + w.getD i 0 * 256 ^ i := fun w => by
      by_cases h : i < w.length
      · exact dv_take_succ 256 h
      · rw [List.take_of_length_le (by omega), List.take_of_length_le (by omega), List.getD_eq_getElem?_getD, List.getElem?_eq_none (by omega)]; simp
    rw [dv_append, tk x, tk y, hal]
    simp only [dv, Int.mul_zero, Int.add_zero]
    have h5 : (x.getD i 0 + y.getD i 0 + c) = (x.getD i 0 + y.getD i 0 + c) % 256 + 256 * ((x.getD i 0 + y.getD i 0 + c) / 256) := by omega
    generalize (x.getD i 0 + y.getD i 0 + c) % 256 = u at *
    generalize (x.getD i 0 + y.getD i 0 + c) / 256 = v at *
    rw [Int.pow_succ]
    grind
theorem pow_le_pow {B : Int} (hB : 0 < B) {m n : Nat} (h : m ≤ n) : B ^ m ≤ B ^ n := by
  obtain ⟨d, rfl⟩ := Nat.exists_eq_add_of_le h
  rw [Int.pow_add]
  have := Int.pow_pos (n := B) (m := d) hB
  have h4 : B ^ m * 1 ≤ B ^ m * B ^ d := Int.mul_le_mul_of_nonneg_left (by omega) (Int.le_of_lt (Int.pow_pos hB))
  omega
theorem plusN_eq (k : Nat) {x y : List Int} (hx : Dig 256 x) (hy : Dig 256 y) (hxl : x.length < 1000000) (hyl : y.length < 1000000) (hk : max x.length y.length + 1 < k) : ∃ z, smithyref02_Plus.f k x y = some z ∧ z.length = max x.length y.length + 1 ∧ Dig 256 z ∧ dv 256 z = dv 256 x + dv 256 y := by
  obtain ⟨z, e, hl, hd, c', hc, hv⟩ := plus_loop hx hy hxl hyl (max x.length y.length + 1) 0 k 0 [] (by omega) hk rfl (Dig.nil _) (by omega) (by simp [dv])
  refine ⟨z, e, hl, hd, ?_⟩
  have h1 := dv_lt (by omega) hx
  have h2 := dv_lt (by omega) hy
  have h3 := dv_lt (by omega) hd
  have h4 : (256 : Int) ^ x.length ≤ 256 ^ (max x.length y.length) := pow_le_pow (by omega) (by omega)
  have h5 : (256 : Int) ^ y.length ≤ 256 ^ (max x.length y.length) := pow_le_pow (by omega) (by omega)
  rw [Int.pow_succ] at hv
  generalize (256 : Int) ^ (max x.length y.length) = p at *
  have : c' = 0 ∨ c' = 1 := by omega
  rcases this with rfl | rfl <;> omega
theorem less_loop {x y : List Int} (hx : Dig 256 x) (hy : Dig 256 y) : ∀ (r q : Nat), r ≤ 10000000 → r < q → (∀ j, r ≤ j → x.getD j 0 = y.getD j 0) → smithyref02_Less.l1 x y q ((r : Int) - 1) = some (decide (dv 256 x < dv 256 y))
  | 0, q, hr, hq, h => by
    obtain ⟨q, rfl⟩ : ∃ m, q = m + 1 := ⟨q - 1, by omega⟩
    show smithyref02_Less.b1 x y _ _ = _
    unfold smithyref02_Less.b1 smithyref02_Less.j1
    rw [if_neg (by simp), dv_ext 256 x y (fun j => h j (by omega))]
    simp
  | r + 1, q, hr, hq, h => by
    obtain ⟨q, rfl⟩ : ∃ m, q = m + 1 := ⟨q - 1, by omega⟩
    rw [show ((r + 1 : Nat) : Int) - 1 = (r : Int) from by omega]
    show smithyref02_Less.b1 x y _ _ = _
    unfold smithyref02_Less.b1
    rw [if_pos (by simp)]
    simp only [atN_eq, Option.bind_some]
    by_cases c : x.getD r 0 = y.getD r 0
    · rw [if_neg (by simpa using c), wr_i64_id (by omega) (by omega)]
      refine less_loop hx hy r q (by omega) (by omega) (fun j hj => ?_)
      by_cases e : j = r
      · subst e; exact c
      · exact h j (by omega)
    rw [if_pos (by simpa using c)]
    by_cases c1 : x.getD r 0 < y.getD r 0
    · have := dv_at (by omega) hx hy r (fun j hj => h j (by omega)) c1
      rw [decide_eq_true c1, decide_eq_true this]
    · have := dv_at (by omega) hy hx r (fun j hj => (h j (by omega)).symm) (by omega)
      rw [decide_eq_false c1, decide_eq_false (by omega)]
theorem lessN_eq (k : Nat) {x y : List Int} (hx : Dig 256 x) (hy : Dig 256 y) (hxl : x.length < 1000000) (hyl : y.length < 1000000) (hk : max x.length y.length < k) : smithyref02_Less.f k x y = some (decide (dv 256 x < dv 256 y)) := by
  unfold smithyref02_Less.f
  have hm : imax (x.length : Int) (y.length : Int) = ((max x.length y.length : Nat) : Int) := by unfold imax; split <;> omega
  rw [hm, wr_i64_id (by omega) (by omega)]
  exact less_loop hx hy (max x.length y.length) k (by omega) hk (fun j hj => by rw [List.getD_eq_getElem?_getD, List.getD_eq_getElem?_getD, List.getElem?_eq_none (by omega), List.getElem?_eq_none (by omega)])
end GW
set_option linter.unusedVariables false
set_option linter.unusedSimpArgs false
set_option maxRecDepth 100000
namespace GW
open Go Go.RowKit
end GW
set_option linter.unusedVariables false
set_option linter.unusedSimpArgs false
set_option maxRecDepth 100000
namespace GW
open Go Go.RowKit
theorem getD_nil_ge (x : List Int) (i : Nat) (h : x.length ≤ i) : x.getD i 0 = 0 := by rw [List.getD_eq_getElem?_getD, List.getElem?_eq_none h]; rfl
theorem dv_take_succ' (B : Int) (w : List Int) (i : Nat) : dv B (w.take (i + 1)) = dv B (w.take i) + w.getD i 0 * B ^ i := by
  by_cases h : i < w.length
  · exact dv_take_succ B h
  · rw [List.take_of_length_le (by omega), List.take_of_length_le (by omega), getD_nil_ge _ _ (by omega)]; simp
theorem trow {x y : List Int} (hx : Dig 256 x) (hy : Dig 256 y) (hxl : x.length < 1000000) (hyl : y.length < 1000000) (i : Nat) (hi : i < x.length) (rec1 : Int → List Int → Option (List Int)) (T : Int) (hT : T < 256 ^ (i + 1 + y.length)) :
    ∀ (r j q : Nat) (c : Int) (out : List Int), j + r = y.length + 1 → r < q → out.length = x.length + y.length + 1 → Dig 256 out → (0 ≤ c ∧ c < 256) → dv 256 out + c * 256 ^ (i + j) + x.getD i 0 * (dv 256 y - dv 256 (y.take j)) * 256 ^ i = T →
    ∃ out', smithyref02_Times.l2 x y (i : Int) rec1 q (j : Int) c out = smithyref02_Times.j2 (i : Int) rec1 out' ∧ out'.length = x.length + y.length + 1 ∧ Dig 256 out' ∧ dv 256 out' = T
  | r, j, q, c, out, hj, hq, hl, hd, hc, he => by
    obtain ⟨q, rfl⟩ : ∃ m, q = m + 1 := ⟨q - 1, by omega⟩
    have hpi : (0 : Int) < 256 ^ i := Int.pow_pos (by omega)
    have hxi := hx.rd (by omega) i
    have hyj := hy.rd (by omega) j
    have hoj := hd.rd (by omega) (i + j)
    have hcase : y.length ≤ j ∧ c = 0 ∨ (j < y.length ∨ 0 < c) := by omega
    rcases hcase with ⟨h1, h2⟩ | hgo
    · refine ⟨out, ?_, hl, hd, ?_⟩
      · show smithyref02_Times.b2 x y _ _ _ _ _ _ = _
        unfold smithyref02_Times.b2
        rw [if_neg (by simp; omega), h2]
        unfold smithyref02_Times.j3
        rw [if_neg (by simp)]
      · rw [← he, h2, List.take_of_length_le h1]; simp
    ·
      have hjy : j ≤ y.length := by
        rcases hgo with h | h
        · omega
        · refine Decidable.byContradiction fun hn => ?_
          have h1 : j = y.length + 1 := by omega
          rw [List.take_of_length_le (by omega), Int.sub_self, Int.mul_zero, Int.zero_mul, Int.add_zero] at he
          have h2 := (dv_lt (by omega) hd).1
          have h3 : 1 * 256 ^ (i + j) ≤ c * 256 ^ (i + j) := Int.mul_le_mul_of_nonneg_right (by omega) (Int.le_of_lt (Int.pow_pos (by omega)))
          rw [show i + 1 + y.length = i + j by omega] at hT
          omega
      match r, hj with
      | 0, hj => omega
      | r + 1, hj =>
      have hb := prod_leT (x.getD i 0) (y.getD j 0) 255 255 (by omega) (by omega)
      have hw : wr .i64 ((i : Int) + (j : Int)) = ((i + j : Nat) : Int) := by rw [wr_i64_id (by omega) (by omega)]; omega
      have e : smithyref02_Times.l2 x y (i : Int) rec1 (q + 1) (j : Int) c out = smithyref02_Times.l2 x y (i : Int) rec1 q ((j + 1 : Nat) : Int) ((out.getD (i + j) 0 + x.getD i 0 * y.getD j 0 + c) / 256) (out.set (i + j) ((out.getD (i + j) 0 + x.getD i 0 * y.getD j 0 + c) % 256)) := by
        have e3 : ∀ R : Int → Int → List Int → Option (List Int), smithyref02_Times.j3 x y (i : Int) rec1 (j : Int) c out R true = R ((j + 1 : Nat) : Int) ((out.getD (i + j) 0 + x.getD i 0 * y.getD j 0 + c) / 256) (out.set (i + j) ((out.getD (i + j) 0 + x.getD i 0 * y.getD j 0 + c) % 256)) := fun R => by
          unfold smithyref02_Times.j3
          rw [if_pos rfl, hw, if_pos (by omega), if_pos (by omega), atN_eq, Option.bind_some, rd_getD, rd_getD, Int.toNat_natCast, show wr .i64 ((j : Int) + 1) = ((j + 1 : Nat) : Int) from by rw [wr_i64_id (by omega) (by omega)]; omega]
          generalize x.getD i 0 * y.getD j 0 = p at *
          rw [wr_i64_id (x := p) (by omega) (by omega), wr_i64_id (x := out.getD (i + j) 0 + p) (by omega) (by omega), wr_i64_id (x := out.getD (i + j) 0 + p + c) (by omega) (by omega), tdiv_pos (by omega), tmod_pos (by omega), wr_i64_id (by omega) (by omega)]
        show smithyref02_Times.b2 x y _ _ _ _ _ _ = _
        unfold smithyref02_Times.b2
        by_cases c1 : j < y.length
        · rw [if_pos (by simp; omega), e3]
        · rw [if_neg (by simp; omega), decide_eq_true (by omega), e3]
      rw [e]
      have hs := dv_set 256 out (i + j) ((out.getD (i + j) 0 + x.getD i 0 * y.getD j 0 + c) % 256) (by omega)
      have hb2 : 0 ≤ out.getD (i + j) 0 + x.getD i 0 * y.getD j 0 + c ∧ out.getD (i + j) 0 + x.getD i 0 * y.getD j 0 + c < 65536 := by omega
      refine trow hx hy hxl hyl i hi rec1 T hT r (j + 1) q _ _ (by omega) (by omega) (by simpa using hl) (hd.set _ (by omega)) (by omega) ?_
      rw [hs, dv_take_succ' 256 y j, ← he]
      have h5 : out.getD (i + j) 0 + x.getD i 0 * y.getD j 0 + c = (out.getD (i + j) 0 + x.getD i 0 * y.getD j 0 + c) % 256 + 256 * ((out.getD (i + j) 0 + x.getD i 0 * y.getD j 0 + c) / 256) := by omega
      generalize (out.getD (i + j) 0 + x.getD i 0 * y.getD j 0 + c) % 256 = u at *
      generalize (out.getD (i + j) 0 + x.getD i 0 * y.getD j 0 + c) / 256 = v at *
      have e3 : (256 : Int) ^ (i + (j + 1)) = 256 * 256 ^ (i + j) := by rw [← Nat.add_assoc, Int.pow_succ, Int.mul_comm]
      have e4 : (256 : Int) ^ (i + j) = 256 ^ i * 256 ^ j := Int.pow_add _ _ _
      rw [e3, e4]
      grind
where prod_leT (a b A B : Int) (ha : 0 ≤ a ∧ a ≤ A) (hb : 0 ≤ b ∧ b ≤ B) : 0 ≤ a * b ∧ a * b ≤ A * B :=
  ⟨Int.mul_nonneg ha.1 hb.1, Int.mul_le_mul ha.2 hb.2 hb.1 (by omega)⟩
theorem times_loop (k : Nat) {x y : List Int} (hk : y.length + 2 < k) (hx : Dig 256 x) (hy : Dig 256 y) (hxl : x.length < 1000000) (hyl : y.length < 1000000) : ∀ (r i q : Nat) (out : List Int), i + r = x.length → r < q → out.length = x.length + y.length + 1 → Dig 256 out → dv 256 out = dv 256 (x.take i) * dv 256 y →
    ∃ z, smithyref02_Times.l1 k x y q (i : Int) out = some z ∧ z.length = x.length + y.length + 1 ∧ Dig 256 z ∧ dv 256 z = dv 256 x * dv 256 y
  | 0, i, q, out, hi, hq, hl, hd, he => by
    obtain ⟨q, rfl⟩ : ∃ m, q = m + 1 := ⟨q - 1, by omega⟩
    refine ⟨out, ?_, hl, hd, ?_⟩
    · show smithyref02_Times.b1 k x y _ _ _ = _
      unfold smithyref02_Times.b1 smithyref02_Times.j1
      rw [if_neg (by simp; omega)]
    · rw [he, List.take_of_length_le (by omega)]
  | r + 1, i, q, out, hi, hq, hl, hd, he => by
    obtain ⟨q, rfl⟩ : ∃ m, q = m + 1 := ⟨q - 1, by omega⟩
    have e1 : dv 256 (x.take (i + 1)) = dv 256 (x.take i) + x.getD i 0 * 256 ^ i := dv_take_succ' 256 x i
    have b1 := dv_lt (by omega) (hx.take (i + 1))
    have b2 := dv_lt (by omega) hy
    rw [List.length_take, Nat.min_eq_left (by omega)] at b1
    have hT : dv 256 (x.take (i + 1)) * dv 256 y < 256 ^ (i + 1 + y.length) := by
      rw [Int.pow_add]
      have h1 : dv 256 (x.take (i + 1)) * dv 256 y ≤ (256 ^ (i + 1) - 1) * dv 256 y := Int.mul_le_mul_of_nonneg_right (by omega) b2.1
      have h2 : (256 ^ (i + 1) - 1) * dv 256 y ≤ (256 ^ (i + 1) - 1) * 256 ^ y.length := Int.mul_le_mul_of_nonneg_left (by omega) (by have := Int.pow_pos (n := 256) (m := i + 1) (by omega); omega)
      have h3 : ((256 : Int) ^ (i + 1) - 1) * 256 ^ y.length = 256 ^ (i + 1) * 256 ^ y.length - 256 ^ y.length := by rw [Int.sub_mul, Int.one_mul]
      have h4 : (0 : Int) < 256 ^ y.length := Int.pow_pos (by omega)
      omega
    obtain ⟨out', f1, f2, f3, f4⟩ := trow hx hy hxl hyl i (by omega) (smithyref02_Times.l1 k x y q) _ hT (y.length + 1) 0 k 0 out (by omega) (by omega) hl hd (by omega) (by
      rw [he, e1]; simp only [List.take_zero, dv]; grind)
    have e : smithyref02_Times.l1 k x y (q + 1) (i : Int) out = smithyref02_Times.l1 k x y q ((i + 1 : Nat) : Int) out' := by
      show smithyref02_Times.b1 k x y _ _ _ = _
      unfold smithyref02_Times.b1
      rw [if_pos (by simp; omega)]
      refine f1.trans ?_
      unfold smithyref02_Times.j2
      rw [show wr .i64 ((i : Int) + 1) = ((i + 1 : Nat) : Int) from by rw [wr_i64_id (by omega) (by omega)]; omega]
    rw [e]
    exact times_loop k hk hx hy hxl hyl r (i + 1) q out' (by omega) (by omega) f2 f3 f4
theorem timesN_eq (k : Nat) {x y : List Int} (hx : Dig 256 x) (hy : Dig 256 y) (hxl : x.length < 1000000) (hyl : y.length < 1000000) (hk : x.length + y.length + 3 < k) : ∃ z, smithyref02_Times.f k x y = some z ∧ z.length = x.length + y.length + 1 ∧ Dig 256 z ∧ dv 256 z = dv 256 x * dv 256 y := by
  have hw : wr .i64 (wr .i64 ((x.length : Int) + (y.length : Int)) + 1) = ((x.length + y.length + 1 : Nat) : Int) := by rw [wr_i64_id (x := (x.length : Int) + y.length) (by omega) (by omega), wr_i64_id (by omega) (by omega)]; omega
  have hrep : Dig 256 (List.replicate (x.length + y.length + 1) (0 : Int)) := fun y hy => by rw [List.eq_of_mem_replicate hy]; omega
  have hz : dv 256 (List.replicate (x.length + y.length + 1) (0 : Int)) = 0 := dv_zero 256 _ (fun j => by rw [List.getD_eq_getElem?_getD, List.getElem?_replicate]; split <;> rfl)
  obtain ⟨z, e, h1, h2, h3⟩ := times_loop k (by omega) hx hy hxl hyl x.length 0 k (List.replicate (x.length + y.length + 1) (0 : Int)) (by omega) (by omega) (by simp) hrep (by rw [hz]; simp [dv])
  refine ⟨z, ?_, h1, h2, h3⟩
  unfold smithyref02_Times.f
  rw [hw, Int.toNat_natCast, if_pos (by omega)]
  exact e
end GW
set_option linter.unusedVariables false
set_option linter.unusedSimpArgs false
set_option maxRecDepth 100000
namespace GW
open Go Go.RowKit
def W256 : Int := 115792089237316195423570985008687907853269984665640564039457584007913129639936
def costI (x : TxT) : Int := x.2.2.2.2.2.2.1 * wv x.2.2.2.2.2.2.2.1 + wv x.2.2.2.2.1
structure TxW (x : TxT) : Prop where
  nonce : inK .u64 x.2.2.2.1
  value : Wd x.2.2.2.2.1
  gas : inK .u64 x.2.2.2.2.2.2.1
  fee : Wd x.2.2.2.2.2.2.2.1
  tip : Wd x.2.2.2.2.2.2.2.2.1
theorem txCost_eq (k : Nat) (x : TxT) (h : TxW x) : ∃ c, tx_Cost.f (k + 100) x = some (c, decide (costI x < W256)) ∧ Wd c ∧ (costI x < W256 → wv c = costI x) ∧ (¬ costI x < W256 → c = [0, 0, 0, 0]) := by
  obtain ⟨lo, hi, e1, hlo, hhi, e2⟩ := product_eq (k + 95) (Wd.of h.gas) h.fee
  obtain ⟨s, f1, hs, f2⟩ := add_eq (k + 95) hlo h.value
  rw [wv_of] at e2
  have b1 := hlo.lt
  have b2 := hhi.lt
  have b3 := h.value.lt
  have bs := hs.lt
  have hc : costI x = wv lo + 115792089237316195423570985008687907853269984665640564039457584007913129639936 * wv hi + wv x.2.2.2.2.1 := by unfold costI; omega
  have e0 : tx_Cost.f (k + 100) x = tx_Cost.j1 (k + 100) x hi lo := by
    unfold tx_Cost.f
    rw [show word_Of.f x.2.2.2.2.2.2.1 = some [x.2.2.2.2.2.2.1, 0, 0, 0] from rfl, Option.bind_some, show k + 100 = k + 95 + 5 from rfl, e1, Option.bind_some]
  rw [e0]
  unfold tx_Cost.j1
  rw [show k + 100 = k + 95 + 5 from rfl, f1, Option.bind_some]
  by_cases hz : hi = [0, 0, 0, 0]
  · have hz' : wv hi = 0 := hhi.eq0.1 hz
    rw [if_neg (by simpa using hz), cmp_eq (k + 95) hs hlo, Option.bind_some, cmpI_lt]
    unfold tx_Cost.j2 W256
    by_cases c : wv s < wv lo
    · rw [decide_eq_true c, if_pos rfl]
      refine ⟨_, ?_, Wd.zero, fun hlt => absurd hlt (by omega), fun _ => rfl⟩
      rw [decide_eq_false (by omega)]
    · rw [decide_eq_false c, if_neg (by simp)]
      refine ⟨s, ?_, hs, fun hlt => by omega, fun hn => absurd (by omega) hn⟩
      rw [decide_eq_true (by omega)]
  · have hz' : 0 < wv hi := by
      have : wv hi ≠ 0 := fun e => hz (hhi.eq0.2 e)
      omega
    rw [if_pos (by simpa using hz)]
    unfold tx_Cost.j2 W256
    rw [if_pos rfl]
    refine ⟨_, ?_, Wd.zero, fun hlt => absurd hlt (by omega), fun _ => rfl⟩
    rw [decide_eq_false (by omega)]
def priceI (x : TxT) (b : Int) : Int := if b + wv x.2.2.2.2.2.2.2.2.1 < wv x.2.2.2.2.2.2.2.1 then b + wv x.2.2.2.2.2.2.2.2.1 else wv x.2.2.2.2.2.2.2.1
theorem txPrice_eq (k : Nat) (x : TxT) (h : TxW x) {b : List Int} (hb : Wd b) : ∃ p, tx_Price.f (k + 100) x b = some (p, decide (¬ wv x.2.2.2.2.2.2.2.1 < wv b)) ∧ Wd p ∧ (wv x.2.2.2.2.2.2.2.1 < wv b → p = [0, 0, 0, 0]) ∧ (¬ wv x.2.2.2.2.2.2.2.1 < wv b → wv p = priceI x (wv b)) := by
  have b1 := h.fee.lt
  have b2 := hb.lt
  have b3 := h.tip.lt
  unfold tx_Price.f
  rw [show k + 100 = k + 95 + 5 from rfl, cmp_eq (k + 95) h.fee hb, Option.bind_some, cmpI_lt]
  by_cases c : wv x.2.2.2.2.2.2.2.1 < wv b
  · rw [decide_eq_true c, if_pos rfl]
    refine ⟨_, ?_, Wd.zero, fun _ => rfl, fun hn => absurd c hn⟩
    rw [decide_eq_false (by omega)]
  · rw [decide_eq_false c, if_neg (by simp)]
    obtain ⟨l, l1, l2, l3⟩ := sub_eq (k + 95) h.fee hb
    rw [l1, Option.bind_some, cmp_eq (k + 95) l2 h.tip, Option.bind_some, cmpI_lt]
    unfold priceI
    by_cases c2 : wv l < wv x.2.2.2.2.2.2.2.2.1
    · rw [decide_eq_true c2, if_pos rfl]
      refine ⟨_, ?_, h.fee, fun hn => absurd hn c, fun _ => ?_⟩
      · rw [decide_eq_true c]
      · rw [if_neg (by omega)]
    · rw [decide_eq_false c2, if_neg (by simp)]
      obtain ⟨s, s1, s2, s3⟩ := add_eq (k + 95) hb h.tip
      rw [s1, Option.bind_some]
      refine ⟨s, ?_, s2, fun hn => absurd hn c, fun _ => ?_⟩
      · rw [decide_eq_true c]
      · by_cases c3 : wv b + wv x.2.2.2.2.2.2.2.2.1 < wv x.2.2.2.2.2.2.2.1
        · rw [if_pos c3]; omega
        · rw [if_neg c3]; omega
def keysN : List Wm → Nat
  | [] => 0
  | w :: l => w.2.length + keysN l
theorem keysN_le (l : List Wm) (h : ∀ w ∈ l, w.2.length ≤ 30) : keysN l ≤ 30 * l.length := by
  induction l with
  | nil => simp [keysN]
  | cons w l ih =>
    have h1 := h w (by simp)
    have h2 := ih fun v hv => h v (by simp [hv])
    simp only [keysN, List.length_cons]; omega
theorem txIntr_loop (k : Nat) (x : TxT) (hx : x.2.2.2.2.2.2.2.2.2.length ≤ 30) : ∀ (l : List Wm) (q i n : Nat), x.2.2.2.2.2.2.2.2.2.drop i = l → i ≤ x.2.2.2.2.2.2.2.2.2.length → l.length < q → (∀ w ∈ l, w.2.length ≤ 30) → n + 30 * l.length ≤ 10000 → tx_Intrinsic.l1 k x q (i : Int) (n : Int) = tx_Intrinsic.j1 k x ((n + keysN l : Nat) : Int) ∧ smithyref19_Intrinsic.l1 k x q (i : Int) (n : Int) = smithyref19_Intrinsic.j1 k x ((n + keysN l : Nat) : Int) := by
  intro l
  induction l with
  | nil =>
    intro q i n hd hi hq hs hn
    obtain ⟨q, rfl⟩ : ∃ m, q = m + 1 := ⟨q - 1, by omega⟩
    have : x.2.2.2.2.2.2.2.2.2.length ≤ i := by simpa using hd
    constructor
    · show tx_Intrinsic.b1 k x _ _ _ = _
      unfold tx_Intrinsic.b1
      rw [if_neg (by simp; omega)]; rfl
    · show smithyref19_Intrinsic.b1 k x _ _ _ = _
      unfold smithyref19_Intrinsic.b1
      rw [if_neg (by simp; omega)]; rfl
  | cons w l ih =>
    intro q i n hd hi hq hs hn
    simp only [List.length_cons] at hq hn
    obtain ⟨q, rfl⟩ : ∃ m, q = m + 1 := ⟨q - 1, by omega⟩
    obtain ⟨g, hi2, hr⟩ := gt_dropG hd
    have hw := hs w (by simp)
    obtain ⟨h1, h2⟩ := ih q (i + 1) (n + w.2.length) hr (by omega) (by omega) (fun v hv => hs v (by simp [hv])) (by omega)
    have e : n + w.2.length + keysN l = n + keysN (w :: l) := by simp only [keysN]; omega
    rw [e] at h1 h2
    constructor
    · refine Eq.trans ?_ h1
      show tx_Intrinsic.b1 k x _ _ _ = _
      unfold tx_Intrinsic.b1
      simp only [g]
      rw [if_pos (by simp; omega), if_pos (by omega), wr_i64_id (by omega) (by omega), wr_u64_id (x := (w.2.length : Int)) (by omega) (by omega), wr_u64_id (by omega) (by omega)]
      rfl
    · refine Eq.trans ?_ h2
      show smithyref19_Intrinsic.b1 k x _ _ _ = _
      unfold smithyref19_Intrinsic.b1
      simp only [g]
      rw [if_pos (by simp; omega), if_pos (by omega), wr_i64_id (x := (i : Int) + 1) (by omega) (by omega), wr_i64_id (by omega) (by omega)]
      rfl
theorem txIntrinsic_eq (k : Nat) (x : TxT) (h : Small x) (hk : 4000 < k) : ∃ v, tx_Intrinsic.f k x = some v ∧ smithyref19_Intrinsic.f k x = some v := by
  obtain ⟨h1, h2, h3⟩ := h
  obtain ⟨l1, l2⟩ := txIntr_loop k x h2 x.2.2.2.2.2.2.2.2.2 k 0 0 rfl (by omega) (by omega) h3 (by omega)
  have hn := keysN_le x.2.2.2.2.2.2.2.2.2 h3
  rw [Nat.zero_add] at l1 l2
  obtain ⟨v, v1, v2⟩ := intrinsic_eq k x.2.2.2.2.2.1 x.2.2.1 ((x.2.2.2.2.2.2.2.2.2.length : Nat) : Int) ((keysN x.2.2.2.2.2.2.2.2.2 : Nat) : Int) (by omega) (by omega) (by omega) (by omega)
  refine ⟨v, l1.trans ?_, l2.trans ?_⟩
  · unfold tx_Intrinsic.j1
    rw [wr_u64_id (x := (x.2.2.2.2.2.2.2.2.2.length : Int)) (by omega) (by omega), v1]; rfl
  · unfold smithyref19_Intrinsic.j1
    rw [wr_u64_id (x := (x.2.2.2.2.2.2.2.2.2.length : Int)) (by omega) (by omega), wr_u64_id (x := (keysN _ : Int)) (by omega) (by omega), v2]; rfl
end GW
set_option linter.unusedVariables false
set_option linter.unusedSimpArgs false
set_option maxRecDepth 100000
namespace GW
open Go Go.RowKit
theorem fixed19_k (k : Nat) : smithylaw19_fixed.f (k + 100) = some true := by kernel_rfl
theorem gt_atG {α : Type} [Inhabited α] (xs : List α) {i : Int} (h0 : 0 ≤ i) (h1 : i < xs.length) : gt xs i ∈ xs := by
  unfold gt
  have h : i.toNat < xs.length := by omega
  rw [List.getD_eq_getElem?_getD, List.getElem?_eq_getElem h]
  exact List.getElem_mem h
theorem lessD_eq (k : Nat) {a b : List Int} (ha : Wd a) (hb : Wd b) : smithyref13_less.f (k + 40) a b = some (decide (wv a < wv b)) := by
  obtain ⟨d, d1, d2, d3, d4⟩ := ofD_eq k ha
  obtain ⟨e, e1, e2, e3, e4⟩ := ofD_eq k hb
  unfold smithyref13_less.f
  rw [d1, Option.bind_some, e1, Option.bind_some, cmpD_eq k d3 e3 d2 e2, Option.bind_some, cmpI_lt, d4, e4]
theorem refRight_loop (k : Nat) (x : L76) (hx : Gd74 x.2.2.2.2) : ∀ (r q i : Nat), i + r = x.2.2.2.2.length → r < q → ∃ b, smithyref13_Right.l1 (k + 40) x q (i : Int) = some b
  | 0, q, i, hi, hq => by
    obtain ⟨q, rfl⟩ : ∃ m, q = m + 1 := ⟨q - 1, by omega⟩
    refine ⟨true, ?_⟩
    show smithyref13_Right.b1 _ _ _ _ = _
    unfold smithyref13_Right.b1
    rw [if_neg (by simp; omega)]; rfl
  | r + 1, q, i, hi, hq => by
    obtain ⟨q, rfl⟩ : ∃ m, q = m + 1 := ⟨q - 1, by omega⟩
    have hm := hx.2
    simp only [maxLen] at hm
    have hw : wr .i64 ((i : Int) + 1) = ((i + 1 : Nat) : Int) := by rw [wr_i64_id (by omega) (by omega)]; omega
    obtain ⟨b, ih2⟩ := refRight_loop k x hx r q (i + 1) (by omega) (by omega)
    have hc : decide ((i : Int) < ((x.2.2.2.2).length : Int)) = true := decide_eq_true (by omega)
    have hb : (0 : Int) ≤ (i : Int) ∧ (i : Int) < ((x.2.2.2.2).length : Int) := by omega
    have e2 : smithyref13_Right.l1 (k + 40) x (q + 1) (i : Int) = smithyref13_Right.b1 (k + 40) x (smithyref13_Right.l1 (k + 40) x q) (i : Int) := rfl
    rw [e2]
    unfold smithyref13_Right.b1
    rw [if_pos hc, if_pos hb]
    by_cases c : (gt x.2.2.2.2 (i : Int)).2 = [0, 0, 0, 0]
    · rw [decide_eq_true c, if_pos rfl]
      exact ⟨false, rfl⟩
    · rw [decide_eq_false c, if_neg (show ¬ (false = true) by simp)]
      have j2 : ∀ t, smithyref13_Right.j2 (i : Int) (smithyref13_Right.l1 (k + 40) x q) t = if t = true then some false else some b := fun t => by
        unfold smithyref13_Right.j2; rw [hw, ih2]
      by_cases c0 : 0 < i
      · have h0 : decide ((0 : Int) < (i : Int)) = true := decide_eq_true (by omega)
        have hp : wr .i64 ((i : Int) - 1) = (i : Int) - 1 := wr_i64_id (by omega) (by omega)
        rw [if_pos h0, hp, if_pos (by omega)]
        have w1 : Wd (gt x.2.2.2.2 ((i : Int) - 1)).1 := (hx.1 _ (gt_atG x.2.2.2.2 (i := (i : Int) - 1) (by omega) (by omega))).1
        have w2 : Wd (gt x.2.2.2.2 (i : Int)).1 := (hx.1 _ (gt_atG x.2.2.2.2 (i := (i : Int)) (by omega) (by omega))).1
        rw [lessD_eq k w1 w2, Option.bind_some, j2]
        split <;> exact ⟨_, rfl⟩
      · have h0 : decide ((0 : Int) < (i : Int)) = false := decide_eq_false (by omega)
        rw [h0, if_neg (show ¬ (false = true) by simp), j2, if_neg (show ¬ (false = true) by simp)]
        exact ⟨b, rfl⟩
theorem right19_loop (l : List L76) (hl : l.length ≤ 50) (hg : ∀ a ∈ l, Gd74 a.2.2.2.2 ∧ a.2.2.2.2.length ≤ 100) : ∀ (r q i : Nat), i + r = l.length → r < q → ∃ b, smithylaw19_right.l1 5000 l q (i : Int) = some b
  | 0, q, i, hi, hq => by
    obtain ⟨q, rfl⟩ : ∃ m, q = m + 1 := ⟨q - 1, by omega⟩
    refine ⟨true, ?_⟩
    show smithylaw19_right.b1 _ _ _ _ = _
    unfold smithylaw19_right.b1
    rw [if_neg (by simp; omega)]; rfl
  | r + 1, q, i, hi, hq => by
    obtain ⟨q, rfl⟩ : ∃ m, q = m + 1 := ⟨q - 1, by omega⟩
    have hw : wr .i64 ((i : Int) + 1) = ((i + 1 : Nat) : Int) := by rw [wr_i64_id (by omega) (by omega)]; omega
    obtain ⟨b, ih⟩ := right19_loop l hl hg r q (i + 1) (by omega) (by omega)
    obtain ⟨h1, h2⟩ := hg _ (gt_atG l (i := (i : Int)) (by omega) (by omega))
    obtain ⟨b2, h3⟩ := refRight_loop 4960 (gt l (i : Int)) h1 _ 5000 0 (Nat.zero_add _) (by omega)
    have e : smithylaw19_right.l1 5000 l (q + 1) (i : Int) = smithylaw19_right.b1 5000 l (smithylaw19_right.l1 5000 l q) (i : Int) := rfl
    rw [e]
    unfold smithylaw19_right.b1
    have h3' : smithyref13_Right.f 5000 (gt l (i : Int)) = some b2 := h3
    rw [if_pos (by simp; omega), if_pos (by omega), h3', Option.bind_some, hw, ih]
    split <;> exact ⟨_, rfl⟩
theorem right19 (l : List L76) (h : Gd44 l) : smithylaw19_right.f 5000 l = some false ∨ (∃ b, smithylaw19_right.f 5000 l = some b) ∧ l.length ≤ 50 ∧ ∀ a ∈ l, SmallA a := by
  unfold smithylaw19_right.f
  rcases great13 l 5000 (by omega) with g | ⟨g, g1, g2⟩
  · rw [g, Option.bind_some, if_pos rfl]; exact .inl rfl
  · rw [g, Option.bind_some, if_neg (by simp)]
    exact .inr ⟨right19_loop l g1 (fun a ha => ⟨(h.1 a ha).2.2.2.2, (g2 a ha).2⟩) l.length 5000 0 (by omega) (by omega), g1, g2⟩
theorem list_loop (l : List L76) (hl : l.length ≤ 50) (hg : ∀ a ∈ l, SmallA a) : ∀ (r q i : Nat) (acc : List L76), i + r = l.length → r < q → acc.length = i → state_List.l1 l q acc (i : Int) = some (acc ++ l.drop i)
  | 0, q, i, acc, hi, hq, ha => by
    obtain ⟨q, rfl⟩ : ∃ m, q = m + 1 := ⟨q - 1, by omega⟩
    show state_List.b1 _ _ _ _ = _
    unfold state_List.b1
    rw [if_neg (by simp; omega), List.drop_eq_nil_of_le (by omega), List.append_nil]; rfl
  | r + 1, q, i, acc, hi, hq, ha => by
    obtain ⟨q, rfl⟩ : ∃ m, q = m + 1 := ⟨q - 1, by omega⟩
    have hw : wr .i64 ((i : Int) + 1) = ((i + 1 : Nat) : Int) := by rw [wr_i64_id (by omega) (by omega)]; omega
    obtain ⟨s1, s2⟩ := hg _ (gt_atG l (i := (i : Int)) (by omega) (by omega))
    have e : state_List.l1 l (q + 1) acc (i : Int) = state_List.b1 l (state_List.l1 l q) acc (i : Int) := rfl
    rw [e]
    unfold state_List.b1 slices_Clone_byte_byte.f api_Slot.f
    rw [if_pos (by simp; omega), if_pos (by omega), if_pos (by simp; omega), Option.bind_some, if_pos (by simp; omega), Option.bind_some, if_pos (by simp; omega), hw]
    simp only [List.nil_append]
    rw [list_loop l hl hg r q (i + 1) _ (by omega) (by omega) (by simp; omega), List.append_assoc]
    have hd : l.drop i = gt l (i : Int) :: l.drop (i + 1) := by
      have h : i < l.length := by omega
      rw [List.drop_eq_getElem_cons h]
      congr 1
      unfold gt
      rw [Int.toNat_natCast, List.getD_eq_getElem?_getD, List.getElem?_eq_getElem h]; rfl
    rw [hd]; rfl
theorem list_eq (l : List L76) (hl : l.length ≤ 50) (hg : ∀ a ∈ l, SmallA a) : state_List.f 5000 l = some l := by
  have := list_loop l hl hg l.length 5000 0 [] (by omega) (by omega) rfl
  rwa [List.nil_append, List.drop_zero] at this
theorem acct_loop (l : List L76) (hl : l.length ≤ 50) (a : List Int) (P : L76 → Prop) (hP : ∀ x ∈ l, P x) (h0 : P (a, 0, [0, 0, 0, 0], [], [])) : ∀ (r q i : Nat), i + r = l.length → r < q → ∃ x, state_list_Account.l1 l a q (i : Int) = some (x, true) ∧ P x
  | 0, q, i, hi, hq => by
    obtain ⟨q, rfl⟩ : ∃ m, q = m + 1 := ⟨q - 1, by omega⟩
    refine ⟨_, ?_, h0⟩
    show state_list_Account.b1 _ _ _ _ = _
    unfold state_list_Account.b1 state_list_Account.j1
    rw [if_neg (by simp; omega)]
  | r + 1, q, i, hi, hq => by
    obtain ⟨q, rfl⟩ : ∃ m, q = m + 1 := ⟨q - 1, by omega⟩
    have hw : wr .i64 ((i : Int) + 1) = ((i + 1 : Nat) : Int) := by rw [wr_i64_id (by omega) (by omega)]; omega
    have e : state_list_Account.l1 l a (q + 1) (i : Int) = state_list_Account.b1 l a (state_list_Account.l1 l a q) (i : Int) := rfl
    rw [e]
    unfold state_list_Account.b1
    rw [if_pos (by simp; omega), if_pos (by omega), hw]
    by_cases c : (gt l (i : Int)).1 = a
    · rw [if_pos (by simpa using c)]
      exact ⟨_, rfl, hP _ (gt_atG l (i := (i : Int)) (by omega) (by omega))⟩
    · rw [if_neg (by simpa using c)]
      exact acct_loop l hl a P hP h0 r q (i + 1) (by omega) (by omega)
theorem long_loop (x : TxT) (hs : Small x) : ∀ (r q i : Nat), i + r = x.2.2.2.2.2.2.2.2.2.length → r < q → ∃ b, tx_long.l1 x q (i : Int) = some b
  | 0, q, i, hi, hq => by
    obtain ⟨q, rfl⟩ : ∃ m, q = m + 1 := ⟨q - 1, by omega⟩
    show ∃ b, tx_long.b1 _ _ _ = some b
    unfold tx_long.b1 tx_long.j1
    rw [if_neg (by simp; omega)]
    split <;> exact ⟨_, rfl⟩
  | r + 1, q, i, hi, hq => by
    obtain ⟨q, rfl⟩ : ∃ m, q = m + 1 := ⟨q - 1, by omega⟩
    have h30 := hs.2.1
    have hw : wr .i64 ((i : Int) + 1) = ((i + 1 : Nat) : Int) := by rw [wr_i64_id (by omega) (by omega)]; omega
    obtain ⟨b, ih⟩ := long_loop x hs r q (i + 1) (by omega) (by omega)
    show ∃ b, tx_long.b1 _ _ _ = some b
    unfold tx_long.b1
    rw [if_pos (by simp; omega), if_pos (by omega), hw, ih]
    split <;> exact ⟨_, rfl⟩
theorem may_eq (x : TxT) (hs : Small x) (ht : TxW x) : ∃ e, tx_May.f 5000 x = some e ∧ (e = 0 → x.2.2.2.2.2.2.1 ≤ 1099511627776) := by
  obtain ⟨b, hb⟩ := long_loop x hs x.2.2.2.2.2.2.2.2.2.length 5000 0 (by omega) (by have := hs.2.1; omega)
  have hb' : tx_long.f 5000 x = some b := hb
  obtain ⟨v, v1, -⟩ := txIntrinsic_eq 5000 x hs (by omega)
  have j2 : ∀ y, ∃ e, tx_May.j2 5000 x y = some e := fun y => by
    unfold tx_May.j2
    split
    · exact ⟨_, rfl⟩
    · rw [show (5000 : Nat) = 4995 + 5 from rfl, cmp_eq 4995 ht.tip ht.fee, Option.bind_some]
      split
      · exact ⟨_, rfl⟩
      · split <;> exact ⟨_, rfl⟩
  have j1 : ∀ y, ∃ e, tx_May.j1 5000 x y = some e ∧ (e = 0 → x.2.2.2.2.2.2.1 ≤ 1099511627776) := fun y => by
    unfold tx_May.j1
    split
    · exact ⟨4, rfl, fun h => by cases h⟩
    · split
      · refine ⟨8, ?_, fun h => by cases h⟩
        unfold tx_May.j2
        rw [if_pos rfl]
      · rename_i h1 h2
        rw [v1, Option.bind_some]
        obtain ⟨e, he⟩ := j2 (decide (x.2.2.2.2.2.2.1 < v))
        exact ⟨e, he, fun _ => by simpa using h2⟩
  unfold tx_May.f
  rw [hb', Option.bind_some]
  split
  · exact j1 true
  · split
    · exact j1 _
    · exact j1 _
abbrev ArT := (List ((List Int) × Option Nat)) × (List L97) × (List (List ((List Int) × (List Int)))) × (List (List ((List Int) × Bool)))
def ac1 (a : List Int) (x : L76) : L76 := (a, x.2.1, x.2.2.1, x.2.2.2.1, x.2.2.2.2)
def ar1 (a : List Int) (x : L76) : ArT := ([(a, some 0)], [(ac1 a x, ac1 a x, false, 0, false, false, 0)], [[]], [[]])
theorem at0 (l : List L76) (a : List Int) (x : L76) (h : state_list_Account.f 5000 l a = some (x, true)) : state_State_at.f 5000 (l, ([], [], [], []), 0, [], [], []) a = some (some 0, ((), ar1 a x, (), [], [], [])) := by
  unfold state_State_at.f state_State_at.j1
  have e : (lk (aget ([] : List ((List Int) × Option Nat)) a) none).2 = false := rfl
  simp only [e]
  rw [if_neg (by simp), h, Option.bind_some]
  rfl
theorem at1 (l : List L76) (a : List Int) (x : L76) : state_State_at.f 5000 (l, ar1 a x, 0, [], [], []) a = some (some 0, ((), ar1 a x, (), [], [], [])) := by
  unfold state_State_at.f state_State_at.j1
  have e : lk (aget (ar1 a x).1 a) none = (some 0, true) := by simp [ar1, aget, lk]
  simp only [e]
  rw [if_pos trivial]
theorem enough_acct (l : List L76) (w1 : Gd44 l) (hl : l.length ≤ 50) (hg : ∀ a ∈ l, SmallA a) (a : List Int) : ∃ x, state_list_Account.f 5000 l a = some (x, true) ∧ Wd x.2.2.1 ∧ x.2.2.2.1.length ≤ 3000 :=
  acct_loop l hl a (fun x => Wd x.2.2.1 ∧ x.2.2.2.1.length ≤ 3000) (fun x hx => ⟨(w1.1 x hx).2.2.1, (hg x hx).1⟩) ⟨Wd.zero, Nat.zero_le _⟩ l.length 5000 0 (by omega) (by omega)
theorem nonce0 (l : List L76) (a : List Int) (x : L76) (h : state_list_Account.f 5000 l a = some (x, true)) : state_State_Nonce.f 5000 (l, ([], [], [], []), 0, [], [], []) a = some (x.2.1, ((), ar1 a x, (), [], [], [])) := by
  unfold state_State_Nonce.f
  rw [at0 l a x h, Option.bind_some]
  rfl
theorem code1 (l : List L76) (a : List Int) (x : L76) (hx : x.2.2.2.1.length ≤ 3000) : state_State_Code.f 5000 (l, ar1 a x, 0, [], [], []) a = some (x.2.2.2.1, ((), ar1 a x, (), [], [], [])) := by
  unfold state_State_Code.f
  rw [at1 l a x, Option.bind_some]
  simp only
  rw [if_pos (by rfl)]
  have e : slices_Clone_byte_byte.f x.2.2.2.1 = some x.2.2.2.1 := by unfold slices_Clone_byte_byte.f; rw [if_pos (by simp; omega)]; rfl
  show (slices_Clone_byte_byte.f x.2.2.2.1).bind _ = _
  rw [e, Option.bind_some]
theorem balance1 (l : List L76) (a : List Int) (x : L76) : state_State_Balance.f 5000 (l, ar1 a x, 0, [], [], []) a = some (x.2.2.1, ((), ar1 a x, (), [], [], [])) := by
  unfold state_State_Balance.f
  rw [at1 l a x, Option.bind_some]
  rfl
theorem check_eq (x : TxT) (hs : Small x) (ht : TxW x) (l : List L76) (b : L47) (hb : Wd b.2.2.2.2.1) (y : L76) (hy : state_list_Account.f 5000 l x.1 = some (y, true)) (hy1 : Wd y.2.2.1) (hy2 : y.2.2.2.1.length ≤ 3000) :
    ∃ e, tx_Check.f 5000 x (l, ([], [], [], []), 0, [], [], []) b = some e ∧ (e.1 = 0 → x.2.2.2.2.2.2.1 ≤ 1099511627776 ∧ costI x < W256 ∧ wv b.2.2.2.2.1 ≤ wv x.2.2.2.2.2.2.2.1 ∧ x.2.2.2.2.2.2.1 ≤ b.2.2.1 ∧ costI x ≤ wv y.2.2.1 ∧ e.2 = ((), ar1 x.1 y, (), [], [], [])) := by
  obtain ⟨m, m1, m2⟩ := may_eq x hs ht
  obtain ⟨c, c1, c2, c3, c4⟩ := txCost_eq 4900 x ht
  unfold tx_Check.f
  rw [m1, Option.bind_some]
  by_cases hm : m = 0
  · rw [if_neg (by simp [hm]), show tx_Cost.f 5000 x = _ from c1, Option.bind_some]
    show ∃ e, (state_State_Nonce.f 5000 (l, ([], [], [], []), 0, [], [], []) x.1).bind _ = some e ∧ _
    rw [nonce0 l x.1 y hy, Option.bind_some]
    split
    · exact ⟨_, rfl, fun h => by cases h⟩
    · show ∃ e, (state_State_Code.f 5000 (l, ar1 x.1 y, 0, [], [], []) x.1).bind _ = some e ∧ _
      rw [code1 l x.1 y hy2, Option.bind_some]
      split
      · exact ⟨_, rfl, fun h => by cases h⟩
      · rw [show (5000 : Nat) = 4995 + 5 from rfl, cmp_eq 4995 ht.fee hb, Option.bind_some, cmpI_lt]
        split
        · exact ⟨_, rfl, fun h => by cases h⟩
        · rename_i hfee
          split
          · exact ⟨_, rfl, fun h => by cases h⟩
          · rename_i hgas
            simp only
            split
            · exact ⟨_, rfl, fun h => by cases h⟩
            · rename_i hfit
              show ∃ e, (state_State_Balance.f 5000 (l, ar1 x.1 y, 0, [], [], []) x.1).bind _ = some e ∧ _
              rw [balance1 l x.1 y, Option.bind_some]
              show ∃ e, (word_Compare.f (4995 + 5) y.2.2.1 c).bind _ = some e ∧ _
              rw [cmp_eq 4995 hy1 c2, Option.bind_some, cmpI_lt]
              unfold tx_Check.j1
              have hc : costI x < W256 := by simpa using hfit
              split
              · exact ⟨_, rfl, fun h => by cases h⟩
              · rename_i hbal
                refine ⟨_, rfl, fun _ => ⟨m2 hm, hc, by simpa using hfee, by simpa using hgas, ?_, rfl⟩⟩
                have := c3 hc
                rw [this] at hbal
                simpa using hbal
  · rw [if_pos (by simp [hm])]
    exact ⟨_, rfl, fun h => absurd h hm⟩
theorem smithylaw19_TxEnough_true (a0 : L30) (a1 : List L76) (a2 : L47) (a3 : Int) (w0 : Gd30 a0) (w1 : Gd44 a1) (w2 : Gd47 a2) (w3 : inK .u64 a3) : ∃ k : Nat, smithylaw19_TxEnough.f k a0 a1 a2 a3 = some true := by
  refine ⟨5000, ?_⟩
  have fx : smithylaw19_fixed.f 5000 = some true := fixed19_k 4900
  have ht : TxW a0 := ⟨w0.2.2.2.1, w0.2.2.2.2.1, w0.2.2.2.2.2.2.1, w0.2.2.2.2.2.2.2.1, w0.2.2.2.2.2.2.2.2.1⟩
  have hb : Wd a2.2.2.2.2.1 := w2.2.2.2.2.1
  have jt : smithylaw19_TxEnough.j1 5000 a0 a1 a2 a3 true = some true := by
    unfold smithylaw19_TxEnough.j1
    rw [if_pos rfl, fx]; rfl
  unfold smithylaw19_TxEnough.f
  rcases great19 a0 5000 (by omega) with h | ⟨h, hs⟩
  · rw [h, Option.bind_some, if_pos rfl, jt]
  rw [h, Option.bind_some, if_neg (by simp)]
  rcases right19 a1 w1 with hr | ⟨⟨r, hr⟩, g1, g2⟩
  · rw [hr, Option.bind_some]; exact jt
  rw [hr, Option.bind_some]
  cases r with
  | false => exact jt
  | true =>
  unfold smithylaw19_TxEnough.j1
  obtain ⟨y, y1, y2, y3⟩ := enough_acct a1 w1 g1 g2 a0.1
  obtain ⟨e, e1, e2⟩ := check_eq a0 hs ht a1 a2 hb y y1 y2 y3
  rw [if_neg (by simp), list_eq a1 g1 g2, Option.bind_some]
  unfold state_New_0i79.f
  rw [Option.bind_some]
  show (tx_Check.f 5000 a0 (a1, ([], [], [], []), 0, [], [], []) a2).bind _ = _
  rw [e1, Option.bind_some]
  by_cases he : e.1 = 0
  · obtain ⟨q1, q2, q3, q4, q5, q6⟩ := e2 he
    obtain ⟨p, p1, p2, p3, p4⟩ := txPrice_eq 4900 a0 ht hb
    have hnl : ¬ wv a0.2.2.2.2.2.2.2.1 < wv a2.2.2.2.2.1 := by omega
    rw [if_neg (by simp [he]), show tx_Price.f 5000 a0 a2.2.2.2.2.1 = _ from p1, Option.bind_some, decide_eq_true hnl, if_neg (by simp)]
    have hgl : decide (a2.2.2.1 < a0.2.2.2.2.2.2.1) = false := decide_eq_false (by omega)
    rw [hgl]
    unfold smithylaw19_TxEnough.j2
    have hg0 := inK_u64 w0.2.2.2.2.2.2.1
    have hu := inK_u64 w3
    have hgw : wr .u64 (a0.2.2.2.2.2.2.1 + 1) = a0.2.2.2.2.2.2.1 + 1 := wr_u64_id (by omega) (by omega)
    rw [if_neg (by simp), hgw, if_pos (by omega), tmod_pos (by omega)]
    have hm0 := Int.emod_nonneg a3 (show a0.2.2.2.2.2.2.1 + 1 ≠ 0 by omega)
    have hm1 := Int.emod_lt_of_pos a3 (show 0 < a0.2.2.2.2.2.2.1 + 1 by omega)
    generalize a3 % (a0.2.2.2.2.2.2.1 + 1) = u at hm0 hm1
    have hp4 := p4 hnl
    obtain ⟨d1, d2, d3, d4, d5⟩ := ofN_eq 4960 (Wd.of' (x := u) hm0 (by omega))
    obtain ⟨f1, f2, f3, f4, f5⟩ := ofN_eq 4960 p2
    obtain ⟨z1, z2, z3, z4, z5⟩ := timesN_eq 5000 d4 f4 (by omega) (by omega) (by omega)
    obtain ⟨v1, v2, v3, v4, v5⟩ := ofN_eq 4960 ht.value
    obtain ⟨s1, s2, s3, s4, s5⟩ := plusN_eq 5000 z4 v4 (by omega) (by omega) (by omega)
    obtain ⟨b1, b2, b3, b4, b5⟩ := ofN_eq 4960 y2
    obtain ⟨k1, k2, k3, k4, k5⟩ := ofN_eq 4960 hb
    rw [show smithyref02_Of.f 5000 [u, 0, 0, 0] = _ from d2, Option.bind_some, show smithyref02_Of.f 5000 p = _ from f2, Option.bind_some, z2, Option.bind_some, show smithyref02_Of.f 5000 a0.2.2.2.2.1 = _ from v2, Option.bind_some, s2, Option.bind_some, fx, Option.bind_some, if_pos rfl]
    rw [q6]
    show (state_State_Balance.f 5000 (a1, ar1 a0.1 y, 0, [], [], []) a0.1).bind _ = _
    rw [balance1 a1 a0.1 y, Option.bind_some, show smithyref02_Of.f 5000 y.2.2.1 = _ from b2, Option.bind_some, lessN_eq 5000 b4 s4 (by omega) (by omega) (by omega), Option.bind_some, Option.bind_some, show smithyref02_Of.f 5000 a2.2.2.2.2.1 = _ from k2, Option.bind_some, lessN_eq 5000 f4 k4 (by omega) (by omega) (by omega), Option.bind_some]
    have hw := y2.lt
    have hp0 := p2.lt
    have hf0 := ht.fee.lt
    have ht0 := ht.tip.lt
    have hpf : wv p ≤ wv a0.2.2.2.2.2.2.2.1 := by rw [hp4]; unfold priceI; split <;> omega
    have hpb : wv a2.2.2.2.2.1 ≤ wv p := by rw [hp4]; unfold priceI; split <;> omega
    have hmul : u * wv p ≤ a0.2.2.2.2.2.2.1 * wv a0.2.2.2.2.2.2.2.1 := Int.mul_le_mul (by omega) hpf (by omega) (by omega)
    have hle : ¬ dv 256 b1 < dv 256 s1 := by
      rw [b5, s5, z5, d5, f5, v5, wv_of]
      unfold costI at q5
      omega
    have hle2 : ¬ dv 256 f1 < dv 256 k1 := by rw [f5, k5]; omega
    rw [decide_eq_false hle, if_pos (by simp), decide_eq_false hle2]
    rfl
  · rw [if_pos (by simp [he]), fx]; rfl
end GW
