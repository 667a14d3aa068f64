/-
  Filters: what the laws say again and again.
-/
import Derived.Test.YtkohappfcfimmaaDoorPureBOf
set_option linter.unusedVariables false
set_option linter.unusedSimpArgs false
set_option maxRecDepth 100000
namespace GW
open Go Go.RowKit
section
variable {kF : Nat}
/-! ### joins -/
theorem join_loop (x : List Int) (hx : Fl x) : ∀ (r i q : Nat) (y : List Int), i + r = 256 → r < q → Fl y → ∃ z, bloom_Join.l1 x q (i : Int) y = some z ∧ Fl z ∧ ∀ j, z.getD j 0 = if i ≤ j then (((y.getD j 0).toNat ||| (x.getD j 0).toNat : Nat) : Int) else y.getD j 0
  | 0, i, q, y, hi, hq, hy => by
    obtain ⟨q, rfl⟩ : ∃ m, q = m + 1 := ⟨q - 1, by omega⟩
    refine ⟨y, ?_, hy, fun j => ?_⟩
    · show bloom_Join.b1 _ _ _ _ = _
      unfold bloom_Join.b1 bloom_Join.j1
      rw [if_neg (by simp; omega)]
    · by_cases c : i ≤ j
      · have h1 := hy.1
        have h2 := hx.1
        rw [if_pos c, List.getD_eq_getElem?_getD, List.getD_eq_getElem?_getD, List.getElem?_eq_none (by omega), List.getElem?_eq_none (by omega)]; rfl
      · rw [if_neg c]
  | r + 1, i, q, y, hi, hq, hy => by
    obtain ⟨q, rfl⟩ : ∃ m, q = m + 1 := ⟨q - 1, by omega⟩
    obtain ⟨u, hu, hu2⟩ := hy.at i
    obtain ⟨v, hv, hv2⟩ := hx.at i
    obtain ⟨e1, e2⟩ := bits_or_u8_nat u v hu2 hv2
    obtain ⟨z, a1, a2, a3⟩ := join_loop x hx r (i + 1) q (y.set i ((u ||| v : Nat) : Int)) (by omega) (by omega) (hy.set i _ e2)
    have hl := hy.1
    refine ⟨z, ?_, a2, fun j => ?_⟩
    · refine Eq.trans ?_ a1
      show bloom_Join.b1 _ _ _ _ = _
      unfold bloom_Join.b1
      rw [if_pos (by simp; omega), if_pos (by omega), show rd y (i : Int) = (u : Int) from hu, show rd x (i : Int) = (v : Int) from hv, e1, next_i i (by omega), Int.toNat_natCast]
    · rw [a3 j]
      by_cases c : i = j
      · subst c
        rw [if_neg (by omega), if_pos (by omega), List.getD_eq_getElem?_getD, List.getElem?_set_self (by omega), hu, hv]; rfl
      · rw [List.getD_eq_getElem?_getD, List.getElem?_set_ne c, ← List.getD_eq_getElem?_getD]
        by_cases c2 : i ≤ j
        · rw [if_pos (by omega), if_pos c2]
        · rw [if_neg (by omega), if_neg c2]
theorem join_eq {a b : List Int} (ha : Fl a) (hb : Fl b) : ∃ z, bloom_Join.f (kF + 400) a b = some z ∧ Fl z ∧ ∀ n, bitN z n = (bitN a n || bitN b n) := by
  obtain ⟨z, a1, a2, a3⟩ := join_loop b hb 256 0 (kF + 400) a (by omega) (by omega) ha
  refine ⟨z, a1, a2, fun n => ?_⟩
  unfold bitN
  rw [a3, if_pos (by omega), Int.toNat_natCast, Nat.testBit_or]
/-! ### how many bits are set -/
def sumN (f : Nat → Nat) : Nat → Nat
  | 0 => 0
  | n + 1 => sumN f n + f n
theorem sumN_front (f : Nat → Nat) : ∀ n, sumN f (n + 1) = f 0 + sumN (fun i => f (i + 1)) n
  | 0 => by simp [sumN]
  | n + 1 => by rw [sumN, sumN_front f n, sumN, Nat.add_assoc]
theorem sumN_congr {f g : Nat → Nat} : ∀ n, (∀ i, i < n → f i = g i) → sumN f n = sumN g n
  | 0, _ => rfl
  | n + 1, h => by rw [sumN, sumN, sumN_congr n (fun i hi => h i (by omega)), h n (by omega)]
theorem sumN_rev (f : Nat → Nat) : ∀ n, sumN f n = sumN (fun i => f (n - 1 - i)) n
  | 0 => rfl
  | n + 1 => by
    rw [sumN_front (fun i => f (n + 1 - 1 - i)) n, sumN, sumN_rev f n, Nat.add_comm]
    have h0 : f (n + 1 - 1 - 0) = f n := congrArg f (by omega)
    have h1 : sumN (fun i => f (n - 1 - i)) n = sumN (fun i => f (n + 1 - 1 - (i + 1))) n := sumN_congr n fun i hi => congrArg f (by omega)
    rw [h0, h1]
theorem sumN_mul8 (f : Nat → Nat) : ∀ m, sumN f (8 * m) = sumN (fun i => f (8 * i) + f (8 * i + 1) + f (8 * i + 2) + f (8 * i + 3) + f (8 * i + 4) + f (8 * i + 5) + f (8 * i + 6) + f (8 * i + 7)) m
  | 0 => rfl
  | m + 1 => by
    rw [show 8 * (m + 1) = 8 * m + 7 + 1 by omega]
    simp only [sumN]
    rw [sumN_mul8 f m]
    omega
def b2n (b : Bool) : Nat := if b = true then 1 else 0
def pop (v : Nat) : Nat := b2n (v.testBit 0) + b2n (v.testBit 1) + b2n (v.testBit 2) + b2n (v.testBit 3) + b2n (v.testBit 4) + b2n (v.testBit 5) + b2n (v.testBit 6) + b2n (v.testBit 7)
theorem ones_all : ∀ v : Fin 256, bt txt0 ((v.1 : Nat) : Int) = ((pop v.1 : Nat) : Int) := by decide +kernel
theorem pop_le (v : Nat) : pop v ≤ 8 := by
  have : ∀ b : Bool, b2n b ≤ 1 := fun b => by cases b <;> decide
  have h0 := this (v.testBit 0)
  have h1 := this (v.testBit 1)
  have h2 := this (v.testBit 2)
  have h3 := this (v.testBit 3)
  have h4 := this (v.testBit 4)
  have h5 := this (v.testBit 5)
  have h6 := this (v.testBit 6)
  have h7 := this (v.testBit 7)
  unfold pop; omega
theorem ones_eq (v : Nat) (h : v < 256) : bits_OnesCount8.f (v : Int) = some ((pop v : Nat) : Int) := by
  have hs : txt0.size = 256 := by kernel_rfl
  have := pop_le v
  unfold bits_OnesCount8.f
  rw [hs, if_pos (by omega), show bt txt0 (v : Int) = ((pop v : Nat) : Int) from ones_all ⟨v, h⟩, wr_i64_id (by omega) (by omega)]
theorem count_loop (b : List Int) (hb : Fl b) : ∀ (r i q s : Nat), i + r = 256 → r < q → s = sumN (fun j => pop (b.getD j 0).toNat) i → s ≤ 8 * i → bloom_Count.l1 b q (i : Int) (s : Int) = some ((sumN (fun j => pop (b.getD j 0).toNat) 256 : Nat) : Int)
  | 0, i, q, s, hi, hq, hs, hl => by
    obtain ⟨q, rfl⟩ : ∃ m, q = m + 1 := ⟨q - 1, by omega⟩
    obtain rfl : i = 256 := by omega
    show bloom_Count.b1 _ _ _ _ = _
    unfold bloom_Count.b1 bloom_Count.j1
    rw [if_neg (by simp), hs]
  | r + 1, i, q, s, hi, hq, hs, hl => by
    obtain ⟨q, rfl⟩ : ∃ m, q = m + 1 := ⟨q - 1, by omega⟩
    obtain ⟨u, hu, hu2⟩ := hb.at i
    have hp := pop_le u
    show bloom_Count.b1 _ _ _ _ = _
    unfold bloom_Count.b1
    rw [if_pos (by simp; omega), if_pos (by omega), show rd b (i : Int) = (u : Int) from hu, ones_eq u hu2, Option.bind_some, next_i i (by omega), show wr .i64 ((s : Int) + ((pop u : Nat) : Int)) = ((s + pop u : Nat) : Int) from by rw [wr_i64_id (by omega) (by omega)]; omega]
    refine count_loop b hb r (i + 1) q (s + pop u) (by omega) (by omega) ?_ (by omega)
    rw [sumN, hs, hu, Int.toNat_natCast]
theorem count_eq {b : List Int} (hb : Fl b) (k : Nat) (hk : 300 < k) : bloom_Count.f k b = some ((sumN (fun n => b2n (bitN b n)) 2048 : Nat) : Int) := by
  refine (count_loop b hb 256 0 k 0 (by omega) (by omega) rfl (by omega)).trans ?_
  refine congrArg some (congrArg _ ?_)
  rw [sumN_rev, show (2048 : Nat) = 8 * 256 from rfl, sumN_mul8]
  refine sumN_congr 256 fun i hi => ?_
  have key : ∀ m, m < 8 → bitN b (8 * i + m) = (b.getD (255 - i) 0).toNat.testBit m := fun m hm => by
    unfold bitN
    rw [show (8 * i + m) / 8 = i by omega, show (8 * i + m) % 8 = m by omega]
  have k0 := key 0 (by omega)
  simp only [Nat.add_zero] at k0
  simp only [k0, key 1 (by omega), key 2 (by omega), key 3 (by omega), key 4 (by omega), key 5 (by omega), key 6 (by omega), key 7 (by omega)]
  rfl
/-! ### the chapter's examples -/
theorem sumN_le {f g : Nat → Nat} : ∀ n, (∀ i, i < n → f i ≤ g i) → sumN f n ≤ sumN g n
  | 0, _ => Nat.le_refl _
  | n + 1, h => Nat.add_le_add (sumN_le n fun i hi => h i (by omega)) (h n (by omega))
theorem sumN_add (f g : Nat → Nat) : ∀ n, sumN (fun i => f i + g i) n = sumN f n + sumN g n
  | 0 => rfl
  | n + 1 => by rw [sumN, sumN, sumN, sumN_add f g n]; omega
theorem sumN_one (p : Nat) : ∀ n, sumN (fun i => b2n (decide (i = p))) n = if p < n then 1 else 0
  | 0 => rfl
  | n + 1 => by
    rw [sumN, sumN_one p n]
    by_cases c : n = p
    · subst c; rw [if_neg (by omega), if_pos (by omega), decide_eq_true rfl]; rfl
    · rw [decide_eq_false c]
      by_cases c2 : p < n
      · rw [if_pos c2, if_pos (by omega)]; rfl
      · rw [if_neg c2, if_neg (by omega)]; rfl
theorem fixed29 (hk : 400 < kF) : smithylaw29_fixed.f (kF + 200) = some true := by
  obtain ⟨b, a1, a2, a3⟩ := bof_eq hk [([1, 0, 0, 0, 0, 0, 0, 0, 0, 0, 0, 0, 0, 0, 0, 0, 0, 0, 0, 0], [], [])] (by simp) (fun x hx => by
    obtain rfl := List.mem_singleton.1 hx
    exact ⟨rfl, by simp, fun t ht => by cases ht⟩)
  obtain ⟨z, c1, c2, c3⟩ := bof_eq hk [] (by simp) (fun x hx => by cases hx)
  obtain ⟨p, h1, h2, h3, h4, h5, h6⟩ := plc_eq (kF := kF) (by omega) (b := [1, 0, 0, 0, 0, 0, 0, 0, 0, 0, 0, 0, 0, 0, 0, 0, 0, 0, 0, 0]) (by simp; omega)
  have hz : z = List.replicate 256 0 := fl_ext c2 fl_zero (fun n hn => by rw [c3 n hn, bit_zero]; rfl)
  have hbit : ∀ n, n < 2048 → bitN b n = (decide (n = p.1) || (decide (n = p.2.1) || decide (n = p.2.2))) := fun n hn => by
    rw [a3 n hn]
    simp only [List.flatMap_cons, List.flatMap_nil, lgB, List.map_nil, List.append_nil, hit, List.any_cons, List.any_nil, Bool.or_false, h1, List.contains_cons, List.contains_nil, Bool.or_false]
    rfl
  have hle : sumN (fun n => b2n (bitN b n)) 2048 ≤ 3 := by
    have : sumN (fun n => b2n (bitN b n)) 2048 ≤ sumN (fun n => b2n (decide (n = p.1)) + (b2n (decide (n = p.2.1)) + b2n (decide (n = p.2.2)))) 2048 := sumN_le 2048 fun i hi => by
      rw [hbit i hi]
      cases decide (i = p.1) <;> cases decide (i = p.2.1) <;> cases decide (i = p.2.2) <;> decide
    rw [sumN_add, sumN_add, sumN_one, sumN_one, sumN_one, if_pos h2, if_pos h3, if_pos h4] at this
    omega
  have hge : 1 ≤ sumN (fun n => b2n (bitN b n)) 2048 := by
    have : sumN (fun n => b2n (decide (n = p.1))) 2048 ≤ sumN (fun n => b2n (bitN b n)) 2048 := sumN_le 2048 fun i hi => by
      rw [hbit i hi]
      cases decide (i = p.1) <;> cases decide (i = p.2.1) <;> cases decide (i = p.2.2) <;> decide
    rw [sumN_one, if_pos h2] at this
    omega
  unfold smithylaw29_fixed.f
  rw [a1, Option.bind_some, count_eq a2 _ (by omega), Option.bind_some, c1, Option.bind_some, if_pos (by simpa using hz), if_pos (by simp; omega)]
  exact congrArg some (decide_eq_true (by omega))
/-! ### logs that are gone through -/
theorem great_loop23 (x : (List Int) × Int × Bool × Int × (List Int) × (List Int) × (List Lg) × (List Int)) (hx : x.2.2.2.2.2.2.1.length < 10000) : ∀ (l : List Lg) (q i : Nat), x.2.2.2.2.2.2.1.drop i = l → i ≤ x.2.2.2.2.2.2.1.length → l.length < q → smithyref23_Great.l1 x q (i : Int) = some true ∨ (smithyref23_Great.l1 x q (i : Int) = some false ∧ ∀ w ∈ l, w.2.1.length ≤ 30 ∧ w.2.2.length ≤ 3000) := by
  intro l
  induction l with
  | nil =>
    intro q i hd hi hq
    obtain ⟨q, rfl⟩ : ∃ m, q = m + 1 := ⟨q - 1, by omega⟩
    have : x.2.2.2.2.2.2.1.length ≤ i := by simpa using hd
    right
    refine ⟨?_, by simp⟩
    show smithyref23_Great.b1 x _ _ = _
    unfold smithyref23_Great.b1
    rw [if_neg (by simp; omega)]
    rfl
  | cons w l ih =>
    intro q i hd hi hq
    simp only [List.length_cons] at hq
    obtain ⟨q, rfl⟩ : ∃ m, q = m + 1 := ⟨q - 1, by omega⟩
    obtain ⟨g, hi2, hr⟩ := gt_dropG hd
    have e : smithyref23_Great.l1 x (q + 1) (i : Int) = if (30 : Int) < (w.2.1.length : Int) ∨ (3000 : Int) < (w.2.2.length : Int) then some true else smithyref23_Great.l1 x q ((i + 1 : Nat) : Int) := by
      show smithyref23_Great.b1 x _ _ = _
      unfold smithyref23_Great.b1
      simp only [g]
      rw [if_pos (by simp; omega), if_pos (by omega)]
      unfold smithyref23_Great.j3
      rw [next_i i (by omega)]
      by_cases c : (30 : Int) < (w.2.1.length : Int)
      · rw [if_pos (by simpa using c), if_pos rfl, if_pos (Or.inl c)]
      · rw [if_neg (by simpa using c)]
        by_cases c2 : (3000 : Int) < (w.2.2.length : Int)
        · rw [decide_eq_true c2, if_pos rfl, if_pos (Or.inr c2)]
        · rw [decide_eq_false c2, if_neg (by simp), if_neg (by omega)]
    rw [e]
    by_cases c : (30 : Int) < (w.2.1.length : Int) ∨ (3000 : Int) < (w.2.2.length : Int)
    · rw [if_pos c]; exact Or.inl rfl
    · rw [if_neg c]
      rcases ih q (i + 1) hr (by omega) (by omega) with h | ⟨h1, h2⟩
      · exact Or.inl h
      · refine Or.inr ⟨h1, fun v hv => ?_⟩
        rcases List.mem_cons.1 hv with rfl | hv
        · omega
        · exact h2 v hv
theorem great29 (l : List Lg) (hg : Gd22 l) (k : Nat) (hk : 100 < k) : smithylaw29_great.f k l = some true ∨ (smithylaw29_great.f k l = some false ∧ l.length ≤ 30 ∧ ∀ x ∈ l, GL x) := by
  have key : ∀ x : (List Int) × Int × Bool × Int × (List Int) × (List Int) × (List Lg) × (List Int), x.2.2.2.2.2.2.1 = l → x.2.2.2.2.2.2.2 = [] → smithyref23_Great.f k x = some true ∨ (smithyref23_Great.f k x = some false ∧ l.length ≤ 30 ∧ ∀ w ∈ l, w.2.1.length ≤ 30 ∧ w.2.2.length ≤ 3000) := fun x h1 h2 => by
    unfold smithyref23_Great.f
    rw [h2, if_neg (by simp), h1]
    by_cases c : (30 : Int) < (l.length : Int)
    · rw [decide_eq_true c]; exact Or.inl rfl
    rw [decide_eq_false c]
    unfold smithyref23_Great.j1
    rw [if_neg (by simp)]
    rcases great_loop23 x (by rw [h1]; omega) l k 0 (by rw [h1]; rfl) (by omega) (by omega) with h | ⟨h3, h4⟩
    · exact Or.inl h
    · exact Or.inr ⟨h3, by omega, h4⟩
  unfold smithylaw29_great.f
  rcases key ([0, 0, 0, 0, 0, 0, 0, 0, 0, 0, 0, 0, 0, 0, 0, 0, 0, 0, 0, 0], 0, false, 0, [0, 0, 0, 0], [0, 0, 0, 0, 0, 0, 0, 0, 0, 0, 0, 0, 0, 0, 0, 0, 0, 0, 0, 0], l, ([] : List Int)) rfl rfl with h | ⟨h1, h2, h3⟩
  · rw [h]; exact Or.inl rfl
  · rw [h1]
    refine Or.inr ⟨rfl, h2, fun x hx => ?_⟩
    have hgx := hg.1 x hx
    exact ⟨hgx.1.1, (h3 x hx).1, fun t ht => hgx.2.1.1 t ht⟩
end
end GW
