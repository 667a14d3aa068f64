/-
  What the law 'BloomOf' says of plain Lean values.
-/
import Derived.Test.YtkohappfcfimmaaDoorPureBLaw
set_option linter.unusedVariables false
set_option linter.unusedSimpArgs false
set_option maxRecDepth 100000
namespace GW
open Go Go.RowKit
theorem same_loop (b : List Int) (hb : Fl b) (t : List Bool) (ht : t.length = 2048) (h : ∀ n, n < 2048 → bitN b n = t.getD n false) : ∀ (r i q : Nat), i + r = 2048 → r < q → smithyref29_Same.l1 10000 b t q (i : Int) = some true
  | 0, i, q, hi, hq => by
    obtain ⟨q, rfl⟩ : ∃ m, q = m + 1 := ⟨q - 1, by omega⟩
    show smithyref29_Same.b1 _ _ _ _ _ = _
    unfold smithyref29_Same.b1 smithyref29_Same.j1
    rw [if_neg (by simp; omega)]
  | r + 1, i, q, hi, hq => by
    obtain ⟨q, rfl⟩ : ∃ m, q = m + 1 := ⟨q - 1, by omega⟩
    show smithyref29_Same.b1 _ _ _ _ _ = _
    unfold smithyref29_Same.b1
    have hgt : gt t (i : Int) = t.getD i false := rfl
    rw [if_pos (by simp; omega), if_pos (by omega), show (10000 : Nat) = 9990 + 10 from rfl, bit_eq 9990 hb i (by omega), Option.bind_some, hgt, h i (by omega), if_neg (by simp), next_i i (by omega)]
    exact same_loop b hb t ht h r (i + 1) q (by omega) (by omega)
theorem of_l3 (x1 : List Lg) (t3 : List Int) (t4 : List Bool) (ht : t4.length = 2048) : ∀ (r i q s : Nat), i + r = 2048 → r < q → s = sumN (fun n => b2n (t4.getD n false)) i → s ≤ i → smithylaw29_BloomOf.l3 10000 x1 t3 t4 q (i : Int) (s : Int) = smithylaw29_BloomOf.j1 10000 x1 t3 t4 ((sumN (fun n => b2n (t4.getD n false)) 2048 : Nat) : Int)
  | 0, i, q, s, hi, hq, hs, hl => by
    obtain ⟨q, rfl⟩ : ∃ m, q = m + 1 := ⟨q - 1, by omega⟩
    obtain rfl : i = 2048 := by omega
    show smithylaw29_BloomOf.b3 _ _ _ _ _ _ _ = _
    unfold smithylaw29_BloomOf.b3
    rw [if_neg (by simp; omega), hs]
  | r + 1, i, q, s, hi, hq, hs, hl => by
    obtain ⟨q, rfl⟩ : ∃ m, q = m + 1 := ⟨q - 1, by omega⟩
    show smithylaw29_BloomOf.b3 _ _ _ _ _ _ _ = _
    unfold smithylaw29_BloomOf.b3 smithylaw29_BloomOf.j4
    have hgt : gt t4 (i : Int) = t4.getD i false := rfl
    rw [if_pos (by simp; omega), if_pos (by omega), hgt, next_i i (by omega), show wr .i64 ((s : Int) + 1) = ((s + 1 : Nat) : Int) from next_i s (by omega)]
    cases e : t4.getD i false
    · rw [if_neg (by simp)]
      exact of_l3 x1 t3 t4 ht r (i + 1) q s (by omega) (by omega) (by rw [sumN, e, hs]; rfl) (by omega)
    · rw [if_pos rfl]
      exact of_l3 x1 t3 t4 ht r (i + 1) q (s + 1) (by omega) (by omega) (by rw [sumN, e, hs]; rfl) (by omega)
theorem of_l2 (t3 : List Int) (h3 : Fl t3) (i : Int) (rec1 : Int → Option Bool) (ds : List (List Int)) (hds : ∀ d ∈ ds, d.length ≤ 32 ∧ (plc 9800 d).all (bitN t3) = true) : ∀ (l : List (List Int)) (q j : Nat), ds.drop j = l → j ≤ ds.length → ds.length < 1000 → l.length < q → smithylaw29_BloomOf.l2 10000 t3 i rec1 ds q (j : Int) = smithylaw29_BloomOf.j3 i rec1 := by
  intro l
  induction l with
  | nil =>
    intro q j hd hj hl hq
    obtain ⟨q, rfl⟩ : ∃ m, q = m + 1 := ⟨q - 1, by omega⟩
    have : ds.length ≤ j := by simpa using hd
    show smithylaw29_BloomOf.b2 _ _ _ _ _ _ _ = _
    unfold smithylaw29_BloomOf.b2
    rw [if_neg (by simp; omega)]
  | cons d l ih =>
    intro q j hd hj hl hq
    simp only [List.length_cons] at hq
    obtain ⟨q, rfl⟩ : ∃ m, q = m + 1 := ⟨q - 1, by omega⟩
    obtain ⟨g, hj2, hr⟩ := gt_dropG hd
    have hdm := hds d (by have : d ∈ ds.drop j := by rw [hd]; simp
                          exact List.drop_subset _ _ this)
    have e1 : bloom_Has.f 10000 t3 d = _ := bhas_eq (kF := 9800) (by omega) h3 (d := d) (by omega)
    show smithylaw29_BloomOf.b2 _ _ _ _ _ _ _ = _
    unfold smithylaw29_BloomOf.b2
    rw [if_pos (by simp; omega), if_pos (by omega), g, e1, Option.bind_some, hdm.2, if_neg (by simp), next_i j (by omega)]
    exact ih q (j + 1) hr (by omega) hl (by omega)
theorem of_l1 (x1 : List Lg) (hx : x1.length ≤ 30) (t3 : List Int) (h3 : Fl t3) (t4 : List Bool) (y1 : Int) : ∀ (l : List Lg) (q i : Nat), x1.drop i = l → i ≤ x1.length → l.length < q → (∀ x ∈ l, GL x ∧ ∀ d ∈ lgB x, (plc 9800 d).all (bitN t3) = true) → smithylaw29_BloomOf.l1 10000 x1 t3 t4 y1 q (i : Int) = smithylaw29_BloomOf.j2 10000 t3 t4 y1 := by
  intro l
  induction l with
  | nil =>
    intro q i hd hi hq hg
    obtain ⟨q, rfl⟩ : ∃ m, q = m + 1 := ⟨q - 1, by omega⟩
    have : x1.length ≤ i := by simpa using hd
    show smithylaw29_BloomOf.b1 _ _ _ _ _ _ _ = _
    unfold smithylaw29_BloomOf.b1
    rw [if_neg (by simp; omega)]
  | cons x l ih =>
    intro q i hd hi hq hg
    simp only [List.length_cons] at hq
    obtain ⟨q, rfl⟩ : ∃ m, q = m + 1 := ⟨q - 1, by omega⟩
    obtain ⟨g, hi2, hr⟩ := gt_dropG hd
    obtain ⟨hx1, hx2⟩ := hg x (by simp)
    have e1 : smithyref29_Bytes.f 10000 x = _ := lbytes_eq (kF := 9800) x hx1
    show smithylaw29_BloomOf.b1 _ _ _ _ _ _ _ = _
    unfold smithylaw29_BloomOf.b1
    rw [if_pos (by simp; omega), if_pos (by omega)]
    simp only [g]
    rw [show smithyref29_Bytes.f 10000 (x.1, x.2.1, x.2.2) = _ from e1, Option.bind_some]
    have hl : (lgB x).length ≤ 31 := by have := hx1.2.1; simp [lgB]; omega
    rw [show smithylaw29_BloomOf.l2 10000 t3 (i : Int) (smithylaw29_BloomOf.l1 10000 x1 t3 t4 y1 q) (lgB x) 10000 0 = _ from of_l2 t3 h3 (i : Int) (smithylaw29_BloomOf.l1 10000 x1 t3 t4 y1 q) (lgB x) (fun d hd => ⟨lgB_len hx1 d hd, hx2 d hd⟩) (lgB x) 10000 0 rfl (by omega) (by omega) (by omega)]
    unfold smithylaw29_BloomOf.j3
    rw [next_i i (by omega)]
    exact ih q (i + 1) hr (by omega) (by omega) (fun z hz => hg z (by simp [hz]))
theorem smithylaw29_BloomOf_true (a0 : List ((List Int) × (List (List Int)) × (List Int))) (w0 : Gd22 a0) : ∃ k : Nat, smithylaw29_BloomOf.f k a0 = some true := by
  refine ⟨10000, ?_⟩
  have fx : smithylaw29_fixed.f 10000 = some true := fixed29 (kF := 9800) (by omega)
  unfold smithylaw29_BloomOf.f
  rcases great29 a0 w0 10000 (by omega) with h | ⟨h, hl, hg⟩
  · rw [h, Option.bind_some, if_pos rfl, fx]; rfl
  rw [h, Option.bind_some, if_neg (by simp)]
  obtain ⟨b, b1, b2, b3⟩ := bof_eq (kF := 9800) (by omega) a0 (by omega) hg
  obtain ⟨t, t1, t2, t3⟩ := rof_eq (kF := 9800) (by omega) a0 (by omega) hg
  have b1' : bloom_Of.f 10000 a0 = _ := b1
  have t1' : smithyref29_Of.f 10000 a0 = _ := t1
  have hbt : ∀ n, n < 2048 → bitN b n = t.getD n false := fun n hn => by rw [b3 n hn, t3 n]
  rw [b1', Option.bind_some, t1', Option.bind_some]
  refine (of_l3 a0 b t t2 2048 0 10000 0 (by omega) (by omega) rfl (by omega)).trans ?_
  unfold smithylaw29_BloomOf.j1
  refine (of_l1 a0 hl b b2 t _ a0 10000 0 rfl (by omega) (by omega) (fun x hx => ⟨hg x hx, fun d hd => ?_⟩)).trans ?_
  · have hlen := lgB_len (hg x hx) d hd
    obtain ⟨p, h1, h2, h3, h4, _, _⟩ := plc_eq (kF := 9800) (by omega) (b := d) (by omega)
    rw [List.all_eq_true]
    intro n hn
    have hn2 : n < 2048 := by
      rw [h1] at hn
      simp only [List.mem_cons, List.not_mem_nil, or_false] at hn
      rcases hn with rfl | rfl | rfl
      · exact h2
      · exact h3
      · exact h4
    rw [b3 n hn2]
    unfold hit
    rw [List.any_eq_true]
    exact ⟨d, List.mem_flatMap.2 ⟨x, hx, hd⟩, by simpa using hn⟩
  · unfold smithylaw29_BloomOf.j2 smithyref29_Same.f
    rw [fx, Option.bind_some, if_pos rfl, show smithyref29_Same.l1 10000 b t 10000 0 = _ from same_loop b b2 t t2 hbt 2048 0 10000 (by omega) (by omega), Option.bind_some, if_pos rfl, count_eq b2 10000 (by omega), Option.bind_some]
    have : sumN (fun n => b2n (bitN b n)) 2048 = sumN (fun n => b2n (t.getD n false)) 2048 := sumN_congr 2048 fun i hi => by rw [hbt i hi]
    rw [this]; simp
end GW
