/-
  What the law 'BloomHas' says of plain Lean values.
-/
import Derived.Test.YtkohappfcfimmaaDoorPureBLaw
set_option linter.unusedVariables false
set_option linter.unusedSimpArgs false
set_option maxRecDepth 100000
namespace GW
open Go Go.RowKit
theorem has_l1 (x1 x2 t3 : List Int) (t4 : List Bool) (h1 : Fl x1) (h3 : Fl t3) (h4 : t4.length = 2048) (y1 : Bool) (hb : ∀ n, n < 2048 → bitN t3 n = (bitN x1 n || t4.getD n false)) : ∀ (r i q : Nat), i + r = 2048 → r < q → smithylaw29_BloomHas.l1 10000 x1 x2 y1 t3 t4 q (i : Int) = smithylaw29_BloomHas.j2 10000 x1 x2 y1 t3
  | 0, i, q, hi, hq => by
    obtain ⟨q, rfl⟩ : ∃ m, q = m + 1 := ⟨q - 1, by omega⟩
    show smithylaw29_BloomHas.b1 _ _ _ _ _ _ _ _ = _
    unfold smithylaw29_BloomHas.b1
    rw [if_neg (by simp; omega)]
  | r + 1, i, q, hi, hq => by
    obtain ⟨q, rfl⟩ : ∃ m, q = m + 1 := ⟨q - 1, by omega⟩
    show smithylaw29_BloomHas.b1 _ _ _ _ _ _ _ _ = _
    unfold smithylaw29_BloomHas.b1 smithylaw29_BloomHas.j3
    have hgt : gt t4 (i : Int) = t4.getD i false := rfl
    rw [if_pos (by simp; omega), if_pos (by omega), show (10000 : Nat) = 9990 + 10 from rfl, bit_eq 9990 h3 i (by omega), Option.bind_some, hgt, bit_eq 9990 h1 i (by omega), Option.bind_some, hb i (by omega), next_i i (by omega)]
    have ih := has_l1 x1 x2 t3 t4 h1 h3 h4 y1 hb r (i + 1) q (by omega) (by omega)
    cases t4.getD i false
    · rw [if_neg (by simp), if_neg (by simp)]; exact ih
    · rw [if_pos rfl, if_neg (by simp)]; exact ih
theorem has_l2 (x1 x2 : List Int) (h1 : Fl x1) (p : Nat × Nat × Nat) (b0 : p.1 < 2048) (b1 : p.2.1 < 2048) (b2 : p.2.2 < 2048) : smithylaw29_BloomHas.l2 10000 x1 x2 [(p.1 : Int), (p.2.1 : Int), (p.2.2 : Int)] 10000 0 true = smithylaw29_BloomHas.j1 10000 x1 x2 (bitN x1 p.1 && (bitN x1 p.2.1 && bitN x1 p.2.2)) := by
  have step : ∀ (q i n : Nat) (y : Bool), i < 3 → rd [(p.1 : Int), (p.2.1 : Int), (p.2.2 : Int)] (i : Int) = (n : Int) → n < 2048 → smithylaw29_BloomHas.l2 10000 x1 x2 [(p.1 : Int), (p.2.1 : Int), (p.2.2 : Int)] (q + 1) (i : Int) y = smithylaw29_BloomHas.l2 10000 x1 x2 [(p.1 : Int), (p.2.1 : Int), (p.2.2 : Int)] q ((i + 1 : Nat) : Int) (y && bitN x1 n) := fun q i n y hi hn hb => by
    show smithylaw29_BloomHas.b2 _ _ _ _ _ _ _ = _
    unfold smithylaw29_BloomHas.b2 smithylaw29_BloomHas.j4
    rw [if_pos (by simp; omega), if_pos (by simp; omega), hn, show (10000 : Nat) = 9990 + 10 from rfl, bit_eq 9990 h1 n hb, Option.bind_some, next_i i (by omega)]
    cases y <;> simp
  refine (step 9999 0 p.1 true (by omega) rfl b0).trans ((step 9998 1 p.2.1 _ (by omega) rfl b1).trans ((step 9997 2 p.2.2 _ (by omega) rfl b2).trans ?_))
  show smithylaw29_BloomHas.b2 _ _ _ _ _ _ _ = _
  unfold smithylaw29_BloomHas.b2
  rw [if_neg (by simp), Bool.true_and, Bool.and_assoc]
theorem smithylaw29_BloomHas_true (a0 : List Int) (a1 : List Int) (l0 : a0.length = 256) (w0 : ∀ y ∈ a0, inK .u8 y) (w1 : Gd36 a1) : ∃ k : Nat, smithylaw29_BloomHas.f k a0 a1 = some true := by
  refine ⟨10000, ?_⟩
  have h0 : Fl a0 := ⟨l0, w0⟩
  have fx : smithylaw29_fixed.f 10000 = some true := fixed29 (kF := 9800) (by omega)
  unfold smithylaw29_BloomHas.f
  by_cases c : (1000 : Int) < (a1.length : Int)
  · rw [if_pos (by simpa using c), fx]; rfl
  rw [if_neg (by simpa using c)]
  obtain ⟨p, h1, h2, h3, h4, h5, h6⟩ := plc_eq (kF := 9800) (by omega) (b := a1) (by omega)
  obtain ⟨t3, b1, b2, b3⟩ := badd_eq (kF := 9800) (by omega) (d := a1) h0 (by omega)
  obtain ⟨t4, s1, s2, s3⟩ := set_eq (kF := 9800) (by omega) [a1] (by simp) (fun d hd => by obtain rfl := List.mem_singleton.1 hd; omega)
  have h6' : smithyref29_Places.f 10000 a1 = _ := h6
  have b1' : bloom_Add.f 10000 a0 a1 = _ := b1
  have s1' : smithyref29_Set.f 10000 [a1] = _ := s1
  rw [h6', Option.bind_some, has_l2 a0 a1 h0 p h2 h3 h4]
  unfold smithylaw29_BloomHas.j1
  rw [b1', Option.bind_some, s1', Option.bind_some]
  have hs : ∀ n, t4.getD n false = (plc 9800 a1).contains n := fun n => by rw [s3 n]; simp [hit]
  refine (has_l1 a0 a1 t3 t4 h0 b2 s2 _ (fun n hn => by rw [b3 n hn, hs n]) 2048 0 10000 (by omega) (by omega)).trans ?_
  unfold smithylaw29_BloomHas.j2
  have e1 : bloom_Has.f 10000 a0 a1 = _ := bhas_eq (kF := 9800) (by omega) h0 (d := a1) (by omega)
  have e2 : bloom_Has.f 10000 t3 a1 = _ := bhas_eq (kF := 9800) (by omega) b2 (d := a1) (by omega)
  rw [fx, Option.bind_some, if_pos rfl, e1, Option.bind_some, h1]
  rw [if_pos (by simp), e2, Option.bind_some, h1]
  simp only [List.all_cons, List.all_nil, b3 p.1 h2, b3 p.2.1 h3, b3 p.2.2 h4, h1]
  simp
end GW
