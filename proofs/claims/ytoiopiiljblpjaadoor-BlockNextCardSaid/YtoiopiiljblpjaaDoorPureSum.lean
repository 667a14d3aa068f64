import Derived.Test.YtoiopiiljblpjaaDoorPureAbsorbF
set_option linter.unusedVariables false
set_option linter.unusedSimpArgs false
namespace GW
variable {kF : Nat}
open Go Go.RowKit
def absF (g : Nat → Int) (y : List Int) (i : Nat) : List Int := y.set (i / 8) (bits .xor .u64 (rd y ((i / 8 : Nat) : Int)) (shl .u64 (wr .u64 (g i)) (8 * (i % 8))))
theorem absF_length (g : Nat → Int) (y : List Int) (i : Nat) : (absF g y i).length = y.length := by simp [absF]
theorem fold_congr (g g' : Nat → Int) (l : List Nat) (h : ∀ i ∈ l, g i = g' i) : ∀ y : List Int, l.foldl (absF g) y = l.foldl (absF g') y := by
  induction l with
  | nil => intro y; rfl
  | cons a l ih =>
    intro y
    rw [List.foldl_cons, List.foldl_cons, ih (fun i hi => h i (List.mem_cons_of_mem _ hi))]
    unfold absF
    rw [h a List.mem_cons_self]
def blocks (T : List Int → Option (List Int)) : Nat → (Nat → Int) → List Int → Option (List Int)
  | 0, _, s => some s
  | n + 1, g, s => (T ((List.range 136).foldl (absF g) s)).bind (blocks T n (fun i => g (136 + i)))
theorem blocks_congr (T : List Int → Option (List Int)) (n : Nat) : ∀ (g g' : Nat → Int) (s : List Int), (∀ i, i < 136 * n → g i = g' i) → blocks T n g s = blocks T n g' s := by
  induction n with
  | zero => intro g g' s h; rfl
  | succ n ih =>
    intro g g' s h
    show (T _).bind _ = (T _).bind _
    rw [fold_congr g g' _ (fun i hi => h i (by have := List.mem_range.1 hi; omega))]
    congr 1
    funext t
    exact ih _ _ t (fun i hi => h (136 + i) (by omega))
def okY (y : List Int) : Prop := y.length = 25 ∧ ∀ x ∈ y, inU x
theorem okY_abs (g : Nat → Int) (y : List Int) (i : Nat) (h : okY y) : okY (absF g y i) := by
  refine ⟨by rw [absF_length]; exact h.1, fun x hx => ?_⟩
  rcases List.mem_or_eq_of_mem_set hx with hx | hx
  · exact h.2 x hx
  · rw [hx]; exact inU_bits _ _ _
theorem okY_fold (g : Nat → Int) (l : List Nat) : ∀ y : List Int, okY y → okY (l.foldl (absF g) y) := by
  induction l with
  | nil => intro y h; exact h
  | cons a l ih => intro y h; exact ih _ (okY_abs g y a h)
theorem blocks_turn (T T' : List Int → Option (List Int)) (hT : ∀ y, okY y → ∃ z, T y = some z ∧ T' y = some z ∧ okY z) (n : Nat) : ∀ (g : Nat → Int) (s : List Int), okY s → ∃ z, blocks T n g s = some z ∧ blocks T' n g s = some z ∧ okY z := by
  induction n with
  | zero => intro g s h; exact ⟨s, rfl, rfl, h⟩
  | succ n ih =>
    intro g s h
    obtain ⟨z, h1, h2, h3⟩ := hT _ (okY_fold g (List.range 136) s h)
    obtain ⟨z', k1, k2, k3⟩ := ih (fun i => g (136 + i)) z h3
    refine ⟨z', ?_, ?_, k3⟩
    · show (T _).bind _ = _
      rw [h1, Option.bind_some, k1]
    · show (T' _).bind _ = _
      rw [h2, Option.bind_some, k2]
def padF (b : List Int) (i : Nat) : Int :=
  if i < b.length then rd b (i : Int)
  else if i + 1 = 136 * (b.length / 136 + 1) then bits .or .u8 (if i = b.length then 1 else 0) 128
  else if i = b.length then 1 else 0
theorem padF_shift (b : List Int) (h : 136 ≤ b.length) (i : Nat) : padF b (136 + i) = padF (b.drop 136) i := by
  unfold padF
  rw [List.length_drop]
  have e1 : rd (b.drop 136) (i : Int) = rd b ((136 + i : Nat) : Int) := by
    unfold rd
    rw [Int.toNat_natCast, Int.toNat_natCast, List.getD_eq_getElem?_getD, List.getD_eq_getElem?_getD, List.getElem?_drop]
  rw [e1]
  have e2 : (b.length - 136) / 136 + 1 = b.length / 136 := by omega
  rw [e2]
  have q1 : (136 + i < b.length) = (i < b.length - 136) := propext (by omega)
  have q2 : (136 + i + 1 = 136 * (b.length / 136 + 1)) = (i + 1 = 136 * (b.length / 136)) := propext (by omega)
  have q3 : (136 + i = b.length) = (i = b.length - 136) := propext (by omega)
  simp only [q1, q2, q3]
theorem rd_set (l : List Int) (j i : Nat) (v : Int) (h : j < l.length) : rd (l.set j v) (i : Int) = if i = j then v else rd l (i : Int) := by
  unfold rd
  simp only [Int.toNat_natCast, List.getD_eq_getElem?_getD, List.getElem?_set]
  by_cases e : i = j
  · subst e; simp [h]
  · rw [if_neg (fun e' => e e'.symm), if_neg e]
theorem absorbF (f : Nat) (y x : List Int) (hl : x.length = 136) (hf : 136 < f) : keccak_absorb.f f y x = keccak_Turn.f f ((List.range 136).foldl (absF (fun i => rd x (i : Int))) y) := by
  have := absorb_eq f y x (by omega) (by omega) trivial
  rw [hl] at this
  exact this
theorem sum_loop (f n : Nat) (hf : 136 < f) : ∀ (k : Nat) (b s : List Int), b.length / 136 = n → n < k → b.length < 9000000 →
    keccak_Sum.l2 f k b s = (blocks (keccak_Turn.f f) (n + 1) (padF b) s).bind fun t => keccak_Sum.l1 t f 0 (List.replicate 32 0) := by
  induction n with
  | zero =>
    intro k b s hb hk hs
    obtain ⟨k, rfl⟩ : ∃ q, k = q + 1 := ⟨k - 1, by omega⟩
    have hlt : b.length < 136 := by omega
    show keccak_Sum.b2 f _ b s = _
    unfold keccak_Sum.b2 keccak_Sum.j1
    have hm : min b.length 136 = b.length := by omega
    rw [if_neg (by simp; omega), hm, if_pos ⟨by omega, by omega⟩]
    have hcl : (cpy (List.replicate 136 0) 0 b b.length).length = 136 := by rw [cpy_length _ _ _ _ (by rw [List.length_replicate]; omega) (by omega), List.length_replicate]
    generalize hX : (((cpy (List.replicate 136 0) 0 b b.length).set (Int.toNat ((b.length : Nat) : Int)) 1).set (Int.toNat 135) (bits .or .u8 (rd ((cpy (List.replicate 136 0) 0 b b.length).set (Int.toNat ((b.length : Nat) : Int)) 1) 135) 128)) = X
    have hXl : X.length = 136 := by rw [← hX, List.length_set, List.length_set, hcl]
    have hX2 : (X.drop 0).take 136 = X := by rw [List.drop_zero, List.take_of_length_le (by omega)]
    rw [hX2, absorbF f s X hXl hf]
    have hg : ∀ i ∈ List.range 136, rd X (i : Int) = padF b i := by
      intro i hi
      have hi := List.mem_range.1 hi
      have hc : rd (cpy (List.replicate 136 0) 0 b b.length) (i : Int) = if i < b.length then rd b (i : Int) else 0 := by
        simp only [cpy, List.take_zero, List.nil_append, List.take_length, Nat.zero_add, rd, Int.toNat_natCast, List.getD_eq_getElem?_getD]
        by_cases h : i < b.length
        · rw [List.getElem?_append_left h, if_pos h]
        · rw [List.getElem?_append_right (by omega), if_neg h, List.getElem?_drop, List.getElem?_replicate]
          split <;> rfl
      have h135 : ((135 : Nat) : Int) = 135 := rfl
      rw [← hX]
      simp only [Int.toNat_natCast]
      have e135 : Int.toNat 135 = 135 := rfl
      rw [e135, rd_set _ 135 i _ (by rw [List.length_set, hcl]; omega), ← h135, rd_set _ b.length 135 _ (by omega), rd_set _ b.length i _ (by omega)]
      unfold padF
      have hc135 : rd (cpy (List.replicate 136 0) 0 b b.length) ((135 : Nat) : Int) = if 135 < b.length then rd b ((135 : Nat) : Int) else 0 := by
        simp only [cpy, List.take_zero, List.nil_append, List.take_length, Nat.zero_add, rd, Int.toNat_natCast, List.getD_eq_getElem?_getD]
        rw [List.getElem?_append_right (by omega), if_neg (by omega), List.getElem?_drop, List.getElem?_replicate]
        split <;> rfl
      rw [hc, hc135]
      have hd : 136 * (b.length / 136 + 1) = 136 := by omega
      rw [hd]
      by_cases hi1 : i = 135
      · subst hi1
        have n1 : ¬ (135 < b.length) := by omega
        simp [n1]
      · rw [if_neg hi1]
        have n2 : ¬ (i + 1 = 136) := by omega
        rw [if_neg n2]
        by_cases hb2 : i < b.length
        · simp [hb2, show ¬ i = b.length by omega]
        · simp [hb2]
    rw [fold_congr _ (padF b) _ hg]
    unfold blocks blocks
    rw [Option.bind_assoc]
    rfl
  | succ n ih =>
    intro k b s hb hk hs
    obtain ⟨k, rfl⟩ : ∃ q, k = q + 1 := ⟨k - 1, by omega⟩
    have hge : 136 ≤ b.length := by omega
    show keccak_Sum.b2 f _ b s = _
    unfold keccak_Sum.b2
    have e136 : Int.toNat 136 = 136 := rfl
    rw [if_pos (by simp; omega), if_pos ⟨by omega, by omega, by omega⟩, e136, absorbF f s _ (by rw [List.length_take]; omega) hf]
    have hg : ∀ i ∈ List.range 136, rd (b.take 136) (i : Int) = padF b i := by
      intro i hi
      have hi := List.mem_range.1 hi
      unfold padF
      rw [if_pos (by omega)]
      simp [rd, List.getD_eq_getElem?_getD, List.getElem?_take_of_lt hi]
    rw [fold_congr _ (padF b) _ hg]
    unfold blocks
    rw [Option.bind_assoc]
    congr 1
    funext t
    rw [if_pos ⟨by omega, by omega, by omega⟩]
    have := ih k (b.drop 136) t (by rw [List.length_drop]; omega) (by omega) (by rw [List.length_drop]; omega)
    refine this.trans ?_
    congr 2
    funext i
    exact (padF_shift b hge i).symm
theorem fill_loop (f : Nat) (b : List Int) (hb : b.length < 9000000) (d : Nat) : ∀ (k j : Nat), j + d = 135 - b.length % 136 → d < k →
    smithyref05_Sum.l3 f k (b ++ 1 :: List.replicate j 0) = smithyref05_Sum.j1 f (b ++ 1 :: List.replicate (135 - b.length % 136) 0) := by
  induction d with
  | zero =>
    intro k j hj hk
    obtain ⟨k, rfl⟩ : ∃ q, k = q + 1 := ⟨k - 1, by omega⟩
    show smithyref05_Sum.b3 f _ _ = _
    unfold smithyref05_Sum.b3
    have hl : (b ++ 1 :: List.replicate j 0).length = b.length + 1 + j := by simp; omega
    rw [hl, tmod_pos (by omega), if_neg (by simp; omega)]
    rw [show j = 135 - b.length % 136 by omega]
  | succ d ih =>
    intro k j hj hk
    obtain ⟨k, rfl⟩ : ∃ q, k = q + 1 := ⟨k - 1, by omega⟩
    show smithyref05_Sum.b3 f _ _ = _
    unfold smithyref05_Sum.b3
    have hl : (b ++ 1 :: List.replicate j 0).length = b.length + 1 + j := by simp; omega
    have ha : (b ++ 1 :: List.replicate j 0) ++ [0] = b ++ 1 :: List.replicate (j + 1) 0 := by
      rw [List.replicate_succ']; simp
    rw [hl, tmod_pos (by omega), if_pos (by simp; omega), if_pos (by simp; omega), ha]
    exact ih k (j + 1) (by omega) (by omega)
theorem ref_inner (f : Nat) (y1 : List Int) (A : List Int) (hA : y1.set (Int.toNat (wr .i64 (((y1).length : Int) - 1))) (bits .or .u8 (rd y1 (wr .i64 (((y1).length : Int) - 1))) 128) = A) (hL : A.length < 9100000) (j K : Nat) (hj : 136 * (j + 1) ≤ A.length) (d : Nat) :
    ∀ (r : Nat) (y : List Int), r + d = 135 → smithyref05_Sum.l2 f y1 (K + d + 1) ((136 * j + r : Nat) : Int) y = (smithyref05_Turn.f f ((List.range' r (d + 1)).foldl (absF (fun i => rd A ((136 * j + i : Nat) : Int))) y)).bind (fun t => smithyref05_Sum.l2 f y1 K ((136 * (j + 1) : Nat) : Int) t) := by
  induction d with
  | zero =>
    intro r y hr
    obtain rfl : r = 135 := by omega
    show smithyref05_Sum.b2 f y1 _ _ _ = _
    unfold smithyref05_Sum.b2 smithyref05_Sum.j4
    have e0 : Int.tmod ((136 * j + 135 : Nat) : Int) 136 = 135 := by rw [tmod_pos (by omega)]; omega
    have e2 : wr .i64 (((136 * j + 135 : Nat) : Int) + 1) = ((136 * (j + 1) : Nat) : Int) := by rw [wr_i64_id (by omega) (by omega)]; omega
    rw [hA, e0, e2, if_pos (by simp; omega), if_pos (by decide), if_pos ⟨by omega, by omega⟩, if_pos (by decide), if_pos (by decide)]
    rfl
  | succ d ih =>
    intro r y hr
    show smithyref05_Sum.b2 f y1 _ _ _ = _
    unfold smithyref05_Sum.b2 smithyref05_Sum.j4
    have e0 : Int.tmod ((136 * j + r : Nat) : Int) 136 = (r : Int) := by rw [tmod_pos (by omega)]; omega
    have e1 : wr .i64 (Int.tdiv (r : Int) 8) = ((r / 8 : Nat) : Int) := by rw [tdiv_pos (by omega), wr_i64_id (by omega) (by omega)]; omega
    have e3 : wr .i64 (8 * Int.tmod (r : Int) 8) = ((8 * (r % 8) : Nat) : Int) := by rw [tmod_pos (by omega), wr_i64_id (by omega) (by omega)]; omega
    have e2 : wr .i64 (((136 * j + r : Nat) : Int) + 1) = ((136 * j + (r + 1) : Nat) : Int) := by rw [wr_i64_id (by omega) (by omega)]; omega
    rw [hA, e0, e1, e2, e3, if_pos (by simp; omega), if_pos ⟨by omega, by omega⟩, if_pos ⟨by omega, by omega⟩, if_pos (by omega), if_neg (by simp; omega), Int.toNat_natCast, Int.toNat_natCast, Nat.min_eq_left (by omega)]
    have := ih (r + 1) (absF (fun i => rd A ((136 * j + i : Nat) : Int)) y r) (by omega)
    rw [List.range'_succ, List.foldl_cons, ← this]
    have e5 : K + (d + 1) = K + d + 1 := by omega
    rw [e5]
    rfl
theorem ref_loop (f : Nat) (y1 : List Int) (A : List Int) (hA : y1.set (Int.toNat (wr .i64 (((y1).length : Int) - 1))) (bits .or .u8 (rd y1 (wr .i64 (((y1).length : Int) - 1))) 128) = A) (hL : A.length < 9100000) (n : Nat) :
    ∀ (j K : Nat) (y : List Int), 136 * (j + n) = A.length → smithyref05_Sum.l2 f y1 (K + 136 * n + 1) ((136 * j : Nat) : Int) y = (blocks (smithyref05_Turn.f f) n (fun i => rd A ((136 * j + i : Nat) : Int)) y).bind (smithyref05_Sum.j2 f) := by
  induction n with
  | zero =>
    intro j K y hj
    show smithyref05_Sum.b2 f y1 _ _ _ = _
    unfold smithyref05_Sum.b2
    rw [hA, if_neg (by simp; omega)]
    rfl
  | succ n ih =>
    intro j K y hj
    have e5 : K + 136 * (n + 1) + 1 = (K + 136 * n + 1) + 135 + 1 := by omega
    have h1 := ref_inner f y1 A hA hL j (K + 136 * n + 1) (by omega) 135 0 y (by omega)
    rw [e5]
    refine h1.trans ?_
    show _ = ((smithyref05_Turn.f f _).bind _).bind _
    rw [Option.bind_assoc, List.range_eq_range']
    congr 1
    funext t
    rw [ih (j + 1) K t (by omega)]
    congr 2
    funext i
    congr 2
    omega
theorem rd_pad (b : List Int) (i : Nat) (hi : i < 136 * (b.length / 136 + 1)) : rd (b ++ 1 :: List.replicate (135 - b.length % 136) 0) (i : Int) = if i < b.length then rd b (i : Int) else if i = b.length then 1 else 0 := by
  unfold rd
  simp only [Int.toNat_natCast, List.getD_eq_getElem?_getD]
  by_cases h : i < b.length
  · rw [List.getElem?_append_left h, if_pos h]
  · rw [List.getElem?_append_right (by omega), if_neg h]
    by_cases h2 : i = b.length
    · subst h2; simp
    · rw [if_neg h2, show i - b.length = (i - b.length - 1) + 1 by omega, List.getElem?_cons_succ, List.getElem?_replicate]
      split <;> rfl
theorem ref_sum (f : Nat) (b : List Int) (hb : b.length < 9000000) (hf : b.length + 300 < f) : smithyref05_Sum.f f b = (blocks (smithyref05_Turn.f f) (b.length / 136 + 1) (padF b) (List.replicate 25 0)).bind (smithyref05_Sum.j2 f) := by
  unfold smithyref05_Sum.f
  have hz : ([] : List Int) ++ b = b := rfl
  rw [if_pos (by simp; omega), hz, if_pos (by simp; omega)]
  have h1 := fill_loop f b hb (135 - b.length % 136) f 0 (by omega) (by omega)
  refine h1.trans ?_
  generalize hy : b ++ 1 :: List.replicate (135 - b.length % 136) 0 = y1
  have hyl : y1.length = 136 * (b.length / 136 + 1) := by rw [← hy]; simp; omega
  unfold smithyref05_Sum.j1
  have e1 : wr .i64 ((y1.length : Int) - 1) = ((y1.length - 1 : Nat) : Int) := by rw [wr_i64_id (by omega) (by omega)]; omega
  rw [e1, if_pos ⟨by omega, by omega⟩]
  have h2 := ref_loop f y1 _ rfl (by rw [List.length_set]; omega) (b.length / 136 + 1) 0 (f - 136 * (b.length / 136 + 1) - 1) (List.replicate 25 0) (by rw [List.length_set]; omega)
  have e6 : f - 136 * (b.length / 136 + 1) - 1 + 136 * (b.length / 136 + 1) + 1 = f := by omega
  rw [e6] at h2
  refine h2.trans (congrArg (fun z => Option.bind z (smithyref05_Sum.j2 f)) (blocks_congr _ _ _ _ _ fun i hi => ?_))
  have e7 : 136 * 0 + i = i := by omega
  rw [e7, e1, Int.toNat_natCast, rd_set _ _ i _ (by omega), hyl]
  have hp := rd_pad b i hi
  rw [hy] at hp
  by_cases h3 : i = 136 * (b.length / 136 + 1) - 1
  · rw [if_pos h3, ← h3, hp]
    have n1 : ¬ i < b.length := by omega
    have n2 : i + 1 = 136 * (b.length / 136 + 1) := by omega
    unfold padF
    rw [if_neg n1, if_neg n1, if_pos n2]
  · rw [if_neg h3, hp]
    have n2 : ¬ i + 1 = 136 * (b.length / 136 + 1) := by omega
    unfold padF
    rw [if_neg n2]
theorem out_loop (t : List Int) (ht : ∀ i : Nat, 0 ≤ rd t (i : Int)) (d : Nat) : ∀ (k i : Nat) (y : List Int), i + d = 32 → d < k → y.length = 32 → (∀ x ∈ y, 0 ≤ x ∧ x < 256) → ∃ z : List Int, keccak_Sum.l1 t k (i : Int) y = some z ∧ smithyref05_Sum.l1 t k (i : Int) y = some z ∧ z.length = 32 ∧ ∀ x ∈ z, 0 ≤ x ∧ x < 256 := by
  induction d with
  | zero =>
    intro k i y hi hk hl hu
    obtain ⟨k, rfl⟩ : ∃ q, k = q + 1 := ⟨k - 1, by omega⟩
    refine ⟨y, ?_, ?_, hl, hu⟩
    · show keccak_Sum.b1 _ _ _ _ = _
      unfold keccak_Sum.b1
      rw [if_neg (by simp; omega)]
      rfl
    · show smithyref05_Sum.b1 _ _ _ _ = _
      unfold smithyref05_Sum.b1
      rw [if_neg (by simp; omega)]
      rfl
  | succ d ih =>
    intro k i y hi hk hl hu
    obtain ⟨k, rfl⟩ : ∃ q, k = q + 1 := ⟨k - 1, by omega⟩
    have e0 : wr .i64 (Int.tdiv (i : Int) 8) = ((i / 8 : Nat) : Int) := by rw [tdiv_pos (by omega), wr_i64_id (by omega) (by omega)]; omega
    have e1 : wr .i64 (Int.tmod (i : Int) 8 * 8) = ((8 * (i % 8) : Nat) : Int) := by rw [tmod_pos (by omega), wr_i64_id (by omega) (by omega)]; omega
    have e3 : wr .i64 (8 * Int.tmod (i : Int) 8) = ((8 * (i % 8) : Nat) : Int) := by rw [tmod_pos (by omega), wr_i64_id (by omega) (by omega)]; omega
    have e2 : wr .i64 ((i : Int) + 1) = ((i + 1 : Nat) : Int) := by rw [wr_i64_id (by omega) (by omega)]; omega
    have e5 : 0 ≤ shr (rd t ((i / 8 : Nat) : Int)) (min (Int.toNat ((8 * (i % 8) : Nat) : Int)) 64) := by
      unfold shr
      rw [Int.fdiv_eq_ediv_of_nonneg _ (Int.le_of_lt (Int.pow_pos (by omega)))]
      exact Int.ediv_nonneg (ht _) (Int.le_of_lt (Int.pow_pos (by omega)))
    have e6 : wr .u8 (Int.tmod (shr (rd t ((i / 8 : Nat) : Int)) (min (Int.toNat ((8 * (i % 8) : Nat) : Int)) 64)) 256) = wr .u8 (shr (rd t ((i / 8 : Nat) : Int)) (min (Int.toNat ((8 * (i % 8) : Nat) : Int)) 64)) := by
      rw [tmod_pos e5, wr_u8, wr_u8]; omega
    have hbyte : ∀ z : Int, 0 ≤ wr .u8 z ∧ wr .u8 z < 256 := fun z => by rw [wr_u8]; omega
    obtain ⟨z, z1, z2, z3⟩ := ih k (i + 1) (y.set i (wr .u8 (shr (rd t ((i / 8 : Nat) : Int)) (min (Int.toNat ((8 * (i % 8) : Nat) : Int)) 64)))) (by omega) (by omega) (by rw [List.length_set]; exact hl) (fun x hx => by
      rcases List.mem_or_eq_of_mem_set hx with hx | hx
      · exact hu x hx
      · rw [hx]; exact hbyte _)
    refine ⟨z, ?_, ?_, z3⟩
    · show keccak_Sum.b1 _ _ _ _ = _
      unfold keccak_Sum.b1
      rw [e0, e1, e2, if_pos (by simp; omega), if_pos ⟨by omega, by omega⟩, if_pos (by omega), if_pos ⟨by omega, by omega⟩]
      exact z1
    · show smithyref05_Sum.b1 _ _ _ _ = _
      unfold smithyref05_Sum.b1
      rw [e0, e3, e2, e6, if_pos (by simp; omega), if_pos ⟨by omega, by omega⟩, if_pos (by omega), if_pos ⟨by omega, by omega⟩]
      exact z2
theorem okY_rd {t : List Int} (h : okY t) (i : Nat) : 0 ≤ rd t (i : Int) := by
  unfold rd
  rw [Int.toNat_natCast, List.getD_eq_getElem?_getD]
  by_cases hi : i < t.length
  · rw [List.getElem?_eq_getElem hi]
    exact (h.2 _ (List.getElem_mem hi)).1
  · rw [List.getElem?_eq_none (by omega)]
    exact Int.le_refl 0
theorem sums_eq (b : List Int) (hb : b.length < 9000000) (hf : b.length + 300 < kF + 200) : ∃ h : List Int, keccak_Sum.f (kF + 200) b = some h ∧ smithyref05_Sum.f (kF + 200) b = some h ∧ h.length = 32 ∧ ∀ x ∈ h, 0 ≤ x ∧ x < 256 := by
  have hok : okY (List.replicate 25 0) := ⟨by simp, fun x hx => by rw [List.eq_of_mem_replicate hx]; exact ⟨by omega, by omega⟩⟩
  obtain ⟨t, h1, h2, h3⟩ := blocks_turn (keccak_Turn.f (kF + 200)) (smithyref05_Turn.f (kF + 200)) (fun y hy => turns_eq y hy.1 hy.2) (b.length / 136 + 1) (padF b) (List.replicate 25 0) hok
  have i1 := sum_loop (kF + 200) (b.length / 136) (by omega) (kF + 200) b (List.replicate 25 0) rfl (by omega) (by omega)
  have i2 := ref_sum (kF + 200) b (by omega) (by omega)
  rw [h1, Option.bind_some] at i1
  rw [h2, Option.bind_some] at i2
  obtain ⟨z, z1, z2, z3⟩ := out_loop t (fun i => okY_rd h3 i) 32 (kF + 200) 0 (List.replicate 32 0) (by omega) (by omega) (by simp) (fun x hx => by rw [List.eq_of_mem_replicate hx]; omega)
  exact ⟨z, i1.trans z1, i2.trans z2, z3⟩
end GW
