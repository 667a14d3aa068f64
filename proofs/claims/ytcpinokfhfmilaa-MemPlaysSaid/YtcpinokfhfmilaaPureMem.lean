/-
  The memory's prices and reaches: the program's way and the document's.
-/
import Derived.Test.YtcpinokfhfmilaaG0
import Derived.Test.YtcpinokfhfmilaaGWPlain
import Derived.Laws.Bits64b
set_option linter.unusedVariables false
set_option linter.unusedSimpArgs false
namespace GW
open Go Go.RowKit
theorem shr_nat (v k : Nat) : shr (v : Int) k = ((v / 2 ^ k : Nat) : Int) := by
  unfold shr
  rw [Int.fdiv_eq_ediv_of_nonneg _ (by exact Int.le_of_lt (Int.pow_pos (by omega)))]
  simp
/-- So many words. -/
def Wd (n : Int) : Int := if n % 32 = 0 then n / 32 else n / 32 + 1
theorem words_mem (n : Int) (h0 : 0 ≤ n) (h1 : n < 18446744073709551616) : mem_Words.f n = some (Wd n) := by
  unfold mem_Words.f mem_Words.j1 Wd
  rw [tmod_pos h0, tdiv_pos h0, wr_u64_id (x := n / 32) (by omega) (by omega)]
  by_cases h : n % 32 = 0
  · rw [if_neg (by simp; omega), if_pos h]
  · rw [if_pos (by simp; omega), if_neg h, wr_u64_id (by omega) (by omega)]
theorem words_ref (n : Int) (h0 : 0 ≤ n) (h1 : n < 18446744073709551616) : smithyref10_Words.f n = some (Wd n) := by
  unfold smithyref10_Words.f Wd
  rw [tmod_pos h0, tdiv_pos h0, wr_u64_id (x := n / 32) (by omega) (by omega)]
  by_cases h : n % 32 = 0
  · rw [if_pos (by simp [h]), if_pos h]
  · rw [if_neg (by simp [h]), if_neg h, wr_u64_id (by omega) (by omega)]
/-- What so many words cost. -/
def Pr (w : Int) : Int := 3 * w + w * w / 512
theorem sq_le {w b : Int} (h0 : 0 ≤ w) (h1 : w ≤ b) : w * w ≤ b * b := Int.mul_le_mul h1 h1 h0 (by omega)
theorem price_ref (w : Int) (h0 : 0 ≤ w) (h1 : w < 4294967296) : smithyref10_Price.f w = some (Pr w) := by
  unfold smithyref10_Price.f Pr
  have hs := sq_le h0 (show w ≤ 4294967295 by omega)
  have hp : 0 ≤ w * w := Int.mul_nonneg h0 h0
  generalize w * w = q at hs hp
  rw [wr_u64_id (x := q) hp (by omega), tdiv_pos hp, wr_u64_id (x := 3 * w) (by omega) (by omega), wr_u64_id (x := q / 512) (by omega) (by omega), wr_u64_id (by omega) (by omega)]
theorem price_mem (w : Int) (h0 : 0 ≤ w) (h1 : w < 4294967296) : mem_Price.f w = some (Pr w) := by
  obtain ⟨n, rfl⟩ := Int.eq_ofNat_of_zero_le h0
  have hn : n < 4294967296 := by omega
  have hs : n * n ≤ 4294967295 * 4294967295 := Nat.mul_le_mul (by omega) (by omega)
  unfold mem_Price.f bits_Mul64.f
  have hz : n / 2 ^ 32 = 0 := Nat.div_eq_of_lt (by simpa using hn)
  have em : (4294967295 : Int) = ((4294967295 : Nat) : Int) := rfl
  have e1 : shr (n : Int) 32 = ((0 : Nat) : Int) := by rw [shr_nat, hz]
  have e2 : bits .and .u64 (n : Int) 4294967295 = (n : Int) := by
    rw [em, bits_and_u64_nat _ _ (by omega) (by omega)]
    congr 1
    have : (4294967295 : Nat) = 2 ^ 32 - 1 := rfl
    rw [this, Nat.and_two_pow_sub_one_eq_mod, Nat.mod_eq_of_lt (by omega)]
  rw [if_neg (by simp; omega), Option.bind_some, e1, e2]
  have z0 : ((0 : Nat) : Int) = 0 := rfl
  have w0 : wr .u64 0 = 0 := by rw [wr_u64_id] <;> omega
  have e3 : wr .u64 ((n : Int) * (n : Int)) = ((n * n : Nat) : Int) := by
    have : (n : Int) * (n : Int) = ((n * n : Nat) : Int) := by simp
    rw [this]
    exact wr_u64_id (by omega) (by omega)
  rw [e3]
  generalize hq : n * n = q at hs e3
  have e4 : shr (q : Int) 32 = ((q / 2 ^ 32 : Nat) : Int) := shr_nat q 32
  have hq2 : q / 2 ^ 32 < 4294967296 := by omega
  rw [e4, z0]
  simp only [Int.zero_mul, Int.mul_zero, Int.zero_add, Int.add_zero, w0]
  generalize q / 2 ^ 32 = u at hq2
  have e5 : wr .u64 (u : Int) = (u : Int) := wr_u64_id (by omega) (by omega)
  have e6 : bits .and .u64 (u : Int) 4294967295 = (u : Int) := by
    rw [em, bits_and_u64_nat _ _ (by omega) (by omega)]
    congr 1
    have : (4294967295 : Nat) = 2 ^ 32 - 1 := rfl
    rw [this, Nat.and_two_pow_sub_one_eq_mod, Nat.mod_eq_of_lt (by omega)]
  have e7 : shr (u : Int) 32 = 0 := by rw [shr_nat, Nat.div_eq_of_lt (by simpa using hq2)]; rfl
  rw [e5, e6, e5, e7]
  simp only [Int.zero_add, w0]
  have e8 : shl .u64 0 55 = ((0 : Nat) : Int) := by unfold shl; rw [Int.zero_mul]; exact w0
  have e9 : shr (q : Int) 9 = ((q / 2 ^ 9 : Nat) : Int) := shr_nat q 9
  rw [e8, e9, bits_or_u64_nat _ _ (by omega) (by omega), Nat.zero_or, wr_u64_id (x := 3 * (n : Int)) (by omega) (by omega), wr_u64_id (by omega) (by omega)]
  unfold Pr
  have : (n : Int) * (n : Int) = ((n * n : Nat) : Int) := by simp
  rw [this, hq]
  congr 1
theorem Pr_mono {v w : Int} (h0 : 0 ≤ v) (h1 : v ≤ w) : Pr v ≤ Pr w := by
  unfold Pr
  have := sq_le h0 h1
  omega
theorem Pr_nonneg {v : Int} (h0 : 0 ≤ v) : 0 ≤ Pr v := by
  have : 0 ≤ v * v := Int.mul_nonneg h0 h0
  unfold Pr
  omega
theorem Pr_lt {v : Int} (h0 : 0 ≤ v) (h1 : v ≤ 131072) : Pr v < 4294967296 := by
  have := sq_le h0 h1
  unfold Pr
  omega
theorem fixed10 : smithylaw10_fixed.f = some true := by kernel_rfl
/-! ### words that are small -/
def u64 (x : Int) : Prop := 0 ≤ x ∧ x < 18446744073709551616
theorem word4 {a : List Int} (h : Gd27 a) : ∃ p q r s : Nat, a = [(p : Int), q, r, s] ∧ p < 18446744073709551616 ∧ q < 18446744073709551616 ∧ r < 18446744073709551616 ∧ s < 18446744073709551616 := by
  obtain ⟨hl, hw⟩ := h
  match a, hl with
  | [p, q, r, s], _ =>
    obtain ⟨p, rfl⟩ := Int.eq_ofNat_of_zero_le (inK_u64 (hw p (by simp))).1
    obtain ⟨q, rfl⟩ := Int.eq_ofNat_of_zero_le (inK_u64 (hw q (by simp))).1
    obtain ⟨r, rfl⟩ := Int.eq_ofNat_of_zero_le (inK_u64 (hw r (by simp))).1
    obtain ⟨s, rfl⟩ := Int.eq_ofNat_of_zero_le (inK_u64 (hw s (by simp))).1
    have h1 := (inK_u64 (hw p (by simp))).2
    have h2 := (inK_u64 (hw q (by simp))).2
    have h3 := (inK_u64 (hw r (by simp))).2
    have h4 := (inK_u64 (hw s (by simp))).2
    exact ⟨p, q, r, s, rfl, by omega, by omega, by omega, by omega⟩
def sm (a : List Int) : Bool := rd a 1 == 0 && (rd a 2 == 0 && rd a 3 == 0)
theorem small_mem {a : List Int} (h : Gd27 a) : word_Small.f a = some (if sm a = true then (rd a 0, true) else (0, false)) := by
  obtain ⟨p, q, r, s, rfl, hp, hq, hr, hs⟩ := word4 h
  have e1 : rd [(p : Int), q, r, s] 1 = q := rfl
  have e2 : rd [(p : Int), q, r, s] 2 = r := rfl
  have e3 : rd [(p : Int), q, r, s] 3 = s := rfl
  unfold word_Small.f sm
  rw [e1, e2, e3, bits_or_u64_nat _ _ hq hr, bits_or_u64_nat _ _ (Nat.or_lt_two_pow (n := 64) (by simpa using hq) (by simpa using hr)) hs]
  by_cases hz : q = 0 ∧ r = 0 ∧ s = 0
  · obtain ⟨rfl, rfl, rfl⟩ := hz
    simp
  · have : ¬ (q ||| r ||| s = 0) := by
      intro h
      rw [Nat.or_eq_zero_iff, Nat.or_eq_zero_iff] at h
      exact hz ⟨h.1.1, h.1.2, h.2⟩
    rw [if_pos (by simpa using this), if_neg (by simp; omega)]
theorem rd0 {a : List Int} (h : Gd27 a) : 0 ≤ rd a 0 ∧ rd a 0 < 18446744073709551616 := by
  obtain ⟨p, q, r, s, rfl, hp, hq, hr, hs⟩ := word4 h
  show (0 : Int) ≤ (p : Int) ∧ (p : Int) < _
  omega
theorem small_ref {a : List Int} (h : Gd27 a) : smithyref10_small.f a = some (if sm a = true ∧ rd a 0 ≤ 4194304 then (rd a 0, true) else (0, false)) := by
  unfold smithyref10_small.f smithyref10_small.j1 sm
  generalize rd a 1 = q; generalize rd a 2 = r; generalize rd a 3 = s; generalize rd a 0 = p
  by_cases h1 : q = 0 <;> by_cases h2 : r = 0 <;> by_cases h3 : s = 0 <;> by_cases h4 : p ≤ 4194304 <;> simp [h1, h2, h3, h4]
/-! ### reaches -/
/-- How many words some bytes reach; none: that is refused. -/
def rch (w : Int) (a n : List Int) : Option Int :=
  if n = [0, 0, 0, 0] then some w else if sm a = true ∧ sm n = true ∧ rd a 0 ≤ 4194304 ∧ rd n 0 ≤ 4194304 ∧ rd a 0 + rd n 0 ≤ 4194304 then some (max w (Wd (rd a 0 + rd n 0))) else none
theorem Wd_le {n : Int} (h0 : 0 ≤ n) (h1 : n ≤ 4194304) : 0 ≤ Wd n ∧ Wd n ≤ 131072 := by unfold Wd; split <;> omega
theorem rch_le {w v : Int} {a n : List Int} (ha : Gd27 a) (hn : Gd27 n) (h0 : 0 ≤ w) (h1 : w ≤ 131072) (h : rch w a n = some v) : w ≤ v ∧ v ≤ 131072 := by
  have := (rd0 ha).1
  have := (rd0 hn).1
  unfold rch at h
  split at h
  · cases h; omega
  · split at h
    · rename_i hh
      cases h
      have := Wd_le (n := rd a 0 + rd n 0) (by omega) (by omega)
      omega
    · cases h
def Len32 (b : List Int) (w : Int) : Prop := (b.length : Int) = 32 * w ∧ 0 ≤ w ∧ w ≤ 131072
theorem imax_eq (x y : Int) : imax x y = max x y := by unfold imax; split <;> omega
theorem now_eq {b : List Int} {w : Int} (h : Len32 b w) : wr .u64 (wr .i64 (Int.tdiv ((b).length : Int) 32)) = w := by
  obtain ⟨h1, h2, h3⟩ := h
  rw [tdiv_pos (by omega), h1, wr_i64_id (by omega) (by omega), wr_u64_id (by omega) (by omega)]
  omega
def ans {α β : Type} (z : β) (f : α → β) : Option α → β × Bool
  | some v => (f v, true)
  | none => (z, false)
theorem reach_mem {b : List Int} {w : Int} {a n : List Int} (hb : Len32 b w) (ha : Gd27 a) (hn : Gd27 n) : mem_Memory_reach.f b a n = some (ans 0 id (rch w a n)) := by
  unfold mem_Memory_reach.f rch
  have ha0 := rd0 ha
  have hn0 := rd0 hn
  have hnow := now_eq hb
  by_cases hz : n = [0, 0, 0, 0]
  · rw [if_pos (by simpa using hz), if_pos hz, hnow]; rfl
  · rw [if_neg (by simpa using hz), if_neg hz, small_mem ha, small_mem hn, Option.bind_some, Option.bind_some]
    unfold mem_Memory_reach.j1
    by_cases h1 : sm a = true
    · by_cases h2 : sm n = true
      · rw [if_pos h1, if_pos h2]
        by_cases h3 : rd a 0 ≤ 4194304
        · by_cases h4 : rd n 0 ≤ 4194304
          · rw [wr_u64_id (x := rd a 0 + rd n 0) (by omega) (by omega)]
            by_cases h5 : rd a 0 + rd n 0 ≤ 4194304
            · rw [words_mem _ (by omega) (by omega), hnow]
              have n3 : ¬ (4194304 < rd a 0) := by omega
              have n4 : ¬ (4194304 < rd n 0) := by omega
              have n5 : ¬ (4194304 < rd a 0 + rd n 0) := by omega
              simp [h1, h2, h3, h4, h5, n3, n4, n5, imax_eq, ans]
            · have n5 : 4194304 < rd a 0 + rd n 0 := by omega
              simp [h1, h2, h3, h4, h5, n5, ans]
          · have n4 : 4194304 < rd n 0 := by omega
            simp [h1, h2, h3, h4, n4, ans]
        · have n3 : 4194304 < rd a 0 := by omega
          simp [h1, h2, h3, n3, ans]
      · simp [h1, h2, ans]
    · simp [h1, ans]
theorem reach_ref {w : Int} {a n : List Int} (h0 : 0 ≤ w) (h1 : w ≤ 131072) (ha : Gd27 a) (hn : Gd27 n) : smithyref10_Reach.f (32 * w) a n = some (ans 0 (32 * ·) (rch w a n)) := by
  unfold smithyref10_Reach.f rch
  have ha0 := rd0 ha
  have hn0 := rd0 hn
  by_cases hz : n = [0, 0, 0, 0]
  · rw [if_pos (by simpa using hz), if_pos hz]; rfl
  · rw [if_neg (by simpa using hz), if_neg hz, small_ref ha, small_ref hn, Option.bind_some, Option.bind_some]
    unfold smithyref10_Reach.j1
    by_cases h1 : sm a = true ∧ rd a 0 ≤ 4194304
    · by_cases h2 : sm n = true ∧ rd n 0 ≤ 4194304
      · rw [if_pos h1, if_pos h2]
        obtain ⟨g1, g2⟩ := h1
        obtain ⟨g3, g4⟩ := h2
        simp only [Bool.not_true, Bool.false_eq_true, if_false]
        rw [wr_u64_id (x := rd a 0 + rd n 0) (by omega) (by omega)]
        by_cases h5 : rd a 0 + rd n 0 ≤ 4194304
        · have n5 : ¬ (4194304 < rd a 0 + rd n 0) := by omega
          have hw := Wd_le (n := rd a 0 + rd n 0) (by omega) h5
          rw [words_ref _ (by omega) (by omega), if_neg (by simpa using h5), if_pos ⟨g1, g3, g2, g4, h5⟩, Option.bind_some, wr_i64_id (x := Wd _) (by omega) (by omega), wr_i64_id (by omega) (by omega), imax_eq]
          simp only [ans]
          congr 2
          omega
        · have n5 : 4194304 < rd a 0 + rd n 0 := by omega
          rw [if_pos (by simpa using n5), if_neg (by omega)]; rfl
      · have hc : ¬ (sm a = true ∧ sm n = true ∧ rd a 0 ≤ 4194304 ∧ rd n 0 ≤ 4194304 ∧ rd a 0 + rd n 0 ≤ 4194304) := fun h => h2 ⟨h.2.1, h.2.2.2.1⟩
        simp only [if_neg h2, if_neg hc, ans]
        simp [h1]
    · have hc : ¬ (sm a = true ∧ sm n = true ∧ rd a 0 ≤ 4194304 ∧ rd n 0 ≤ 4194304 ∧ rd a 0 + rd n 0 ≤ 4194304) := fun h => h1 ⟨h.1, h.2.2.1⟩
      simp only [if_neg h1, if_neg hc, ans]
      simp
theorem cost_mem {b : List Int} {w : Int} {a n : List Int} (hb : Len32 b w) (ha : Gd27 a) (hn : Gd27 n) : mem_Memory_Cost.f b a n = some (ans 0 (fun v => Pr v - Pr w) (rch w a n)) := by
  have hb' := hb
  obtain ⟨h1, h2, h3⟩ := hb
  unfold mem_Memory_Cost.f
  rw [reach_mem hb' ha hn, Option.bind_some, now_eq hb', price_mem w h2 (by omega)]
  cases h : rch w a n with
  | none => simp [ans]
  | some v =>
    have hv := rch_le ha hn h2 h3 h
    have hp := Pr_mono h2 hv.1
    have hp0 := Pr_nonneg h2
    have hp1 := Pr_lt (v := v) (by omega) hv.2
    simp only [ans, id, Bool.not_true, Bool.false_eq_true, if_false, Option.bind_some]
    rw [price_mem v (by omega) (by omega), Option.bind_some, wr_u64_id (by omega) (by omega)]
/-- A memory that reaches so many words. -/
def grown (b : List Int) (v : Int) : List Int := b ++ List.replicate (32 * v - b.length).toNat 0
theorem grown_len {b : List Int} {w v : Int} (hb : Len32 b w) (h1 : w ≤ v) (h2 : v ≤ 131072) : Len32 (grown b v) v := by
  obtain ⟨g1, g2, g3⟩ := hb
  refine ⟨?_, by omega, h2⟩
  unfold grown
  rw [List.length_append, List.length_replicate]
  omega
theorem Reach_mem {b : List Int} {w : Int} {a n : List Int} (hb : Len32 b w) (ha : Gd27 a) (hn : Gd27 n) : mem_Memory_Reach.f b a n = some (match rch w a n with | some v => (true, grown b v) | none => (false, b)) := by
  have hb' := hb
  obtain ⟨h1, h2, h3⟩ := hb
  unfold mem_Memory_Reach.f mem_Memory_Reach.j1
  rw [reach_mem hb' ha hn, Option.bind_some]
  cases h : rch w a n with
  | none => simp [ans]
  | some v =>
    have hv := rch_le ha hn h2 h3 h
    simp only [ans, id, Bool.not_true, Bool.false_eq_true, if_false]
    have e1 := wr_i64_id (x := v) (by omega) (by omega)
    have e2 := wr_i64_id (x := v * 32) (by omega) (by omega)
    have e3 := wr_i64_id (x := v * 32 - (b.length : Int)) (by omega) (by omega)
    simp only [e1, e2, e3]
    by_cases hd : 0 < v * 32 - (b.length : Int)
    · rw [if_pos (by simpa using hd), if_pos ⟨by omega, by omega⟩]
      unfold grown
      rw [show v * 32 = 32 * v by omega]
    · rw [if_neg (by simpa using hd)]
      unfold grown
      rw [show (32 * v - (b.length : Int)).toNat = 0 by omega]
      simp
end GW
