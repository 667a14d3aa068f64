/-
  A memory's bytes read and written, as plain lists: the program's way and the document's.
-/
import Derived.Test.YtcpinokfhfmilaaPureMem
import Derived.Test.YtcpinokfhfmilaaPureBytes
set_option linter.unusedVariables false
set_option linter.unusedSimpArgs false
namespace GW
open Go Go.RowKit
theorem cpy_get (xs : List Int) (lo : Nat) (ys : List Int) (n : Nat) (h : lo + n ≤ xs.length) (h2 : n ≤ ys.length) (j : Nat) : (cpy xs lo ys n)[j]? = if j < lo then xs[j]? else if j < lo + n then ys[j - lo]? else xs[j]? := by
  unfold cpy
  have l1 : (xs.take lo).length = lo := by rw [List.length_take]; omega
  have l2 : (ys.take n).length = n := by rw [List.length_take]; omega
  by_cases c1 : j < lo
  · rw [if_pos c1, List.append_assoc, List.getElem?_append_left (by omega), List.getElem?_take_of_lt c1]
  · rw [if_neg c1]
    by_cases c2 : j < lo + n
    · rw [if_pos c2, List.append_assoc, List.getElem?_append_right (by omega), l1, List.getElem?_append_left (by omega), List.getElem?_take_of_lt (by omega)]
    · rw [if_neg c2, List.getElem?_append_right (by rw [List.length_append]; omega), List.length_append, l1, l2, List.getElem?_drop]
      congr 1; omega
theorem cpy_full (xs : List Int) (z : Int) : cpy (List.replicate xs.length z) 0 xs (min xs.length (List.replicate xs.length z).length) = xs := by
  simp [cpy]
theorem rd_get (xs : List Int) (i : Nat) : rd xs (i : Int) = xs[i]?.getD 0 := by simp [rd, List.getD_eq_getElem?_getD]
/-- Some bytes written. -/
def wrt (w : List Int) (at_ : Int) (data : List Int) : List Int := if 0 ≤ at_ ∧ at_ < w.length then cpy w at_.toNat data (min data.length (w.length - at_.toNat)) else w
theorem wrt_len (w : List Int) (at_ : Int) (data : List Int) : (wrt w at_ data).length = w.length := by
  unfold wrt
  split
  · rename_i h; exact cpy_length _ _ _ _ (by omega) (by omega)
  · rfl
theorem write_mem (w : List Int) (at_ : Int) (data : List Int) : mem_Memory_Write.f w at_ data = some (wrt w at_ data) := by
  unfold mem_Memory_Write.f mem_Memory_Write.j1 wrt
  by_cases c1 : 0 ≤ at_
  · rw [if_pos (by simpa using c1)]
    by_cases c2 : at_ < w.length
    · rw [if_pos (by simpa using c2), if_pos ⟨c1, by omega, by omega⟩, if_pos ⟨c1, c2⟩]
      rw [show Int.toNat (w.length : Int) - at_.toNat = w.length - at_.toNat by omega]
    · rw [if_neg (by simpa using c2), if_neg (by omega)]
  · rw [if_neg (by simpa using c1), if_neg (by simp), if_neg (by omega)]
theorem wrt_step (w : List Int) (a i : Nat) (data : List Int) (hi : i < data.length) : wrt w (a : Int) (data.take (i + 1)) = if a + i < w.length then (wrt w (a : Int) (data.take i)).set (a + i) data[i] else wrt w (a : Int) (data.take i) := by
  unfold wrt
  by_cases c : (a : Int) < w.length
  · have l0 : (data.take i).length = i := by rw [List.length_take]; omega
    have l1 : (data.take (i + 1)).length = i + 1 := by rw [List.length_take]; omega
    simp only [if_pos (show 0 ≤ (a : Int) ∧ (a : Int) < w.length from ⟨by omega, c⟩), Int.toNat_natCast, l0, l1]
    by_cases c2 : a + i < w.length
    · rw [if_pos c2, Nat.min_eq_left (by omega), Nat.min_eq_left (by omega)]
      apply List.ext_getElem?
      intro j
      rw [cpy_get _ _ _ _ (by omega) (by omega), List.getElem?_set, cpy_get _ _ _ _ (by omega) (by omega), cpy_length _ _ _ _ (by omega) (by omega)]
      by_cases d1 : j < a
      · rw [if_pos d1, if_neg (by omega), if_pos d1]
      · rw [if_neg d1]
        by_cases d2 : j = a + i
        · subst d2
          rw [if_pos (by omega), if_pos rfl, if_pos (by omega), Nat.add_sub_cancel_left, List.getElem?_take_of_lt (by omega), List.getElem?_eq_getElem hi]
        · rw [if_neg (c := a + i = j) (fun e => d2 e.symm)]
          by_cases d3 : j < a + i
          · rw [if_pos (c := j < a + (i + 1)) (by omega), if_pos d3, List.getElem?_take_of_lt (by omega), List.getElem?_take_of_lt (by omega), if_neg d1]
          · rw [if_neg (c := j < a + (i + 1)) (by omega), if_neg d3, if_neg d1]
    · rw [if_neg c2, Nat.min_eq_right (by omega), Nat.min_eq_right (by omega)]
      unfold cpy
      congr 2
      rw [List.take_take, List.take_take]
      congr 1
      omega
  · simp only [if_neg (show ¬ (0 ≤ (a : Int) ∧ (a : Int) < w.length) from fun h => c h.2)]
    rw [if_neg (by omega)]
theorem write_ref (w : List Int) (hw : w.length ≤ 4194304) (at_ : Int) (ha : inK .i64 at_) (data : List Int) (hd : data.length ≤ 9223372036854775807) (k : Nat) (hk : data.length < k) : smithyref10_Write.f k w at_ data = some (wrt w at_ data) := by
  have ha := inK_i64 ha
  unfold smithyref10_Write.f
  rw [if_pos ⟨by omega, by omega⟩]
  have e0 : cpy (List.replicate (Int.toNat ((w).length : Int)) (0 : Int)) 0 w (min (w).length (List.replicate (Int.toNat ((w).length : Int)) (0 : Int)).length) = w := by
    rw [Int.toNat_natCast]; exact cpy_full w 0
  rw [e0]
  by_cases c : 0 ≤ at_
  · obtain ⟨a, rfl⟩ := Int.eq_ofNat_of_zero_le c
    have key : ∀ (d q i : Nat), d < q → i + d = data.length → smithyref10_Write.l1 w (a : Int) data q (i : Int) (wrt w (a : Int) (data.take i)) = some (wrt w (a : Int) data) := by
      intro d
      induction d with
      | zero =>
        intro q i hq hi
        obtain ⟨q, rfl⟩ : ∃ m, q = m + 1 := ⟨q - 1, by omega⟩
        show smithyref10_Write.b1 w _ data _ _ _ = _
        unfold smithyref10_Write.b1 smithyref10_Write.j2 smithyref10_Write.j1
        rw [if_neg (by simp; omega), if_neg (by simp), List.take_of_length_le (by omega)]
      | succ d ih =>
        intro q i hq hi
        obtain ⟨q, rfl⟩ : ∃ m, q = m + 1 := ⟨q - 1, by omega⟩
        show smithyref10_Write.b1 w _ data _ _ _ = _
        unfold smithyref10_Write.b1 smithyref10_Write.j2 smithyref10_Write.j3
        have e1 := wr_i64_id (x := (w.length : Int) - (i : Int)) (by omega) (by omega)
        have e3 : wr .i64 ((i : Int) + 1) = ((i + 1 : Nat) : Int) := by rw [wr_i64_id (by omega) (by omega)]; omega
        have hs := wrt_step w a i data (by omega)
        rw [if_pos (by simp; omega), if_pos (by simp)]
        simp only [e1, e3]
        by_cases c2 : a + i < w.length
        · have e2 := wr_i64_id (x := (a : Int) + (i : Int)) (by omega) (by omega)
          simp only [e2]
          rw [if_pos (by simp; omega), if_pos ⟨by omega, by omega⟩, if_pos ⟨by omega, by rw [wrt_len]; omega⟩]
          rw [if_pos c2] at hs
          have e4 : Int.toNat ((a : Int) + (i : Int)) = a + i := by omega
          have e5 : rd data (i : Int) = data[i]'(by omega) := by rw [rd_get, List.getElem?_eq_getElem (by omega)]; rfl
          rw [e4, e5, ← hs]
          exact ih q (i + 1) (by omega) (by omega)
        · rw [if_neg (by simp; omega)]
          rw [if_neg c2] at hs
          rw [← hs]
          exact ih q (i + 1) (by omega) (by omega)
    have h0 := key data.length k 0 hk (by omega)
    have e1 : wrt w (a : Int) (data.take 0) = w := by
      unfold wrt; split
      · simp [cpy]
      · rfl
    rw [e1] at h0
    exact h0
  · obtain ⟨q, rfl⟩ : ∃ m, k = m + 1 := ⟨k - 1, by omega⟩
    show smithyref10_Write.b1 w _ data _ _ _ = _
    have hj : ∀ b r, smithyref10_Write.b1 w at_ data r b w = some w := by
      intro b r
      unfold smithyref10_Write.b1 smithyref10_Write.j2 smithyref10_Write.j1
      by_cases c2 : b < (data.length : Int)
      · rw [if_pos (by simpa using c2), if_neg (by simpa using c)]
      · rw [if_neg (by simpa using c2), if_neg (by simp)]
    rw [hj]
    unfold wrt
    rw [if_neg (by omega)]
/-- Some bytes read. -/
def rdm (w : List Int) (at_ n : Int) : List Int := if 0 ≤ at_ ∧ 0 ≤ n ∧ n ≤ 4194304 then (List.range n.toNat).map (fun (i : Nat) => rd w (at_ + (i : Int))) else []
theorem read_mem (w : List Int) (at_ n : Int) : mem_Memory_Read.f w at_ n = some (rdm w at_ n) := by
  unfold mem_Memory_Read.f mem_Memory_Read.j1 mem_Memory_Read.j2 rdm
  by_cases c1 : at_ < 0
  · rw [if_pos (by simpa using c1), if_pos rfl, if_neg (by omega)]
  · rw [if_neg (by simpa using c1)]
    by_cases c2 : n < 0
    · rw [if_pos (by simpa using c2), if_pos rfl, if_neg (by omega)]
    · rw [if_neg (by simpa using c2)]
      by_cases c3 : 4194304 < n
      · rw [if_pos (by simpa using c3), if_neg (by omega)]
      · rw [if_neg (by simpa using c3), if_pos ⟨by omega, by omega⟩, if_pos (c := 0 ≤ at_ ∧ 0 ≤ n ∧ n ≤ 4194304) ⟨by omega, by omega, by omega⟩]
        obtain ⟨a, rfl⟩ := Int.eq_ofNat_of_zero_le (show 0 ≤ at_ by omega)
        obtain ⟨m, rfl⟩ := Int.eq_ofNat_of_zero_le (show 0 ≤ n by omega)
        by_cases c4 : (a : Int) < w.length
        · rw [if_pos (by simpa using c4), if_pos ⟨by omega, by omega, by omega⟩]
          congr 1
          simp only [Int.toNat_natCast]
          have l0 : ((w.drop a).take (w.length - a)).length = w.length - a := by rw [List.length_take, List.length_drop]; omega
          apply List.ext_getElem?
          intro j
          rw [l0, List.length_replicate, cpy_get _ _ _ _ (by rw [List.length_replicate]; omega) (by rw [l0]; omega), if_neg (by omega), Nat.zero_add, Nat.sub_zero, List.getElem?_map]
          by_cases d1 : j < m
          · rw [List.getElem?_range d1, Option.map_some, show (a : Int) + (j : Int) = ((a + j : Nat) : Int) by omega, rd_get]
            by_cases d2 : a + j < w.length
            · rw [if_pos (by omega), List.getElem?_take_of_lt (by omega), List.getElem?_drop, List.getElem?_eq_getElem d2]; rfl
            · rw [if_neg (by omega), List.getElem?_replicate, if_pos d1, List.getElem?_eq_none (by omega)]; rfl
          · rw [if_neg (by omega), List.getElem?_replicate, if_neg d1, List.getElem?_eq_none (l := List.range m) (by simpa using d1)]; rfl
        · rw [if_neg (by simpa using c4)]
          congr 1
          simp only [Int.toNat_natCast]
          apply List.ext_getElem?
          intro j
          rw [List.getElem?_replicate, List.getElem?_map]
          by_cases d1 : j < m
          · rw [if_pos d1, List.getElem?_range d1, Option.map_some, show (a : Int) + (j : Int) = ((a + j : Nat) : Int) by omega, rd_get, List.getElem?_eq_none (by omega)]; rfl
          · rw [if_neg d1, List.getElem?_eq_none (l := List.range m) (by simpa using d1)]; rfl
theorem read_ref (w : List Int) (hw : w.length ≤ 4194304) (at_ n : Int) (ha : inK .i64 at_) (hn : inK .i64 n) (k : Nat) (hk : 4194304 < k) : smithyref10_Read.f k w at_ n = some (rdm w at_ n) := by
  have ha := inK_i64 ha
  have hn := inK_i64 hn
  unfold smithyref10_Read.f
  by_cases c1 : at_ < 0
  · rw [if_pos (by simpa using c1)]; unfold rdm; rw [if_neg (by omega)]
  · rw [if_neg (by simpa using c1)]
    by_cases c : 0 ≤ n ∧ n ≤ 4194304
    · obtain ⟨a, rfl⟩ := Int.eq_ofNat_of_zero_le (show 0 ≤ at_ by omega)
      obtain ⟨m, rfl⟩ := Int.eq_ofNat_of_zero_le (show 0 ≤ n by omega)
      have key : ∀ (d q i : Nat), d < q → i + d = m → smithyref10_Read.l1 w (a : Int) (m : Int) q (i : Int) ((List.range i).map (fun (i : Nat) => rd w ((a : Int) + (i : Int)))) = some ((List.range m).map (fun (i : Nat) => rd w ((a : Int) + (i : Int)))) := by
        intro d
        induction d with
        | zero =>
          intro q i hq hi
          obtain ⟨q, rfl⟩ : ∃ m, q = m + 1 := ⟨q - 1, by omega⟩
          show smithyref10_Read.b1 w _ _ _ _ _ = _
          unfold smithyref10_Read.b1 smithyref10_Read.j2 smithyref10_Read.j1
          rw [if_neg (by simp; omega), if_neg (by simp)]
          rw [show i = m by omega]
        | succ d ih =>
          intro q i hq hi
          obtain ⟨q, rfl⟩ : ∃ m, q = m + 1 := ⟨q - 1, by omega⟩
          show smithyref10_Read.b1 w _ _ _ _ _ = _
          unfold smithyref10_Read.b1 smithyref10_Read.j2 smithyref10_Read.j3
          have e1 := wr_i64_id (x := (w.length : Int) - (i : Int)) (by omega) (by omega)
          have e3 : wr .i64 ((i : Int) + 1) = ((i + 1 : Nat) : Int) := by rw [wr_i64_id (by omega) (by omega)]; omega
          have hs : (List.range i).map (fun (i : Nat) => rd w ((a : Int) + (i : Int))) ++ [rd w ((a : Int) + i)] = (List.range (i + 1)).map (fun (i : Nat) => rd w ((a : Int) + (i : Int))) := by
            rw [List.range_succ, List.map_append]; rfl
          rw [if_pos (by simp; omega), if_pos (by simpa using c.2)]
          simp only [e1, e3]
          by_cases c2 : a + i < w.length
          · have e2 := wr_i64_id (x := (a : Int) + (i : Int)) (by omega) (by omega)
            simp only [e2]
            rw [if_pos (by simp; omega), if_pos ⟨by omega, by omega⟩, if_pos (by simp; omega), hs]
            exact ih q (i + 1) (by omega) (by omega)
          · have e5 : rd w ((a : Int) + i) = 0 := by rw [show (a : Int) + (i : Int) = ((a + i : Nat) : Int) by omega, rd_get, List.getElem?_eq_none (by omega)]; rfl
            rw [if_neg (by simp; omega), if_pos (by simp; omega)]
            rw [e5] at hs
            rw [hs]
            exact ih q (i + 1) (by omega) (by omega)
      have h0 := key m k 0 (by omega) (by omega)
      unfold rdm
      rw [if_pos ⟨by omega, c.1, c.2⟩]
      exact h0
    · obtain ⟨q, rfl⟩ : ∃ m, k = m + 1 := ⟨k - 1, by omega⟩
      show smithyref10_Read.b1 w _ _ _ _ _ = _
      unfold smithyref10_Read.b1 smithyref10_Read.j2 smithyref10_Read.j1 rdm
      rw [if_neg (c := 0 ≤ at_ ∧ 0 ≤ n ∧ n ≤ 4194304) (by omega)]
      by_cases c2 : 0 < n
      · rw [if_pos (decide_eq_true c2), if_neg (by simp; omega)]
      · rw [if_neg (by simpa using c2), if_neg (by simp)]
def By (w : List Int) : Prop := ∀ x ∈ w, 0 ≤ x ∧ x < 256
theorem By_rd {w : List Int} (h : By w) (i : Int) : 0 ≤ rd w i ∧ rd w i < 256 := by
  unfold rd
  rw [List.getD_eq_getElem?_getD]
  cases c : w[i.toNat]? with
  | none => exact ⟨by simp, by simp⟩
  | some x => exact h x (List.mem_of_getElem? c)
theorem By_rdm {w : List Int} (h : By w) (a n : Int) : By (rdm w a n) := by
  unfold rdm
  split
  · intro x hx
    obtain ⟨i, _, rfl⟩ := List.mem_map.1 hx
    exact By_rd h _
  · intro x hx; cases hx
theorem By_cpy {w d : List Int} (h : By w) (hd : By d) (a n : Nat) : By (cpy w a d n) := by
  intro x hx
  unfold cpy at hx
  rcases List.mem_append.1 hx with hx | hx
  · rcases List.mem_append.1 hx with hx | hx
    · exact h x (List.mem_of_mem_take hx)
    · exact hd x (List.mem_of_mem_take hx)
  · exact h x (List.mem_of_mem_drop hx)
theorem By_wrt {w d : List Int} (h : By w) (hd : By d) (a : Int) : By (wrt w a d) := by
  unfold wrt
  split
  · exact By_cpy h hd _ _
  · exact h
theorem By_grown {w : List Int} (h : By w) (v : Int) : By (grown w v) := by
  intro x hx
  rcases List.mem_append.1 hx with hx | hx
  · exact h x hx
  · have := List.eq_of_mem_replicate hx
    omega
theorem rdm_all (w : List Int) (h : w.length ≤ 4194304) : rdm w 0 (w.length : Int) = w := by
  unfold rdm
  rw [if_pos ⟨by omega, by omega, by omega⟩]
  apply List.ext_getElem?
  intro j
  rw [Int.toNat_natCast, List.getElem?_map]
  by_cases d1 : j < w.length
  · rw [List.getElem?_range d1, Option.map_some, Int.zero_add, rd_get, List.getElem?_eq_getElem d1]; rfl
  · rw [List.getElem?_eq_none (l := List.range w.length) (by simpa using d1), List.getElem?_eq_none (by omega)]; rfl
theorem rdm_len (w : List Int) (a n : Int) (h : 0 ≤ a ∧ 0 ≤ n ∧ n ≤ 4194304) : (rdm w a n).length = n.toNat := by
  unfold rdm
  rw [if_pos h]; simp
theorem grow_ref {w : List Int} {u v : Int} (hb : Len32 w u) (h1 : u ≤ v) (h2 : v ≤ 131072) : smithyref10_Grow.f w (32 * v) = some (grown w v) := by
  obtain ⟨g1, g2, g3⟩ := hb
  unfold smithyref10_Grow.f
  rw [imax_eq, show max (32 * v) (w.length : Int) = 32 * v by omega, if_pos ⟨by omega, by omega⟩]
  congr 1
  unfold cpy grown
  rw [List.length_replicate, Nat.min_eq_left (by omega), List.take_zero, List.nil_append, List.take_length, Nat.zero_add, List.drop_replicate]
  congr 2
  omega
end GW
