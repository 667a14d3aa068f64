import Derived.Test.YtoiopiiljblpjaaDoorPureWRefN
set_option linter.unusedVariables false
set_option linter.unusedSimpArgs false
set_option maxRecDepth 100000
namespace GW
open Go Go.RowKit
theorem hornerI (a b : Int) (ha : 0 ≤ a ∧ a < 72057594037927936) (hb : 0 ≤ b ∧ b < 256) : wr .u64 (wr .u64 (a * 256) + wr .u64 b) = a * 256 + b := by
  rw [wr_u64_id (x := b) (by omega) (by omega), wr_u64_id (x := a * 256) (by omega) (by omega), wr_u64_id (by omega) (by omega)]
theorem eightI (d0 d1 d2 d3 d4 d5 d6 d7 : Int) (h0 : 0 ≤ d0 ∧ d0 < 256) (h1 : 0 ≤ d1 ∧ d1 < 256) (h2 : 0 ≤ d2 ∧ d2 < 256) (h3 : 0 ≤ d3 ∧ d3 < 256) (h4 : 0 ≤ d4 ∧ d4 < 256) (h5 : 0 ≤ d5 ∧ d5 < 256) (h6 : 0 ≤ d6 ∧ d6 < 256) (h7 : 0 ≤ d7 ∧ d7 < 256) :
    (wr .u64 ((wr .u64 ((wr .u64 ((wr .u64 ((wr .u64 ((wr .u64 ((wr .u64 ((wr .u64 ((wr .u64 ((wr .u64 ((wr .u64 ((wr .u64 ((wr .u64 ((wr .u64 ((wr .u64 ((wr .u64 (0 * 256)) + (wr .u64 d7))) * 256)) + (wr .u64 d6))) * 256)) + (wr .u64 d5))) * 256)) + (wr .u64 d4))) * 256)) + (wr .u64 d3))) * 256)) + (wr .u64 d2))) * 256)) + (wr .u64 d1))) * 256)) + (wr .u64 d0))) = d0 + 256 * d1 + 65536 * d2 + 16777216 * d3 + 4294967296 * d4 + 1099511627776 * d5 + 281474976710656 * d6 + 72057594037927936 * d7 := by
  rw [hornerI 0 d7 (by omega) h7, hornerI _ d6 (by omega) h6, hornerI _ d5 (by omega) h5, hornerI _ d4 (by omega) h4, hornerI _ d3 (by omega) h3, hornerI _ d2 (by omega) h2, hornerI _ d1 (by omega) h1, hornerI _ d0 (by omega) h0]
  omega
theorem dword_lanesW (k : Nat) (d0 d1 d2 d3 d4 d5 d6 d7 d8 d9 d10 d11 d12 d13 d14 d15 d16 d17 d18 d19 d20 d21 d22 d23 d24 d25 d26 d27 d28 d29 d30 d31 : Int) : smithyref01_D_Word.f (k + 40) [d0, d1, d2, d3, d4, d5, d6, d7, d8, d9, d10, d11, d12, d13, d14, d15, d16, d17, d18, d19, d20, d21, d22, d23, d24, d25, d26, d27, d28, d29, d30, d31] = some [(wr .u64 ((wr .u64 ((wr .u64 ((wr .u64 ((wr .u64 ((wr .u64 ((wr .u64 ((wr .u64 ((wr .u64 ((wr .u64 ((wr .u64 ((wr .u64 ((wr .u64 ((wr .u64 ((wr .u64 ((wr .u64 (0 * 256)) + (wr .u64 d7))) * 256)) + (wr .u64 d6))) * 256)) + (wr .u64 d5))) * 256)) + (wr .u64 d4))) * 256)) + (wr .u64 d3))) * 256)) + (wr .u64 d2))) * 256)) + (wr .u64 d1))) * 256)) + (wr .u64 d0))), (wr .u64 ((wr .u64 ((wr .u64 ((wr .u64 ((wr .u64 ((wr .u64 ((wr .u64 ((wr .u64 ((wr .u64 ((wr .u64 ((wr .u64 ((wr .u64 ((wr .u64 ((wr .u64 ((wr .u64 ((wr .u64 (0 * 256)) + (wr .u64 d15))) * 256)) + (wr .u64 d14))) * 256)) + (wr .u64 d13))) * 256)) + (wr .u64 d12))) * 256)) + (wr .u64 d11))) * 256)) + (wr .u64 d10))) * 256)) + (wr .u64 d9))) * 256)) + (wr .u64 d8))), (wr .u64 ((wr .u64 ((wr .u64 ((wr .u64 ((wr .u64 ((wr .u64 ((wr .u64 ((wr .u64 ((wr .u64 ((wr .u64 ((wr .u64 ((wr .u64 ((wr .u64 ((wr .u64 ((wr .u64 ((wr .u64 (0 * 256)) + (wr .u64 d23))) * 256)) + (wr .u64 d22))) * 256)) + (wr .u64 d21))) * 256)) + (wr .u64 d20))) * 256)) + (wr .u64 d19))) * 256)) + (wr .u64 d18))) * 256)) + (wr .u64 d17))) * 256)) + (wr .u64 d16))), (wr .u64 ((wr .u64 ((wr .u64 ((wr .u64 ((wr .u64 ((wr .u64 ((wr .u64 ((wr .u64 ((wr .u64 ((wr .u64 ((wr .u64 ((wr .u64 ((wr .u64 ((wr .u64 ((wr .u64 ((wr .u64 (0 * 256)) + (wr .u64 d31))) * 256)) + (wr .u64 d30))) * 256)) + (wr .u64 d29))) * 256)) + (wr .u64 d28))) * 256)) + (wr .u64 d27))) * 256)) + (wr .u64 d26))) * 256)) + (wr .u64 d25))) * 256)) + (wr .u64 d24)))] := by kernel_rfl
theorem wordD_eq (k : Nat) {d : List Int} (hl : d.length = 32) (hd : Dig 256 d) : ∃ a, smithyref01_D_Word.f (k + 40) d = some a ∧ Wd a ∧ wv a = dv 256 d := by
  match d, hl with
  | [d0, d1, d2, d3, d4, d5, d6, d7, d8, d9, d10, d11, d12, d13, d14, d15, d16, d17, d18, d19, d20, d21, d22, d23, d24, d25, d26, d27, d28, d29, d30, d31], _ =>
    have h0 := hd d0 (by simp)
    have h1 := hd d1 (by simp)
    have h2 := hd d2 (by simp)
    have h3 := hd d3 (by simp)
    have h4 := hd d4 (by simp)
    have h5 := hd d5 (by simp)
    have h6 := hd d6 (by simp)
    have h7 := hd d7 (by simp)
    have h8 := hd d8 (by simp)
    have h9 := hd d9 (by simp)
    have h10 := hd d10 (by simp)
    have h11 := hd d11 (by simp)
    have h12 := hd d12 (by simp)
    have h13 := hd d13 (by simp)
    have h14 := hd d14 (by simp)
    have h15 := hd d15 (by simp)
    have h16 := hd d16 (by simp)
    have h17 := hd d17 (by simp)
    have h18 := hd d18 (by simp)
    have h19 := hd d19 (by simp)
    have h20 := hd d20 (by simp)
    have h21 := hd d21 (by simp)
    have h22 := hd d22 (by simp)
    have h23 := hd d23 (by simp)
    have h24 := hd d24 (by simp)
    have h25 := hd d25 (by simp)
    have h26 := hd d26 (by simp)
    have h27 := hd d27 (by simp)
    have h28 := hd d28 (by simp)
    have h29 := hd d29 (by simp)
    have h30 := hd d30 (by simp)
    have h31 := hd d31 (by simp)
    refine ⟨_, dword_lanesW k d0 d1 d2 d3 d4 d5 d6 d7 d8 d9 d10 d11 d12 d13 d14 d15 d16 d17 d18 d19 d20 d21 d22 d23 d24 d25 d26 d27 d28 d29 d30 d31, ?_, ?_⟩
    · rw [eightI d0 d1 d2 d3 d4 d5 d6 d7 h0 h1 h2 h3 h4 h5 h6 h7, eightI d8 d9 d10 d11 d12 d13 d14 d15 h8 h9 h10 h11 h12 h13 h14 h15, eightI d16 d17 d18 d19 d20 d21 d22 d23 h16 h17 h18 h19 h20 h21 h22 h23, eightI d24 d25 d26 d27 d28 d29 d30 d31 h24 h25 h26 h27 h28 h29 h30 h31]
      exact Wd.mk (by omega) (by omega) (by omega) (by omega)
    · rw [eightI d0 d1 d2 d3 d4 d5 d6 d7 h0 h1 h2 h3 h4 h5 h6 h7, eightI d8 d9 d10 d11 d12 d13 d14 d15 h8 h9 h10 h11 h12 h13 h14 h15, eightI d16 d17 d18 d19 d20 d21 d22 d23 h16 h17 h18 h19 h20 h21 h22 h23, eightI d24 d25 d26 d27 d28 d29 d30 d31 h24 h25 h26 h27 h28 h29 h30 h31]
      rw [wv_lanes]
      simp only [dv]
      omega
theorem nword_loop (k : Nat) (x : List Int) : ∀ (r i q : Nat) (acc : List Int), i + r = 32 → r < q → acc.length = 32 → (∀ j, j < i → acc.getD j 0 = x.getD j 0) → (∀ j, i ≤ j → acc.getD j 0 = 0) →
    ∃ z, smithyref02_N_Word.l1 k x q (i : Int) acc = smithyref02_N_Word.j1 k z ∧ z.length = 32 ∧ ∀ j, z.getD j 0 = (x.take 32).getD j 0
  | 0, i, q, acc, hi, hq, hl, h1, h2 => by
    obtain ⟨q, rfl⟩ : ∃ m, q = m + 1 := ⟨q - 1, by omega⟩
    obtain rfl : i = 32 := by omega
    refine ⟨acc, ?_, hl, fun j => ?_⟩
    · show smithyref02_N_Word.b1 k x _ _ _ = _
      unfold smithyref02_N_Word.b1
      rw [if_neg (by simp)]
    · by_cases h : j < 32
      · rw [h1 j h, List.getD_eq_getElem?_getD, List.getD_eq_getElem?_getD, List.getElem?_take_of_lt h]
      · rw [h2 j (by omega), List.getD_eq_getElem?_getD, List.getElem?_eq_none (by rw [List.length_take]; omega)]; rfl
  | r + 1, i, q, acc, hi, hq, hl, h1, h2 => by
    obtain ⟨q, rfl⟩ : ∃ m, q = m + 1 := ⟨q - 1, by omega⟩
    have e : smithyref02_N_Word.l1 k x (q + 1) (i : Int) acc = smithyref02_N_Word.l1 k x q ((i + 1 : Nat) : Int) (acc.set i (x.getD i 0)) := by
      show smithyref02_N_Word.b1 k x _ _ _ = _
      unfold smithyref02_N_Word.b1
      rw [if_pos (by simp; omega), atN_eq, Option.bind_some, if_pos (by omega), Int.toNat_natCast, show wr .i64 ((i : Int) + 1) = ((i + 1 : Nat) : Int) from by rw [wr_i64_id (by omega) (by omega)]; omega]
    rw [e]
    refine nword_loop k x r (i + 1) q _ (by omega) (by omega) (by simpa using hl) (fun j hj => ?_) (fun j hj => ?_)
    · by_cases c : i = j
      · subst c; rw [List.getD_eq_getElem?_getD, List.getElem?_set_self (by omega)]; rfl
      · rw [List.getD_eq_getElem?_getD, List.getElem?_set_ne c, ← List.getD_eq_getElem?_getD, h1 j (by omega)]
    · rw [List.getD_eq_getElem?_getD, List.getElem?_set_ne (by omega), ← List.getD_eq_getElem?_getD, h2 j (by omega)]
theorem wordN_eq (k : Nat) {x : List Int} (hx : Dig 256 x) : ∃ a, smithyref02_N_Word.f (k + 40) x = some a ∧ Wd a ∧ wv a = dv 256 (x.take 32) := by
  obtain ⟨z, e, hl, hz⟩ := nword_loop (k + 40) x 32 0 (k + 40) [0, 0, 0, 0, 0, 0, 0, 0, 0, 0, 0, 0, 0, 0, 0, 0, 0, 0, 0, 0, 0, 0, 0, 0, 0, 0, 0, 0, 0, 0, 0, 0] (by omega) (by omega) rfl (fun j hj => by omega) (fun j _ => by
    match j with
    | 0 | 1 | 2 | 3 | 4 | 5 | 6 | 7 | 8 | 9 | 10 | 11 | 12 | 13 | 14 | 15 | 16 | 17 | 18 | 19 | 20 | 21 | 22 | 23 | 24 | 25 | 26 | 27 | 28 | 29 | 30 | 31 => rfl
    | j + 32 => rfl)
  have hd : Dig 256 z := fun y hy => by
    obtain ⟨j, hj, rfl⟩ := List.getElem_of_mem hy
    have h1 := hz j
    rw [List.getD_eq_getElem?_getD, List.getElem?_eq_getElem hj] at h1
    have h2 := (hx.take 32).rd (by omega) j
    have h3 : z[j] = (x.take 32).getD j 0 := h1
    rw [h3]; exact h2
  obtain ⟨a, f, ha, hv⟩ := wordD_eq k hl hd
  refine ⟨a, ?_, ha, by rw [hv]; exact dv_ext 256 _ _ hz⟩
  unfold smithyref02_N_Word.f
  refine e.trans ?_
  unfold smithyref02_N_Word.j1
  rw [f]; rfl
end GW
