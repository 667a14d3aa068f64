/-
  What the law 'GasNever' says of plain values: by what is kept round by round.
-/
import Derived.Test.YtfebengelehglaaPureTables
set_option linter.unusedVariables false
set_option linter.unusedSimpArgs false
namespace GW
open Go Go.RowKit
abbrev Zw : List Int := [0, 0, 0, 0]
def pend (z1 z2 : Bool) : Int := if z1 = false ∧ z2 = true then 4800 else 0
def off (e z1 : Bool) : Int := if e = true then 0 else if z1 = true then 19900 else 2800
/-- Behind n stores: the costs c, what is refunded r; z1, z2: was the slot 0 at first, is it now; e: is it as at first. -/
def KeptB (z1 z2 e : Bool) (n c r : Int) : Prop := 0 ≤ c ∧ c ≤ 20000 * n ∧ pend z1 z2 ≤ r ∧ r ≤ 20000 * n ∧ pend z1 z2 + c - r ≥ 100 * n + off e z1
def Kept (f now : List Int) (n c r : Int) : Prop := KeptB (decide (f = Zw)) (decide (now = Zw)) (decide (f = now)) n c r
theorem keptB_step (e12 e23 z1 z2 z3 e13 : Bool) (n c r : Int) (hn : 0 ≤ n) (k1 : e12 = true → z1 = z2 ∧ e23 = e13) (k2 : e23 = true → z2 = z3 ∧ e12 = e13) (k3 : e13 = true → z1 = z3 ∧ e12 = e23)
    (k4 : z1 = true → z2 = true → e12 = true) (k5 : z1 = true → z3 = true → e13 = true) (k6 : z2 = true → z3 = true → e23 = true) (h : KeptB z1 z2 e12 n c r) :
    0 ≤ (sstoreV false e12 e23 z1 z2 z3 e13).1 ∧ (sstoreV false e12 e23 z1 z2 z3 e13).1 ≤ 20000 ∧ -20000 ≤ (sstoreV false e12 e23 z1 z2 z3 e13).2 ∧ (sstoreV false e12 e23 z1 z2 z3 e13).2 ≤ 20000 ∧
    KeptB z1 z3 e13 (n + 1) (c + (sstoreV false e12 e23 z1 z2 z3 e13).1) (r + (sstoreV false e12 e23 z1 z2 z3 e13).2) := by
  unfold KeptB at *
  cases e12 <;> cases e23 <;> cases z1 <;> cases z2 <;> cases z3 <;> cases e13 <;> simp [sstoreV, againV, pend, off] at * <;> omega
theorem kept_step {f now next : List Int} {n c r : Int} (hn : 0 ≤ n) (h : Kept f now n c r) :
    ∃ p, gas_Sstore.f f now next false = some p ∧ 0 ≤ p.1 ∧ p.1 ≤ 20000 ∧ -20000 ≤ p.2 ∧ p.2 ≤ 20000 ∧ Kept f next (n + 1) (c + p.1) (r + p.2) := by
  rw [sstore_eq]
  refine ⟨_, rfl, keptB_step _ _ _ _ _ _ n c r hn ?_ ?_ ?_ ?_ ?_ ?_ h⟩
  all_goals simp only [decide_eq_true_eq, decide_eq_decide]
  · rintro rfl; exact ⟨Iff.rfl, Iff.rfl⟩
  · rintro rfl; exact ⟨Iff.rfl, Iff.rfl⟩
  · rintro rfl; exact ⟨Iff.rfl, ⟨fun h => h.symm, fun h => h.symm⟩⟩
  · rintro rfl rfl; rfl
  · rintro rfl rfl; rfl
  · rintro rfl rfl; rfl
theorem never_loop (f : List Int) (row : List (List Int)) (hl : row.length ≤ 500) (d : Nat) : ∀ (k i : Nat) (c r : Int) (now : List Int), i + d = row.length → d < k → Kept f now i c r →
    smithylaw12_GasNever.l1 f row k i c r now = some true := by
  induction d with
  | zero =>
    intro k i c r now hi hk h
    obtain ⟨k, rfl⟩ : ∃ m, k = m + 1 := ⟨k - 1, by omega⟩
    obtain ⟨c0, c1, r0, r1, d⟩ := h
    have hp : 0 ≤ pend (decide (f = Zw)) (decide (now = Zw)) := by unfold pend; split <;> omega
    show smithylaw12_GasNever.b1 f row _ i c r now = some true
    unfold smithylaw12_GasNever.b1 smithylaw12_GasNever.j1
    have h1 : ¬ ((i : Int) < (row.length : Int)) := by omega
    simp only [h1, decide_false, Bool.false_eq_true, if_false, fixed_eq, Option.bind_some, if_true]
    by_cases h2 : now = f
    · subst h2
      by_cases h3 : row.length = 0
      · simp [h3]
      · have h4 : wr .i64 c = c := wr_i64_id (by omega) (by omega)
        have h5 : pend (decide (now = Zw)) (decide (now = Zw)) = 0 := by unfold pend; by_cases e : now = Zw <;> simp [e]
        have h6 : off (decide (now = now)) (decide (now = Zw)) = 0 := by simp [off]
        rw [h5, h6] at d
        have h7 : r < c := by omega
        simp [h4, h7]
    · simp [h2]
  | succ d ih =>
    intro k i c r now hi hk h
    obtain ⟨k, rfl⟩ : ∃ m, k = m + 1 := ⟨k - 1, by omega⟩
    show smithylaw12_GasNever.b1 f row _ i c r now = some true
    unfold smithylaw12_GasNever.b1
    have h1 : (i : Int) < (row.length : Int) := by omega
    obtain ⟨p, hp, p1, p2, p3, p4, hK⟩ := kept_step (next := gt row (i : Int)) (by omega) h
    obtain ⟨hc0, hc, hr0, hr, _⟩ := h
    have hp0 : 0 ≤ pend (decide (f = Zw)) (decide (now = Zw)) := by unfold pend; split <;> omega
    have e1 : wr .i64 ((i : Int) + 1) = ((i + 1 : Nat) : Int) := by rw [wr_i64_id (by omega) (by omega)]; omega
    have e2 : wr .u64 (c + p.1) = c + p.1 := wr_u64_id (by omega) (by omega)
    have e3 : wr .i64 (r + p.2) = r + p.2 := wr_i64_id (by omega) (by omega)
    have hpos : ¬ (r + p.2 < 0) := by
      have hp1 : 0 ≤ pend (decide (f = Zw)) (decide (gt row (i : Int) = Zw)) := by unfold pend; split <;> omega
      have := hK.2.2.1
      omega
    simp only [h1, decide_true, if_true]
    rw [if_pos ⟨by omega, trivial⟩, hp]
    simp only [Option.bind_some, e1, e2, e3, hpos, decide_false, Bool.false_eq_true, if_false]
    exact ih k (i + 1) _ _ _ (by omega) (by omega) (by simpa using hK)
theorem smithylaw12_GasNever_true (a0 : List Int) (a1 : List (List Int)) (l0 : a0.length = 4) (w0 : ∀ y ∈ a0, inK .u64 y) (w1 : Gd29 a1) : ∃ k : Nat, smithylaw12_GasNever.f k a0 a1 = some true := by
  refine ⟨a1.length + 1, ?_⟩
  unfold smithylaw12_GasNever.f
  by_cases h : 500 < (a1.length : Int)
  · simp [h, fixed_eq]
  · simp only [h, decide_false, Bool.false_eq_true, if_false]
    have h5 : pend (decide (a0 = Zw)) (decide (a0 = Zw)) = 0 := by unfold pend; by_cases e : a0 = Zw <;> simp [e]
    have h6 : off (decide (a0 = a0)) (decide (a0 = Zw)) = 0 := by simp [off]
    have hk : Kept a0 a0 ((0 : Nat) : Int) 0 0 := by
      unfold Kept KeptB
      rw [h5, h6]
      omega
    have := never_loop a0 a1 (by omega) a1.length (a1.length + 1) 0 0 0 a0 (by omega) (by omega) hk
    simpa using this
end GW
