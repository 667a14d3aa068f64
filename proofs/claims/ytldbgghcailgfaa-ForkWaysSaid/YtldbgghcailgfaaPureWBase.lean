import Derived.Test.YtldbgghcailgfaaG0
import Derived.Test.YtldbgghcailgfaaGWPlain
set_option linter.unusedVariables false
set_option linter.unusedSimpArgs false
set_option maxRecDepth 100000
namespace GW
open Go Go.RowKit
def Wd (a : List Int) : Prop := a.length = 4 ∧ ∀ y ∈ a, inK .u64 y
def wv (a : List Int) : Int := rd a 0 + rd a 1 * 18446744073709551616 + rd a 2 * 340282366920938463463374607431768211456 + rd a 3 * 6277101735386680763835789423207666416102355444464034512896
theorem inK_of_u64 {x : Int} (h0 : 0 ≤ x) (h1 : x < 18446744073709551616) : inK .u64 x := by
  have : x ≤ 18446744073709551615 := by omega
  simpa [inK, Lit.wf, IntKind.min, IntKind.max, IntKind.signed, IntKind.bits] using And.intro h0 this
theorem Wd.lanes {a : List Int} (h : Wd a) : ∃ a0 a1 a2 a3 : Int, a = [a0, a1, a2, a3] ∧ (0 ≤ a0 ∧ a0 < 18446744073709551616) ∧ (0 ≤ a1 ∧ a1 < 18446744073709551616) ∧ (0 ≤ a2 ∧ a2 < 18446744073709551616) ∧ (0 ≤ a3 ∧ a3 < 18446744073709551616) := by
  obtain ⟨hl, hx⟩ := h
  match a, hl with
  | [a0, a1, a2, a3], _ => exact ⟨a0, a1, a2, a3, rfl, inK_u64 (hx a0 (by simp)), inK_u64 (hx a1 (by simp)), inK_u64 (hx a2 (by simp)), inK_u64 (hx a3 (by simp))⟩
theorem Wd.mk {a0 a1 a2 a3 : Int} (h0 : 0 ≤ a0 ∧ a0 < 18446744073709551616) (h1 : 0 ≤ a1 ∧ a1 < 18446744073709551616) (h2 : 0 ≤ a2 ∧ a2 < 18446744073709551616) (h3 : 0 ≤ a3 ∧ a3 < 18446744073709551616) : Wd [a0, a1, a2, a3] := by
  refine ⟨rfl, fun y hy => ?_⟩
  simp only [List.mem_cons, List.not_mem_nil, or_false] at hy
  rcases hy with rfl | rfl | rfl | rfl
  · exact inK_of_u64 h0.1 h0.2
  · exact inK_of_u64 h1.1 h1.2
  · exact inK_of_u64 h2.1 h2.2
  · exact inK_of_u64 h3.1 h3.2
theorem wv_lanes (a0 a1 a2 a3 : Int) : wv [a0, a1, a2, a3] = a0 + a1 * 18446744073709551616 + a2 * 340282366920938463463374607431768211456 + a3 * 6277101735386680763835789423207666416102355444464034512896 := rfl
theorem Wd.lt {a : List Int} (h : Wd a) : 0 ≤ wv a ∧ wv a < 115792089237316195423570985008687907853269984665640564039457584007913129639936 := by
  obtain ⟨a0, a1, a2, a3, rfl, h0, h1, h2, h3⟩ := h.lanes
  rw [wv_lanes]; omega
theorem Wd.inj {a b : List Int} (h : Wd a) (k : Wd b) (e : wv a = wv b) : a = b := by
  obtain ⟨a0, a1, a2, a3, rfl, h0, h1, h2, h3⟩ := h.lanes
  obtain ⟨b0, b1, b2, b3, rfl, k0, k1, k2, k3⟩ := k.lanes
  rw [wv_lanes, wv_lanes] at e
  have e0 : a0 = b0 := by omega
  subst e0
  have e1 : a1 = b1 := by omega
  subst e1
  have e2 : a2 = b2 := by omega
  subst e2
  have e3 : a3 = b3 := by omega
  rw [e3]
theorem Wd.of {x : Int} (h : inK .u64 x) : Wd [x, 0, 0, 0] := Wd.mk (inK_u64 h) (by omega) (by omega) (by omega)
theorem Wd.of' {x : Int} (h0 : 0 ≤ x) (h1 : x < 18446744073709551616) : Wd [x, 0, 0, 0] := Wd.mk ⟨h0, h1⟩ (by omega) (by omega) (by omega)
theorem Wd.zero : Wd [0, 0, 0, 0] := Wd.of' (by omega) (by omega)
def dv (B : Int) : List Int → Int
  | [] => 0
  | x :: r => x + B * dv B r
theorem rd_getD (a : List Int) (i : Nat) : rd a (i : Int) = a.getD i 0 := rfl
def Dig (B : Int) (a : List Int) : Prop := ∀ y ∈ a, 0 ≤ y ∧ y < B
theorem Dig.rd {B : Int} (hB : 0 < B) {a : List Int} (h : Dig B a) (i : Nat) : 0 ≤ a.getD i 0 ∧ a.getD i 0 < B := by
  rw [List.getD_eq_getElem?_getD]
  by_cases hi : i < a.length
  · rw [List.getElem?_eq_getElem hi]; exact h _ (List.getElem_mem hi)
  · rw [List.getElem?_eq_none (by omega)]; exact ⟨Int.le_refl _, hB⟩
theorem Dig.set {B : Int} {a : List Int} (h : Dig B a) (i : Nat) {v : Int} (hv : 0 ≤ v ∧ v < B) : Dig B (a.set i v) := fun y hy => by
  rcases List.mem_or_eq_of_mem_set hy with h1 | rfl
  · exact h y h1
  · exact hv
theorem Dig.nil (B : Int) : Dig B [] := fun y hy => by cases hy
theorem dv_lt {B : Int} (hB : 0 < B) : ∀ {a : List Int}, Dig B a → 0 ≤ dv B a ∧ dv B a < B ^ a.length
  | [], _ => by simp [dv]
  | x :: r, h => by
    obtain ⟨h1, h2⟩ := h x (by simp)
    obtain ⟨h3, h4⟩ := dv_lt hB (a := r) fun y hy => h y (by simp [hy])
    have h5 : B * dv B r ≤ B * (B ^ r.length - 1) := Int.mul_le_mul_of_nonneg_left (by omega) (by omega)
    have h6 : 0 ≤ B * dv B r := Int.mul_nonneg (by omega) h3
    simp only [dv, List.length_cons, Int.pow_succ]
    have h7 : B * (B ^ r.length - 1) = B ^ r.length * B - B := by grind
    omega
end GW
