/-
  What the law 'TxPrices' says of plain Lean values.
-/
import Derived.Test.YtnloindmiejbeaaPureTTxCost
set_option linter.unusedVariables false
set_option linter.unusedSimpArgs false
set_option maxRecDepth 100000
namespace GW
open Go Go.RowKit
theorem fixed19_k (k : Nat) : smithylaw19_fixed.f (k + 100) = some true := by kernel_rfl
theorem smithylaw19_TxPrices_true (a0 : (List Int) × (List Int) × Bool × Int × (List Int) × (List Int) × Int × (List Int) × (List Int) × (List ((List Int) × (List (List Int))))) (a1 : List Int) (w0 : Gd30 a0) (l1 : a1.length = 4) (w1 : ∀ y ∈ a1, inK .u64 y) : ∃ k : Nat, smithylaw19_TxPrices.f k a0 a1 = some true := by
  refine ⟨5000, ?_⟩
  have hb : Wd a1 := ⟨l1, w1⟩
  have fx : smithylaw19_fixed.f 5000 = some true := fixed19_k 4900
  have ht : TxW a0 := ⟨w0.2.2.2.1, w0.2.2.2.2.1, w0.2.2.2.2.2.2.1, w0.2.2.2.2.2.2.2.1, w0.2.2.2.2.2.2.2.2.1⟩
  unfold smithylaw19_TxPrices.f
  show ((smithyref19_Great.f 5000 a0).bind _) = _
  rcases great19 a0 5000 (by omega) with h | ⟨h, hs⟩
  · rw [h, Option.bind_some, if_pos rfl, fx]; rfl
  rw [h, Option.bind_some, if_neg (by simp)]
  obtain ⟨c, c1, c2, c3, c4⟩ := txCost_eq 4900 a0 ht
  obtain ⟨n, n1, n2, n3, n4⟩ := refCost_eq 4800 a0 ht
  obtain ⟨z1, w, z2, z3, z4⟩ := refFits 3000 (n := n) (by omega) n3
  obtain ⟨h1, _, _, _⟩ := highN_eq n n3
  obtain ⟨p, p1, p2, p3, p4⟩ := txPrice_eq 4900 a0 ht hb
  obtain ⟨q, q1, q2, q3, q4⟩ := refPrice_eq 2800 a0 ht hb
  obtain ⟨v, v1, v2⟩ := txIntrinsic_eq 5000 a0 hs (by omega)
  have hpq : p = q := by
    by_cases c : wv a0.2.2.2.2.2.2.2.1 < wv a1
    · rw [p3 c, q3 c]
    · exact p2.inj q2 (by rw [p4 c, q4 c])
  have j1f : smithylaw19_TxPrices.j1 5000 a0 a1 false = some true := by
    unfold smithylaw19_TxPrices.j1
    rw [if_neg (by simp)]
    show ((tx_Price.f 5000 a0 a1).bind _) = _
    rw [show (5000 : Nat) = 4900 + 100 from rfl, p1, Option.bind_some]
    show ((smithyref19_Price.f (2800 + 2200) a0 a1).bind _) = _
    rw [q1, Option.bind_some, show (4900 + 100 : Nat) = 5000 from rfl, fx, Option.bind_some, if_pos rfl, if_pos (by simpa using hpq), if_pos (by simp)]
    show ((tx_Intrinsic.f 5000 a0).bind _) = _
    rw [v1, Option.bind_some]
    show ((smithyref19_Intrinsic.f 5000 a0).bind _) = _
    rw [v2, Option.bind_some]
    simp
  rw [n4] at z1 z4
  show ((tx_Cost.f 5000 a0).bind _) = _
  rw [show tx_Cost.f 5000 a0 = _ from c1, Option.bind_some]
  show ((smithyref19_Cost.f 5000 a0).bind _) = _
  rw [show smithyref19_Cost.f 5000 a0 = _ from n1, Option.bind_some, h1, Option.bind_some, show smithyref02_Zero.f 5000 (n.drop 32) = _ from z1, Option.bind_some, if_neg (by simp)]
  by_cases hc : costI a0 < W256
  · rw [decide_eq_true hc, if_pos rfl, show smithyref02_N_Word.f 5000 n = _ from z2, Option.bind_some]
    have : c = w := c2.inj z3 (by rw [c3 hc, z4 hc])
    rw [if_neg (by simpa using this), if_neg (by simp), j1f]
  · rw [decide_eq_false hc, if_neg (by simp), if_pos (by simp), c4 hc]
    rw [show (!decide (([0, 0, 0, 0] : List Int) = [0, 0, 0, 0])) = false from by simp, j1f]
end GW
