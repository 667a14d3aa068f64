import Derived.Test.YtldbgghcailgfaaPureWRefD
import Derived.Test.YtldbgghcailgfaaPureWCmp
set_option linter.unusedVariables false
set_option linter.unusedSimpArgs false
set_option maxRecDepth 100000
namespace GW
open Go Go.RowKit
theorem cmpD_loop {x y : List Int} (hx : Dig 256 x) (hy : Dig 256 y) (hxl : x.length = 32) (hyl : y.length = 32) : ∀ (r q : Nat), r ≤ 32 → r < q → (∀ j, r ≤ j → x.getD j 0 = y.getD j 0) → smithyref01_Compare.l1 x y q ((r : Int) - 1) = some (cmpI (dv 256 x) (dv 256 y))
  | 0, q, hr, hq, h => by
    obtain ⟨q, rfl⟩ : ∃ m, q = m + 1 := ⟨q - 1, by omega⟩
    show smithyref01_Compare.b1 x y _ _ = _
    unfold smithyref01_Compare.b1 smithyref01_Compare.j1
    rw [if_neg (by simp), dv_ext 256 x y (fun j => h j (by omega))]
    simp [cmpI]
  | r + 1, q, hr, hq, h => by
    obtain ⟨q, rfl⟩ : ∃ m, q = m + 1 := ⟨q - 1, by omega⟩
    rw [show ((r + 1 : Nat) : Int) - 1 = (r : Int) from by omega]
    show smithyref01_Compare.b1 x y _ _ = _
    unfold smithyref01_Compare.b1
    rw [if_pos (by simp), if_pos (by omega), rd_getD, rd_getD]
    by_cases c : x.getD r 0 < y.getD r 0
    · rw [if_pos (by simpa using c)]
      have := dv_at (by omega) hx hy r (fun j hj => h j (by omega)) c
      unfold cmpI
      rw [if_neg (by omega), if_pos this]
    rw [if_neg (by simpa using c)]
    by_cases c2 : y.getD r 0 < x.getD r 0
    · rw [if_pos (by simpa using c2)]
      have := dv_at (by omega) hy hx r (fun j hj => (h j (by omega)).symm) c2
      unfold cmpI
      rw [if_neg (by omega), if_neg (by omega)]
    rw [if_neg (by simpa using c2), wr_i64_id (by omega) (by omega)]
    refine cmpD_loop hx hy hxl hyl r q (by omega) (by omega) (fun j hj => ?_)
    by_cases e : j = r
    · subst e; omega
    · exact h j (by omega)
theorem cmpD_eq (k : Nat) {x y : List Int} (hx : Dig 256 x) (hy : Dig 256 y) (hxl : x.length = 32) (hyl : y.length = 32) : smithyref01_Compare.f (k + 40) x y = some (cmpI (dv 256 x) (dv 256 y)) :=
  cmpD_loop hx hy hxl hyl 32 (k + 40) (by omega) (by omega) (fun j hj => by rw [List.getD_eq_getElem?_getD, List.getD_eq_getElem?_getD, List.getElem?_eq_none (by omega), List.getElem?_eq_none (by omega)])
end GW
