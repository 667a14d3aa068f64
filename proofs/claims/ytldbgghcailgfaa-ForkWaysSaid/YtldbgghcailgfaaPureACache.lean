import Derived.Test.YtldbgghcailgfaaPureARight
import Derived.Test.YtldbgghcailgfaaPureAFind
import Derived.Test.YtldbgghcailgfaaPureAMaps
set_option linter.unusedVariables false
set_option linter.unusedSimpArgs false
set_option maxRecDepth 100000
namespace GW
open Go Go.RowKit
abbrev CaK : Type := List ((List Int) × L34)
abbrev CaT : Type := List ((List Int) × Int)
theorem own_eq (x : L34) (h : SmallA x) : fork_own.f x = some x := by
  unfold fork_own.f slices_Clone_byte_byte.f api_Slot.f
  obtain ⟨h1, h2⟩ := h
  rw [if_pos (by simp; omega), Option.bind_some, if_pos (by simp; omega)]; rfl
theorem want_known {K : CaK} {T : CaT} {a : List Int} {x : L34} (h : aget K a = some x) : fork_Cache_Want.f (K, T) a = some (1, (K, T)) := by
  unfold fork_Cache_Want.f fork_Cache_Want.j1
  rw [lk_some h, if_pos rfl]
theorem want_begun {K : CaK} {T : CaT} {a : List Int} (h : aget K a = none) (h2 : aget T a = none) : fork_Cache_Want.f (K, T) a = some (3, (K, aput T a 0)) := by
  unfold fork_Cache_Want.f fork_Cache_Want.j1
  rw [lk_none h, if_neg (by simp), lk_none h2, if_neg (by simp)]
theorem fail_lost {K : CaK} {T : CaT} {a : List Int} (h2 : aget T a = some 7) : fork_Cache_Fail.f (K, T) a = some (5, (K, adel T a)) := by
  unfold fork_Cache_Fail.f
  rw [lk_some h2, if_neg (by simp), if_pos (by decide)]
theorem fail_again {K : CaK} {T : CaT} {a : List Int} {n : Int} (h2 : aget T a = some n) (h0 : 0 ≤ n) (h7 : n < 7) : fork_Cache_Fail.f (K, T) a = some (4, (K, aput T a (n + 1))) := by
  unfold fork_Cache_Fail.f
  have hw : wr .i64 (n + 1) = n + 1 := wr_i64_id (by omega) (by omega)
  rw [lk_some h2, if_neg (by simp), hw, if_neg (by simp; omega)]
theorem fill_yes {K : CaK} {T : CaT} {x : L34} {n : Int} {k : Nat} (hx : Gd34 x) (hs : SmallA x) (hk : 200 < k) (h : smithyref13_Right.f k x = some true) (h2 : aget T x.1 = some n) : fork_Cache_Fill.f k (K, T) x = some (true, (aput K x.1 x, adel T x.1)) := by
  obtain ⟨b, b1, b2⟩ := rights_eq (k - 40) x hx.2.2.2.2 (by have := hs.2; omega)
  rw [show k - 40 + 40 = k by omega] at b1 b2
  rw [b2] at h; obtain rfl := Option.some.inj h
  unfold fork_Cache_Fill.f
  rw [b1, Option.bind_some, if_neg (by simp), lk_some h2, if_neg (by simp), own_eq x hs, Option.bind_some]
theorem account_yes {K : CaK} {T : CaT} {a : List Int} {x : L34} (hs : SmallA x) (h : aget K a = some x) : fork_Cache_Account.f (K, T) a = some (x, true) := by
  unfold fork_Cache_Account.f fork_Cache_Account.j1
  rw [lk_some h, if_pos rfl, own_eq x hs, Option.bind_some]
end GW
