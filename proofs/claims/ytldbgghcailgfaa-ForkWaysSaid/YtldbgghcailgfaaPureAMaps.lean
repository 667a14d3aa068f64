import Derived.Test.YtldbgghcailgfaaG0
import Derived.Test.YtldbgghcailgfaaGWPlain
set_option linter.unusedVariables false
set_option linter.unusedSimpArgs false
set_option linter.unusedSectionVars false
set_option maxRecDepth 100000
namespace GW
open Go Go.RowKit
section
variable {α β : Type} [DecidableEq α]
theorem aget_aput (kvs : List (α × β)) (x : α) (y : β) (k : α) : aget (aput kvs x y) k = if k = x then some y else aget kvs k := by
  induction kvs with
  | nil => rfl
  | cons p r ih =>
    obtain ⟨q, v⟩ := p
    unfold aput
    by_cases c : x = q
    · rw [if_pos c]
      subst c
      show (if k = x then some y else aget r k) = if k = x then some y else if k = x then some v else aget r k
      by_cases c2 : k = x
      · rw [if_pos c2, if_pos c2]
      · rw [if_neg c2, if_neg c2, if_neg c2]
    · rw [if_neg c]
      show (if k = q then some v else aget (aput r x y) k) = if k = x then some y else if k = q then some v else aget r k
      rw [ih]
      by_cases c2 : k = q
      · rw [if_pos c2, if_pos c2, if_neg (fun e : k = x => c (e.symm.trans c2))]
      · rw [if_neg c2, if_neg c2]
theorem aget_adel (kvs : List (α × β)) (x : α) (k : α) : aget (adel kvs x) k = if k = x then none else aget kvs k := by
  induction kvs with
  | nil => show none = if k = x then none else none; split <;> rfl
  | cons p r ih =>
    obtain ⟨q, v⟩ := p
    by_cases c : q = x
    · have h1 : adel ((q, v) :: r) x = adel r x := by simp [adel, c]
      rw [h1, ih]
      show _ = if k = x then none else if k = q then some v else aget r k
      by_cases c2 : k = x
      · rw [if_pos c2, if_pos c2]
      · rw [if_neg c2, if_neg c2, if_neg (fun e : k = q => c2 (e.trans c))]
    · have h1 : adel ((q, v) :: r) x = (q, v) :: adel r x := by simp [adel, c]
      rw [h1]
      show (if k = q then some v else aget (adel r x) k) = if k = x then none else if k = q then some v else aget r k
      rw [ih]
      by_cases c2 : k = q
      · rw [if_pos c2, if_pos c2, if_neg (fun e : k = x => c (c2.symm.trans e))]
      · rw [if_neg c2, if_neg c2]
theorem lk_some {o : Option β} {z v : β} (h : o = some v) : lk o z = (v, true) := by rw [h]; rfl
theorem lk_none {o : Option β} {z : β} (h : o = none) : lk o z = (z, false) := by rw [h]; rfl
end
end GW
