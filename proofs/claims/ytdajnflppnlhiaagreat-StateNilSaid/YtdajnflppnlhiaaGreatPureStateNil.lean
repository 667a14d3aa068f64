import Derived.Test.YtdajnflppnlhiaaGreatG0
import Derived.Test.YtdajnflppnlhiaaGreatGWPlain
set_option linter.unusedVariables false
set_option linter.unusedSimpArgs false
set_option maxRecDepth 100000
namespace GW
open Go Go.RowKit
def nilS : ST37 := ST37.mk (([] : List L71), ([] : List (L71 × Bool × Bool)), ([] : List (List Int)), ([] : List ((List Int) × (List Int))), 0, ([] : List L100), false, ([] : List ST37))
theorem nilAt (a : List Int) : smithyref14_State_At.f 1000 nilS a = some ((a, 0, [0, 0, 0, 0], [], []), false, false) := by kernel_rfl
theorem nilWith (x : W20) : smithyref14_State_With.f 1000 nilS x = some (ST37.mk ([], [x], [], [], 0, [], false, [])) := by kernel_rfl
theorem nilSet (a k v : List Int) : ∃ t, smithyref14_State_Set.f 1000 nilS a k v = some t := by
  unfold smithyref14_State_Set.f
  rw [nilAt, Option.bind_some]
  have e : ∀ t1 : W20, t1.1.2.2.2.2 = [] → smithyref14_State_Set.l1 1000 nilS k v t1 1000 0 false [] = smithyref14_State_Set.j1 1000 nilS k v t1 false [] := fun t1 h => by
    show smithyref14_State_Set.b1 _ _ _ _ _ _ _ _ _ = _
    unfold smithyref14_State_Set.b1
    rw [h, if_neg (by decide)]
  rw [e _ rfl]
  unfold smithyref14_State_Set.j1 smithyref14_State_Set.j3 smithyref14_State_Set.j2
  simp only [nilWith]
  by_cases c : v = [0, 0, 0, 0]
  · exact ⟨_, by rw [decide_eq_true c]; rfl⟩
  · exact ⟨_, by rw [decide_eq_false c]; rfl⟩
theorem nilTouch (a : List Int) : smithyref14_State_Touch.f 1000 nilS a = some (true, ST37.mk ([], [], [a], [], 0, [], false, [])) := by kernel_rfl
theorem nilTouchSlot (a k : List Int) : smithyref14_State_TouchSlot.f 1000 nilS a k = some (true, ST37.mk ([], [], [], [(a, k)], 0, [], false, [])) := by kernel_rfl
theorem nilLog (x : W22) : smithyref14_State_Log.f nilS x = some (ST37.mk ([], [], [], [], 0, [x], false, [])) := by kernel_rfl
theorem do_nil (o : W25) (h : ¬ (300 : Int) < (o.2.2.2.2.2.length : Int)) : ∃ t, smithylaw14_do_0nil_2o.f 1000 nilS [] o = some t := by
  unfold smithylaw14_do_0nil_2o.f
  by_cases c0 : (o.1 == 0) = true
  · rw [if_pos c0]
    unfold smithyref14_State_SetNonce.f
    rw [nilAt, Option.bind_some, nilWith]; exact ⟨_, rfl⟩
  rw [if_neg c0]
  by_cases c1 : (o.1 == 1) = true
  · rw [if_pos c1]
    unfold smithyref14_State_SetBalance.f
    rw [nilAt, Option.bind_some, nilWith]; exact ⟨_, rfl⟩
  rw [if_neg c1]
  by_cases c2 : (o.1 == 2) = true
  · rw [if_pos c2]
    unfold smithyref14_State_SetCode.f
    rw [nilAt, Option.bind_some, if_pos (by simp only [List.length_nil]; omega), nilWith]; exact ⟨_, rfl⟩
  rw [if_neg c2]
  by_cases c3 : (o.1 == 3) = true
  · rw [if_pos c3]
    unfold smithyref14_State_Make.f
    rw [nilAt, Option.bind_some, nilWith]; exact ⟨_, rfl⟩
  rw [if_neg c3]
  by_cases c4 : (o.1 == 4) = true
  · rw [if_pos c4]
    obtain ⟨t, ht⟩ := nilSet o.2.1 o.2.2.1 o.2.2.2.1
    rw [ht]; exact ⟨_, rfl⟩
  rw [if_neg c4]
  by_cases c5 : (o.1 == 5) = true
  · rw [if_pos c5, nilTouch]; exact ⟨_, rfl⟩
  rw [if_neg c5]
  by_cases c6 : (o.1 == 6) = true
  · rw [if_pos c6, nilTouchSlot]; exact ⟨_, rfl⟩
  rw [if_neg c6]
  by_cases c7 : (o.1 == 7) = true
  · rw [if_pos c7]; exact ⟨_, rfl⟩
  rw [if_neg c7]
  by_cases c8 : (o.1 == 8) = true
  · rw [if_pos c8, nilLog]; exact ⟨_, rfl⟩
  rw [if_neg c8]
  by_cases c9 : (o.1 == 9) = true
  · rw [if_pos c9]
    unfold smithyref14_State_Destroy.f
    rw [nilAt, Option.bind_some, nilWith]; exact ⟨_, rfl⟩
  rw [if_neg c9]
  by_cases c10 : (o.1 == 10) = true
  · rw [if_pos c10]; exact ⟨_, rfl⟩
  rw [if_neg c10]
  exact ⟨_, rfl⟩
theorem smithylaw14_StateNil_true (a0 : L46) (w0 : Gd46 a0) : ∃ k : Nat, smithylaw14_StateNil.f k a0 = some true := by
  refine ⟨1000, ?_⟩
  have fx : smithylaw14_fixed.f 1000 = some true := by kernel_rfl
  unfold smithylaw14_StateNil.f
  rw [fx]
  by_cases c : (300 : Int) < (a0.2.2.2.2.2.length : Int)
  · rw [if_pos (decide_eq_true c)]; rfl
  · rw [if_neg (by simpa using c)]
    obtain ⟨t, ht⟩ := do_nil a0 c
    rw [show smithylaw14_do_0nil_2o.f 1000 (ST37.mk (([] : List L71), ([] : List (L71 × Bool × Bool)), ([] : List (List Int)), ([] : List ((List Int) × (List Int))), 0, ([] : List L100), false, ([] : List ST37))) [] a0 = some t from ht]
    rfl
end GW
