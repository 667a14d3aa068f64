import Derived.Test.YtoiopiiljblpjaaDoorPureFix
set_option linter.unusedVariables false
set_option linter.unusedSimpArgs false
set_option maxRecDepth 100000
namespace GW
open Go Go.RowKit
section
variable {kF : Nat}
theorem rroot_loop (x : List (List Int)) (hx : x.length < 1000) (hg : ∀ b ∈ x, b.length = 32) : ∀ (l : List (List Int)) (q i : Nat) (acc : List (List Int)), x.drop i = l → i ≤ x.length → l.length < q → acc.length + l.length < 100000 → smithyref23_Root.l1 (kF + 40) x q (i : Int) acc = smithyref23_Root.j1 (kF + 40) (acc ++ l.map encL) := by
  intro l
  induction l with
  | nil =>
    intro q i acc hd hi hq ha
    obtain ⟨q, rfl⟩ : ∃ m, q = m + 1 := ⟨q - 1, by omega⟩
    have : x.length ≤ i := by simpa using hd
    show smithyref23_Root.b1 (kF + 40) x _ _ _ = _
    unfold smithyref23_Root.b1
    rw [if_neg (by simp; omega)]
    simp
  | cons r l ih =>
    intro q i acc hd hi hq ha
    simp only [List.length_cons] at hq ha
    obtain ⟨q, rfl⟩ : ∃ m, q = m + 1 := ⟨q - 1, by omega⟩
    obtain ⟨g, hi2, hr⟩ := gt_dropG hd
    have hm : r ∈ x := List.mem_of_mem_drop (i := i) (by rw [hd]; simp)
    show smithyref23_Root.b1 (kF + 40) x _ _ _ = _
    unfold smithyref23_Root.b1
    simp only [g]
    rw [if_pos (by simp; omega), if_pos (by omega), rbytes r (by rw [hg r hm]; omega), Option.bind_some, if_pos (by simp; omega), wr_i64_id (by omega) (by omega)]
    refine (ih q (i + 1) _ hr (by omega) (by omega) (by simp; omega)).trans ?_
    simp
theorem root_eq (x : List (List Int)) (hx : x.length ≤ 300) (hg : ∀ b ∈ x, b.length = 32) (hk : 700000 < kF + 200) : ∃ z : List Int, block_Root.f (kF + 200) x = some z ∧ smithyref23_Root.f (kF + 200) x = some z ∧ z.length = 32 ∧ ∀ x ∈ z, 0 ≤ x ∧ x < 256 := by
  obtain ⟨z, z1, z2, z3⟩ := root_imp (kF := kF) x hx hg hk
  refine ⟨z, z1, ?_, z3⟩
  unfold smithyref23_Root.f
  have := rroot_loop (kF := kF + 160) x (by omega) hg x (kF + 200) 0 [] rfl (by omega) (by omega) (by simp; omega)
  rw [show kF + 160 + 40 = kF + 200 by omega, show ((0 : Nat) : Int) = 0 from rfl, List.nil_append] at this
  rw [this]
  unfold smithyref23_Root.j1
  refine Eq.trans ?_ z2
  simp only [bind_id]
end
end GW
