import Derived.Test.YtldbgghcailgfaaPureAGreat
set_option linter.unusedVariables false
set_option linter.unusedSimpArgs false
set_option maxRecDepth 100000
namespace GW
open Go Go.RowKit
def findA : List L34 → List Int → Option L34
  | [], _ => none
  | x :: l, a => if x.1 = a then some x else findA l a
def noA : L34 := ([0, 0, 0, 0, 0, 0, 0, 0, 0, 0, 0, 0, 0, 0, 0, 0, 0, 0, 0, 0], 0, [0, 0, 0, 0], ([] : List Int), ([] : List ((List Int) × (List Int))))
theorem findA_mem {l : List L34} {a : List Int} {x : L34} (h : findA l a = some x) : x ∈ l ∧ x.1 = a := by
  induction l with
  | nil => cases h
  | cons y l ih =>
    unfold findA at h
    by_cases c : y.1 = a
    · rw [if_pos c] at h; obtain rfl := Option.some.inj h; exact ⟨List.mem_cons_self, c⟩
    · rw [if_neg c] at h; exact ⟨List.mem_cons_of_mem _ (ih h).1, (ih h).2⟩
theorem gt_dropA {α : Type} [Inhabited α] {xs : List α} {i : Nat} {x : α} {l : List α} (h : xs.drop i = x :: l) : gt xs (i : Int) = x ∧ i < xs.length ∧ xs.drop (i + 1) = l := by
  have hi : i < xs.length := by
    refine Decidable.byContradiction fun c => ?_
    rw [List.drop_eq_nil_of_le (by omega)] at h
    cases h
  rw [List.drop_eq_getElem_cons hi] at h
  simp only [List.cons.injEq] at h
  refine ⟨?_, hi, h.2⟩
  unfold gt
  rw [Int.toNat_natCast, List.getD_eq_getElem?_getD, List.getElem?_eq_getElem hi]
  exact h.1
theorem next1 (i : Nat) (h : i < 4611686018427387904) : wr .i64 ((i : Int) + 1) = ((i + 1 : Nat) : Int) := by rw [wr_i64_id (by omega) (by omega)]; omega
theorem find_loop (xs : List L34) (a : List Int) (hl : xs.length < 4611686018427387904) : ∀ (l : List L34) (q i : Nat), xs.drop i = l → i ≤ xs.length → l.length < q → smithyref13_Find.l1 xs a q (i : Int) = some (match findA l a with | some x => (x, true) | none => (noA, false))
  | [], q, i, hd, hi, hq => by
    obtain ⟨q, rfl⟩ : ∃ m, q = m + 1 := ⟨q - 1, by omega⟩
    have : xs.length ≤ i := by simpa using hd
    show smithyref13_Find.b1 _ _ _ _ = _
    unfold smithyref13_Find.b1
    rw [if_neg (by simp; omega)]; rfl
  | x :: l, q, i, hd, hi, hq => by
    simp only [List.length_cons] at hq
    obtain ⟨q, rfl⟩ : ∃ m, q = m + 1 := ⟨q - 1, by omega⟩
    obtain ⟨h1, h2, h3⟩ := gt_dropA hd
    show smithyref13_Find.b1 _ _ _ _ = _
    unfold smithyref13_Find.b1 findA
    rw [if_pos (by simp; omega), if_pos (by omega), h1]
    by_cases c : x.1 = a
    · rw [decide_eq_true c, if_pos rfl, if_pos c]
    · rw [decide_eq_false c, if_neg (by simp), if_neg c, next1 i (by omega)]
      exact find_loop xs a hl l q (i + 1) h3 (by omega) (by omega)
theorem find_eq (xs : List L34) (a : List Int) (k : Nat) (hk : xs.length < k) (hl : xs.length < 4611686018427387904) : smithyref13_Find.f k xs a = some (match findA xs a with | some x => (x, true) | none => (noA, false)) :=
  find_loop xs a hl xs k 0 rfl (by omega) hk
theorem same_l (x : L34) (hl : x.2.2.2.2.length < 4611686018427387904) : ∀ (r i q : Nat), i + r = x.2.2.2.2.length → r < q → smithyref13_Same.l1 x x q (i : Int) = some true
  | 0, i, q, hi, hq => by
    obtain ⟨q, rfl⟩ : ∃ m, q = m + 1 := ⟨q - 1, by omega⟩
    show smithyref13_Same.b1 _ _ _ _ = _
    unfold smithyref13_Same.b1
    rw [if_neg (by simp; omega)]; rfl
  | r + 1, i, q, hi, hq => by
    obtain ⟨q, rfl⟩ : ∃ m, q = m + 1 := ⟨q - 1, by omega⟩
    show smithyref13_Same.b1 _ _ _ _ = _
    unfold smithyref13_Same.b1
    rw [if_pos (by simp; omega), if_pos (by omega), if_pos (by omega), if_neg (by simp), next1 i (by omega)]
    exact same_l x hl r (i + 1) q (by omega) (by omega)
theorem same_self (x : L34) (k : Nat) (hk : x.2.2.2.2.length < k) (hl : x.2.2.2.2.length < 4611686018427387904) : smithyref13_Same.f k x x = some true := by
  unfold smithyref13_Same.f smithyref13_Same.j1
  rw [if_neg (by simp), if_neg (by simp), if_neg (by simp), if_neg (by simp), if_neg (by simp)]
  exact same_l x hl x.2.2.2.2.length 0 k (by omega) hk
end GW
