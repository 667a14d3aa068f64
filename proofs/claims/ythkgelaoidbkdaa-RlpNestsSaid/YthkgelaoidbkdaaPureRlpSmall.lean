/-
  The laws' measure of rows of nodes; rows held against each other.
-/
import Derived.Test.YthkgelaoidbkdaaPureRlpRef
import Derived.Test.YthkgelaoidbkdaaPureRlpDec
set_option linter.unusedVariables false
set_option linter.unusedSimpArgs false
namespace GW
open Go Go.RowKit
def wt : List Nd → Nat
  | [] => 0
  | nd :: l => 1 + nd.2.1.length + wt l
theorem wt_app (a b : List Nd) : wt (a ++ b) = wt a + wt b := by
  induction a with
  | nil => simp [wt]
  | cons nd a ih => simp only [List.cons_append, wt, ih]; omega
theorem wt_len (l : List Nd) : l.length ≤ wt l := by
  induction l with
  | nil => simp
  | cons nd l ih => simp only [wt, List.length_cons]; omega
theorem wt_mem (l : List Nd) : ∀ nd ∈ l, nd.2.1.length ≤ wt l := by
  induction l with
  | nil => intro nd h; simp at h
  | cons a l ih =>
    intro nd h
    simp only [wt]
    rcases List.mem_cons.1 h with rfl | h
    · omega
    · have := ih nd h; omega
theorem enc_wt (f : Fst) : f.enc.length ≤ 4 * wt f.flat := by
  induction f with
  | nil => simp [Fst.enc]
  | leaf b f ih =>
    have : (encL b).length ≤ b.length + 4 := by
      unfold encL
      have := hd_len b.length 0
      split
      · omega
      · rw [List.length_append]; omega
    simp only [Fst.enc, Fst.flat, wt, List.length_append]
    omega
  | node c f ihc ihf =>
    have := hd_len c.enc.length 64
    simp only [Fst.enc, Fst.flat, wt, List.length_append, wt_app, List.length_nil]
    omega
theorem fit_mem (f : Fst) : (∀ nd ∈ f.flat, nd.2.1.length < 16777216) → f.Fit := by
  induction f with
  | nil => intro _; trivial
  | leaf b f ih =>
    intro h
    exact ⟨h (false, b, 0) (by simp [Fst.flat]), ih fun nd hn => h nd (by simp [Fst.flat, hn])⟩
  | node c f ihc ihf =>
    intro h
    exact ⟨ihc fun nd hn => h nd (by simp [Fst.flat, hn]), ihf fun nd hn => h nd (by simp [Fst.flat, hn])⟩
theorem u8_mem (f : Fst) : (∀ nd ∈ f.flat, ∀ x ∈ nd.2.1, 0 ≤ x ∧ x < 256) → f.U8 := by
  induction f with
  | nil => intro _; trivial
  | leaf b f ih =>
    intro h
    exact ⟨h (false, b, 0) (by simp [Fst.flat]), ih fun nd hn => h nd (by simp [Fst.flat, hn])⟩
  | node c f ihc ihf =>
    intro h
    exact ⟨ihc fun nd hn => h nd (by simp [Fst.flat, hn]), ihf fun nd hn => h nd (by simp [Fst.flat, hn])⟩
theorem same_loop (x : List Nd) (hx : x.length < 1000000) : ∀ (d q i : Nat), d < q → i + d = x.length → smithyref07_Same.l1 x x q (i : Int) = some true := by
  intro d
  induction d with
  | zero =>
    intro q i hq hi
    obtain ⟨q, rfl⟩ : ∃ m, q = m + 1 := ⟨q - 1, by omega⟩
    show smithyref07_Same.b1 x x _ _ = _
    unfold smithyref07_Same.b1
    rw [if_neg (by simp; omega)]
    rfl
  | succ d ih =>
    intro q i hq hi
    obtain ⟨q, rfl⟩ : ∃ m, q = m + 1 := ⟨q - 1, by omega⟩
    show smithyref07_Same.b1 x x _ _ = _
    unfold smithyref07_Same.b1
    rw [if_pos (by simp; omega), if_pos (by omega), if_pos (by omega), if_neg (by simp), if_neg (by simp)]
    have : (!((bstr ((gt x (i : Int)).2.1)).toList == (bstr ((gt x (i : Int)).2.1)).toList)) = false := by simp
    rw [this]
    unfold smithyref07_Same.j2
    rw [if_neg (by simp), wr_i64_id (by omega) (by omega)]
    exact ih q (i + 1) (by omega) (by omega)
theorem same_self (x : List Nd) (hx : x.length < 1000000) (k : Nat) (hk : x.length < k) : smithyref07_Same.f k x x = some true := by
  unfold smithyref07_Same.f
  rw [if_neg (by simp)]
  exact same_loop x hx x.length k 0 hk (by omega)
theorem great_loop (x : List Nd) : ∀ (l : List Nd) (q i : Nat) (acc : Nat), x.drop i = l → i ≤ x.length → 4001 < i + q → i ≤ acc → acc ≤ 4000 → smithyref07_Great.l1 x q (i : Int) (acc : Int) = some true ∨ (smithyref07_Great.l1 x q (i : Int) (acc : Int) = some false ∧ acc + wt l ≤ 4000) := by
  intro l
  induction l with
  | nil =>
    intro q i acc hd hi hq ha h4
    obtain ⟨q, rfl⟩ : ∃ m, q = m + 1 := ⟨q - 1, by omega⟩
    right
    have : x.length ≤ i := by simpa using hd
    refine ⟨?_, by simp [wt]; omega⟩
    show smithyref07_Great.b1 x _ _ _ = _
    unfold smithyref07_Great.b1
    rw [if_neg (by simp; omega)]
    rfl
  | cons nd l ih =>
    intro q i acc hd hi hq ha h4
    obtain ⟨q, rfl⟩ : ∃ m, q = m + 1 := ⟨q - 1, by omega⟩
    obtain ⟨g1, g2, g3⟩ := gt_drop hd
    have e : smithyref07_Great.l1 x (q + 1) (i : Int) (acc : Int) = if (4000 : Int) < acc + (1 + imin (nd.2.1.length : Int) 5000) then some true else smithyref07_Great.l1 x q ((i + 1 : Nat) : Int) ((acc : Int) + (1 + imin (nd.2.1.length : Int) 5000)) := by
      show smithyref07_Great.b1 x _ _ _ = _
      unfold smithyref07_Great.b1
      have hi1 := imin_le (nd.2.1.length : Int) 5000 (by omega) (by omega)
      rw [if_pos (by simp; omega), if_pos (by omega), g1, wr_i64_id (x := 1 + imin (nd.2.1.length : Int) 5000) (by omega) (by omega), wr_i64_id (x := (acc : Int) + (1 + imin (nd.2.1.length : Int) 5000)) (by omega) (by omega), wr_i64_id (x := (i : Int) + 1) (by omega) (by omega)]
      by_cases c : (4000 : Int) < acc + (1 + imin (nd.2.1.length : Int) 5000)
      · rw [if_pos (by simpa using c), if_pos c]
      · rw [if_neg (by simpa using c), if_neg c]; rfl
    rw [e]
    by_cases c : (4000 : Int) < acc + (1 + imin (nd.2.1.length : Int) 5000)
    · rw [if_pos c]; exact Or.inl rfl
    · rw [if_neg c]
      have hs : imin (nd.2.1.length : Int) 5000 = (nd.2.1.length : Int) ∧ nd.2.1.length ≤ 5000 := by
        unfold imin at c ⊢
        by_cases c2 : (5000 : Int) < (nd.2.1.length : Int)
        · rw [if_pos c2] at c; omega
        · rw [if_neg c2]; exact ⟨rfl, by omega⟩
      rw [hs.1] at c ⊢
      have := ih q (i + 1) (acc + (1 + nd.2.1.length)) g3 (by omega) (by omega) (by omega) (by omega)
      rw [show (((acc + (1 + nd.2.1.length) : Nat)) : Int) = (acc : Int) + (1 + (nd.2.1.length : Int)) by omega] at this
      rcases this with h | ⟨h1, h2⟩
      · exact Or.inl h
      · exact Or.inr ⟨h1, by simp only [wt]; omega⟩
theorem great_eq (x : List Nd) (k : Nat) (hk : 4001 < k) : smithyref07_Great.f k x = some true ∨ (smithyref07_Great.f k x = some false ∧ wt x ≤ 4000) := by
  have := great_loop x x k 0 0 rfl (by omega) (by omega) (by omega) (by omega)
  rcases this with h | ⟨h1, h2⟩
  · exact Or.inl h
  · exact Or.inr ⟨h1, by omega⟩
end GW
