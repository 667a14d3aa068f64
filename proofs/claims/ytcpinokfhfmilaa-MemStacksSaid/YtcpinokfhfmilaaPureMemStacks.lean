/-
  What the law 'MemStacks' says of plain Lean values.
-/
import Derived.Test.YtcpinokfhfmilaaPureStack
set_option linter.unusedVariables false
set_option linter.unusedSimpArgs false
namespace GW
open Go Go.RowKit
theorem inK_u16 {x : Int} (h : inK .u16 x) : 0 ≤ x ∧ x < 65536 := by
  have : (0 : Int) ≤ x ∧ x ≤ 65535 := by simpa [inK, Lit.wf, IntKind.min, IntKind.max, IntKind.signed, IntKind.bits] using h
  omega
theorem gt_mem {α : Type} [Inhabited α] {xs : List α} {i : Int} (h0 : 0 ≤ i) (h1 : i < xs.length) : gt xs i ∈ xs := by
  rw [gt_get xs i (by omega)]; exact List.getElem_mem _
theorem same_loop (l : List (List Int)) (hl : l.length ≤ 1024) : ∀ (d q i : Nat), d < q → i + d = l.length → smithyref10_Same.l1 l l q (i : Int) = some true := by
  intro d
  induction d with
  | zero =>
    intro q i hq hi
    obtain ⟨q, rfl⟩ : ∃ m, q = m + 1 := ⟨q - 1, by omega⟩
    show smithyref10_Same.b1 l l _ _ = _
    unfold smithyref10_Same.b1 smithyref10_Same.j1
    rw [if_neg (by simp; omega)]
  | succ d ih =>
    intro q i hq hi
    obtain ⟨q, rfl⟩ : ∃ m, q = m + 1 := ⟨q - 1, by omega⟩
    show smithyref10_Same.b1 l l _ _ = _
    unfold smithyref10_Same.b1
    rw [if_pos (by simp; omega), if_pos ⟨by omega, by omega⟩, if_pos ⟨by omega, by omega⟩, if_neg (by simp), wr_i64_id (by omega) (by omega)]
    exact ih q (i + 1) (by omega) (by omega)
theorem stacks_end (s : List (List Int)) (hs : s.length ≤ 1024) (k : Nat) (hk : 1024 < k) : smithylaw10_MemStacks.j3 k s s = some true := by
  unfold smithylaw10_MemStacks.j3 mem_Stack_All.f api_Word.f smithyref10_Same.f
  rw [if_pos (by simp; omega)]
  simp only [Option.bind_some, List.nil_append]
  have h0 := same_loop s hs s.length k 0 (by omega) (by omega)
  rw [show ((0 : Nat) : Int) = 0 from rfl] at h0
  rw [if_neg (by simp), h0]
  rfl
section
variable {s : List (List Int)} {i : Nat} {rec1 : Int → (List (List Int)) → (List (List Int)) → Option Bool} (hs : s.length ≤ 1024) (hi : i ≤ 200) (hrec : ∀ s' : List (List Int), s'.length ≤ 1024 → rec1 ((i + 1 : Nat) : Int) s' s' = some true)
include hi hrec
theorem st_next (s' : List (List Int)) (h : s'.length ≤ 1024) : smithylaw10_MemStacks.j4 (i : Int) rec1 s' s' = some true := by
  unfold smithylaw10_MemStacks.j4
  rw [len_eq, Option.bind_some, if_neg (by simp), wr_i64_id (by omega) (by omega)]
  exact hrec s' h
include hs
theorem st_dup (l : List (Int × Int × Int × Int × (List Int) × (List Int) × (List Int))) (hn : inK .i64 ((gt l (i : Int)).2.1)) (b : Bool) (hb : b = decide (1 ≤ (gt l (i : Int)).2.1 ∧ (gt l (i : Int)).2.1 ≤ (s.length : Int) ∧ s.length ≠ 1024)) : smithylaw10_MemStacks.j6 l (i : Int) s s rec1 b = some true := by
  unfold smithylaw10_MemStacks.j6
  have hn' := inK_i64 hn
  by_cases c : 1 ≤ (gt l (i : Int)).2.1 ∧ (gt l (i : Int)).2.1 ≤ (s.length : Int) ∧ s.length ≠ 1024
  · have hb' : b = true := by rw [hb]; exact decide_eq_true c
    subst hb'
    have e := wr_i64_id (x := (s.length : Int) - (gt l (i : Int)).2.1) (by omega) (by omega)
    rw [dup_yes hs hn c, Option.bind_some, if_neg (by simp), if_pos rfl]
    simp only [e]
    rw [if_pos ⟨by omega, by omega⟩, if_pos (by simp; omega)]
    exact st_next hi hrec _ (by simp; omega)
  · have hb' : b = false := by rw [hb]; exact decide_eq_false c
    subst hb'
    rw [dup_no hs hn c, Option.bind_some, if_neg (by simp), if_neg (by simp)]
    exact st_next hi hrec _ hs
theorem st_swap (l : List (Int × Int × Int × Int × (List Int) × (List Int) × (List Int))) (hn : inK .i64 ((gt l (i : Int)).2.1)) (b : Bool) (hb : b = decide (1 ≤ (gt l (i : Int)).2.1 ∧ (gt l (i : Int)).2.1 < (s.length : Int))) : smithylaw10_MemStacks.j7 l (i : Int) s s rec1 b = some true := by
  unfold smithylaw10_MemStacks.j7
  have hn' := inK_i64 hn
  by_cases c : 1 ≤ (gt l (i : Int)).2.1 ∧ (gt l (i : Int)).2.1 < (s.length : Int)
  · have hb' : b = true := by rw [hb]; exact decide_eq_true c
    subst hb'
    have e0 := wr_i64_id (x := (s.length : Int) - 1) (by omega) (by omega)
    have e := wr_i64_id (x := (s.length : Int) - 1 - (gt l (i : Int)).2.1) (by omega) (by omega)
    rw [swap_yes hs hn c, Option.bind_some, if_neg (by simp), if_pos rfl]
    simp only [e0, e]
    rw [if_pos ⟨by omega, by omega⟩, if_pos ⟨by omega, by omega⟩, if_pos ⟨by omega, by rw [List.length_set]; omega⟩]
    have f1 : ((s.length : Int) - 1).toNat = s.length - 1 := by omega
    have f2 : ((s.length : Int) - 1 - (gt l (i : Int)).2.1).toNat = s.length - 1 - (gt l (i : Int)).2.1.toNat := by omega
    have f3 : (s.length : Int) - 1 = ((s.length - 1 : Nat) : Int) := by omega
    have f4 : (s.length : Int) - 1 - (gt l (i : Int)).2.1 = ((s.length - 1 - (gt l (i : Int)).2.1.toNat : Nat) : Int) := by omega
    have es : (s.set ((s.length : Int) - 1).toNat (gt s ((s.length : Int) - 1 - (gt l (i : Int)).2.1))).set ((s.length : Int) - 1 - (gt l (i : Int)).2.1).toNat (gt s ((s.length : Int) - 1)) = swapped s (gt l (i : Int)).2.1.toNat := by
      unfold swapped
      rw [f1, f2, f4, f3]
    rw [es]
    exact st_next hi hrec _ (by rw [swapped_len]; exact hs)
  · have hb' : b = false := by rw [hb]; exact decide_eq_false c
    subst hb'
    rw [swap_no hs hn c, Option.bind_some, if_neg (by simp), if_neg (by simp)]
    exact st_next hi hrec _ hs
theorem st_pop (z : List Int × Bool × List (List Int)) (hz : mem_Stack_Pop.f s = some z) : smithylaw10_MemStacks.j5 (i : Int) s rec1 z false = some true := by
  unfold smithylaw10_MemStacks.j5
  have e0 := wr_i64_id (x := (s.length : Int) - 1) (by omega) (by omega)
  rw [if_neg (by simp)]
  simp only [e0, imax_eq]
  rw [if_pos ⟨by omega, by omega⟩]
  have et : (max ((s.length : Int) - 1) 0).toNat = s.length - 1 := by omega
  rw [et]
  by_cases c : s.length = 0
  · rw [pop_no c] at hz
    obtain rfl := Option.some.inj hz
    have : s = [] := List.eq_nil_of_length_eq_zero c
    subst this
    exact st_next hi hrec _ (by simp)
  · rw [pop_yes hs c] at hz
    obtain rfl := Option.some.inj hz
    exact st_next hi hrec _ (by simp; omega)
end
theorem stacks_loop (l : List (Int × Int × Int × Int × (List Int) × (List Int) × (List Int))) (hl : l.length ≤ 200) (hw : ∀ o ∈ l, Gd40 o) (k : Nat) (hk : 1024 < k) : ∀ (d q i : Nat) (s : List (List Int)), d < q → i + d = l.length → s.length ≤ 1024 → smithylaw10_MemStacks.l1 k l q (i : Int) s s = some true := by
  intro d
  induction d with
  | zero =>
    intro q i s hq hi hs
    obtain ⟨q, rfl⟩ : ∃ m, q = m + 1 := ⟨q - 1, by omega⟩
    show smithylaw10_MemStacks.b1 k l _ _ _ _ = _
    unfold smithylaw10_MemStacks.b1
    rw [if_neg (by simp; omega)]
    exact stacks_end s hs k hk
  | succ d ih =>
    intro q i s hq hi hs
    obtain ⟨q, rfl⟩ : ∃ m, q = m + 1 := ⟨q - 1, by omega⟩
    show smithylaw10_MemStacks.b1 k l _ _ _ _ = _
    unfold smithylaw10_MemStacks.b1
    have ho := hw _ (gt_mem (xs := l) (i := i) (by omega) (by omega))
    have hn : inK .i64 ((gt l (i : Int)).2.1) := ho.2.1
    have hrec : ∀ s' : List (List Int), s'.length ≤ 1024 → smithylaw10_MemStacks.l1 k l q ((i + 1 : Nat) : Int) s' s' = some true := fun s' hs' => ih q (i + 1) s' (by omega) (by omega) hs'
    have hi2 : i ≤ 200 := by omega
    rw [if_pos (by simp; omega), if_pos ⟨by omega, by omega⟩]
    by_cases k0 : (gt l (i : Int)).1 = 0
    · rw [if_pos (by simpa using k0)]
      by_cases c : s.length = 1024
      · rw [push_no c, Option.bind_some, if_neg (by simp [c]), if_neg (by simp [c])]
        exact st_next hi2 hrec _ hs
      · have c2 : (s.length : Int) < 1024 := by omega
        rw [push_yes (by omega), Option.bind_some, if_neg (by simp [c2]), if_pos (by simpa using c2), if_pos (by simp; omega)]
        exact st_next hi2 hrec _ (by simp; omega)
    · rw [if_neg (by simpa using k0)]
      by_cases k1 : (gt l (i : Int)).1 = 1
      · rw [if_pos (by simpa using k1)]
        by_cases c : s.length = 0
        · have hp := st_pop hs hi2 hrec _ (pop_no c)
          rw [pop_no c, Option.bind_some, if_neg (by simp [c]), if_neg (by simp), if_pos (by simp)]
          exact hp
        · have hp := st_pop hs hi2 hrec _ (pop_yes hs c)
          have e0 := wr_i64_id (x := (s.length : Int) - 1) (by omega) (by omega)
          have c1 : 0 < (s.length : Int) := by omega
          rw [pop_yes hs c, Option.bind_some, if_neg (by simp only [decide_eq_true c1]; simp), if_pos rfl]
          simp only [e0]
          rw [if_pos ⟨by omega, by omega⟩, if_neg (by simp), if_neg (by simp)]
          exact hp
      · rw [if_neg (by simpa using k1)]
        by_cases k2 : (gt l (i : Int)).1 = 2
        · rw [if_pos (by simpa using k2)]
          by_cases c1 : 1 ≤ (gt l (i : Int)).2.1
          · rw [if_pos (by simpa using c1)]
            by_cases c2 : (gt l (i : Int)).2.1 ≤ (s.length : Int)
            · rw [if_pos (by simpa using c2)]
              refine st_dup hs hi2 hrec l hn _ ?_
              by_cases c3 : s.length = 1024
              · simp [c3]
              · have c4 : (s.length : Int) < 1024 := by omega
                simp [c1, c2, c3, c4]
            · rw [if_neg (by simpa using c2)]
              exact st_dup hs hi2 hrec l hn _ (by simp [c2])
          · rw [if_neg (by simpa using c1)]
            exact st_dup hs hi2 hrec l hn _ (by simp [c1])
        · rw [if_neg (by simpa using k2)]
          by_cases c1 : 1 ≤ (gt l (i : Int)).2.1
          · rw [if_pos (by simpa using c1)]
            exact st_swap hs hi2 hrec l hn _ (by simp [c1])
          · rw [if_neg (by simpa using c1)]
            exact st_swap hs hi2 hrec l hn _ (by simp [c1])
theorem fill_loop (x : Int) (l : List (Int × Int × Int × Int × (List Int) × (List Int) × (List Int))) (hl : l.length ≤ 200) (hw : ∀ o ∈ l, Gd40 o) (k : Nat) (hk : 1100 < k) (n : Nat) (hn : Int.tmod (wr .i64 x) 1030 = (n : Int)) (hn2 : n < 1030) : ∀ (d q i : Nat) (s : List (List Int)), d < q → i + d = n → s.length ≤ 1024 → smithylaw10_MemStacks.l2 k x l q s (i : Int) s = some true := by
  intro d
  induction d with
  | zero =>
    intro q i s hq hi hs
    obtain ⟨q, rfl⟩ : ∃ m, q = m + 1 := ⟨q - 1, by omega⟩
    show smithylaw10_MemStacks.b2 k x l _ _ _ _ = _
    unfold smithylaw10_MemStacks.b2 smithylaw10_MemStacks.j2
    rw [hn, if_neg (by simp; omega)]
    exact stacks_loop l hl hw k (by omega) l.length k 0 s (by omega) (by omega) hs
  | succ d ih =>
    intro q i s hq hi hs
    obtain ⟨q, rfl⟩ : ∃ m, q = m + 1 := ⟨q - 1, by omega⟩
    show smithylaw10_MemStacks.b2 k x l _ _ _ _ = _
    unfold smithylaw10_MemStacks.b2 smithylaw10_MemStacks.j8
    rw [hn, if_pos (by simp; omega)]
    have ei := wr_i64_id (x := (i : Int) + 1) (by omega) (by omega)
    by_cases c : s.length = 1024
    · rw [push_no c, Option.bind_some, if_neg (by simp [c]), if_neg (by simp), ei]
      exact ih q (i + 1) s (by omega) (by omega) hs
    · have c2 : (s.length : Int) < 1024 := by omega
      rw [push_yes (by omega), Option.bind_some, if_neg (by simp [c2]), if_pos rfl, if_pos (by simp; omega), ei]
      exact ih q (i + 1) _ (by omega) (by omega) (by simp; omega)
theorem smithylaw10_MemStacks_true (a0 : Int) (a1 : List (Int × Int × Int × Int × (List Int) × (List Int) × (List Int))) (w0 : inK .u16 a0) (w1 : Gd36 a1) : ∃ k : Nat, smithylaw10_MemStacks.f k a0 a1 = some true := by
  refine ⟨2000, ?_⟩
  have ha := inK_u16 w0
  unfold smithylaw10_MemStacks.f smithylaw10_MemStacks.j1
  have e0 : mem_NewStack.f = some [] := rfl
  rw [e0, fixed10]
  simp only [Option.bind_some, Bool.not_true, Bool.false_eq_true, if_false]
  by_cases h : (200 : Int) < (a1.length : Int)
  · rw [if_pos (by simpa using h)]
  · rw [if_neg (by simpa using h)]
    obtain ⟨n, rfl⟩ := Int.eq_ofNat_of_zero_le ha.1
    refine fill_loop _ a1 (by omega) w1.1 2000 (by omega) (n % 1030) ?_ (by omega) (n % 1030) 2000 0 [] (by omega) (by omega) (by simp)
    rw [wr_i64_id (by omega) (by omega), tmod_pos (by omega)]
    omega
end GW
