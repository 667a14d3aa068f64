/-
  Roots, and the chapter's example.
-/
import Derived.Test.YtoiopiiljblpjaaDoorPureBlock
set_option linter.unusedVariables false
set_option linter.unusedSimpArgs false
set_option maxRecDepth 100000
namespace GW
open Go Go.RowKit
section
variable {kF : Nat}
theorem each_hash (x : List (List Int)) (hx : x.length < 1000) (hg : ∀ b ∈ x, b.length = 32) : ∀ (l : List (List Int)) (q i : Nat) (acc : List Nd), x.drop i = l → i ≤ x.length → l.length < q → acc.length + l.length < 100000 → api_Hash_n33_1f34.l1 x q acc (i : Int) = some (acc ++ l.map fun b => (false, b, 0)) := by
  intro l
  induction l with
  | nil =>
    intro q i acc hd hi hq ha
    obtain ⟨q, rfl⟩ : ∃ m, q = m + 1 := ⟨q - 1, by omega⟩
    have : x.length ≤ i := by simpa using hd
    show api_Hash_n33_1f34.b1 x _ _ _ = _
    unfold api_Hash_n33_1f34.b1
    rw [if_neg (by simp; omega)]
    simp [api_Hash_n33_1f34.j1]
  | cons r l ih =>
    intro q i acc hd hi hq ha
    simp only [List.length_cons] at hq ha
    obtain ⟨q, rfl⟩ : ∃ m, q = m + 1 := ⟨q - 1, by omega⟩
    obtain ⟨g, hi2, hr⟩ := gt_dropG hd
    have hm : r ∈ x := List.mem_of_mem_drop (i := i) (by rw [hd]; simp)
    show api_Hash_n33_1f34.b1 x _ _ _ = _
    unfold api_Hash_n33_1f34.b1 block_Root_1.f block_item.f
    simp only [g]
    rw [if_pos (by simp; omega), if_pos (by omega), cut32 (hg r hm), Option.bind_some, Option.bind_some, if_pos (by simp; omega), wr_i64_id (by omega) (by omega)]
    refine (ih q (i + 1) _ hr (by omega) (by omega) (by simp; omega)).trans ?_
    simp
theorem rroot_loop (x : List (List Int)) (hx : x.length < 1000) (hg : ∀ b ∈ x, b.length = 32) : ∀ (l : List (List Int)) (q i : Nat) (acc : List (List Int)), x.drop i = l → i ≤ x.length → l.length < q → acc.length + l.length < 100000 → smithyref23_Root.l1 (kF + 40) x q (i : Int) acc = smithyref23_Root.j1 (kF + 40) (acc ++ l.map encL) := by
  intro l
  induction l with
  | nil =>
    intro q i acc hd hi hq ha
    obtain ⟨q, rfl⟩ : ∃ m, q = m + 1 := ⟨q - 1, by omega⟩
    have : x.length ≤ i := by simpa using hd
    show smithyref23_Root.b1 (kF + 40) x _ _ _ = _
    unfold smithyref23_Root.b1
    rw [if_neg (by simp; omega)]
    simp
  | cons r l ih =>
    intro q i acc hd hi hq ha
    simp only [List.length_cons] at hq ha
    obtain ⟨q, rfl⟩ : ∃ m, q = m + 1 := ⟨q - 1, by omega⟩
    obtain ⟨g, hi2, hr⟩ := gt_dropG hd
    have hm : r ∈ x := List.mem_of_mem_drop (i := i) (by rw [hd]; simp)
    show smithyref23_Root.b1 (kF + 40) x _ _ _ = _
    unfold smithyref23_Root.b1
    simp only [g]
    rw [if_pos (by simp; omega), if_pos (by omega), rbytes r (by rw [hg r hm]; omega), Option.bind_some, if_pos (by simp; omega), wr_i64_id (by omega) (by omega)]
    refine (ih q (i + 1) _ hr (by omega) (by omega) (by simp; omega)).trans ?_
    simp
theorem root_eq (x : List (List Int)) (hx : x.length ≤ 300) (hg : ∀ b ∈ x, b.length = 32) (hk : 700000 < kF + 200) : ∃ z : List Int, block_Root.f (kF + 200) x = some z ∧ smithyref23_Root.f (kF + 200) x = some z ∧ z.length = 32 ∧ ∀ x ∈ z, 0 ≤ x ∧ x < 256 := by
  obtain ⟨z, z1, z2, z3⟩ := lvs_hash (kF := kF) x (by omega) (fun b hb => by rw [hg b hb]; omega) hk
  refine ⟨z, ?_, ?_, z3⟩
  · unfold block_Root.f api_Hash_n33_1f34.f
    have := each_hash x (by omega) hg x (kF + 200) 0 [] rfl (by omega) (by omega) (by simp; omega)
    rw [show ((0 : Nat) : Int) = 0 from rfl] at this
    rw [this, Option.bind_some, List.nil_append]
    refine Eq.trans ?_ z1
    simp only [bind_id]
  · unfold smithyref23_Root.f
    have := rroot_loop (kF := kF + 160) x (by omega) hg x (kF + 200) 0 [] rfl (by omega) (by omega) (by simp; omega)
    rw [show kF + 160 + 40 = kF + 200 by omega, show ((0 : Nat) : Int) = 0 from rfl, List.nil_append] at this
    rw [this]
    unfold smithyref23_Root.j1
    refine Eq.trans ?_ z2
    simp only [bind_id]
theorem fee_fixed (k : Nat) : fee_Next.f (k + 300) [1000000000, 0, 0, 0] 30000000 30000000 = some [1125000000, 0, 0, 0] := by kernel_rfl
theorem fixed23 (hk : 700000 < kF + 200) : smithylaw23_fixed.f (kF + 200) = some true := by
  have hz : ∀ n : Nat, ∀ y ∈ List.replicate n (0 : Int), inK .u8 y := fun n y hy => by rw [List.eq_of_mem_replicate hy]; simp [inK, Lit.wf, IntKind.min, IntKind.max, IntKind.signed, IntKind.bits]
  have h32 : Gd23 [0, 0, 0, 0, 0, 0, 0, 0, 0, 0, 0, 0, 0, 0, 0, 0, 0, 0, 0, 0, 0, 0, 0, 0, 0, 0, 0, 0, 0, 0, 0, 0] := ⟨rfl, hz 32⟩
  have h20 : Gd28 [0, 0, 0, 0, 0, 0, 0, 0, 0, 0, 0, 0, 0, 0, 0, 0, 0, 0, 0, 0] := ⟨rfl, hz 20⟩
  have hw : ∀ n : Nat, n < 18446744073709551616 → Gd24 (n : Int) := fun n h => inK_nat n h
  obtain ⟨z, z1, _, z3, z4⟩ := hash_hdr (kF := kF) ([0, 0, 0, 0, 0, 0, 0, 0, 0, 0, 0, 0, 0, 0, 0, 0, 0, 0, 0, 0, 0, 0, 0, 0, 0, 0, 0, 0, 0, 0, 0, 0], 0, 0, 30000000, 30000000, [1000000000, 0, 0, 0], [0, 0, 0, 0, 0, 0, 0, 0, 0, 0, 0, 0, 0, 0, 0, 0, 0, 0, 0, 0], [0, 0, 0, 0], [0, 0, 0, 0, 0, 0, 0, 0, 0, 0, 0, 0, 0, 0, 0, 0, 0, 0, 0, 0, 0, 0, 0, 0, 0, 0, 0, 0, 0, 0, 0, 0], [0, 0, 0, 0, 0, 0, 0, 0, 0, 0, 0, 0, 0, 0, 0, 0, 0, 0, 0, 0, 0, 0, 0, 0, 0, 0, 0, 0, 0, 0, 0, 0])
    ⟨h32, hw 0 (by omega), hw 0 (by omega), hw 30000000 (by omega), hw 30000000 (by omega), gd_of (hw 1000000000 (by omega)), h20, gd_of (hw 0 (by omega)), h32, h32⟩ hk
  obtain ⟨r, r1, _, _, _⟩ := root_eq (kF := kF) [] (by simp) (by simp) hk
  obtain ⟨s, s1, _, s3, s4⟩ := sums_eq (kF := kF) z (by omega) (by omega)
  obtain ⟨k', hk'⟩ : ∃ k', kF + 200 = k' + 300 := ⟨kF - 100, by omega⟩
  have hf : fee_Next.f (kF + 200) [1000000000, 0, 0, 0] 30000000 30000000 = some [1125000000, 0, 0, 0] := by rw [hk']; exact fee_fixed k'
  have hwf : word_From.f (kF + 200) s = some (wfrom s) := by rw [show kF + 200 = kF + 160 + 40 by omega]; exact from_f (kF + 160) s3 s4
  unfold smithylaw23_fixed.f block_Next.f keccak_Word.f
  simp only [z1, Option.bind_some, hf, cut32 z3, s1, cut32 s3, hwf, r1]
  rfl
end
end GW
