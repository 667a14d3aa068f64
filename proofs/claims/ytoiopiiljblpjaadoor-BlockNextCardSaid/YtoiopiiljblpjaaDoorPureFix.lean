import Derived.Test.YtoiopiiljblpjaaDoorPureBlock
set_option linter.unusedVariables false
set_option linter.unusedSimpArgs false
set_option maxRecDepth 100000
namespace GW
open Go Go.RowKit
section
variable {kF : Nat}
abbrev Hdr := (List Int) × Int × Int × Int × Int × (List Int) × (List Int) × (List Int) × (List Int) × (List Int)
def hdrL (x : Hdr) : List (List Int) := [x.1, numb [x.2.1, 0, 0, 0], numb [x.2.2.1, 0, 0, 0], numb [x.2.2.2.1, 0, 0, 0], numb [x.2.2.2.2.1, 0, 0, 0], numb x.2.2.2.2.2.1, x.2.2.2.2.2.2.1, wbytes x.2.2.2.2.2.2.2.1, x.2.2.2.2.2.2.2.2.1, x.2.2.2.2.2.2.2.2.2]
theorem hash_imp (x : Hdr) (g0 : x.1.length = 32) (g1 : Gd24 x.2.1) (g2 : Gd24 x.2.2.1) (g3 : Gd24 x.2.2.2.1) (g4 : Gd24 x.2.2.2.2.1) (g5 : Gd26 x.2.2.2.2.2.1) (g6 : x.2.2.2.2.2.2.1.length = 20) (g7 : Gd26 x.2.2.2.2.2.2.2.1) (g8 : x.2.2.2.2.2.2.2.2.1.length = 32) (g9 : x.2.2.2.2.2.2.2.2.2.length = 32) (hk : 700000 < kF + 200) : ∃ z : List Int, block_Hash.f (kF + 200) x = some z ∧ ((smithyref23_list.f (kF + 200) ((hdrL x).map encL)).bind fun t => smithyref23_hash.f (kF + 200) t) = some z ∧ z.length = 32 ∧ ∀ x ∈ z, 0 ≤ x ∧ x < 256 := by
  have e : kF + 200 = kF + 160 + 40 := by omega
  have n1 := count23 (kF := kF + 160) g1
  have n2 := count23 (kF := kF + 160) g2
  have n3 := count23 (kF := kF + 160) g3
  have n4 := count23 (kF := kF + 160) g4
  have n5 := number23 (kF := kF + 160) g5
  have n7 := full23 (kF := kF + 160) g7
  have b0 := rbytes (kF := kF + 160) x.1 (by rw [g0]; omega)
  have b6 := rbytes (kF := kF + 160) x.2.2.2.2.2.2.1 (by rw [g6]; omega)
  have b8 := rbytes (kF := kF + 160) x.2.2.2.2.2.2.2.2.1 (by rw [g8]; omega)
  have b9 := rbytes (kF := kF + 160) x.2.2.2.2.2.2.2.2.2 (by rw [g9]; omega)
  rw [← e] at n1 n2 n3 n4 n5 n7 b0 b6 b8 b9
  obtain ⟨z, z1, z2, z3⟩ := lvs_hash (kF := kF) (hdrL x) (by simp [hdrL]) (by
    intro b hb
    have l1 := (numb_eq (gd_of g1)).1
    have l2 := (numb_eq (gd_of g2)).1
    have l3 := (numb_eq (gd_of g3)).1
    have l4 := (numb_eq (gd_of g4)).1
    have l5 := (numb_eq g5).1
    have l0 := g0
    have l6 := g6
    have l7 := wbytes_len x.2.2.2.2.2.2.2.1
    have l8 := g8
    have l9 := g9
    simp only [hdrL, List.mem_cons, List.not_mem_nil, or_false] at hb
    rcases hb with rfl | rfl | rfl | rfl | rfl | rfl | rfl | rfl | rfl | rfl <;> omega) hk
  refine ⟨z, ?_, z2, z3⟩
  · unfold block_Hash.f block_item.f
    simp only [Option.bind_some, n1.1, n2.1, n3.1, n4.1, n5.1, n7.1, cut32 g0, cut20 g6, cut32 g8, cut32 g9]
    refine Eq.trans ?_ z1
    show ((block_list.f (kF + 200) [(hdrL x).map fun b => (false, b, 0)]).bind fun t => (block_hash.f (kF + 200) t).bind some) = _
    simp only [bind_id]
theorem each_hash (x : List (List Int)) (hx : x.length < 1000) (hg : ∀ b ∈ x, b.length = 32) : ∀ (l : List (List Int)) (q i : Nat) (acc : List Nd), x.drop i = l → i ≤ x.length → l.length < q → acc.length + l.length < 100000 → api_Hash_n33_1f34.l1 x q acc (i : Int) = some (acc ++ l.map fun b => (false, b, 0)) := by
  intro l
  induction l with
  | nil =>
    intro q i acc hd hi hq ha
    obtain ⟨q, rfl⟩ : ∃ m, q = m + 1 := ⟨q - 1, by omega⟩
    have : x.length ≤ i := by simpa using hd
    show api_Hash_n33_1f34.b1 x _ _ _ = _
    unfold api_Hash_n33_1f34.b1
    rw [if_neg (by simp; omega)]
    simp [api_Hash_n33_1f34.j1]
  | cons r l ih =>
    intro q i acc hd hi hq ha
    simp only [List.length_cons] at hq ha
    obtain ⟨q, rfl⟩ : ∃ m, q = m + 1 := ⟨q - 1, by omega⟩
    obtain ⟨g, hi2, hr⟩ := gt_dropG hd
    have hm : r ∈ x := List.mem_of_mem_drop (i := i) (by rw [hd]; simp)
    show api_Hash_n33_1f34.b1 x _ _ _ = _
    unfold api_Hash_n33_1f34.b1 block_Root_1.f block_item.f
    simp only [g]
    rw [if_pos (by simp; omega), if_pos (by omega), cut32 (hg r hm), Option.bind_some, Option.bind_some, if_pos (by simp; omega), wr_i64_id (by omega) (by omega)]
    refine (ih q (i + 1) _ hr (by omega) (by omega) (by simp; omega)).trans ?_
    simp
theorem root_imp (x : List (List Int)) (hx : x.length ≤ 300) (hg : ∀ b ∈ x, b.length = 32) (hk : 700000 < kF + 200) : ∃ z : List Int, block_Root.f (kF + 200) x = some z ∧ ((smithyref23_list.f (kF + 200) (x.map encL)).bind fun t => smithyref23_hash.f (kF + 200) t) = some z ∧ z.length = 32 ∧ ∀ x ∈ z, 0 ≤ x ∧ x < 256 := by
  obtain ⟨z, z1, z2, z3⟩ := lvs_hash (kF := kF) x (by omega) (fun b hb => by rw [hg b hb]; omega) hk
  refine ⟨z, ?_, z2, z3⟩
  unfold block_Root.f api_Hash_n33_1f34.f
  have := each_hash x (by omega) hg x (kF + 200) 0 [] rfl (by omega) (by omega) (by simp; omega)
  rw [show ((0 : Nat) : Int) = 0 from rfl] at this
  rw [this, Option.bind_some, List.nil_append]
  refine Eq.trans ?_ z1
  simp only [bind_id]
theorem fee_fixed (k : Nat) : fee_Next.f (k + 300) [1000000000, 0, 0, 0] 30000000 30000000 = some [1125000000, 0, 0, 0] := by kernel_rfl
theorem fixed23 (hk : 700000 < kF + 200) : smithylaw23_fixed.f (kF + 200) = some true := by
  have hz : ∀ n : Nat, ∀ y ∈ List.replicate n (0 : Int), inK .u8 y := fun n y hy => by rw [List.eq_of_mem_replicate hy]; simp [inK, Lit.wf, IntKind.min, IntKind.max, IntKind.signed, IntKind.bits]
  have hw : ∀ n : Nat, n < 18446744073709551616 → Gd24 (n : Int) := fun n h => inK_nat n h
  obtain ⟨z, z1, _, z3, z4⟩ := hash_imp (kF := kF) ([0, 0, 0, 0, 0, 0, 0, 0, 0, 0, 0, 0, 0, 0, 0, 0, 0, 0, 0, 0, 0, 0, 0, 0, 0, 0, 0, 0, 0, 0, 0, 0], 0, 0, 30000000, 30000000, [1000000000, 0, 0, 0], [0, 0, 0, 0, 0, 0, 0, 0, 0, 0, 0, 0, 0, 0, 0, 0, 0, 0, 0, 0], [0, 0, 0, 0], [0, 0, 0, 0, 0, 0, 0, 0, 0, 0, 0, 0, 0, 0, 0, 0, 0, 0, 0, 0, 0, 0, 0, 0, 0, 0, 0, 0, 0, 0, 0, 0], [0, 0, 0, 0, 0, 0, 0, 0, 0, 0, 0, 0, 0, 0, 0, 0, 0, 0, 0, 0, 0, 0, 0, 0, 0, 0, 0, 0, 0, 0, 0, 0])
    rfl (hw 0 (by omega)) (hw 0 (by omega)) (hw 30000000 (by omega)) (hw 30000000 (by omega)) (gd_of (hw 1000000000 (by omega))) rfl (gd_of (hw 0 (by omega))) rfl rfl hk
  obtain ⟨r, r1, _, _, _⟩ := root_imp (kF := kF) [] (by simp) (by simp) hk
  obtain ⟨s, s1, _, s3, s4⟩ := sums_eq (kF := kF) z (by omega) (by omega)
  obtain ⟨k', hk'⟩ : ∃ k', kF + 200 = k' + 300 := ⟨kF - 100, by omega⟩
  have hf : fee_Next.f (kF + 200) [1000000000, 0, 0, 0] 30000000 30000000 = some [1125000000, 0, 0, 0] := by rw [hk']; exact fee_fixed k'
  have hwf : word_From.f (kF + 200) s = some (wfrom s) := by rw [show kF + 200 = kF + 160 + 40 by omega]; exact from_f (kF + 160) s3 s4
  unfold smithylaw23_fixed.f block_Next.f keccak_Word.f
  simp only [z1, Option.bind_some, hf, cut32 z3, s1, cut32 s3, hwf, r1]
  rfl
end
end GW
