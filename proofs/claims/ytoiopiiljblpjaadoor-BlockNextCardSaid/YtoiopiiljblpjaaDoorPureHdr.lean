import Derived.Test.YtoiopiiljblpjaaDoorPureFix
set_option linter.unusedVariables false
set_option linter.unusedSimpArgs false
set_option maxRecDepth 100000
namespace GW
open Go Go.RowKit
section
variable {kF : Nat}
theorem hash_hdr (x : Hdr) (h : Gd30 x) (hk : 700000 < kF + 200) : ∃ z : List Int, block_Hash.f (kF + 200) x = some z ∧ smithyref23_Hash.f (kF + 200) x = some z ∧ z.length = 32 ∧ ∀ x ∈ z, 0 ≤ x ∧ x < 256 := by
  obtain ⟨g0, g1, g2, g3, g4, g5, g6, g7, g8, g9⟩ := h
  have e : kF + 200 = kF + 160 + 40 := by omega
  have n1 := count23 (kF := kF + 160) g1
  have n2 := count23 (kF := kF + 160) g2
  have n3 := count23 (kF := kF + 160) g3
  have n4 := count23 (kF := kF + 160) g4
  have n5 := number23 (kF := kF + 160) g5
  have n7 := full23 (kF := kF + 160) g7
  have b0 := rbytes (kF := kF + 160) x.1 (by rw [g0.1]; omega)
  have b6 := rbytes (kF := kF + 160) x.2.2.2.2.2.2.1 (by rw [g6.1]; omega)
  have b8 := rbytes (kF := kF + 160) x.2.2.2.2.2.2.2.2.1 (by rw [g8.1]; omega)
  have b9 := rbytes (kF := kF + 160) x.2.2.2.2.2.2.2.2.2 (by rw [g9.1]; omega)
  rw [← e] at n1 n2 n3 n4 n5 n7 b0 b6 b8 b9
  obtain ⟨z, z1, z2, z3⟩ := hash_imp (kF := kF) x g0.1 g1 g2 g3 g4 g5 g6.1 g7 g8.1 g9.1 hk
  refine ⟨z, z1, ?_, z3⟩
  unfold smithyref23_Hash.f
  simp only [Option.bind_some, n1.2, n2.2, n3.2, n4.2, n5.2, n7.2, cut32 g0.1, cut20 g6.1, cut32 g8.1, cut32 g9.1, b0, b6, b8, b9]
  refine Eq.trans ?_ z2
  show ((smithyref23_list.f (kF + 200) ((hdrL x).map encL)).bind fun t => (smithyref23_hash.f (kF + 200) t).bind some) = _
  simp only [bind_id]
end
end GW
