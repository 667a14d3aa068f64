/-
  What the law 'AddrCreates' says of plain Lean values.
-/
import Derived.Test.YtomjijlopdcojaaDoorPureRlpEnc
import Derived.Test.YtomjijlopdcojaaDoorPureSalts
set_option linter.unusedVariables false
set_option linter.unusedSimpArgs false
namespace GW
open Go Go.RowKit GW.Q
theorem create_enc (a t : List Int) (ha : a.length = 20) (ht : t.length ≤ 8) : (Fst.node (.leaf a (.leaf t .nil)) .nil).enc = (192 + ((148 :: a) ++ encL t).length : Int) :: ((148 :: a) ++ encL t) ∧ ((148 :: a) ++ encL t).length ≤ 30 := by
  have e1 : encL a = 148 :: a := by
    unfold encL
    rw [if_neg (by omega), ha]
    rfl
  have hl := Q.encL_len t
  have h9 : (encL t).length ≤ 9 := by
    unfold encL
    split
    · omega
    · unfold hd
      rw [if_pos (by omega)]
      simp; omega
  have hlen : ((148 :: a) ++ encL t).length ≤ 30 := by simp; omega
  refine ⟨?_, hlen⟩
  have e2 : (Fst.leaf a (.leaf t .nil)).enc = (148 :: a) ++ encL t := by simp [Fst.enc, e1]
  have e3 : (Fst.node (.leaf a (.leaf t .nil)) .nil).enc = hd ((148 :: a) ++ encL t).length 64 ++ ((148 :: a) ++ encL t) := by
    show hd (Fst.leaf a (.leaf t .nil)).enc.length 64 ++ (Fst.leaf a (.leaf t .nil)).enc ++ Fst.enc .nil = _
    rw [e2]
    exact List.append_nil _
  rw [e3]
  unfold hd
  rw [if_pos (by omega)]
  show ((128 + 64 + _ : Nat) : Int) :: _ = _
  congr 1
theorem smithylaw08_AddrCreates_true (a0 : List Int) (a1 : Int) (l0 : a0.length = 20) (w0 : ∀ y ∈ a0, inK .u8 y) (w1 : inK .u64 a1) : ∃ k : Nat, smithylaw08_AddrCreates.f k a0 a1 = some true := by
  refine ⟨4000, ?_⟩
  have hw : ∀ y ∈ [a1, 0, 0, 0], inK .u64 y := by
    intro y hy
    simp only [List.mem_cons, List.not_mem_nil, or_false] at hy
    rcases hy with rfl | rfl | rfl | rfl
    · exact w1
    all_goals exact Q.inK_nat 0 (by omega)
  have g1 := inK_u64 w1
  obtain ⟨n, n1, hnum, hnz, hz⟩ := Q.number_eq (a := [a1, 0, 0, 0]) rfl hw
  have hn8 : n ≤ 8 := by
    refine Decidable.byContradiction fun h => ?_
    refine hnz (by omega) ?_
    obtain ⟨v, rfl⟩ := Int.eq_ofNat_of_zero_le g1.1
    have := Q.wbytes_rd v 0 0 0 (by omega) (by omega) (by omega) (by omega) (n - 1) (by omega)
    rw [show 31 - (n - 1) = 32 - n by omega] at this
    have e : Q.num4 v 0 0 0 = v := by unfold Q.num4; omega
    rw [e] at this
    refine this.trans ?_
    rw [Nat.div_eq_of_lt (Nat.lt_of_lt_of_le (by omega : v < 256 ^ 8) (Nat.pow_le_pow_right (by omega) (by omega)))]
    rfl
  obtain ⟨i1, i2⟩ := hnum 3960
  generalize ht : (Q.wbytes [a1, 0, 0, 0]).drop (32 - n) = t at i1 i2
  have htl : t.length = n := by rw [← ht, List.length_drop, Q.wbytes_len]; omega
  have htu : ∀ y ∈ t, 0 ≤ y ∧ y < 256 := fun y hy => Q.wbytes_u8 _ y (by rw [← ht] at hy; exact List.mem_of_mem_drop hy)
  obtain ⟨he, hel⟩ := create_enc a0 t l0 (by omega)
  have hau : ∀ y ∈ a0, 0 ≤ y ∧ y < 256 := fun y hy => inK_u8 (w0 y hy)
  generalize hy : (148 :: a0) ++ encL t = y at he hel
  have hfl : (Fst.node (.leaf a0 (.leaf t .nil)) .nil).flat = [(true, [], 2), (false, a0, 0), (false, t, 0)] := rfl
  have hen := encode_tree (.node (.leaf a0 (.leaf t .nil)) .nil) trivial 4000 (by rw [hfl]; simp) (by rw [hfl]; simp) ⟨⟨by omega, by omega, trivial⟩, trivial⟩ (by rw [hfl, he]; simp; omega)
  rw [if_pos (by simp [Fst.dep]), hfl, he] at hen
  obtain ⟨h, s1, s2, s3, s4⟩ := sums_eq ((192 + (y.length : Int)) :: y) (by simp; omega)
  obtain ⟨z, l, b1, b2, b3⟩ := back32 h s3 s4
  have i1' : rlp_Number.f 4000 [a1, 0, 0, 0] = some t := i1
  have i2' : smithyref07_Number.f 4000 [a1, 0, 0, 0] = some t := i2
  have himp : addr_Create.f 4000 a0 a1 = some l := by
    unfold addr_Create.f word_Of.f
    have ea : (a0.drop 0).take 20 = a0 := by rw [List.drop_zero, List.take_of_length_le (by omega)]
    rw [Option.bind_some, i1', Option.bind_some, ea]
    unfold addr_Create.j1 keccak_Word.f
    have eh : (h.drop 0).take 32 = h := by rw [List.drop_zero, List.take_of_length_le (by omega)]
    rw [hen, Option.bind_some, s1, Option.bind_some, eh, b1, Option.bind_some, Option.bind_some, b2]
    rfl
  have href : smithyref08_Create.f 4000 a0 a1 = some l := by
    have ea : (a0.drop 0).take 20 = a0 := by rw [List.drop_zero, List.take_of_length_le (by omega)]
    have ej1 : smithyref08_Create.j1 4000 y = some l := by
      unfold smithyref08_Create.j1
      rw [wr_i64_id (by omega) (by omega), wr_u8_id (by omega) (by omega), if_pos (by simp; omega)]
      show (smithyref05_Sum.f 4000 ((192 + (y.length : Int)) :: y)).bind _ = _
      rw [s2, Option.bind_some, b3]
      rfl
    have ef : smithyref08_Create.j2 4000 a0 t false = some l ∨ (t.length = 1 ∧ rd t 0 < 128) := by
      by_cases c : t.length = 1 ∧ rd t 0 < 128
      · exact Or.inr c
      · left
        unfold smithyref08_Create.j2
        rw [if_neg (by simp), ea, wr_i64_id (by omega) (by omega), wr_u8_id (by omega) (by omega), if_pos (by simp; omega), if_pos (by simp; omega)]
        have : ([148] ++ a0) ++ [128 + (t.length : Int)] ++ t = y := by
          rw [← hy]
          unfold encL
          rw [if_neg c]
          unfold hd
          rw [if_pos (by omega)]
          simp
        rw [this, ej1]
    have et : t.length = 1 ∧ rd t 0 < 128 → smithyref08_Create.j2 4000 a0 t true = some l := by
      intro c
      unfold smithyref08_Create.j2
      rw [if_pos rfl, ea, if_pos (by omega), if_pos (by simp; omega)]
      have : ([148] ++ a0) ++ [rd t 0] = y := by
        rw [← hy]
        unfold encL
        rw [if_pos c, Q.one_byte c.1]
        rfl
      rw [this, ej1]
    unfold smithyref08_Create.f
    rw [i2', Option.bind_some, if_pos (by simp; omega)]
    by_cases c : t.length = 1
    · rw [if_pos (by simpa using by omega), if_pos (by omega)]
      by_cases c2 : rd t 0 < 128
      · rw [decide_eq_true c2]; exact et ⟨c, c2⟩
      · rw [decide_eq_false c2]
        rcases ef with h | h
        · exact h
        · exact absurd h.2 c2
    · rw [if_neg (by simpa using by omega)]
      rcases ef with h | h
      · exact h
      · exact absurd h.1 c
  unfold smithylaw08_AddrCreates.f
  rw [fixed_eq, Option.bind_some, if_pos rfl, himp, Option.bind_some, href, Option.bind_some]
  simp
end GW
