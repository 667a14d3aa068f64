import Derived.Test.YtoiopiiljblpjaaDoorPureTurnsF
set_option linter.unusedVariables false
set_option linter.unusedSimpArgs false
namespace GW
variable {kF : Nat}
open Go Go.RowKit
def absStep (x : List Int) (y : List Int) (i : Nat) : List Int := y.set (i / 8) (bits .xor .u64 (rd y ((i / 8 : Nat) : Int)) (shl .u64 (wr .u64 (rd x (i : Int))) (8 * (i % 8))))
theorem absorb_loop (f : Nat) (x : List Int) (hl : x.length ≤ 136) (d : Nat) : ∀ (k i : Nat) (y : List Int), i + d = x.length → d < k →
    keccak_absorb.l1 f x k (i : Int) y = keccak_Turn.f f ((List.range' i d).foldl (absStep x) y) := by
  induction d with
  | zero =>
    intro k i y hi hk
    obtain ⟨k, rfl⟩ : ∃ q, k = q + 1 := ⟨k - 1, by omega⟩
    show keccak_absorb.b1 f x _ _ _ = _
    unfold keccak_absorb.b1 keccak_absorb.j1
    rw [if_neg (by simp; omega)]
    simp
  | succ d ih =>
    intro k i y hi hk
    obtain ⟨k, rfl⟩ : ∃ q, k = q + 1 := ⟨k - 1, by omega⟩
    show keccak_absorb.b1 f x _ _ _ = _
    unfold keccak_absorb.b1
    have e0 : wr .i64 (Int.tdiv (i : Int) 8) = ((i / 8 : Nat) : Int) := by rw [tdiv_pos (by omega), wr_i64_id (by omega) (by omega)]; omega
    have e1 : wr .i64 (Int.tmod (i : Int) 8 * 8) = ((8 * (i % 8) : Nat) : Int) := by rw [tmod_pos (by omega), wr_i64_id (by omega) (by omega)]; omega
    have e2 : wr .i64 ((i : Int) + 1) = ((i + 1 : Nat) : Int) := by rw [wr_i64_id (by omega) (by omega)]; omega
    rw [if_pos (by simp; omega), if_pos ⟨by omega, by omega⟩, e0, e1, e2, if_pos ⟨by omega, by omega⟩, if_pos (by omega), Int.toNat_natCast, Int.toNat_natCast, Nat.min_eq_left (by omega), ih k (i + 1) _ (by omega) (by omega)]
    simp only [List.range'_succ, List.foldl_cons, absStep]
theorem absorb_eq (f : Nat) (y x : List Int) (hl : x.length ≤ 136) (hf : x.length < f) (h0 : True) : keccak_absorb.f f y x = keccak_Turn.f f ((List.range x.length).foldl (absStep x) y) := by
  unfold keccak_absorb.f
  have := absorb_loop f x hl x.length f 0 y (by omega) hf
  rw [List.range_eq_range']
  exact this
end GW
