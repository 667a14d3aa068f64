/-
  What the law 'BloomJoins' says of plain Lean values.
-/
import Derived.Test.YtkohappfcfimmaaDoorPureBLaw
set_option linter.unusedVariables false
set_option linter.unusedSimpArgs false
set_option maxRecDepth 100000
namespace GW
open Go Go.RowKit
theorem joins_l1 (x1 x2 : List Lg) (a b z : List Int) (ha : Fl a) (hb : Fl b) (hz : Fl z) (h : ∀ n, bitN z n = (bitN a n || bitN b n)) : ∀ (r i q : Nat), i + r = 2048 → r < q → smithylaw29_BloomJoins.l1 10000 x1 x2 a b z q (i : Int) = smithylaw29_BloomJoins.j2 10000 x1 x2 a b
  | 0, i, q, hi, hq => by
    obtain ⟨q, rfl⟩ : ∃ m, q = m + 1 := ⟨q - 1, by omega⟩
    show smithylaw29_BloomJoins.b1 _ _ _ _ _ _ _ _ = _
    unfold smithylaw29_BloomJoins.b1
    rw [if_neg (by simp; omega)]
  | r + 1, i, q, hi, hq => by
    obtain ⟨q, rfl⟩ : ∃ m, q = m + 1 := ⟨q - 1, by omega⟩
    show smithylaw29_BloomJoins.b1 _ _ _ _ _ _ _ _ = _
    unfold smithylaw29_BloomJoins.b1 smithylaw29_BloomJoins.j3
    rw [if_pos (by simp; omega), show (10000 : Nat) = 9990 + 10 from rfl, bit_eq 9990 hz i (by omega), Option.bind_some, bit_eq 9990 ha i (by omega), Option.bind_some, bit_eq 9990 hb i (by omega), Option.bind_some, h i, next_i i (by omega)]
    have ih := joins_l1 x1 x2 a b z ha hb hz h r (i + 1) q (by omega) (by omega)
    cases bitN a i
    · rw [if_neg (by simp), if_neg (by simp)]; exact ih
    · rw [if_pos rfl, if_neg (by simp)]; exact ih
theorem smithylaw29_BloomJoins_true (a0 : List ((List Int) × (List (List Int)) × (List Int))) (a1 : List ((List Int) × (List (List Int)) × (List Int))) (a2 : List Int) (a3 : List Int) (w0 : Gd22 a0) (w1 : Gd22 a1) (l2 : a2.length = 256) (w2 : ∀ y ∈ a2, inK .u8 y) (l3 : a3.length = 256) (w3 : ∀ y ∈ a3, inK .u8 y) : ∃ k : Nat, smithylaw29_BloomJoins.f k a0 a1 a2 a3 = some true := by
  refine ⟨10000, ?_⟩
  have h2 : Fl a2 := ⟨l2, w2⟩
  have h3 : Fl a3 := ⟨l3, w3⟩
  have fx : smithylaw29_fixed.f 10000 = some true := fixed29 (kF := 9800) (by omega)
  have j1t : smithylaw29_BloomJoins.j1 10000 a0 a1 a2 a3 true = some true := by
    unfold smithylaw29_BloomJoins.j1
    rw [if_pos rfl, fx]; rfl
  unfold smithylaw29_BloomJoins.f
  rcases great29 a0 w0 10000 (by omega) with h | ⟨h, hl, hg⟩
  · rw [h, Option.bind_some, if_pos rfl, j1t]
  rw [h, Option.bind_some, if_neg (by simp)]
  rcases great29 a1 w1 10000 (by omega) with k | ⟨k, kl, kg⟩
  · rw [k, Option.bind_some, j1t]
  rw [k, Option.bind_some]
  unfold smithylaw29_BloomJoins.j1
  obtain ⟨z, z1, z2, z3⟩ := join_eq (kF := 9600) h2 h3
  have z1' : bloom_Join.f 10000 a2 a3 = _ := z1
  rw [if_neg (by simp), if_pos (by simp; omega), if_pos (by simp; omega), z1', Option.bind_some]
  refine (joins_l1 a0 a1 a2 a3 z h2 h3 z2 z3 2048 0 10000 (by omega) (by omega)).trans ?_
  obtain ⟨u, u1, u2, u3⟩ := bof_eq (kF := 9800) (by omega) a0 (by omega) hg
  obtain ⟨v, v1, v2, v3⟩ := bof_eq (kF := 9800) (by omega) a1 (by omega) kg
  obtain ⟨w, e1, e2, e3⟩ := bof_eq (kF := 9800) (by omega) (a0 ++ a1) (by simp; omega) (fun x hx => by
    rcases List.mem_append.1 hx with hx | hx
    · exact hg x hx
    · exact kg x hx)
  obtain ⟨s, s1, s2, s3⟩ := join_eq (kF := 9600) u2 v2
  obtain ⟨y, y1, y2, y3⟩ := join_eq (kF := 9600) h3 h2
  have u1' : bloom_Of.f 10000 a0 = _ := u1
  have v1' : bloom_Of.f 10000 a1 = _ := v1
  have e1' : bloom_Of.f 10000 (a0 ++ a1) = _ := e1
  have s1' : bloom_Join.f 10000 u v = _ := s1
  have y1' : bloom_Join.f 10000 a3 a2 = _ := y1
  unfold smithylaw29_BloomJoins.j2
  rw [fx, Option.bind_some, if_pos rfl, u1', Option.bind_some, v1', Option.bind_some, s1', Option.bind_some, List.nil_append, e1', Option.bind_some]
  have hs : s = w := fl_ext s2 e2 fun n hn => by rw [s3, u3 n hn, v3 n hn, e3 n hn, List.flatMap_append, hit_app]
  have hy : z = y := fl_ext z2 y2 fun n hn => by rw [z3, y3, Bool.or_comm]
  rw [if_pos (by simpa using hs), z1', Option.bind_some, y1', Option.bind_some]
  simpa using hy
end GW
