import Derived.Test.YtoiopiiljblpjaaDoorPureRlpWriter
import Derived.Test.YtoiopiiljblpjaaDoorPureRlpOne
set_option linter.unusedVariables false
set_option linter.unusedSimpArgs false
namespace GW
open Go Go.RowKit
theorem encode_tree (t : Fst) (ht : t.One) (k : Nat) (hk : 60 + t.flat.length < k) (hx : t.flat.length < 1000000) (hf : t.Fit) (hl : t.enc.length + 4 * (t.flat.length + 1) ≤ 1048576) : rlp_Encode.f k t.flat = some (if t.dep ≤ 64 then (t.enc, 0) else ([], 4)) := by
  unfold rlp_Encode.f
  rw [one_flat t ht k hx (by omega), Option.bind_some, if_neg (by simp)]
  obtain ⟨k, rfl⟩ : ∃ m, k = m + 41 := ⟨k - 41, by omega⟩
  match t, ht with
  | .leaf b .nil, _ =>
    have hi := item_leaf k b [] 0 hf.1
    have e : (Fst.leaf b .nil).enc = encL b := List.append_nil _
    rw [show (Fst.leaf b .nil).flat = [(false, b, 0)] from rfl, hi, Option.bind_some, if_neg (by simp), if_neg (by rw [e] at hl; simp; omega), if_pos (by simp [Fst.dep]), e]
  | .node c .nil, _ =>
    have hfl : (Fst.node c .nil).flat = (true, [], (c.flat.length : Int)) :: (c.flat ++ []) := rfl
    have hen : (Fst.node c .nil).enc = hd c.enc.length 64 ++ c.enc := by simp [Fst.enc]
    have hlen : (Fst.node c .nil).flat.length = c.flat.length + 1 := by simp [Fst.flat]
    have hdep : (Fst.node c .nil).dep = 1 + c.dep := by simp [Fst.dep]
    rw [hen, hlen, List.length_append] at hl
    rw [hlen] at hx hk
    have hh := hd_len c.enc.length 64
    rw [hfl, hen, hdep, item_node (k + 40) c.flat.length c.flat [] 0 rfl (by simp; omega), if_neg (by omega)]
    by_cases cd : 1 + c.dep ≤ 64
    · have := items_ok c (k + 40) (k + 40) ((true, [], (c.flat.length : Int)) :: (c.flat ++ []), 0) 0 [] [] (after_eq _ _ _ rfl (by simp; omega)) (by omega) (by omega) (by omega) (by simp; omega) hf.1 (by simp; omega)
      rw [show ((0 : Nat) : Int) = 0 from rfl] at this
      rw [this, List.nil_append, j4_ok k _ _ _ (after_eq _ _ _ rfl (by simp; omega)) (by omega), Option.bind_some, if_neg (by simp), if_neg (by simp; omega), if_pos cd]
    · obtain ⟨o, n', e, _⟩ := items_deep c (k + 40) (k + 40) ((true, [], (c.flat.length : Int)) :: (c.flat ++ []), 0) 0 [] [] (after_eq _ _ _ rfl (by simp; omega)) (by omega) (by omega) (by omega) (by omega) (by simp; omega) hf.1 (by simp; omega)
      rw [show ((0 : Nat) : Int) = 0 from rfl] at e
      rw [e, Option.bind_some, if_pos (by simp), if_neg cd]
end GW
