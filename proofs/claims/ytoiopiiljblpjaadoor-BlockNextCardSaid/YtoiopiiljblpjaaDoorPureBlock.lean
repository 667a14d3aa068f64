import Derived.Test.YtoiopiiljblpjaaDoorPureRlpEnc
import Derived.Test.YtoiopiiljblpjaaDoorPureRlpHead
import Derived.Test.YtoiopiiljblpjaaDoorPureSum
set_option linter.unusedVariables false
set_option linter.unusedSimpArgs false
set_option maxRecDepth 100000
namespace GW
open Go Go.RowKit
theorem gt_dropG {α : Type} [Inhabited α] {x : List α} {i : Nat} {a : α} {r : List α} (h : x.drop i = a :: r) : gt x (i : Int) = a ∧ i < x.length ∧ x.drop (i + 1) = r := by
  have hl : i < x.length := by
    refine Decidable.byContradiction fun c => ?_
    rw [List.drop_eq_nil_of_le (by omega)] at h
    cases h
  rw [List.drop_eq_getElem_cons hl] at h
  simp only [List.cons.injEq] at h
  exact ⟨by rw [gt_get x (i : Int) (by simpa using hl)]; simpa using h.1, hl, h.2⟩
theorem cut20 {a : List Int} (h : a.length = 20) : (a.drop 0).take 20 = a := by rw [List.drop_zero, List.take_of_length_le (by omega)]
theorem cut32 {a : List Int} (h : a.length = 32) : (a.drop 0).take 32 = a := by rw [List.drop_zero, List.take_of_length_le (by omega)]
def numb (w : List Int) : List Int := (rlp_Number.f 40 w).getD []
theorem numb_eq {w : List Int} (h : Gd26 w) : (numb w).length ≤ 32 ∧ ∀ k, rlp_Number.f (k + 40) w = some (numb w) ∧ smithyref07_Number.f (k + 40) w = some (numb w) := by
  obtain ⟨n, n1, e, _, _⟩ := number_eq h.1 h.2
  have : numb w = (wbytes w).drop (32 - n) := by
    unfold numb
    rw [show rlp_Number.f 40 w = rlp_Number.f (0 + 40) w from rfl, (e 0).1]
    rfl
  rw [this]
  exact ⟨by rw [List.length_drop, wbytes_len]; omega, e⟩
theorem gd_of {x : Int} (h : Gd24 x) : Gd26 [x, 0, 0, 0] := by
  refine ⟨rfl, fun y hy => ?_⟩
  simp only [List.mem_cons, List.not_mem_nil, or_false] at hy
  rcases hy with rfl | rfl | rfl | rfl
  · exact h
  all_goals exact inK_nat 0 (by omega)
theorem bind_id {α : Type} (o : Option α) : o.bind some = o := by cases o <;> rfl
def lvs : List (List Int) → Fst
  | [] => .nil
  | b :: l => .leaf b (lvs l)
theorem lvs_flat (l : List (List Int)) : (lvs l).flat = l.map fun b => (false, b, 0) := by
  induction l with
  | nil => rfl
  | cons b l ih => simp [lvs, Fst.flat, ih]
theorem lvs_enc (l : List (List Int)) : (lvs l).enc = (l.map encL).flatten := by
  induction l with
  | nil => rfl
  | cons b l ih => simp [lvs, Fst.enc, ih]
theorem lvs_dep (l : List (List Int)) : (lvs l).dep = 0 := by
  induction l with
  | nil => rfl
  | cons b l ih => simp [lvs, Fst.dep, ih]
theorem lvs_fit (l : List (List Int)) (h : ∀ b ∈ l, b.length < 16777216) : (lvs l).Fit := by
  induction l with
  | nil => trivial
  | cons b l ih => exact ⟨h b (by simp), ih fun b hb => h b (by simp [hb])⟩
theorem lvs_len (l : List (List Int)) : (lvs l).flat.length = l.length := by rw [lvs_flat, List.length_map]
theorem lvs_elen (n : Nat) (l : List (List Int)) (h : ∀ b ∈ l, b.length ≤ n) : (lvs l).enc.length ≤ (n + 4) * l.length := by
  induction l with
  | nil => simp [lvs, Fst.enc]
  | cons b l ih =>
    have h1 := ih fun b hb => h b (by simp [hb])
    have h2 := h b (by simp)
    have h3 := encL_len b
    have h4 : (n + 4) * (l.length + 1) = (n + 4) * l.length + (n + 4) := by rw [Nat.mul_add, Nat.mul_one]
    simp only [lvs, Fst.enc, List.length_append, List.length_cons]
    omega
section
variable {kF : Nat}
theorem list_loop (x : List (List Nd)) (hx : x.length < 1000000) : ∀ (l : List (List Nd)) (q i : Nat) (acc : List Nd), x.drop i = l → i ≤ x.length → l.length < q → acc.length + l.flatten.length < 10000000 → block_list.l1 x q (i : Int) acc = block_list.j1 (acc ++ l.flatten) := by
  intro l
  induction l with
  | nil =>
    intro q i acc hd hi hq ha
    obtain ⟨q, rfl⟩ : ∃ m, q = m + 1 := ⟨q - 1, by omega⟩
    have : x.length ≤ i := by simpa using hd
    show block_list.b1 x _ _ _ = _
    unfold block_list.b1
    rw [if_neg (by simp; omega)]
    simp
  | cons r l ih =>
    intro q i acc hd hi hq ha
    simp only [List.length_cons, List.flatten_cons, List.length_append] at hq ha
    obtain ⟨q, rfl⟩ : ∃ m, q = m + 1 := ⟨q - 1, by omega⟩
    obtain ⟨g, hi2, hr⟩ := gt_dropG hd
    show block_list.b1 x _ _ _ = _
    unfold block_list.b1
    simp only [g]
    rw [if_pos (by simp; omega), if_pos (by omega), if_pos (by omega), wr_i64_id (by omega) (by omega)]
    refine (ih q (i + 1) _ hr (by omega) (by omega) (by rw [List.length_append]; omega)).trans ?_
    simp
theorem list_eq (x : List (List Nd)) (f : Fst) (hf : x.flatten = f.flat) (k : Nat) (hx : x.length < 1000000) (hk : x.length < k) (hl : f.flat.length < 1000000) : block_list.f k x = some (Fst.node f .nil).flat := by
  unfold block_list.f
  refine (list_loop x hx x k 0 _ rfl (by omega) hk (by rw [hf]; simp; omega)).trans ?_
  unfold block_list.j1
  have hg0 : gt ([(true, [], 0)] ++ x.flatten : List Nd) 0 = (true, [], 0) := rfl
  rw [hg0, hf, if_pos (by simp <;> omega), wr_i64_id (by simp <;> omega) (by simp <;> omega)]
  simp [Fst.flat]
theorem rlist_loop (x : List (List Int)) (hx : x.length < 1000000) : ∀ (l : List (List Int)) (q i : Nat) (acc : List Int), x.drop i = l → i ≤ x.length → l.length < q → acc.length + l.flatten.length < 16777216 → smithyref23_list.l1 (kF + 40) x q (i : Int) acc = smithyref23_list.j1 (kF + 40) (acc ++ l.flatten) := by
  intro l
  induction l with
  | nil =>
    intro q i acc hd hi hq ha
    obtain ⟨q, rfl⟩ : ∃ m, q = m + 1 := ⟨q - 1, by omega⟩
    have : x.length ≤ i := by simpa using hd
    show smithyref23_list.b1 (kF + 40) x _ _ _ = _
    unfold smithyref23_list.b1
    rw [if_neg (by simp; omega)]
    simp
  | cons r l ih =>
    intro q i acc hd hi hq ha
    simp only [List.length_cons, List.flatten_cons, List.length_append] at hq ha
    obtain ⟨q, rfl⟩ : ∃ m, q = m + 1 := ⟨q - 1, by omega⟩
    obtain ⟨g, hi2, hr⟩ := gt_dropG hd
    show smithyref23_list.b1 (kF + 40) x _ _ _ = _
    unfold smithyref23_list.b1
    simp only [g]
    rw [if_pos (by simp; omega), if_pos (by omega), if_pos (by omega), wr_i64_id (by omega) (by omega)]
    refine (ih q (i + 1) _ hr (by omega) (by omega) (by rw [List.length_append]; omega)).trans ?_
    simp
theorem rlist_eq (x : List (List Int)) (f : Fst) (hf : x.flatten = f.enc) (hx : x.length < 1000000) (hk : x.length < kF + 40) (hl : f.enc.length < 16777216) : smithyref23_list.f (kF + 40) x = some (Fst.node f .nil).enc := by
  unfold smithyref23_list.f
  refine (rlist_loop x hx x (kF + 40) 0 _ rfl (by omega) hk (by rw [hf]; simp; omega)).trans ?_
  have hh := hd_len f.enc.length 64
  unfold smithyref23_list.j1
  rw [hf, List.nil_append, show (f.enc.length : Int) = (f.enc.length : Int) from rfl, show (64 : Int) = ((64 : Nat) : Int) from rfl, refHead_eq f.enc.length 64 hl (Or.inr rfl) kF, Option.bind_some, if_pos (by omega)]
  simp [Fst.enc]
theorem rbytes (b : List Int) (hb : b.length < 16777216) : smithyref23_bytes.f (kF + 40) b = some (encL b) := by
  have hh := hd_len b.length 0
  have hhd : smithyref07_Head.f (kF + 40) (b.length : Int) 0 = some (hd b.length 0) := refHead_eq b.length 0 hb (Or.inl rfl) kF
  have j1f : smithyref23_bytes.j1 (kF + 40) b false = some (hd b.length 0 ++ b) := by
    unfold smithyref23_bytes.j1
    rw [if_neg (by simp), hhd, Option.bind_some, if_pos (by omega)]
  unfold smithyref23_bytes.f encL
  by_cases c : b.length = 1
  · rw [if_pos (by simpa using by omega), if_pos (by omega)]
    by_cases c2 : rd b 0 < 128
    · rw [decide_eq_true c2, if_pos ⟨c, c2⟩]; rfl
    · rw [decide_eq_false c2, j1f, if_neg (fun h => c2 h.2)]
  · rw [if_neg (by simpa using by omega), j1f, if_neg (fun h => c h.1)]
theorem number23 {w : List Int} (h : Gd26 w) : block_number.f (kF + 40) w = some (false, numb w, 0) ∧ smithyref23_number.f (kF + 40) w = some (encL (numb w)) := by
  obtain ⟨n1, n2⟩ := numb_eq h
  obtain ⟨n3, n4⟩ := n2 kF
  constructor
  · unfold block_number.f block_item.f
    rw [n3]; rfl
  · unfold smithyref23_number.f
    rw [n4, Option.bind_some, rbytes _ (by omega)]; rfl
theorem count23 {x : Int} (h : Gd24 x) : block_count.f (kF + 40) x = some (false, numb [x, 0, 0, 0], 0) ∧ smithyref23_count.f (kF + 40) x = some (encL (numb [x, 0, 0, 0])) := by
  obtain ⟨h1, h2⟩ := number23 (kF := kF) (gd_of h)
  constructor
  · unfold block_count.f word_Of.f
    rw [Option.bind_some, h1]; rfl
  · unfold smithyref23_count.f
    rw [h2]; rfl
theorem full23 {w : List Int} (h : Gd26 w) : block_full.f (kF + 40) w = some (false, wbytes w, 0) ∧ smithyref23_full.f (kF + 40) w = some (encL (wbytes w)) := by
  constructor
  · unfold block_full.f block_item.f
    rw [bytes_f kF h.1, Option.bind_some, cut32 (wbytes_len w)]; rfl
  · unfold smithyref23_full.f
    rw [of_f kF h.1, Option.bind_some, dbytes_f kF h.1 (fun y hy => (inK_u64 (h.2 y hy)).1), Option.bind_some, cut32 (wbytes_len w), rbytes _ (by rw [wbytes_len]; omega)]; rfl
theorem hash23 (t : Fst) (ht : t.One) (hf : t.Fit) (hd : t.dep ≤ 64) (hl : t.flat.length < 100000) (he : t.enc.length ≤ 600000) (hk : 700000 < kF + 200) : ∃ z : List Int, block_hash.f (kF + 200) t.flat = some z ∧ smithyref23_hash.f (kF + 200) t.enc = some z ∧ z.length = 32 ∧ ∀ x ∈ z, 0 ≤ x ∧ x < 256 := by
  obtain ⟨z, z1, z2, z3, z4⟩ := sums_eq (kF := kF) t.enc (by omega) (by omega)
  have hen := encode_tree t ht (kF + 200) (by omega) (by omega) hf (by omega)
  rw [if_pos hd] at hen
  refine ⟨z, ?_, ?_, z3, z4⟩
  · unfold block_hash.f
    rw [hen, Option.bind_some, if_neg (by simp), z1]; rfl
  · unfold smithyref23_hash.f
    rw [if_neg (by simp; omega), z2]; rfl
theorem lvs_hash (l : List (List Int)) (hl : l.length ≤ 1000) (hb : ∀ b ∈ l, b.length ≤ 100) (hk : 700000 < kF + 200) : ∃ z : List Int, ((block_list.f (kF + 200) [l.map fun b => (false, b, 0)]).bind fun t => block_hash.f (kF + 200) t) = some z ∧ ((smithyref23_list.f (kF + 200) (l.map encL)).bind fun t => smithyref23_hash.f (kF + 200) t) = some z ∧ z.length = 32 ∧ ∀ x ∈ z, 0 ≤ x ∧ x < 256 := by
  have h1 := lvs_elen 100 l hb
  have h2 := lvs_len l
  have hh := hd_len (lvs l).enc.length 64
  obtain ⟨z, z1, z2, z3⟩ := hash23 (kF := kF) (.node (lvs l) .nil) trivial ⟨lvs_fit l fun b h => by have := hb b h; omega, trivial⟩ (by simp [Fst.dep, lvs_dep]) (by simp [Fst.flat, lvs_len]; omega) (by simp [Fst.enc]; omega) hk
  refine ⟨z, ?_, ?_, z3⟩
  · rw [list_eq [l.map fun b => (false, b, 0)] (lvs l) (by rw [lvs_flat]; simp) (kF + 200) (by simp) (by simp) (by omega), Option.bind_some, z1]
  · rw [show kF + 200 = kF + 160 + 40 by omega, rlist_eq (kF := kF + 160) (l.map encL) (lvs l) (by rw [lvs_enc]) (by simp; omega) (by simp; omega) (by omega), Option.bind_some, show kF + 160 + 40 = kF + 200 by omega, z2]
end
end GW
