/-
  Codings, read: the program's way and the document's.
-/
import Derived.Test.YthkgelaoidbkdaaPureRlpRead
set_option linter.unusedVariables false
set_option linter.unusedSimpArgs false
namespace GW
open Go Go.RowKit
theorem imin_id {v c : Int} (h : v ≤ c) : imin v c = v := by unfold imin; rw [if_neg (by omega)]
theorem it_nil (k : Nat) (n : List Nd) (l d : Int) : rlp_reader_item.f (k + 1) ([], n) l d = some (3, ([], n)) := rfl
theorem it_byte (k : Nat) (b : Int) (r : List Int) (n : List Nd) (l d : Int) (hb : b < 128) (hn : n.length < 10000000) : rlp_reader_item.f (k + 1) (b :: r, n) l d = some (0, (r, n ++ [(false, [b], 0)])) := by
  have e0 : rd ((b :: r, n) : Rd).1 0 = b := rfl
  show rlp_reader_item.body (rlp_reader_item.f k) (rlp_reader_list.f k) k _ _ _ = _
  unfold rlp_reader_item.body
  simp only [e0]
  rw [if_neg (by simp <;> omega), if_pos (by simp <;> omega), if_pos (by simpa using hb), if_pos (by simp; omega), if_pos (by simp; omega)]
  rfl
theorem it_err (k : Nat) (b : Int) (r : List Int) (n : List Nd) (l d : Int) (hb0 : 128 ≤ b ∧ b < 256) (hb : ∀ x ∈ r, 0 ≤ x ∧ x < 256) (hr : r.length < 1000000) (he : (ps (b :: r)).1 ≠ 0) : rlp_reader_item.f (k + 21) (b :: r, n) l d = some ((ps (b :: r)).1, ((ps (b :: r)).2.2, n)) := by
  have e0 : rd ((b :: r, n) : Rd).1 0 = b := rfl
  show rlp_reader_item.body (rlp_reader_item.f (k + 20)) (rlp_reader_list.f (k + 20)) (k + 20) _ _ _ = _
  unfold rlp_reader_item.body
  simp only [e0]
  rw [if_neg (by simp <;> omega), if_pos (by simp <;> omega), if_neg (by simp <;> omega), size_ps k b r n hb0 hb hr, Option.bind_some]
  simp only
  rw [if_pos (by simpa using he)]
theorem it_short (k : Nat) (b : Int) (r : List Int) (n : List Nd) (l d : Int) (hb0 : 128 ≤ b ∧ b < 256) (hb : ∀ x ∈ r, 0 ≤ x ∧ x < 256) (hr : r.length < 1000000) (v : Int) (s : List Int) (hs : s.length ≤ r.length) (he : ps (b :: r) = (0, v, s)) (hv : (s.length : Int) < v) : rlp_reader_item.f (k + 21) (b :: r, n) l d = some (3, (s, n)) := by
  have e0 : rd ((b :: r, n) : Rd).1 0 = b := rfl
  show rlp_reader_item.body (rlp_reader_item.f (k + 20)) (rlp_reader_list.f (k + 20)) (k + 20) _ _ _ = _
  unfold rlp_reader_item.body
  simp only [e0]
  rw [if_neg (by simp <;> omega), if_pos (by simp <;> omega), if_neg (by simp <;> omega), size_ps k b r n hb0 hb hr, Option.bind_some, he]
  simp only [if_true]
  rw [if_neg (by simp), if_pos (by
    have : (s.length : Int) < imin v 1099511627776 := by unfold imin; split <;> omega
    simpa using this)]
theorem it_ok (k : Nat) (b : Int) (r : List Int) (n : List Nd) (l d : Int) (hb0 : 128 ≤ b ∧ b < 256) (hb : ∀ x ∈ r, 0 ≤ x ∧ x < 256) (hr : r.length < 1000000) (v : Nat) (s : List Int) (hs : s.length ≤ r.length) (he : ps (b :: r) = (0, (v : Int), s)) (hv : v ≤ s.length) (hn : n.length < 10000000) :
    rlp_reader_item.f (k + 21) (b :: r, n) l d = if l < ((r.length + 1 - s.length + v : Nat) : Int) then some (2, (s, n)) else if 192 ≤ b then (rlp_reader_list.f (k + 20) (s, n) (v : Int) d) else if v = 1 ∧ rd s 0 < 128 then some (2, (s, n)) else some (0, (s.drop v, n ++ [(false, s.take v, 0)])) := by
  have e0 : rd ((b :: r, n) : Rd).1 0 = b := rfl
  have el : (((b :: r, n) : Rd).1.length : Int) = (r.length : Int) + 1 := by simp
  show rlp_reader_item.body (rlp_reader_item.f (k + 20)) (rlp_reader_list.f (k + 20)) (k + 20) _ _ _ = _
  unfold rlp_reader_item.body
  simp only [e0]
  rw [if_neg (by simp <;> omega), if_pos (by simp <;> omega), if_neg (by simp <;> omega), size_ps k b r n hb0 hb hr, Option.bind_some, he]
  simp only [if_true]
  rw [imin_id (by omega), if_neg (by simp), if_neg (by simp; omega), wr_i64_id (x := ((b :: r).length : Int) - (s.length : Int)) (by simp; omega) (by simp; omega), wr_i64_id (by simp; omega) (by simp; omega)]
  have ec : ((b :: r).length : Int) - (s.length : Int) + (v : Int) = ((r.length + 1 - s.length + v : Nat) : Int) := by simp; omega
  rw [ec]
  by_cases c1 : l < ((r.length + 1 - s.length + v : Nat) : Int)
  · rw [if_pos (by simpa using c1), if_pos c1]
  · rw [if_neg (by simpa using c1), if_neg c1]
    by_cases c2 : 192 ≤ b
    · rw [if_neg (by simp [c2]), if_pos c2]
      generalize rlp_reader_list.f (k + 20) (s, n) (v : Int) d = z
      cases z <;> rfl
    · rw [if_pos (by simp [c2]), if_neg c2]
      have j1f : ∀ y : Bool, rlp_reader_item.j1 (decide (192 ≤ b), (v : Int), 0, (s, n)) y = if y = true then some (2, (s, n)) else some (0, (s.drop v, n ++ [(false, s.take v, 0)])) := by
        intro y
        unfold rlp_reader_item.j1
        cases y with
        | true => rfl
        | false =>
          simp only [Int.toNat_natCast, List.nil_append]
          rw [if_neg (by simp), if_pos (by omega), if_pos (by rw [List.length_take]; simp; omega), if_pos (by simp; omega), if_pos (by omega), if_neg (by simp)]
      by_cases c3 : v = 1
      · rw [if_pos (by simp [c3]), if_pos (by omega)]
        refine (j1f _).trans ?_
        by_cases c4 : rd s 0 < 128
        · rw [if_pos (by simpa using c4), if_pos ⟨c3, c4⟩]
        · rw [if_neg (by simpa using c4), if_neg (fun h => c4 h.2)]
      · rw [if_neg (by simp; omega)]
        refine (j1f _).trans ?_
        rw [if_neg (by simp), if_neg (fun h => c3 h.1)]
theorem li_top (k : Nat) (s : List Int) (n : List Nd) (v d : Int) (hn : n.length < 10000000) : rlp_reader_list.f (k + 1) (s, n) v d = if d = 64 then some (4, (s, n)) else rlp_reader_list.l1 (rlp_reader_item.f k) (s, n) v d k s (n ++ [(true, [], 0)]) := by
  show rlp_reader_list.body (rlp_reader_item.f k) (rlp_reader_list.f k) k _ _ _ = _
  unfold rlp_reader_list.body
  by_cases c : d = 64
  · rw [if_pos (by simpa using c), if_pos c]
  · rw [if_neg (by simpa using c), if_neg c, if_pos (by simp; omega)]
theorem set_mid {α : Type} (a : List α) (b c : α) (l : List α) : (a ++ b :: l).set a.length c = a ++ c :: l := by simp
theorem li_end (k q : Nat) (s : List Int) (n : List Nd) (v : Nat) (d : Int) (hv : v ≤ s.length) (hs : s.length < 1000000) (g : List Nd) (hn : n.length + g.length < 10000000) : rlp_reader_list.l1 (rlp_reader_item.f k) (s, n) (v : Int) d (q + 1) (s.drop v) (n ++ (true, [], 0) :: g) = some (0, (s.drop v, n ++ (true, [], (g.length : Int)) :: g)) := by
  show rlp_reader_list.b1 (rlp_reader_item.f k) (s, n) (v : Int) d _ _ _ = _
  unfold rlp_reader_list.b1
  have hw : wr .i64 ((((s, n) : Rd).1.length : Int) - (v : Int)) = ((s.length - v : Nat) : Int) := by
    rw [wr_i64_id (by simp; omega) (by simp; omega)]
    show (s.length : Int) - (v : Int) = _
    omega
  simp only [hw]
  rw [if_neg (by simp)]
  unfold rlp_reader_list.j1
  have hl : ((n ++ (true, [], 0) :: g : List Nd).length : Int) = n.length + g.length + 1 := by simp; omega
  have hg : gt (n ++ (true, [], 0) :: g : List Nd) (n.length : Int) = (true, [], 0) := by simp [gt]
  simp only
  rw [if_pos (by omega), hl, hg, wr_i64_id (x := (n.length : Int) + g.length + 1 - n.length) (by omega) (by omega), wr_i64_id (by omega) (by omega), Int.toNat_natCast, set_mid]
  refine congrArg (fun z : Int => some ((0 : Int), (s.drop v, n ++ ((true, [], z) : Nd) :: g))) ?_
  omega
theorem li_step (k q : Nat) (s : List Int) (n : List Nd) (v : Nat) (d : Nat) (hv : v ≤ s.length) (hs : s.length < 1000000) (hd : d ≤ 64) (s' : List Int) (n' : List Nd) (hs' : s.length - v < s'.length) (hsl : s'.length ≤ s.length) (c : Int) (r : List Int) (m : List Nd) (hi : rlp_reader_item.f k (s', n') ((s'.length - (s.length - v) : Nat) : Int) ((d + 1 : Nat) : Int) = some (c, (r, m))) : rlp_reader_list.l1 (rlp_reader_item.f k) (s, n) (v : Int) (d : Int) (q + 1) s' n' = if c ≠ 0 then some (c, (r, m)) else rlp_reader_list.l1 (rlp_reader_item.f k) (s, n) (v : Int) (d : Int) q r m := by
  show rlp_reader_list.b1 (rlp_reader_item.f k) (s, n) (v : Int) (d : Int) _ _ _ = _
  unfold rlp_reader_list.b1
  have hw : wr .i64 ((((s, n) : Rd).1.length : Int) - (v : Int)) = ((s.length - v : Nat) : Int) := by
    rw [wr_i64_id (by simp; omega) (by simp; omega)]
    show (s.length : Int) - (v : Int) = _
    omega
  simp only [hw]
  rw [if_pos (by simp; omega), wr_i64_id (x := (s'.length : Int) - ((s.length - v : Nat) : Int)) (by omega) (by omega), wr_i64_id (x := (d : Int) + 1) (by omega) (by omega)]
  rw [show (s'.length : Int) - ((s.length - v : Nat) : Int) = ((s'.length - (s.length - v) : Nat) : Int) by omega, show (d : Int) + 1 = ((d + 1 : Nat) : Int) from rfl, hi, Option.bind_some]
  by_cases c1 : c = 0
  · rw [if_neg (by simpa using c1), if_neg (by simpa using c1)]
  · rw [if_pos (by simpa using c1), if_pos c1]
/-! ### What was written is read. -/
/-- Texts of bytes. -/
def Fst.U8 : Fst → Prop
  | .nil => True
  | .leaf b f => (∀ x ∈ b, 0 ≤ x ∧ x < 256) ∧ f.U8
  | .node c f => c.U8 ∧ f.U8
theorem encL_u8 (b : List Int) (hb : ∀ x ∈ b, 0 ≤ x ∧ x < 256) (hl : b.length < 16777216) : ∀ x ∈ encL b, 0 ≤ x ∧ x < 256 := by
  unfold encL
  split
  · exact hb
  · intro x hx
    rcases List.mem_append.1 hx with hx | hx
    · exact hd_u8 _ 0 hl (Or.inl rfl) x hx
    · exact hb x hx
theorem encL_pos (b : List Int) : 1 ≤ (encL b).length := by
  unfold encL
  have := hd_len b.length 0
  split
  · omega
  · rw [List.length_append]; omega
theorem flat_le (f : Fst) : f.flat.length ≤ f.enc.length := by
  induction f with
  | nil => simp [Fst.flat]
  | leaf b f ih => have := encL_pos b; simp only [Fst.flat, Fst.enc, List.length_cons, List.length_append]; omega
  | node c f ihc ihf => have := hd_len c.enc.length 64; simp only [Fst.flat, Fst.enc, List.length_cons, List.length_append]; omega
theorem enc_u8 (f : Fst) (hu : f.U8) (hl : f.enc.length < 16777216) (hf : ∀ b : List Int, b.length ≤ (encL b).length := by intro b; unfold encL; split <;> simp) : ∀ x ∈ f.enc, 0 ≤ x ∧ x < 256 := by
  induction f with
  | nil => intro x hx; simp [Fst.enc] at hx
  | leaf b f ih =>
    simp only [Fst.enc, List.length_append] at hl ⊢
    intro x hx
    rcases List.mem_append.1 hx with hx | hx
    · exact encL_u8 b hu.1 (by have := hf b; omega) x hx
    · exact ih hu.2 (by omega) x hx
  | node c f ihc ihf =>
    simp only [Fst.enc, List.length_append] at hl ⊢
    intro x hx
    rcases List.mem_append.1 hx with hx | hx
    · rcases List.mem_append.1 hx with hx | hx
      · exact hd_u8 _ 64 (by omega) (Or.inr rfl) x hx
      · exact ihc hu.1 (by omega) x hx
    · exact ihf hu.2 (by omega) x hx
theorem fw_leaf (k : Nat) (b : List Int) (r : List Int) (n : List Nd) (l : Nat) (d : Int) (hb : ∀ x ∈ b, 0 ≤ x ∧ x < 256) (hr : ∀ x ∈ r, 0 ≤ x ∧ x < 256) (hlen : (encL b).length + r.length < 1000000) (hl : (encL b).length ≤ l) (hn : n.length < 10000000) : rlp_reader_item.f (k + 21) (encL b ++ r, n) (l : Int) d = some (0, (r, n ++ [(false, b, 0)])) := by
  unfold encL at hlen hl ⊢
  by_cases c : b.length = 1 ∧ rd b 0 < 128
  · rw [if_pos c] at hlen hl ⊢
    match b, c with
    | [x], c => exact it_byte (k + 20) x r n l d c.2 hn
  · rw [if_neg c] at hlen hl ⊢
    rw [List.length_append] at hlen hl
    obtain ⟨a, s, e, a1, a2, a3, a4⟩ := ps_hd b.length 0 (by omega) (Or.inl rfl) (b ++ r)
    have hh := hd_len b.length 0
    have hsl : s.length + 1 = (hd b.length 0).length + b.length + r.length := by
      have := congrArg List.length e
      simp at this
      omega
    have hu : ∀ x ∈ s, 0 ≤ x ∧ x < 256 := by
      intro x hx
      have : x ∈ hd b.length 0 ++ (b ++ r) := by rw [e]; simp [hx]
      rcases List.mem_append.1 this with h | h
      · exact hd_u8 _ 0 (by omega) (Or.inl rfl) x h
      · rcases List.mem_append.1 h with h | h
        · exact hb x h
        · exact hr x h
    have hbl : (b ++ r).length = b.length + r.length := by simp
    rw [List.append_assoc, e, it_ok k a s n l d ⟨a1, a2⟩ hu (by omega) b.length (b ++ r) (by omega) a4 (by omega) hn, if_neg (by rw [hbl]; omega)]
    have a3' : ¬ 192 ≤ a := by
      intro h
      rw [decide_eq_true h] at a3
      simp at a3
    have hrd : b.length = 1 → rd (b ++ r) 0 = rd b 0 := by
      intro h
      match b, h with
      | [x], _ => rfl
    rw [if_neg a3', if_neg (fun h => c ⟨h.1, by rw [← hrd h.1]; exact h.2⟩)]
    simp
theorem fw_items (f : Fst) : ∀ (k q : Nat) (s : List Int) (n0 : List Nd) (v d : Nat) (n : List Nd) (r : List Int), f.U8 → (∀ x ∈ r, 0 ≤ x ∧ x < 256) → v ≤ s.length → s.length < 1000000 → r.length = s.length - v → f.enc.length + r.length ≤ s.length → d + 1 + f.dep ≤ 64 → 2 * f.flat.length + 40 < k → f.flat.length < q → n.length + f.flat.length < 10000000 →
    ∃ q', q - f.flat.length ≤ q' ∧ rlp_reader_list.l1 (rlp_reader_item.f k) (s, n0) (v : Int) (d : Int) q (f.enc ++ r) n = rlp_reader_list.l1 (rlp_reader_item.f k) (s, n0) (v : Int) (d : Int) q' r (n ++ f.flat) := by
  induction f with
  | nil =>
    intro k q s n0 v d n r hu hr hv hs hrl hlen hdp hk hq hn
    exact ⟨q, by simp [Fst.flat], by simp [Fst.enc, Fst.flat]⟩
  | leaf b f ih =>
    intro k q s n0 v d n r hu hr hv hs hrl hlen hdp hk hq hn
    simp only [Fst.enc, Fst.flat, Fst.dep, List.length_cons, List.length_append] at hlen hdp hk hq hn ⊢
    obtain ⟨q, rfl⟩ : ∃ m, q = m + 1 := ⟨q - 1, by omega⟩
    obtain ⟨k, rfl⟩ : ∃ m, k = m + 21 := ⟨k - 21, by omega⟩
    have hp := encL_pos b
    have hfu : ∀ x ∈ f.enc ++ r, 0 ≤ x ∧ x < 256 := by
      intro x hx
      rcases List.mem_append.1 hx with h | h
      · exact enc_u8 f hu.2 (by omega) (by intro b; unfold encL; split <;> simp) x h
      · exact hr x h
    have hl1 : (encL b ++ (f.enc ++ r)).length = (encL b).length + (f.enc.length + r.length) := by simp
    have hi := fw_leaf k b (f.enc ++ r) n ((encL b ++ (f.enc ++ r)).length - (s.length - v)) ((d + 1 : Nat) : Int) hu.1 hfu (by simp; omega) (by rw [hl1]; omega) (by omega)
    rw [List.append_assoc, li_step (k + 21) q s n0 v d hv hs (by omega) (encL b ++ (f.enc ++ r)) n (by rw [hl1]; omega) (by rw [hl1]; omega) 0 (f.enc ++ r) _ hi, if_neg (by simp)]
    obtain ⟨q', h1, h2⟩ := ih (k + 21) q s n0 v d (n ++ [(false, b, 0)]) r hu.2 hr hv hs hrl (by omega) hdp (by omega) (by omega) (by simp; omega)
    refine ⟨q', by omega, h2.trans ?_⟩
    rw [List.append_assoc]
    rfl
  | node c f ihc ihf =>
    intro k q s n0 v d n r hu hr hv hs hrl hlen hdp hk hq hn
    simp only [Fst.enc, Fst.flat, Fst.dep, List.length_cons, List.length_append] at hlen hdp hk hq hn ⊢
    obtain ⟨q, rfl⟩ : ∃ m, q = m + 1 := ⟨q - 1, by omega⟩
    obtain ⟨k, rfl⟩ : ∃ m, k = m + 21 := ⟨k - 21, by omega⟩
    have hh := hd_len c.enc.length 64
    have hcu : ∀ x ∈ c.enc, 0 ≤ x ∧ x < 256 := enc_u8 c hu.1 (by omega) (by intro b; unfold encL; split <;> simp)
    have hfu : ∀ x ∈ f.enc ++ r, 0 ≤ x ∧ x < 256 := by
      intro x hx
      rcases List.mem_append.1 hx with h | h
      · exact enc_u8 f hu.2 (by omega) (by intro b; unfold encL; split <;> simp) x h
      · exact hr x h
    obtain ⟨a, t, e, a1, a2, a3, a4⟩ := ps_hd c.enc.length 64 (by omega) (Or.inr rfl) (c.enc ++ (f.enc ++ r))
    have htl : t.length + 1 = (hd c.enc.length 64).length + (c.enc.length + (f.enc.length + r.length)) := by
      have := congrArg List.length e
      simp at this
      omega
    have hut : ∀ x ∈ t, 0 ≤ x ∧ x < 256 := by
      intro x hx
      have : x ∈ hd c.enc.length 64 ++ (c.enc ++ (f.enc ++ r)) := by rw [e]; simp [hx]
      rcases List.mem_append.1 this with h | h
      · exact hd_u8 _ 64 (by omega) (Or.inr rfl) x h
      · rcases List.mem_append.1 h with h | h
        · exact hcu x h
        · exact hfu x h
    have a3' : 192 ≤ a := by
      refine Decidable.byContradiction fun h => ?_
      rw [decide_eq_false h] at a3
      simp at a3
    have hl1 : (a :: t).length = (hd c.enc.length 64).length + (c.enc.length + (f.enc.length + r.length)) := by rw [List.length_cons]; omega
    have hl2 : (c.enc ++ (f.enc ++ r)).length = c.enc.length + (f.enc.length + r.length) := by simp
    have hdr : (c.enc ++ (f.enc ++ r)).drop c.enc.length = f.enc ++ r := by simp
    have hi : rlp_reader_item.f (k + 21) (a :: t, n) (((a :: t).length - (s.length - v) : Nat) : Int) ((d + 1 : Nat) : Int) = some (0, (f.enc ++ r, n ++ (true, [], (c.flat.length : Int)) :: c.flat)) := by
      rw [it_ok k a t n _ _ ⟨a1, a2⟩ hut (by omega) c.enc.length _ (by omega) a4 (by omega) (by omega), if_neg (by rw [hl1, hl2]; omega), if_pos a3', li_top (k + 19) _ _ _ _ (by omega), if_neg (by omega)]
      obtain ⟨q1, hq1, h1⟩ := ihc (k + 19) (k + 19) (c.enc ++ (f.enc ++ r)) n c.enc.length (d + 1) (n ++ [(true, [], 0)]) (f.enc ++ r) hu.1 hfu (by omega) (by omega) (by rw [hl2, List.length_append]; omega) (by rw [hl2, List.length_append]; omega) (by omega) (by omega) (by omega) (by simp; omega)
      rw [h1]
      obtain ⟨q', hq'⟩ : ∃ m, q1 = m + 1 := ⟨q1 - 1, by omega⟩
      have h2 := li_end (k + 19) q' (c.enc ++ (f.enc ++ r)) n c.enc.length ((d + 1 : Nat) : Int) (by omega) (by omega) c.flat (by omega)
      rw [hdr] at h2
      rw [hq', List.append_assoc]
      exact h2
    rw [show hd c.enc.length 64 ++ c.enc ++ f.enc ++ r = hd c.enc.length 64 ++ (c.enc ++ (f.enc ++ r)) by simp, e, li_step (k + 21) q s n0 v d hv hs (by omega) (a :: t) n (by rw [hl1]; omega) (by rw [hl1]; omega) 0 (f.enc ++ r) _ hi, if_neg (by simp)]
    obtain ⟨q', h1, h2⟩ := ihf (k + 21) q s n0 v d (n ++ (true, [], (c.flat.length : Int)) :: c.flat) r hu.2 hr hv hs hrl (by omega) (by omega) (by omega) (by omega) (by simp; omega)
    refine ⟨q', by omega, h2.trans ?_⟩
    simp
/-- The coding of one tree, read. -/
theorem decode_tree (t : Fst) (ht : t.One) (k : Nat) (hk : 2 * t.flat.length + 60 < k) (hu : t.U8) (hl : t.enc.length < 1000000) (hdp : t.dep ≤ 64) : rlp_Decode.f k t.enc = some (t.flat, 0) := by
  have hfl := flat_le t
  have main : rlp_reader_item.f k (t.enc, []) (t.enc.length : Int) 0 = some (0, ([], t.flat)) := by
    obtain ⟨k, rfl⟩ : ∃ m, k = m + 21 := ⟨k - 21, by omega⟩
    match t, ht with
    | .leaf b .nil, _ =>
      have he : (Fst.leaf b .nil).enc = encL b ++ [] := rfl
      have := fw_leaf k b [] [] (encL b ++ []).length 0 hu.1 (by simp) (by rw [← List.length_append, ← he]; exact hl) (by simp) (by simp)
      rw [he]
      exact this
    | .node c .nil, _ =>
      have he : (Fst.node c .nil).enc = hd c.enc.length 64 ++ (c.enc ++ []) := by simp [Fst.enc]
      have hlen : (Fst.node c .nil).enc.length = (hd c.enc.length 64).length + c.enc.length := by simp [Fst.enc]
      have hflat : (Fst.node c .nil).flat.length = c.flat.length + 1 := by simp [Fst.flat]
      have hdep : (Fst.node c .nil).dep = 1 + c.dep := by simp [Fst.dep]
      have hh := hd_len c.enc.length 64
      rw [hlen] at hl
      rw [hflat] at hk hfl
      rw [hdep] at hdp
      have hcu : ∀ x ∈ c.enc, 0 ≤ x ∧ x < 256 := enc_u8 c hu.1 (by omega) (by intro b; unfold encL; split <;> simp)
      obtain ⟨a, t, e, a1, a2, a3, a4⟩ := ps_hd c.enc.length 64 (by omega) (Or.inr rfl) (c.enc ++ [])
      have htl : t.length + 1 = (hd c.enc.length 64).length + c.enc.length := by
        have := congrArg List.length e
        simp at this
        omega
      have hut : ∀ x ∈ t, 0 ≤ x ∧ x < 256 := by
        intro x hx
        have : x ∈ hd c.enc.length 64 ++ (c.enc ++ []) := by rw [e]; simp [hx]
        rcases List.mem_append.1 this with h | h
        · exact hd_u8 _ 64 (by omega) (Or.inr rfl) x h
        · rw [List.append_nil] at h; exact hcu x h
      have a3' : 192 ≤ a := by
        refine Decidable.byContradiction fun h => ?_
        rw [decide_eq_false h] at a3
        simp at a3
      have hl2 : (c.enc ++ []).length = c.enc.length := by simp
      have hl3 : (hd c.enc.length 64 ++ (c.enc ++ [])).length = (hd c.enc.length 64).length + c.enc.length := by simp
      rw [he, hl3, e, it_ok k a t [] _ _ ⟨a1, a2⟩ hut (by omega) c.enc.length _ (by omega) a4 (by omega) (by simp), if_neg (by rw [hl2]; omega), if_pos a3', li_top (k + 19) _ _ _ _ (by simp), if_neg (by omega)]
      obtain ⟨q1, hq1, h1⟩ := fw_items c (k + 19) (k + 19) (c.enc ++ []) [] c.enc.length 0 [(true, [], 0)] [] hu.1 (by simp) (by omega) (by omega) (by simp) (by simp) (by omega) (by omega) (by omega) (by simp; omega)
      refine h1.trans ?_
      obtain ⟨q', hq'⟩ : ∃ m, q1 = m + 1 := ⟨q1 - 1, by omega⟩
      have h2 := li_end (k + 19) q' (c.enc ++ []) [] c.enc.length 0 (by omega) (by omega) c.flat (by simp; omega)
      have hdr : (c.enc ++ []).drop c.enc.length = [] := by simp
      rw [hdr] at h2
      rw [hq']
      refine h2.trans ?_
      simp [Fst.flat]
  unfold rlp_Decode.f
  rw [if_neg (by simp; omega), main, Option.bind_some, if_neg (by simp), if_neg (by simp)]
end GW
