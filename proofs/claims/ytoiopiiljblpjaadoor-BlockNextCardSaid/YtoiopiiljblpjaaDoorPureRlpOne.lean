import Derived.Test.YtoiopiiljblpjaaDoorPureRlpTree
set_option linter.unusedVariables false
set_option linter.unusedSimpArgs false
namespace GW
open Go Go.RowKit
def pop (i : Nat) : List Nat → List Nat
  | [] => []
  | e :: s => if e = i then pop i s else e :: s
def bad (n i : Nat) (nd : Nd) : Bool := (!nd.1 && nd.2.2 != 0) || (nd.1 && decide (0 < nd.2.1.length)) || decide (nd.2.2 < 0) || decide ((n : Int) - 1 - i < nd.2.2)
def topLt (s : List Nat) (e : Nat) : Bool := match s with
  | [] => false
  | t :: _ => decide (t < e)
def chk (n : Nat) : List Nd → Nat → List Nat → Bool
  | [], _, _ => true
  | nd :: l, i, s => !bad n i nd && !topLt (pop i s) (i + 1 + nd.2.2.toNat) && chk n l (i + 1) ((i + 1 + nd.2.2.toNat) :: pop i s)
theorem chk_cons (n : Nat) (nd : Nd) (l : List Nd) (i : Nat) (s : List Nat) : chk n (nd :: l) i s = (!bad n i nd && !topLt (pop i s) (i + 1 + nd.2.2.toNat) && chk n l (i + 1) ((i + 1 + nd.2.2.toNat) :: pop i s)) := rfl
def ints (s : List Nat) : List Int := (s.map (fun n : Nat => (n : Int))).reverse
theorem ints_len (s : List Nat) : (ints s).length = s.length := by simp [ints]
theorem ints_cons (e : Nat) (s : List Nat) : ints (e :: s) = ints s ++ [(e : Int)] := by simp [ints]
theorem rd_last (s : List Int) (e : Int) : rd (s ++ [e]) (s.length : Int) = e := by simp [rd]
theorem pop_len (i : Nat) (s : List Nat) : (pop i s).length ≤ s.length := by
  induction s with
  | nil => simp [pop]
  | cons e s ih =>
    unfold pop
    by_cases h : e = i
    · rw [if_pos h]; simp; omega
    · rw [if_neg h]; simp
theorem one_pop (x1 : List Nd) (i : Nat) (rec1 : List Int → Int → Option Bool) (s : List Nat) : ∀ q : Nat, s.length < q → s.length < 1000000000 → rlp_one.l2 x1 (i : Int) rec1 q (ints s) = rlp_one.j4 x1 (i : Int) rec1 (ints (pop i s)) := by
  induction s with
  | nil =>
    intro q hq hl
    obtain ⟨q, rfl⟩ : ∃ m, q = m + 1 := ⟨q - 1, by omega⟩
    show rlp_one.b2 x1 _ _ _ _ = _
    unfold rlp_one.b2
    rw [if_neg (by simp [ints])]
    unfold rlp_one.j7
    rw [if_neg (by simp)]
    rfl
  | cons e s ih =>
    intro q hq hl
    simp only [List.length_cons] at hq hl
    obtain ⟨q, rfl⟩ : ∃ m, q = m + 1 := ⟨q - 1, by omega⟩
    show rlp_one.b2 x1 _ _ _ _ = _
    have hn : (ints (e :: s)).length = s.length + 1 := by simp [ints_len]
    have hw : wr .i64 (((ints (e :: s)).length : Int) - 1) = (s.length : Int) := by rw [hn, wr_i64_id (by omega) (by omega)]; omega
    unfold rlp_one.b2
    simp only [hw]
    have hr : rd (ints (e :: s)) (s.length : Int) = (e : Int) := by rw [ints_cons, ← ints_len s, rd_last]
    rw [if_pos (by rw [hn]; simp <;> omega), if_pos (by rw [hn]; omega), hr]
    unfold rlp_one.j7
    simp only [hw]
    by_cases c : e = i
    · rw [if_pos (by simp [c]), if_pos (by rw [hn]; omega)]
      have ht : (ints (e :: s)).take (Int.toNat (s.length : Int)) = ints s := by
        rw [ints_cons, Int.toNat_natCast, ← ints_len s, List.take_left]
      rw [ht, ih q (by omega) (by omega)]
      show _ = rlp_one.j4 x1 _ _ (ints (if e = i then pop i s else e :: s))
      rw [if_pos c]
    · rw [if_neg (by simp; omega)]
      show _ = rlp_one.j4 x1 _ _ (ints (if e = i then pop i s else e :: s))
      rw [if_neg c]
theorem one_push (x1 : List Nd) (i : Nat) (rec1 : List Int → Int → Option Bool) (s : List Nat) (hi : i < x1.length) (hl : x1.length < 1000000) (hs : s.length ≤ i) (nd : Nd) (hg : gt x1 (i : Int) = nd) :
    rlp_one.j4 x1 (i : Int) rec1 (ints s) = if bad x1.length i nd = true then some false else if topLt s (i + 1 + nd.2.2.toNat) = true then some false else rec1 (ints ((i + 1 + nd.2.2.toNat) :: s)) ((i + 1 : Nat) : Int) := by
  have hb : rlp_one.j4 x1 (i : Int) rec1 (ints s) = rlp_one.j5 x1 (i : Int) rec1 (ints s) (bad x1.length i nd) := by
    unfold rlp_one.j4 bad
    simp only [hg]
    have e1 : wr .i64 (wr .i64 ((x1.length : Int) - 1) - (i : Int)) = (x1.length : Int) - 1 - i := by
      rw [wr_i64_id (x := (x1.length : Int) - 1) (by omega) (by omega), wr_i64_id (by omega) (by omega)]
    simp only [e1]
    have p0 : ((0 : Int) < (nd.2.1.length : Int)) ↔ 0 < nd.2.1.length := by omega
    simp only [p0]
    generalize (nd.2.2 != 0) = a
    generalize nd.1 = b
    generalize decide (0 < nd.2.1.length) = c
    generalize decide (nd.2.2 < 0) = d
    generalize decide ((x1.length : Int) - 1 - ↑i < nd.2.2) = e
    cases a <;> cases b <;> cases c <;> cases d <;> cases e <;> rfl
  rw [hb]
  unfold rlp_one.j5
  by_cases cb : bad x1.length i nd = true
  · rw [if_pos cb, if_pos cb]
  · rw [if_neg cb, if_neg cb]
    have cb' : ¬ nd.2.2 < 0 ∧ ¬ ((x1.length : Int) - 1 - i < nd.2.2) := by
      simp only [bad, Bool.or_eq_true, decide_eq_true_eq, not_or] at cb
      exact ⟨cb.1.2, cb.2⟩
    have ee : wr .i64 (wr .i64 ((i : Int) + 1) + nd.2.2) = ((i + 1 + nd.2.2.toNat : Nat) : Int) := by
      rw [wr_i64_id (x := (i : Int) + 1) (by omega) (by omega), wr_i64_id (by omega) (by omega)]
      omega
    have j6 : ∀ y : Bool, rlp_one.j6 x1 (i : Int) rec1 (ints s) y = if y = true then some false else rec1 (ints ((i + 1 + nd.2.2.toNat) :: s)) ((i + 1 : Nat) : Int) := by
      intro y
      unfold rlp_one.j6
      simp only [hg, ee]
      cases y with
      | true => rfl
      | false =>
        rw [if_neg (by simp), if_pos (by simp [ints_len]; omega)]
        unfold rlp_one.j3
        rw [if_neg (by simp), ints_cons, wr_i64_id (x := (i : Int) + 1) (by omega) (by omega)]
        rfl
    simp only [hg, ee]
    match s, hs with
    | [], _ => rw [if_neg (by simp [ints]), j6]; rfl
    | t :: s, hs =>
      simp only [List.length_cons] at hs
      have hn : (ints (t :: s)).length = s.length + 1 := by simp [ints_len]
      have hw : wr .i64 (((ints (t :: s)).length : Int) - 1) = (s.length : Int) := by rw [hn, wr_i64_id (by omega) (by omega)]; omega
      have hr : rd (ints (t :: s)) (s.length : Int) = (t : Int) := by rw [ints_cons, ← ints_len s, rd_last]
      simp only [hw]
      rw [if_pos (by rw [hn]; simp <;> omega), if_pos (by rw [hn]; omega), hr, j6]
      have : decide ((t : Int) < ((i + 1 + nd.2.2.toNat : Nat) : Int)) = decide (t < i + 1 + nd.2.2.toNat) := by
        by_cases c : t < i + 1 + nd.2.2.toNat
        · rw [decide_eq_true c, decide_eq_true (by omega)]
        · rw [decide_eq_false c, decide_eq_false (by omega)]
      rw [this]
      rfl
theorem gt_drop {x : List Nd} {i : Nat} {a : Nd} {r : List Nd} (h : x.drop i = a :: r) : gt x (i : Int) = a ∧ i < x.length ∧ x.drop (i + 1) = r := by
  have hl : i < x.length := by
    refine Decidable.byContradiction fun c => ?_
    rw [List.drop_eq_nil_of_le (by omega)] at h
    cases h
  rw [List.drop_eq_getElem_cons hl] at h
  simp only [List.cons.injEq] at h
  exact ⟨by rw [gt_get x (i : Int) (by simpa using hl)]; simpa using h.1, hl, h.2⟩
theorem one_loop (x1 : List Nd) (hx : x1.length < 1000000) (k : Nat) (hk : x1.length < k) : ∀ (l : List Nd) (q i : Nat) (s : List Nat), x1.drop i = l → i ≤ x1.length → l.length < q → s.length ≤ i → rlp_one.l1 k x1 q (ints s) (i : Int) = some (chk x1.length l i s) := by
  intro l
  induction l with
  | nil =>
    intro q i s hd hi hq hs
    obtain ⟨q, rfl⟩ : ∃ m, q = m + 1 := ⟨q - 1, by omega⟩
    have : x1.length ≤ i := by simpa using hd
    show rlp_one.b1 k x1 _ _ _ = _
    unfold rlp_one.b1
    rw [if_neg (by simp; omega)]
    rfl
  | cons nd l ih =>
    intro q i s hd hi hq hs
    simp only [List.length_cons] at hq
    obtain ⟨q, rfl⟩ : ∃ m, q = m + 1 := ⟨q - 1, by omega⟩
    obtain ⟨g1, g2, g3⟩ := gt_drop hd
    have hp := pop_len i s
    show rlp_one.b1 k x1 _ _ _ = _
    unfold rlp_one.b1
    rw [if_pos (by simpa using by omega), if_pos (by omega), one_pop x1 i _ s k (by omega) (by omega), one_push x1 i _ (pop i s) g2 hx (by omega) nd g1]
    unfold chk
    by_cases c1 : bad x1.length i nd = true
    · rw [if_pos c1, c1]; rfl
    · rw [if_neg c1]
      have c1' : bad x1.length i nd = false := by simpa using c1
      by_cases c2 : topLt (pop i s) (i + 1 + nd.2.2.toNat) = true
      · rw [if_pos c2, c2, c1']; rfl
      · have c2' : topLt (pop i s) (i + 1 + nd.2.2.toNat) = false := by simpa using c2
        rw [if_neg c2, c2', c1', ih q (i + 1) _ g3 (by omega) (by omega) (by simp; omega)]
        simp
theorem one_eq (x1 : List Nd) (hx : x1.length < 1000000) (k : Nat) (hk : x1.length < k) : rlp_one.f k x1 = some (decide (0 < x1.length ∧ (gt x1 0).2.2 = (x1.length : Int) - 1) && chk x1.length x1 0 []) := by
  unfold rlp_one.f
  by_cases c : x1.length = 0
  · rw [if_pos (by simpa using c), decide_eq_false (by omega)]
    rfl
  · rw [if_neg (by simpa using c), if_pos (by omega), wr_i64_id (by omega) (by omega)]
    by_cases c2 : (gt x1 0).2.2 = (x1.length : Int) - 1
    · rw [decide_eq_true ⟨by omega, c2⟩, c2]
      have : ((x1.length : Int) - 1 != (x1.length : Int) - 1) = false := by simp
      rw [this]
      unfold rlp_one.j1
      rw [if_neg (by simp)]
      exact one_loop x1 hx k hk x1 k 0 [] rfl (by omega) hk (by simp)
    · rw [decide_eq_false (fun h => c2 h.2)]
      have : ((gt x1 0).2.2 != (x1.length : Int) - 1) = true := by simpa using c2
      rw [this]
      rfl
theorem pop_skip (i : Nat) (s : List Nat) (h : ∀ e ∈ s, i < e) : pop i s = s := by
  match s with
  | [] => rfl
  | e :: s =>
    unfold pop
    rw [if_neg (by have := h e (by simp); omega)]
theorem topLt_no (s : List Nat) (e : Nat) (h : ∀ t ∈ s, e ≤ t) : topLt s e = false := by
  match s with
  | [] => rfl
  | t :: s => exact decide_eq_false (by have := h t (by simp); omega)
theorem chk_fwd (n : Nat) (f : Fst) : ∀ (post : List Nd) (i : Nat) (s τ : List Nat), i + f.flat.length ≤ n → (∀ e ∈ τ, i + f.flat.length ≤ e) → pop i s = pop i τ →
    ∃ s', chk n (f.flat ++ post) i s = chk n post (i + f.flat.length) s' ∧ pop (i + f.flat.length) s' = pop (i + f.flat.length) τ := by
  induction f with
  | nil => intro post i s τ hn ht hp; exact ⟨s, rfl, hp⟩
  | leaf b f ih =>
    intro post i s τ hn ht hp
    simp only [Fst.flat, List.length_cons] at hn ht
    have hpt : pop i τ = τ := pop_skip i τ fun e he => by have := ht e he; omega
    rw [hpt] at hp
    obtain ⟨s', e1, e2⟩ := ih post (i + 1) ((i + 1) :: τ) τ (by omega) (fun e he => by have := ht e he; omega) (by show (if i + 1 = i + 1 then _ else _) = _; rw [if_pos rfl])
    refine ⟨s', ?_, ?_⟩
    · show chk n ((false, b, 0) :: (f.flat ++ post)) i s = _
      rw [chk_cons]
      have hb : bad n i (false, b, 0) = false := by
        have : ¬ ((n : Int) - 1 - i < 0) := by omega
        simp [bad, this]
      rw [hb, hp]
      have : topLt τ (i + 1 + (((false, b, 0) : Nd).2.2).toNat) = false := topLt_no _ _ fun t ht' => by have := ht t ht'; simp; omega
      rw [this]
      show (!false && !false && chk n (f.flat ++ post) (i + 1) ((i + 1) :: τ)) = _
      rw [e1]
      simp only [Fst.flat, List.length_cons, Bool.not_false, Bool.true_and]
      rw [show i + 1 + f.flat.length = i + (f.flat.length + 1) by omega]
    · simp only [Fst.flat, List.length_cons]
      rw [show i + (f.flat.length + 1) = i + 1 + f.flat.length by omega]
      exact e2
  | node c f ihc ihf =>
    intro post i s τ hn ht hp
    simp only [Fst.flat, List.length_cons, List.length_append] at hn ht
    have hpt : pop i τ = τ := pop_skip i τ fun e he => by have := ht e he; omega
    rw [hpt] at hp
    obtain ⟨s1, e1, e2⟩ := ihc (f.flat ++ post) (i + 1) ((i + 1 + c.flat.length) :: τ) ((i + 1 + c.flat.length) :: τ) (by omega) (fun e he => by
      rcases List.mem_cons.1 he with rfl | he
      · omega
      · have := ht e he; omega) rfl
    have e3 : pop (i + 1 + c.flat.length) ((i + 1 + c.flat.length) :: τ) = pop (i + 1 + c.flat.length) τ := by
      show (if _ = _ then _ else _) = _
      rw [if_pos rfl]
    rw [e3] at e2
    obtain ⟨s', f1, f2⟩ := ihf post (i + 1 + c.flat.length) s1 τ (by omega) (fun e he => by have := ht e he; omega) e2
    refine ⟨s', ?_, ?_⟩
    · show chk n ((true, [], (c.flat.length : Int)) :: (c.flat ++ f.flat ++ post)) i s = _
      rw [chk_cons]
      have hb : bad n i (true, [], (c.flat.length : Int)) = false := by
        have h1 : ¬ ((n : Int) - 1 - i < (c.flat.length : Int)) := by omega
        have h2 : ¬ ((c.flat.length : Int) < 0) := by omega
        simp [bad, h1, h2]
      rw [hb, hp]
      have : topLt τ (i + 1 + (((true, [], (c.flat.length : Int)) : Nd).2.2).toNat) = false := topLt_no _ _ fun t ht' => by have := ht t ht'; simp; omega
      rw [this]
      show (!false && !false && chk n (c.flat ++ f.flat ++ post) (i + 1) ((i + 1 + c.flat.length) :: τ)) = _
      rw [List.append_assoc, e1, f1]
      simp only [Fst.flat, List.length_cons, List.length_append, Bool.not_false, Bool.true_and]
      rw [show i + 1 + c.flat.length + f.flat.length = i + (c.flat.length + f.flat.length + 1) by omega]
    · simp only [Fst.flat, List.length_cons, List.length_append]
      rw [show i + (c.flat.length + f.flat.length + 1) = i + 1 + c.flat.length + f.flat.length by omega]
      exact f2
theorem one_flat (t : Fst) (ht : t.One) (k : Nat) (hx : t.flat.length < 1000000) (hk : t.flat.length < k) : rlp_one.f k t.flat = some true := by
  rw [one_eq _ hx k hk]
  obtain ⟨s', e, _⟩ := chk_fwd t.flat.length t [] 0 [] [] (by omega) (by simp) rfl
  rw [List.append_nil] at e
  rw [e]
  match t, ht with
  | .leaf b .nil, _ => rfl
  | .node c .nil, _ =>
    have : (gt (Fst.node c .nil).flat 0).2.2 = ((Fst.node c .nil).flat.length : Int) - 1 := by
      show (c.flat.length : Int) = _
      simp [Fst.flat]
    rw [decide_eq_true ⟨by simp [Fst.flat], this⟩]
    rfl
inductive Frm : List Nd → List Nat → Prop
  | base (f : Fst) : Frm f.flat []
  | node {pre : List Nd} {s : List Nat} (n : Nat) (f : Fst) : Frm pre s → (∀ e s', s = e :: s' → e ≠ pre.length) → Frm (pre ++ (true, [], (n : Int)) :: f.flat) ((pre.length + 1 + n) :: s)
  | leaf {pre : List Nd} {s : List Nat} (b : List Int) : Frm pre s → (∀ e s', s = e :: s' → e ≠ pre.length) → Frm (pre ++ [(false, b, 0)]) ((pre.length + 1) :: s)
end GW
