import Derived.Test.YtldbgghcailgfaaPureACache
set_option linter.unusedVariables false
set_option linter.unusedSimpArgs false
set_option maxRecDepth 100000
namespace GW
open Go Go.RowKit
def rem (l : List L34) (a : List Int) : L34 := match findA l a with
  | some x => x
  | none => (a, 0, [0, 0, 0, 0], [], [])
def CaOk (l : List L34) (K : CaK) : Prop := ∀ a x, aget K a = some x → x = rem l a
theorem zero_u64 : inK .u64 0 := by simp [inK, Lit.wf, IntKind.min, IntKind.max, IntKind.signed, IntKind.bits]
theorem rem_facts {l : List L34} (hg : ∀ x ∈ l, Gd34 x) (hs : ∀ x ∈ l, SmallA x) (hr : ∀ x ∈ l, smithyref13_Right.f 1000 x = some true) {a : List Int} (ha : Gd28 a) : Gd34 (rem l a) ∧ SmallA (rem l a) ∧ smithyref13_Right.f 1000 (rem l a) = some true ∧ (rem l a).1 = a := by
  unfold rem
  cases e : findA l a with
  | some x => exact ⟨hg x (findA_mem e).1, hs x (findA_mem e).1, hr x (findA_mem e).1, (findA_mem e).2⟩
  | none => exact ⟨⟨ha, zero_u64, (⟨rfl, fun y hy => by simp only [List.mem_cons, List.not_mem_nil, or_false, or_self] at hy; subst hy; exact zero_u64⟩ : Gd31 [0, 0, 0, 0]), ⟨fun y hy => (by cases hy), (by decide : (0 : Nat) ≤ maxLen)⟩, ⟨fun y hy => (by cases hy), (by decide : (0 : Nat) ≤ maxLen)⟩⟩, ⟨(by decide : (0 : Nat) ≤ 3000), (by decide : (0 : Nat) ≤ 100)⟩, rfl, rfl⟩
theorem find_rem (l : List L34) (a : List Int) (hl : l.length ≤ 50) : ∃ t, smithyref13_Find.f 1000 l a = some t ∧ (t.2 = false → rem l a = (a, 0, [0, 0, 0, 0], [], [])) ∧ (t.2 = true → rem l a = t.1) := by
  refine ⟨_, find_eq l a 1000 (by omega) (by omega), ?_, ?_⟩
  · unfold rem; cases findA l a <;> simp
  · unfold rem; cases findA l a <;> simp
theorem ways_l1 (l : List L34) (hg : ∀ x ∈ l, Gd34 x) (hs : ∀ x ∈ l, SmallA x) (hr : ∀ x ∈ l, smithyref13_Right.f 1000 x = some true) (o : List (List Int)) (ho : ∀ a ∈ o, Gd28 a) (hl : o.length ≤ 100) (A B : CaK) (TA TB : CaT) (hA : ∀ a ∈ o, aget A a = some (rem l a)) (hB : ∀ a ∈ o, aget B a = some (rem l a)) : ∀ (d : List (List Int)) (q i : Nat), o.drop i = d → d.length < q → smithylaw15_ForkWays.l1 1000 o B TB A TA q (i : Int) = some true
  | [], q, i, hd, hq => by
    obtain ⟨q, rfl⟩ : ∃ m, q = m + 1 := ⟨q - 1, by omega⟩
    have : o.length ≤ i := by simpa using hd
    show smithylaw15_ForkWays.b1 _ _ _ _ _ _ _ _ = _
    unfold smithylaw15_ForkWays.b1
    rw [if_neg (by simp; omega)]; rfl
  | x :: d, q, i, hd, hq => by
    simp only [List.length_cons] at hq
    obtain ⟨q, rfl⟩ : ∃ m, q = m + 1 := ⟨q - 1, by omega⟩
    obtain ⟨h1, h2, h3⟩ := gt_dropA hd
    have hx : x ∈ o := List.drop_subset i o (by rw [hd]; exact List.mem_cons_self)
    obtain ⟨f1, f2, f3, f4⟩ := rem_facts hg hs hr (ho x hx)
    show smithylaw15_ForkWays.b1 _ _ _ _ _ _ _ _ = _
    unfold smithylaw15_ForkWays.b1
    rw [if_pos (by simp; omega), if_pos (by omega), h1, account_yes f2 (hA x hx), Option.bind_some, account_yes f2 (hB x hx), Option.bind_some, if_neg (by simp), if_neg (by simp), same_self (rem l x) 1000 (by have := f2.2; omega) (by have := f2.2; omega), Option.bind_some]
    unfold smithylaw15_ForkWays.j5
    rw [if_neg (by simp), next1 i (by omega)]
    exact ways_l1 l hg hs hr o ho hl A B TA TB hA hB d q (i + 1) h3 (by omega)
def One (T : CaT) (a : List Int) : Prop := (∃ n : Int, aget T a = some n ∧ 0 ≤ n ∧ n < 8) ∧ ∀ b, b ≠ a → aget T b = none
theorem ways_l3 (l : List L34) (o : List (List Int)) (B : CaK) (TB : CaT) (A : CaK) (i : Int) (at_ : List Int) (hat : gt o i = at_) (rec2 : Int → CaK → CaT → CaK → CaT → Option Bool) (v1 : List Int) (v2 : Int) (v3 v4 : List Int) (v5 : List (List Int × List Int)) (hno : aget A at_ = none) (n : Nat) (hn : n ≤ 20) : ∀ (r j q : Nat) (T : CaT), j + r = n → r < q → One T at_ → ∃ T', One T' at_ ∧ smithylaw15_ForkWays.l3 1000 l o i B TB rec2 v1 v2 v3 v4 v5 (n : Int) q (j : Int) A T = smithylaw15_ForkWays.j12 1000 l o i B TB rec2 v1 v2 v3 v4 v5 A T'
  | 0, j, q, T, hj, hq, hT => by
    obtain ⟨q, rfl⟩ : ∃ m, q = m + 1 := ⟨q - 1, by omega⟩
    refine ⟨T, hT, ?_⟩
    show smithylaw15_ForkWays.b3 _ _ _ _ _ _ _ _ _ _ _ _ _ _ _ _ _ = _
    unfold smithylaw15_ForkWays.b3
    rw [if_neg (by simp; omega)]
  | r + 1, j, q, T, hj, hq, hT => by
    obtain ⟨q, rfl⟩ : ∃ m, q = m + 1 := ⟨q - 1, by omega⟩
    obtain ⟨⟨v, t1, t2, t3⟩, t4⟩ := hT
    have hw : wr .i64 ((j : Int) + 1) = ((j + 1 : Nat) : Int) := next1 j (by omega)
    have e : smithylaw15_ForkWays.l3 1000 l o i B TB rec2 v1 v2 v3 v4 v5 (n : Int) (q + 1) (j : Int) A T = smithylaw15_ForkWays.b3 1000 l o i B TB rec2 v1 v2 v3 v4 v5 (n : Int) (smithylaw15_ForkWays.l3 1000 l o i B TB rec2 v1 v2 v3 v4 v5 (n : Int) q) (j : Int) A T := rfl
    rw [e]
    unfold smithylaw15_ForkWays.b3
    rw [if_pos (by simp; omega), hat]
    by_cases c : v = 7
    · subst c
      have hd : aget (adel T at_) at_ = none := by rw [aget_adel, if_pos rfl]
      rw [fail_lost t1, Option.bind_some, if_pos (show ((5 : Int) == 5) = true from rfl), want_begun hno hd, Option.bind_some]
      unfold smithylaw15_ForkWays.j13
      rw [hw]
      refine ways_l3 l o B TB A i at_ hat rec2 v1 v2 v3 v4 v5 hno n hn r (j + 1) q _ (by omega) (by omega) ⟨⟨0, by rw [aget_aput, if_pos rfl], by omega, by omega⟩, fun b hb => ?_⟩
      rw [aget_aput, if_neg hb, aget_adel, if_neg hb]; exact t4 b hb
    · rw [fail_again t1 t2 (by omega), Option.bind_some, if_neg (show ¬ ((4 : Int) == 5) = true by decide)]
      unfold smithylaw15_ForkWays.j13
      rw [hw]
      refine ways_l3 l o B TB A i at_ hat rec2 v1 v2 v3 v4 v5 hno n hn r (j + 1) q _ (by omega) (by omega) ⟨⟨v + 1, by rw [aget_aput, if_pos rfl], by omega, by omega⟩, fun b hb => ?_⟩
      rw [aget_aput, if_neg hb]; exact t4 b hb
def Emp (T : CaT) : Prop := ∀ b, aget T b = none
theorem Emp.one {T : CaT} (h : Emp T) (a : List Int) : One (aput T a 0) a :=
  ⟨⟨0, by rw [aget_aput, if_pos rfl], by omega, by omega⟩, fun b hb => by rw [aget_aput, if_neg hb]; exact h b⟩
theorem One.emp {T : CaT} {a : List Int} (h : One T a) : Emp (adel T a) := fun b => by
  rw [aget_adel]
  split
  · rfl
  · rename_i c; exact h.2 b c
theorem CaOk.put {l : List L34} {K : CaK} (h : CaOk l K) (a : List Int) (ha : (rem l a).1 = a) : CaOk l (aput K (rem l a).1 (rem l a)) := fun b x hb => by
  rw [ha, aget_aput] at hb
  split at hb
  · rename_i c; subst c; exact (Option.some.inj hb).symm
  · exact h b x hb
theorem put_keeps {K : CaK} {a b : List Int} {x : L34} (h : aget K b ≠ none) : aget (aput K a x) b ≠ none := by
  rw [aget_aput]
  split
  · simp
  · exact h
theorem ways_l2 (l : List L34) (hll : l.length ≤ 50) (hg : ∀ x ∈ l, Gd34 x) (hs : ∀ x ∈ l, SmallA x) (hr : ∀ x ∈ l, smithyref13_Right.f 1000 x = some true) (o : List (List Int)) (ho : ∀ a ∈ o, Gd28 a) (hl : o.length ≤ 100) (fl : List Int) (hfl : ∀ x ∈ fl, inK .u8 x) : ∀ (r i q : Nat) (A B : CaK) (TA TB : CaT), i + r = o.length → r < q → CaOk l A → CaOk l B → Emp TA → Emp TB → (∀ j : Nat, j < i → aget A (gt o (j : Int)) ≠ none) → (∀ j : Nat, j < i → aget B (gt o ((o.length - 1 - j : Nat) : Int)) ≠ none) → smithylaw15_ForkWays.l2 1000 l o fl q (i : Int) B TB A TA = some true
  | 0, i, q, A, B, TA, TB, hi, hq, hA, hB, eA, eB, kA, kB => by
    obtain ⟨q, rfl⟩ : ∃ m, q = m + 1 := ⟨q - 1, by omega⟩
    show smithylaw15_ForkWays.b2 _ _ _ _ _ _ _ _ _ _ = _
    unfold smithylaw15_ForkWays.b2 smithylaw15_ForkWays.j3
    rw [if_neg (by simp; omega)]
    have hin : ∀ a ∈ o, ∃ j : Nat, j < o.length ∧ gt o (j : Int) = a := fun a ha => by
      obtain ⟨j, hj, e⟩ := List.getElem_of_mem ha
      exact ⟨j, hj, by unfold gt; rw [Int.toNat_natCast, List.getD_eq_getElem?_getD, List.getElem?_eq_getElem hj]; exact e⟩
    have yes : ∀ (K : CaK), CaOk l K → ∀ a, aget K a ≠ none → aget K a = some (rem l a) := fun K hK a h => by
      cases e : aget K a with
      | none => exact absurd e h
      | some x => rw [hK a x e]
    refine ways_l1 l hg hs hr o ho hl A B TA TB (fun a ha => ?_) (fun a ha => ?_) o 1000 0 rfl (by omega)
    · obtain ⟨j, hj, rfl⟩ := hin a ha
      exact yes A hA _ (kA j (by omega))
    · obtain ⟨j, hj, rfl⟩ := hin a ha
      have := kB (o.length - 1 - j) (by omega)
      rw [show o.length - 1 - (o.length - 1 - j) = j by omega] at this
      exact yes B hB _ this
  | r + 1, i, q, A, B, TA, TB, hi, hq, hA, hB, eA, eB, kA, kB => by
    obtain ⟨q, rfl⟩ : ∃ m, q = m + 1 := ⟨q - 1, by omega⟩
    have hmem : ∀ j : Nat, j < o.length → gt o (j : Int) ∈ o := fun j hj => by
      unfold gt; rw [Int.toNat_natCast, List.getD_eq_getElem?_getD, List.getElem?_eq_getElem hj]; exact List.getElem_mem hj
    obtain ⟨f1, f2, f3, f4⟩ := rem_facts hg hs hr (ho _ (hmem i (by omega)))
    have hbk : wr .i64 (wr .i64 ((o.length : Int) - 1) - (i : Int)) = ((o.length - 1 - i : Nat) : Int) := by
      rw [wr_i64_id (x := (o.length : Int) - 1) (by omega) (by omega), wr_i64_id (by omega) (by omega)]; omega
    obtain ⟨g1, g2, g3, g4⟩ := rem_facts hg hs hr (ho _ (hmem (o.length - 1 - i) (by omega)))
    have hw : wr .i64 ((i : Int) + 1) = ((i + 1 : Nat) : Int) := next1 i (by omega)
    have j8 : ∀ (A' : CaK) (TA' : CaT), CaOk l A' → Emp TA' → (∀ j : Nat, j < i + 1 → aget A' (gt o (j : Int)) ≠ none) → smithylaw15_ForkWays.j8 1000 l o (i : Int) B TB (smithylaw15_ForkWays.l2 1000 l o fl q) A' TA' = some true := fun A' TA' hA' eA' kA' => by
      unfold smithylaw15_ForkWays.j8
      rw [hbk, if_pos (by omega)]
      obtain ⟨t, h1, h2, h3⟩ := find_rem l (gt o ((o.length - 1 - i : Nat) : Int)) hll
      rw [h1, Option.bind_some]
      have j9 : ∀ (x : L34), rem l (gt o ((o.length - 1 - i : Nat) : Int)) = x → smithylaw15_ForkWays.j9 1000 o (i : Int) B TB (smithylaw15_ForkWays.l2 1000 l o fl q) A' TA' x.1 x.2.1 x.2.2.1 x.2.2.2.1 x.2.2.2.2 = some true := fun x hx => by
        unfold smithylaw15_ForkWays.j9
        rw [hbk]
        subst hx
        cases e : aget B (gt o ((o.length - 1 - i : Nat) : Int)) with
        | some y =>
          rw [want_known e, Option.bind_some, if_neg (show ¬ ((1 : Int) == 3) = true by decide)]
          unfold smithylaw15_ForkWays.j10 smithylaw15_ForkWays.j6
          rw [if_neg (by simp), hw]
          refine ways_l2 l hll hg hs hr o ho hl fl hfl r (i + 1) q A' B TA' TB (by omega) (by omega) hA' hB eA' eB kA' (fun j hj => ?_)
          by_cases c : j = i
          · subst c; rw [e]; simp
          · exact kB j (by omega)
        | none =>
          rw [want_begun e (eB _), Option.bind_some, if_pos (show ((3 : Int) == 3) = true from rfl)]
          have o1 := eB.one (gt o ((o.length - 1 - i : Nat) : Int))
          obtain ⟨v, v1, -, -⟩ := o1.1
          have := fill_yes (K := B) (k := 1000) g1 g2 (by omega) g3 (by rw [g4]; exact v1)
          rw [show ((rem l (gt o ((o.length - 1 - i : Nat) : Int))).1, (rem l (gt o ((o.length - 1 - i : Nat) : Int))).2.1, (rem l (gt o ((o.length - 1 - i : Nat) : Int))).2.2.1, (rem l (gt o ((o.length - 1 - i : Nat) : Int))).2.2.2.1, (rem l (gt o ((o.length - 1 - i : Nat) : Int))).2.2.2.2) = rem l (gt o ((o.length - 1 - i : Nat) : Int)) from rfl, this, Option.bind_some]
          unfold smithylaw15_ForkWays.j10 smithylaw15_ForkWays.j6
          rw [if_neg (by simp), hw]
          refine ways_l2 l hll hg hs hr o ho hl fl hfl r (i + 1) q A' _ TA' _ (by omega) (by omega) hA' (hB.put _ g4) eA' (by rw [g4]; exact o1.emp) kA' (fun j hj => ?_)
          by_cases c : j = i
          · subst c; rw [aget_aput, g4, if_pos rfl]; simp
          · exact put_keeps (kB j (by omega))
      by_cases c : t.2 = true
      · rw [c, if_neg (by simp)]
        exact j9 t.1 (h3 c)
      · rw [Bool.not_eq_true] at c
        rw [c, if_pos (by simp)]
        exact j9 (_, _, _, _, _) (h2 c)
    have e0 : smithylaw15_ForkWays.l2 1000 l o fl (q + 1) (i : Int) B TB A TA = smithylaw15_ForkWays.b2 1000 l o fl (smithylaw15_ForkWays.l2 1000 l o fl q) (i : Int) B TB A TA := rfl
    rw [e0]
    unfold smithylaw15_ForkWays.b2
    rw [if_pos (by simp; omega), if_pos (by omega)]
    obtain ⟨t, h1, h2, h3⟩ := find_rem l (gt o (i : Int)) hll
    rw [h1, Option.bind_some]
    have j7 : ∀ (x : L34), rem l (gt o (i : Int)) = x → smithylaw15_ForkWays.j7 1000 l o fl (i : Int) B TB A TA (smithylaw15_ForkWays.l2 1000 l o fl q) x.1 x.2.1 x.2.2.1 x.2.2.2.1 x.2.2.2.2 = some true := fun x hx => by
      unfold smithylaw15_ForkWays.j7
      subst hx
      cases e : aget A (gt o (i : Int)) with
      | some y =>
        rw [want_known e, Option.bind_some, if_neg (show ¬ ((1 : Int) == 3) = true by decide)]
        refine j8 A TA hA eA (fun j hj => ?_)
        by_cases c : j = i
        · subst c; rw [e]; simp
        · exact kA j (by omega)
      | none =>
        rw [want_begun e (eA _), Option.bind_some, if_pos (show ((3 : Int) == 3) = true from rfl)]
        have j11 : ∀ n : Nat, n ≤ 20 → smithylaw15_ForkWays.j11 1000 l o (i : Int) B TB (smithylaw15_ForkWays.l2 1000 l o fl q) (rem l (gt o (i : Int))).1 (rem l (gt o (i : Int))).2.1 (rem l (gt o (i : Int))).2.2.1 (rem l (gt o (i : Int))).2.2.2.1 (rem l (gt o (i : Int))).2.2.2.2 (3, (A, aput TA (gt o (i : Int)) 0)) (n : Int) = some true := fun n hn => by
          unfold smithylaw15_ForkWays.j11
          obtain ⟨T', o1, e1⟩ := ways_l3 l o B TB A (i : Int) _ rfl (smithylaw15_ForkWays.l2 1000 l o fl q) (rem l (gt o (i : Int))).1 (rem l (gt o (i : Int))).2.1 (rem l (gt o (i : Int))).2.2.1 (rem l (gt o (i : Int))).2.2.2.1 (rem l (gt o (i : Int))).2.2.2.2 e n hn n 0 1000 _ (by omega) (by omega) (eA.one (gt o (i : Int)))
          refine e1.trans ?_
          unfold smithylaw15_ForkWays.j12
          obtain ⟨v, v1, -, -⟩ := o1.1
          have := fill_yes (K := A) (k := 1000) f1 f2 (by omega) f3 (by rw [f4]; exact v1)
          rw [show ((rem l (gt o (i : Int))).1, (rem l (gt o (i : Int))).2.1, (rem l (gt o (i : Int))).2.2.1, (rem l (gt o (i : Int))).2.2.2.1, (rem l (gt o (i : Int))).2.2.2.2) = rem l (gt o (i : Int)) from rfl, this, Option.bind_some, if_neg (by simp)]
          refine j8 _ _ (hA.put _ f4) (by rw [f4]; exact o1.emp) (fun j hj => ?_)
          by_cases c : j = i
          · subst c; rw [aget_aput, f4, if_pos rfl]; simp
          · exact put_keeps (kA j (by omega))
        by_cases c : (i : Int) < (fl.length : Int)
        · rw [if_pos (decide_eq_true c), if_pos (by omega)]
          have hb : 0 ≤ rd fl (i : Int) ∧ rd fl (i : Int) < 256 := by
            have : rd fl (i : Int) ∈ fl := by
              unfold rd; rw [Int.toNat_natCast, List.getD_eq_getElem?_getD, List.getElem?_eq_getElem (by omega)]; exact List.getElem_mem _
            exact inK_u8 (hfl _ this)
          rw [wr_i64_id (by omega) (by omega), tmod_pos hb.1]
          obtain ⟨n, hn⟩ : ∃ n : Nat, rd fl (i : Int) % 20 = (n : Int) := ⟨(rd fl (i : Int) % 20).toNat, by omega⟩
          rw [hn]
          exact j11 n (by omega)
        · rw [if_neg (by simpa using c)]
          exact j11 0 (by omega)
    by_cases c : t.2 = true
    · rw [c, if_neg (by simp)]
      exact j7 t.1 (h3 c)
    · rw [Bool.not_eq_true] at c
      rw [c, if_pos (by simp)]
      exact j7 (_, _, _, _, _) (h2 c)
theorem ways_l4 (l : List L34) (hl : l.length ≤ 50) (hg : ∀ x ∈ l, Gd34 x) (hs : ∀ x ∈ l, SmallA x) (o : List (List Int)) (fl : List Int) (fx : smithylaw15_fixed.f 1000 = some true) (hj : (∀ x ∈ l, smithyref13_Right.f 1000 x = some true) → smithylaw15_ForkWays.j2 1000 l o fl = some true) : ∀ (d : List L34) (q i : Nat), l.drop i = d → i ≤ l.length → d.length < q → (∀ x ∈ l.take i, smithyref13_Right.f 1000 x = some true) → smithylaw15_ForkWays.l4 1000 l o fl q (i : Int) = some true
  | [], q, i, hd, hi, hq, hr => by
    obtain ⟨q, rfl⟩ : ∃ m, q = m + 1 := ⟨q - 1, by omega⟩
    have : l.length ≤ i := by simpa using hd
    show smithylaw15_ForkWays.b4 _ _ _ _ _ _ = _
    unfold smithylaw15_ForkWays.b4
    rw [if_neg (by simp; omega)]
    rw [List.take_of_length_le this] at hr
    exact hj hr
  | x :: d, q, i, hd, hi, hq, hr => by
    simp only [List.length_cons] at hq
    obtain ⟨q, rfl⟩ : ∃ m, q = m + 1 := ⟨q - 1, by omega⟩
    obtain ⟨h1, h2, h3⟩ := gt_dropA hd
    have hx : x ∈ l := List.drop_subset i l (by rw [hd]; exact List.mem_cons_self)
    show smithylaw15_ForkWays.b4 _ _ _ _ _ _ = _
    unfold smithylaw15_ForkWays.b4
    obtain ⟨b, b1, b2⟩ := rights_eq 960 x (hg x hx).2.2.2.2 (by have := (hs x hx).2; omega)
    rw [if_pos (by simp; omega), if_pos (by omega), h1, show smithyref13_Right.f 1000 x = some b from b2, Option.bind_some, fx, next1 i (by omega)]
    cases b
    · rw [if_pos (by simp)]; rfl
    · rw [if_neg (by simp)]
      refine ways_l4 l hl hg hs o fl fx hj d q (i + 1) h3 (by omega) (by omega) (fun y hy => ?_)
      rw [List.take_succ_eq_append_getElem h2] at hy
      rcases List.mem_append.1 hy with hy | hy
      · exact hr y hy
      · rw [List.drop_eq_getElem_cons h2] at hd
        simp only [List.cons.injEq] at hd
        rw [List.mem_singleton.1 hy, hd.1]
        exact b2
theorem smithylaw15_ForkWays_true (a0 : List L34) (a1 : List (List Int)) (a2 : List Int) (w0 : Gd22 a0) (w1 : Gd23 a1) (w2 : Gd24 a2) : ∃ k : Nat, smithylaw15_ForkWays.f k a0 a1 a2 = some true := by
  refine ⟨1000, ?_⟩
  have fx : smithylaw15_fixed.f 1000 = some true := by kernel_rfl
  unfold smithylaw15_ForkWays.f
  rcases great13 a0 1000 (by omega) with h | ⟨h, hl, h2⟩
  · rw [h, Option.bind_some, if_pos rfl]
    unfold smithylaw15_ForkWays.j1
    rw [if_pos rfl, fx]; rfl
  · rw [h, Option.bind_some, if_neg (by simp)]
    unfold smithylaw15_ForkWays.j1
    by_cases c : (100 : Int) < (a1.length : Int)
    · rw [if_pos (decide_eq_true c), fx]; rfl
    · rw [if_neg (by simpa using c)]
      refine ways_l4 a0 hl (fun x hx => w0.1 x hx) h2 a1 a2 fx (fun hr => ?_) a0 1000 0 rfl (by omega) (by omega) (by simp)
      unfold smithylaw15_ForkWays.j2
      rw [show fork_New.f = some (([] : CaK), ([] : CaT)) from rfl, Option.bind_some, Option.bind_some, fx, Option.bind_some, if_neg (by simp)]
      exact ways_l2 a0 hl (fun x hx => w0.1 x hx) h2 hr a1 (fun a ha => w1.1 a ha) (by omega) a2 w2.1 a1.length 0 1000 [] [] [] [] (by omega) (by omega) (fun a x h => by cases h) (fun a x h => by cases h) (fun _ => rfl) (fun _ => rfl) (fun j hj => by omega) (fun j hj => by omega)
end GW
