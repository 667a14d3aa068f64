import Derived.Test.YtoiopiiljblpjaaDoorPureGreat
import Derived.Test.YtoiopiiljblpjaaDoorPureRoot
import Derived.Test.YtoiopiiljblpjaaDoorPureHdr
import Derived.Test.YtoiopiiljblpjaaDoorPureFee
set_option linter.unusedVariables false
set_option linter.unusedSimpArgs false
set_option maxRecDepth 100000
namespace GW
open Go Go.RowKit
section
variable {kF : Nat}
theorem kword_eq (b : List Int) (hb : b.length = 32) (hk : 700000 < kF) : ∃ w, keccak_Word.f (kF + 200) b = some w ∧ smithyref05_Word.f (kF + 200) b = some w ∧ Wd w := by
  obtain ⟨h, h1, h2, h3, h4⟩ := sums_eq (kF := kF) b (by omega) (by omega)
  have e1 : word_From.f (kF + 200) h = some (wfrom h) := from_f (kF + 160) h3 h4
  have e2 : smithyref01_From.f (kF + 200) h = some (dfrom h) := dfrom_f (kF + 160) h3
  have e3 : smithyref01_D_Word.f (kF + 200) (dfrom h) = some (wfrom h) := dword_f (kF + 160) h3 h4
  refine ⟨wfrom h, ?_, ?_, ?_⟩
  · unfold keccak_Word.f
    rw [h1, Option.bind_some, cut32 h3, e1]; rfl
  · unfold smithyref05_Word.f
    rw [h2, Option.bind_some, cut32 h3, e2, Option.bind_some, e3]; rfl
  · have hb' : ∀ i : Nat, (rd h (i : Int)).toNat < 256 := fun i => by
      have : rd h (i : Int) = h.getD i 0 := rfl
      rw [this, List.getD_eq_getElem?_getD]
      by_cases hi : i < h.length
      · rw [List.getElem?_eq_getElem hi]
        have := h4 _ (List.getElem_mem hi)
        simp only [Option.getD_some]; omega
      · rw [List.getElem?_eq_none (by omega)]; decide
    refine ⟨rfl, fun y hy => ?_⟩
    simp only [wfrom, List.mem_cons, List.not_mem_nil, or_false] at hy
    rcases hy with rfl | rfl | rfl | rfl
    all_goals
      refine inK_of_u64 (by omega) ?_
      exact Int.ofNat_lt.2 (num8_lt (hb' _) (hb' _) (hb' _) (hb' _) (hb' _) (hb' _) (hb' _) (hb' _))
abbrev HD := (List Int) × Int × Int × Int × Int × (List Int) × (List Int) × (List Int) × (List Int) × (List Int)
theorem hgd32 {z : List Int} (h1 : z.length = 32) (h2 : ∀ x ∈ z, 0 ≤ x ∧ x < 256) : z.length = 32 ∧ ∀ y ∈ z, inK .u8 y := ⟨h1, fun y hy => by
  obtain ⟨a, b⟩ := h2 y hy
  have : y ≤ 255 := by omega
  simpa [inK, Lit.wf, IntKind.min, IntKind.max, IntKind.signed, IntKind.bits] using And.intro a this⟩
theorem next_eq (x : HD) (hx : Gd30 x) (t l : Int) (ht : inK .u64 t) (hl : inK .u64 l) (hk : 700000 < kF) : ∃ y : HD, block_Next.f (kF + 200) x t l = some y ∧ smithyref23_Next.f (kF + 200) x t l = some y ∧ y.2.2.1 = t ∧ y.2.2.2.1 = l ∧ y.2.2.2.2.2.2.1 = x.2.2.2.2.2.2.1 ∧ Gd30 y := by
  obtain ⟨h, h1, h2, h3, h4⟩ := hash_hdr (kF := kF) x hx (by omega)
  obtain ⟨f, f1, f2, f3⟩ := feeNext_eq (kF - 4800) (base := x.2.2.2.2.2.1) ⟨hx.2.2.2.2.2.1.1, hx.2.2.2.2.2.1.2⟩ (used := x.2.2.2.2.1) (limit := x.2.2.2.1) (inK_u64 hx.2.2.2.2.1) (inK_u64 hx.2.2.2.1)
  rw [show kF - 4800 + 5000 = kF + 200 by omega] at f1 f2
  obtain ⟨w, w1, w2, w3⟩ := kword_eq (kF := kF) h h3 hk
  obtain ⟨r, r1, r2, r3, r4⟩ := root_eq (kF := kF) [] (by simp) (fun b hb => by cases hb) (by omega)
  refine ⟨(h, wr .u64 (x.2.1 + 1), t, l, 0, f, x.2.2.2.2.2.2.1, w, r, r), ?_, ?_, rfl, rfl, rfl, hgd32 h3 h4, ?_, ht, hl, (show inK .u64 0 from inK_of_u64 (by omega) (by omega)), ⟨f3.1, f3.2⟩, hx.2.2.2.2.2.2.1, ⟨w3.1, w3.2⟩, hgd32 r3 r4, hgd32 r3 r4⟩
  · unfold block_Next.f
    rw [show block_Hash.f (kF + 200) (x.1, x.2.1, x.2.2.1, x.2.2.2.1, x.2.2.2.2.1, x.2.2.2.2.2.1, x.2.2.2.2.2.2.1, x.2.2.2.2.2.2.2.1, x.2.2.2.2.2.2.2.2.1, x.2.2.2.2.2.2.2.2.2) = some h from h1, Option.bind_some, f1, Option.bind_some, cut32 h3, w1, Option.bind_some, r1]; rfl
  · unfold smithyref23_Next.f
    rw [r2, Option.bind_some, show smithyref23_Hash.f (kF + 200) (x.1, x.2.1, x.2.2.1, x.2.2.2.1, x.2.2.2.2.1, x.2.2.2.2.2.1, x.2.2.2.2.2.2.1, x.2.2.2.2.2.2.2.1, x.2.2.2.2.2.2.2.2.1, x.2.2.2.2.2.2.2.2.2) = some h from h2, Option.bind_some, f2, Option.bind_some, cut32 h3, w2]; rfl
  · show inK .u64 (wr .u64 (x.2.1 + 1))
    rw [wr_u64]
    exact inK_of_u64 (by omega) (by omega)
theorem genesis_eq (t l : Int) (b : List Int) (hk : 700000 < kF) : ∃ y : HD, block_Genesis.f (kF + 200) t l b = some y ∧ smithyref23_Genesis.f (kF + 200) t l b = some y := by
  obtain ⟨r, r1, r2, r3, r4⟩ := root_eq (kF := kF) [] (by simp) (fun b hb => by cases hb) (by omega)
  refine ⟨(List.replicate 32 0, 0, t, l, 0, b, List.replicate 20 0, [0, 0, 0, 0], r, r), ?_, ?_⟩
  · unfold block_Genesis.f
    rw [r1]; rfl
  · unfold smithyref23_Genesis.f
    rw [r2]; rfl
theorem seal_loop (x : HD) (rs : List Rc) (hrs : rs.length ≤ 20) (tx : List (List Int)) (hk : 700000 < kF) : ∀ (l : List Rc) (q i : Nat) (acc : List (List Int)) (u : Int), rs.drop i = l → i ≤ rs.length → l.length < q → (∀ r ∈ l, GRc r) → acc.length = i → (∀ b ∈ acc, b.length = 32) →
    ∃ acc' u', block_Seal.l1 (kF + 200) x rs tx q acc (i : Int) u = block_Seal.j1 (kF + 200) x tx acc' u' ∧ smithyref23_Seal.l1 (kF + 200) x rs tx q (i : Int) acc u = smithyref23_Seal.j1 (kF + 200) x tx acc' u' ∧ acc'.length ≤ 20 ∧ ∀ b ∈ acc', b.length = 32 := by
  intro l
  induction l with
  | nil =>
    intro q i acc u hd hi hq hg ha hb
    obtain ⟨q, rfl⟩ : ∃ m, q = m + 1 := ⟨q - 1, by omega⟩
    have : rs.length ≤ i := by simpa using hd
    refine ⟨acc, u, ?_, ?_, by omega, hb⟩
    · show block_Seal.b1 _ _ _ _ _ _ _ _ = _
      unfold block_Seal.b1
      rw [if_neg (by simp; omega)]
    · show smithyref23_Seal.b1 _ _ _ _ _ _ _ _ = _
      unfold smithyref23_Seal.b1
      rw [if_neg (by simp; omega)]
  | cons r l ih =>
    intro q i acc u hd hi hq hg ha hb
    simp only [List.length_cons] at hq
    obtain ⟨q, rfl⟩ : ∃ m, q = m + 1 := ⟨q - 1, by omega⟩
    obtain ⟨g, hi2, hr⟩ := gt_dropG hd
    obtain ⟨z, z1, z2, z3, z4⟩ := receipt_eq (kF := kF) r (hg r (by simp)) (by omega)
    obtain ⟨acc', u', e1, e2, e3, e4⟩ := ih q (i + 1) (acc ++ [z]) (wr .u64 (u + r.2.2.2.1)) hr (by omega) (by omega) (fun y hy => hg y (by simp [hy])) (by simp [ha]) (fun b hb' => by
      rcases List.mem_append.1 hb' with h | h
      · exact hb b h
      · obtain rfl := List.mem_singleton.1 h; exact z3)
    have hw : wr .i64 ((i : Int) + 1) = ((i + 1 : Nat) : Int) := by rw [wr_i64_id (by omega) (by omega)]; omega
    refine ⟨acc', u', ?_, ?_, e3, e4⟩
    · refine Eq.trans ?_ e1
      show block_Seal.b1 _ _ _ _ _ _ _ _ = _
      unfold block_Seal.b1
      simp only [g]
      rw [if_pos (by simp; omega), if_pos (by omega), show block_Receipt.f (kF + 200) (r.1, r.2.1, r.2.2.1, r.2.2.2.1, r.2.2.2.2.1, r.2.2.2.2.2.1, r.2.2.2.2.2.2.1, r.2.2.2.2.2.2.2) = some z from z1, Option.bind_some, if_pos (by simp; omega), hw]
    · refine Eq.trans ?_ e2
      show smithyref23_Seal.b1 _ _ _ _ _ _ _ _ = _
      unfold smithyref23_Seal.b1
      simp only [g]
      rw [if_pos (by simp; omega), if_pos (by omega), show smithyref23_Receipt.f (kF + 200) (r.1, r.2.1, r.2.2.1, r.2.2.2.1, r.2.2.2.2.1, r.2.2.2.2.2.1, r.2.2.2.2.2.2.1, r.2.2.2.2.2.2.2) = some z from z2, Option.bind_some, if_pos (by simp; omega), hw]
theorem seal_eq (x : HD) (rs : List Rc) (hrs : rs.length ≤ 20) (hg : ∀ r ∈ rs, GRc r) (tx : List (List Int)) (htx : tx.length ≤ 100 ∧ ∀ b ∈ tx, b.length = 32) (hk : 700000 < kF) : ∃ y : HD, block_Seal.f (kF + 200) x rs tx = some y ∧ smithyref23_Seal.f (kF + 200) x rs tx = some y := by
  obtain ⟨acc, u, e1, e2, e3, e4⟩ := seal_loop (kF := kF) x rs hrs tx hk rs (kF + 200) 0 [] 0 rfl (by omega) (by omega) hg rfl (fun b hb => by cases hb)
  obtain ⟨r, r1, r2, r3, r4⟩ := root_eq (kF := kF) tx (by omega) htx.2 (by omega)
  obtain ⟨s, s1, s2, s3, s4⟩ := root_eq (kF := kF) acc (by omega) e4 (by omega)
  refine ⟨(x.1, x.2.1, x.2.2.1, x.2.2.2.1, u, x.2.2.2.2.2.1, x.2.2.2.2.2.2.1, x.2.2.2.2.2.2.2.1, r, s), ?_, ?_⟩
  · unfold block_Seal.f
    refine e1.trans ?_
    unfold block_Seal.j1
    rw [r1, Option.bind_some, s1]; rfl
  · unfold smithyref23_Seal.f
    refine e2.trans ?_
    unfold smithyref23_Seal.j1
    rw [r2, Option.bind_some, s2]; rfl
end
theorem law_l2 (k : Nat) (hk : 100 < k) (x1 : HD) (x2 x3 : Int) (x4 : List Rc) (hx4 : x4.length ≤ 20) (x5 : List (List Int)) (hg : ∀ r ∈ x4, Gd39 r) (R : Option Bool) (hfx : smithylaw23_fixed.f k = R) : ∀ (l : List Rc) (q i : Nat), x4.drop i = l → i ≤ x4.length → l.length < q → (smithylaw23_BlockNext.l2 k x1 x2 x3 x4 x5 q (i : Int) = R.bind some) ∨ (smithylaw23_BlockNext.l2 k x1 x2 x3 x4 x5 q (i : Int) = smithylaw23_BlockNext.j2 k x1 x2 x3 x4 x5 ∧ ∀ r ∈ l, GRc r) := by
  intro l
  induction l with
  | nil =>
    intro q i hd hi hq
    obtain ⟨q, rfl⟩ : ∃ m, q = m + 1 := ⟨q - 1, by omega⟩
    have : x4.length ≤ i := by simpa using hd
    refine Or.inr ⟨?_, fun r hr => by cases hr⟩
    show smithylaw23_BlockNext.b2 _ _ _ _ _ _ _ _ = _
    unfold smithylaw23_BlockNext.b2
    rw [if_neg (by simp; omega)]
  | cons r l ih =>
    intro q i hd hi hq
    simp only [List.length_cons] at hq
    obtain ⟨q, rfl⟩ : ∃ m, q = m + 1 := ⟨q - 1, by omega⟩
    obtain ⟨g, hi2, hr⟩ := gt_dropG hd
    have hm : r ∈ x4 := List.mem_of_mem_drop (i := i) (by rw [hd]; simp)
    have e : smithylaw23_BlockNext.l2 k x1 x2 x3 x4 x5 (q + 1) (i : Int) = (smithyref23_Great.f k r).bind fun t => if t = true then R.bind some else smithylaw23_BlockNext.l2 k x1 x2 x3 x4 x5 q ((i + 1 : Nat) : Int) := by
      show smithylaw23_BlockNext.b2 _ _ _ _ _ _ _ _ = _
      unfold smithylaw23_BlockNext.b2
      simp only [g]
      rw [if_pos (by simp; omega), if_pos (by omega), hfx, wr_i64_id (by omega) (by omega)]
      rfl
    rw [e]
    rcases great23 r k hk with h | ⟨h, h1, h2, h3⟩
    · rw [h, Option.bind_some, if_pos rfl]; exact Or.inl rfl
    · rw [h, Option.bind_some, if_neg (by simp)]
      rcases ih q (i + 1) hr (by omega) (by omega) with h' | ⟨h', h4⟩
      · exact Or.inl h'
      · refine Or.inr ⟨h', fun y hy => ?_⟩
        rcases List.mem_cons.1 hy with rfl | hy
        · exact grc_of y (hg y hm) h1 h2 h3
        · exact h4 y hy
theorem law_l1 (k : Nat) (x1 : HD) (x2 x3 : Int) (x4 : List Rc) (x5 : List (List Int)) (hx5 : x5.length ≤ 100) (t2 : HD) (t3 : Int × Int × Int × (List Int) × (List Int) × (List Int) × Int × (List (List Int))) (h3 : t3.2.2.2.2.2.2.2 = x5) : ∀ (r i q : Nat), i + r = x5.length → r < q → smithylaw23_BlockNext.l1 k x1 x2 x3 x4 x5 t2 t3 q (i : Int) = smithylaw23_BlockNext.j4 k x1 x2 x3 x4 x5 t2
  | 0, i, q, hi, hq => by
    obtain ⟨q, rfl⟩ : ∃ m, q = m + 1 := ⟨q - 1, by omega⟩
    show smithylaw23_BlockNext.b1 _ _ _ _ _ _ _ _ _ _ = _
    unfold smithylaw23_BlockNext.b1
    rw [if_neg (by simp; omega)]
  | r + 1, i, q, hi, hq => by
    obtain ⟨q, rfl⟩ : ∃ m, q = m + 1 := ⟨q - 1, by omega⟩
    show smithylaw23_BlockNext.b1 _ _ _ _ _ _ _ _ _ _ = _
    unfold smithylaw23_BlockNext.b1
    rw [if_pos (by simp; omega), h3, if_pos (by omega), if_pos (by omega), if_neg (by simp), wr_i64_id (by omega) (by omega)]
    exact law_l1 k x1 x2 x3 x4 x5 hx5 t2 t3 h3 r (i + 1) q (by omega) (by omega)
theorem smithylaw23_BlockNext_true (a0 : (List Int) × Int × Int × Int × Int × (List Int) × (List Int) × (List Int) × (List Int) × (List Int)) (a1 : Int) (a2 : Int) (a3 : List ((List Int) × Int × Bool × Int × (List Int) × (List Int) × (List ((List Int) × (List (List Int)) × (List Int))) × (List Int))) (a4 : List (List Int)) (w0 : Gd30 a0) (w1 : inK .u64 a1) (w2 : inK .u64 a2) (w3 : Gd42 a3) (w4 : Gd31 a4) : ∃ k : Nat, smithylaw23_BlockNext.f k a0 a1 a2 a3 a4 = some true := by
  refine ⟨900000 + 200, ?_⟩
  have fx := fixed23 (kF := 900000) (by omega)
  have j1t : smithylaw23_BlockNext.j1 (900000 + 200) a0 a1 a2 a3 a4 true = some true := by
    unfold smithylaw23_BlockNext.j1
    rw [if_pos rfl, fx]; rfl
  unfold smithylaw23_BlockNext.f
  by_cases c1 : (20 : Int) < (a3.length : Int)
  · rw [if_pos (by simpa using c1), j1t]
  rw [if_neg (by simpa using c1)]
  by_cases c2 : (100 : Int) < (a4.length : Int)
  · rw [decide_eq_true c2, j1t]
  rw [decide_eq_false c2]
  unfold smithylaw23_BlockNext.j1
  rw [if_neg (by simp)]
  rcases law_l2 (900000 + 200) (by omega) a0 a1 a2 a3 (by omega) a4 w3.1 _ fx a3 (900000 + 200) 0 rfl (by omega) (by omega) with h | ⟨h, hg⟩
  · exact h
  refine h.trans ?_
  obtain ⟨y, y1, y2, y3, y4, y5, y6⟩ := next_eq (kF := 900000) a0 w0 a1 a2 w1 w2 (by omega)
  obtain ⟨z, z1, z2⟩ := genesis_eq (kF := 900000) a1 a2 a0.2.2.2.2.2.1 (by omega)
  obtain ⟨s, s1, s2⟩ := seal_eq (kF := 900000) y a3 (by omega) hg a4 ⟨by omega, fun b hb => (w4.1 b hb).1⟩ (by omega)
  have env : block_Env.f y 7 a4 = some (y.2.1, y.2.2.1, y.2.2.2.1, y.2.2.2.2.2.2.1, y.2.2.2.2.2.1, y.2.2.2.2.2.2.2.1, 7, a4) := by
    unfold block_Env.f api_Hash_n38.f
    rw [if_pos (by simp; omega)]; rfl
  unfold smithylaw23_BlockNext.j2
  show ((block_Next.f (900000 + 200) a0 a1 a2).bind _) = _
  rw [y1, Option.bind_some]
  show ((block_Env.f y 7 a4).bind _) = _
  rw [env, Option.bind_some]
  simp only []
  rw [if_neg (by simp), if_neg (by simp [y3]), if_neg (by simp [y4]), if_neg (by simp), if_neg (by simp), if_neg (by simp), if_neg (by simp)]
  unfold smithylaw23_BlockNext.j3
  rw [if_neg (by simp)]
  refine (law_l1 (900000 + 200) a0 a1 a2 a3 a4 (by omega) y _ rfl a4.length 0 (900000 + 200) (by omega) (by omega)).trans ?_
  unfold smithylaw23_BlockNext.j4
  rw [fx, Option.bind_some, if_pos rfl]
  show ((smithyref23_Next.f (900000 + 200) a0 a1 a2).bind _) = _
  rw [y2, Option.bind_some, if_pos (by simp), z1, Option.bind_some, z2, Option.bind_some, if_pos (by simp)]
  show ((block_Seal.f (900000 + 200) y a3 a4).bind _) = _
  rw [s1, Option.bind_some]
  show ((smithyref23_Seal.f (900000 + 200) y a3 a4).bind _) = _
  rw [s2, Option.bind_some]
  simp
end GW
