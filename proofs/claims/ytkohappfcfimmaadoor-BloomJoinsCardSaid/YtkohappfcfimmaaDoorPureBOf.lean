/-
  Filters: what is added, what they have.
-/
import Derived.Test.YtkohappfcfimmaaDoorPureBBits
import Derived.Test.YtkohappfcfimmaaDoorPureBytes
set_option linter.unusedVariables false
set_option linter.unusedSimpArgs false
set_option maxRecDepth 100000
namespace GW
open Go Go.RowKit
theorem gt_dropG {α : Type} [Inhabited α] {x : List α} {i : Nat} {a : α} {r : List α} (h : x.drop i = a :: r) : gt x (i : Int) = a ∧ i < x.length ∧ x.drop (i + 1) = r := by
  have hl : i < x.length := by
    refine Decidable.byContradiction fun c => ?_
    rw [List.drop_eq_nil_of_le (by omega)] at h
    cases h
  rw [List.drop_eq_getElem_cons hl] at h
  simp only [List.cons.injEq] at h
  exact ⟨by rw [gt_get x (i : Int) (by simpa using hl)]; simpa using h.1, hl, h.2⟩
theorem cut20 {a : List Int} (h : a.length = 20) : (a.drop 0).take 20 = a := by rw [List.drop_zero, List.take_of_length_le (by omega)]
theorem cut32 {a : List Int} (h : a.length = 32) : (a.drop 0).take 32 = a := by rw [List.drop_zero, List.take_of_length_le (by omega)]
theorem next_i (i : Nat) (h : i < 1000000000) : wr .i64 ((i : Int) + 1) = ((i + 1 : Nat) : Int) := by rw [wr_i64_id (by omega) (by omega)]; omega
/-- The places of some bytes. -/
def plc (kF : Nat) (b : List Int) : List Nat := ((bloom_places.f (kF + 200) b).getD []).map Int.toNat
section
variable {kF : Nat}
theorem plc_eq (hk : 20 < kF) {b : List Int} (hf : b.length < 2000 ∧ b.length + 300 < kF + 200) : ∃ p : Nat × Nat × Nat, plc kF b = [p.1, p.2.1, p.2.2] ∧ p.1 < 2048 ∧ p.2.1 < 2048 ∧ p.2.2 < 2048 ∧
    bloom_places.f (kF + 200) b = some [(p.1 : Int), (p.2.1 : Int), (p.2.2 : Int)] ∧ smithyref29_Places.f (kF + 200) b = some [(p.1 : Int), (p.2.1 : Int), (p.2.2 : Int)] := by
  obtain ⟨t, p, h1, h2, h3, h4, h5, h6⟩ := places_eq hk b (by omega) hf.2
  subst h3
  exact ⟨p, by unfold plc; rw [h1]; rfl, h4, h5, h6, h1, h2⟩
theorem at_place {t : List Int} {i p : Nat} (hp : p < 2048) : wr .i64 (255 - wr .i64 (Int.tdiv (p : Int) 8)) = ((255 - p / 8 : Nat) : Int) ∧ (0 : Int) ≤ Int.tmod (p : Int) 8 ∧ min (Int.toNat (Int.tmod (p : Int) 8)) 8 = p % 8 := by
  refine ⟨?_, ?_, ?_⟩
  · rw [tdiv_pos (by omega), wr_i64_id (x := (p : Int) / 8) (by omega) (by omega), wr_i64_id (by omega) (by omega)]; omega
  · rw [tmod_pos (by omega)]; omega
  · rw [tmod_pos (by omega)]; omega
theorem badd_step (t : List Int) (q i p : Nat) (y : List Int) (hi : i < 3) (ht : rd t (i : Int) = (p : Int)) (hp : p < 2048) (hy : Fl y) : ∃ y', bloom_Add.l1 t (q + 1) (i : Int) y = bloom_Add.l1 t q ((i + 1 : Nat) : Int) y' ∧ Fl y' ∧ ∀ n, n < 2048 → bitN y' n = (bitN y n || decide (n = p)) := by
  obtain ⟨v, e1, e2, e3, e4⟩ := bit_set y hy p hp
  obtain ⟨f1, f2, f3⟩ := at_place (t := t) (i := i) hp
  refine ⟨y.set (255 - p / 8) (v : Int), ?_, e3, e4⟩
  show bloom_Add.b1 _ _ _ _ = _
  unfold bloom_Add.b1
  rw [if_pos (by simp; omega), if_pos (by omega), ht, f1, if_pos (by omega), if_pos f2, f3, e1, next_i i (by omega), Int.toNat_natCast]
theorem badd_eq (hk : 20 < kF) {b d : List Int} (hb : Fl b) (hf : d.length < 2000 ∧ d.length + 300 < kF + 200) : ∃ b', bloom_Add.f (kF + 200) b d = some b' ∧ Fl b' ∧ ∀ n, n < 2048 → bitN b' n = (bitN b n || (plc kF d).contains n) := by
  obtain ⟨p, h1, h2, h3, h4, h5, h6⟩ := plc_eq hk hf
  obtain ⟨y1, a1, a2, a3⟩ := badd_step [(p.1 : Int), (p.2.1 : Int), (p.2.2 : Int)] (kF + 199) 0 p.1 b (by omega) rfl h2 hb
  obtain ⟨y2, b1, b2, b3⟩ := badd_step [(p.1 : Int), (p.2.1 : Int), (p.2.2 : Int)] (kF + 198) 1 p.2.1 y1 (by omega) rfl h3 a2
  obtain ⟨y3, c1, c2, c3⟩ := badd_step [(p.1 : Int), (p.2.1 : Int), (p.2.2 : Int)] (kF + 197) 2 p.2.2 y2 (by omega) rfl h4 b2
  refine ⟨y3, ?_, c2, fun n hn => ?_⟩
  · unfold bloom_Add.f
    rw [h5, Option.bind_some]
    refine a1.trans (b1.trans (c1.trans ?_))
    obtain ⟨q, hq⟩ : ∃ q, kF + 197 = q + 1 := ⟨kF + 196, rfl⟩
    rw [hq]
    show bloom_Add.b1 _ _ _ _ = _
    unfold bloom_Add.b1 bloom_Add.j1
    rw [if_neg (by simp)]
  · rw [c3 n hn, b3 n hn, a3 n hn, h1]
    simp only [List.contains_cons, List.contains_nil, Bool.or_false, Bool.or_assoc, beq_iff_eq]
    rfl
theorem bhas_step (b t : List Int) (q i p : Nat) (hb : Fl b) (hi : i < 3) (ht : rd t (i : Int) = (p : Int)) (hp : p < 2048) : bloom_Has.l1 b t (q + 1) (i : Int) = if bitN b p = true then bloom_Has.l1 b t q ((i + 1 : Nat) : Int) else some false := by
  obtain ⟨f1, f2, f3⟩ := at_place (t := t) (i := i) hp
  show bloom_Has.b1 _ _ _ _ = _
  unfold bloom_Has.b1
  rw [if_pos (by simp; omega), if_pos (by omega), ht, f1, if_pos (by omega), if_pos f2, f3, bit_has b hb p hp, next_i i (by omega)]
  cases bitN b p <;> rfl
theorem bhas_eq (hk : 20 < kF) {b d : List Int} (hb : Fl b) (hf : d.length < 2000 ∧ d.length + 300 < kF + 200) : bloom_Has.f (kF + 200) b d = some ((plc kF d).all (bitN b)) := by
  obtain ⟨p, h1, h2, h3, h4, h5, h6⟩ := plc_eq hk hf
  unfold bloom_Has.f
  rw [h5, Option.bind_some, h1]
  have e0 : bloom_Has.l1 b [(p.1 : Int), (p.2.1 : Int), (p.2.2 : Int)] (kF + 200) 0 = bloom_Has.l1 b [(p.1 : Int), (p.2.1 : Int), (p.2.2 : Int)] (kF + 199 + 1) ((0 : Nat) : Int) := rfl
  rw [e0, bhas_step _ _ _ 0 p.1 hb (by omega) rfl h2]
  simp only [List.all_cons, List.all_nil, Bool.and_true]
  cases bitN b p.1
  · rfl
  rw [if_pos rfl, show kF + 199 = kF + 198 + 1 from rfl, bhas_step _ _ _ 1 p.2.1 hb (by omega) rfl h3]
  cases bitN b p.2.1
  · rfl
  rw [if_pos rfl, show kF + 198 = kF + 197 + 1 from rfl, bhas_step _ _ _ 2 p.2.2 hb (by omega) rfl h4]
  cases bitN b p.2.2
  · rfl
  rw [if_pos rfl]
  obtain ⟨q, hq⟩ : ∃ q, kF + 197 = q + 1 := ⟨kF + 196, rfl⟩
  rw [hq]
  show bloom_Has.b1 _ _ _ _ = _
  unfold bloom_Has.b1 bloom_Has.j1
  rw [if_neg (by simp)]; rfl
/-! ### logs -/
abbrev Lg := (List Int) × (List (List Int)) × (List Int)
/-- What is known of a log. -/
def GL (x : Lg) : Prop := x.1.length = 20 ∧ x.2.1.length ≤ 30 ∧ ∀ t ∈ x.2.1, t.length = 4 ∧ ∀ y ∈ t, inK .u64 y
/-- What of a log sets bits. -/
def lgB (x : Lg) : List (List Int) := x.1 :: x.2.1.map wbytes
def hit (kF : Nat) (ds : List (List Int)) (n : Nat) : Bool := ds.any fun d => (plc kF d).contains n
theorem hit_app (a b : List (List Int)) (n : Nat) : hit kF (a ++ b) n = (hit kF a n || hit kF b n) := List.any_append
theorem lgB_len {x : Lg} (h : GL x) : ∀ d ∈ lgB x, d.length ≤ 32 := by
  intro d hd
  rcases List.mem_cons.1 hd with rfl | hd
  · have := h.1; omega
  · obtain ⟨t, _, rfl⟩ := List.mem_map.1 hd
    rw [wbytes_len]; omega
theorem bof_inner (hk : 400 < kF) (x1 : List Lg) (i : Nat) (ts : List (List Int)) (hts : (gt x1 (i : Int)).2.1 = ts) (hl : ts.length ≤ 30) (hg : ∀ t ∈ ts, t.length = 4) (rec1 : Int → List Int → Option (List Int)) : ∀ (l : List (List Int)) (q j : Nat) (y : List Int), ts.drop j = l → j ≤ ts.length → l.length < q → Fl y →
    ∃ y', bloom_Of.l2 (kF + 200) x1 (i : Int) rec1 q (j : Int) y = bloom_Of.j2 (i : Int) rec1 y' ∧ Fl y' ∧ ∀ n, n < 2048 → bitN y' n = (bitN y n || hit kF (l.map wbytes) n) := by
  intro l
  induction l with
  | nil =>
    intro q j y hd hj hq hy
    obtain ⟨q, rfl⟩ : ∃ m, q = m + 1 := ⟨q - 1, by omega⟩
    have : ts.length ≤ j := by simpa using hd
    refine ⟨y, ?_, hy, fun n hn => by simp [hit]⟩
    show bloom_Of.b2 _ _ _ _ _ _ _ = _
    unfold bloom_Of.b2
    rw [hts, if_neg (by simp; omega)]
  | cons t l ih =>
    intro q j y hd hj hq hy
    simp only [List.length_cons] at hq
    obtain ⟨q, rfl⟩ : ∃ m, q = m + 1 := ⟨q - 1, by omega⟩
    obtain ⟨g, hj2, hr⟩ := gt_dropG hd
    have ht : t.length = 4 := hg t (by have : t ∈ ts.drop j := by rw [hd]; simp
                                       exact List.drop_subset _ _ this)
    obtain ⟨y1, a1, a2, a3⟩ := badd_eq (kF := kF) (by omega) (d := wbytes t) hy (by rw [wbytes_len]; omega)
    obtain ⟨y', b1, b2, b3⟩ := ih q (j + 1) y1 hr (by omega) (by omega) a2
    refine ⟨y', ?_, b2, fun n hn => ?_⟩
    · refine Eq.trans ?_ b1
      show bloom_Of.b2 _ _ _ _ _ _ _ = _
      unfold bloom_Of.b2
      rw [hts, g, if_pos (by simp; omega), if_pos (by omega), show kF + 200 = kF + 160 + 40 from rfl, bytes_f (kF + 160) ht, Option.bind_some, cut32 (wbytes_len t), show kF + 160 + 40 = kF + 200 from rfl, a1, Option.bind_some, next_i j (by omega)]
    · rw [b3 n hn, a3 n hn, Bool.or_assoc]; rfl
theorem bof_loop (hk : 400 < kF) (x1 : List Lg) (hx : x1.length < 1000) : ∀ (l : List Lg) (q i : Nat) (y : List Int), x1.drop i = l → i ≤ x1.length → l.length < q → Fl y → (∀ x ∈ l, GL x) →
    ∃ y', bloom_Of.l1 (kF + 200) x1 q (i : Int) y = some y' ∧ Fl y' ∧ ∀ n, n < 2048 → bitN y' n = (bitN y n || hit kF (l.flatMap lgB) n) := by
  intro l
  induction l with
  | nil =>
    intro q i y hd hi hq hy hg
    obtain ⟨q, rfl⟩ : ∃ m, q = m + 1 := ⟨q - 1, by omega⟩
    have : x1.length ≤ i := by simpa using hd
    refine ⟨y, ?_, hy, fun n hn => by simp [hit]⟩
    show bloom_Of.b1 _ _ _ _ _ = _
    unfold bloom_Of.b1 bloom_Of.j1
    rw [if_neg (by simp; omega)]
  | cons x l ih =>
    intro q i y hd hi hq hy hg
    simp only [List.length_cons] at hq
    obtain ⟨q, rfl⟩ : ∃ m, q = m + 1 := ⟨q - 1, by omega⟩
    obtain ⟨g, hi2, hr⟩ := gt_dropG hd
    have hx1 := hg x (by simp)
    obtain ⟨y1, a1, a2, a3⟩ := badd_eq (kF := kF) (by omega) (d := x.1) hy (by have := hx1.1; omega)
    obtain ⟨y2, b1, b2, b3⟩ := bof_inner hk x1 i x.2.1 (by rw [g]) hx1.2.1 (fun t ht => (hx1.2.2 t ht).1) (bloom_Of.l1 (kF + 200) x1 q) x.2.1 (kF + 200) 0 y1 rfl (by omega) (by have := hx1.2.1; omega) a2
    obtain ⟨y', c1, c2, c3⟩ := ih q (i + 1) y2 hr (by omega) (by omega) b2 (fun z hz => hg z (by simp [hz]))
    refine ⟨y', ?_, c2, fun n hn => ?_⟩
    · refine Eq.trans ?_ c1
      show bloom_Of.b1 _ _ _ _ _ = _
      unfold bloom_Of.b1
      rw [if_pos (by simp; omega), if_pos (by omega)]
      simp only [g]
      rw [cut20 hx1.1, a1, Option.bind_some]
      refine b1.trans ?_
      unfold bloom_Of.j2
      rw [next_i i (by omega)]
    · rw [c3 n hn, b3 n hn, a3 n hn, List.flatMap_cons, hit_app, lgB, Bool.or_assoc, Bool.or_assoc, show hit kF (x.1 :: x.2.1.map wbytes) n = ((plc kF x.1).contains n || hit kF (x.2.1.map wbytes) n) from rfl, Bool.or_assoc]
theorem fl_zero : Fl (List.replicate 256 0) := ⟨by simp, fun y hy => by rw [List.eq_of_mem_replicate hy]; exact inK_of_u8 (by omega) (by omega)⟩
theorem bit_zero (n : Nat) : bitN (List.replicate 256 0) n = false := by
  unfold bitN
  have : (List.replicate 256 (0 : Int)).getD (255 - n / 8) 0 = 0 := by rw [List.getD_eq_getElem?_getD, List.getElem?_replicate]; split <;> rfl
  rw [this]; simp
theorem bof_eq (hk : 400 < kF) (l : List Lg) (hl : l.length ≤ 60) (hg : ∀ x ∈ l, GL x) : ∃ b, bloom_Of.f (kF + 200) l = some b ∧ Fl b ∧ ∀ n, n < 2048 → bitN b n = hit kF (l.flatMap lgB) n := by
  obtain ⟨b, a1, a2, a3⟩ := bof_loop hk l (by omega) l (kF + 200) 0 _ rfl (by omega) (by omega) fl_zero hg
  refine ⟨b, a1, a2, fun n hn => ?_⟩
  rw [a3 n hn, bit_zero, Bool.false_or]
/-! ### the document's sets -/
theorem set_inner (p0 p1 p2 : Nat) (h0 : p0 < 2048) (h1 : p1 < 2048) (h2 : p2 < 2048) (i : Int) (rec1 : Int → List Bool → Option (List Bool)) (k : Nat) (y : List Bool) (hy : y.length = 2048) : ∃ y', smithyref29_Set.l2 i rec1 [(p0 : Int), (p1 : Int), (p2 : Int)] (k + 10) 0 y = smithyref29_Set.j2 i rec1 y' ∧ y'.length = 2048 ∧ ∀ n, y'.getD n false = (y.getD n false || [p0, p1, p2].contains n) := by
  have step : ∀ (q j p : Nat) (z : List Bool), z.length = 2048 → j < 3 → rd [(p0 : Int), (p1 : Int), (p2 : Int)] (j : Int) = (p : Int) → p < 2048 → smithyref29_Set.l2 i rec1 [(p0 : Int), (p1 : Int), (p2 : Int)] (q + 1) (j : Int) z = smithyref29_Set.l2 i rec1 [(p0 : Int), (p1 : Int), (p2 : Int)] q ((j + 1 : Nat) : Int) (z.set p true) := fun q j p z hz hj hp hp2 => by
    show smithyref29_Set.b2 _ _ _ _ _ _ = _
    unfold smithyref29_Set.b2
    rw [hp, if_pos (by simp; omega), if_pos (by simp; omega), if_pos (by omega), next_i j (by omega), Int.toNat_natCast]
  refine ⟨((y.set p0 true).set p1 true).set p2 true, ?_, by simpa using hy, fun n => ?_⟩
  · refine (step (k + 9) 0 p0 y hy (by omega) rfl h0).trans ((step (k + 8) 1 p1 _ (by simpa using hy) (by omega) rfl h1).trans ((step (k + 7) 2 p2 _ (by simpa using hy) (by omega) rfl h2).trans ?_))
    show smithyref29_Set.b2 _ _ _ _ _ _ = _
    unfold smithyref29_Set.b2
    rw [if_neg (by simp)]
  · have gs : ∀ (z : List Bool) (p : Nat), z.length = 2048 → p < 2048 → (z.set p true).getD n false = (z.getD n false || decide (n = p)) := fun z p hz hp => by
      rw [List.getD_eq_getElem?_getD, List.getElem?_set]
      by_cases c : p = n
      · subst c; rw [if_pos rfl, if_pos (by omega)]; simp
      · rw [if_neg c, ← List.getD_eq_getElem?_getD, decide_eq_false (fun e => c e.symm), Bool.or_false]
    rw [gs _ _ (by simpa using hy) h2, gs _ _ (by simpa using hy) h1, gs _ _ hy h0]
    simp only [List.contains_cons, List.contains_nil, Bool.or_false, Bool.or_assoc]
    rfl
theorem set_loop (hk : 400 < kF) (x1 : List (List Int)) (hx : x1.length < 2000) : ∀ (l : List (List Int)) (q i : Nat) (y : List Bool), x1.drop i = l → i ≤ x1.length → l.length < q → y.length = 2048 → (∀ d ∈ l, d.length < 2000 ∧ d.length + 300 < kF + 200) →
    ∃ y', smithyref29_Set.l1 (kF + 200) x1 q (i : Int) y = some y' ∧ y'.length = 2048 ∧ ∀ n, y'.getD n false = (y.getD n false || hit kF l n) := by
  intro l
  induction l with
  | nil =>
    intro q i y hd hi hq hy hg
    obtain ⟨q, rfl⟩ : ∃ m, q = m + 1 := ⟨q - 1, by omega⟩
    have : x1.length ≤ i := by simpa using hd
    refine ⟨y, ?_, hy, fun n => by simp [hit]⟩
    show smithyref29_Set.b1 _ _ _ _ _ = _
    unfold smithyref29_Set.b1 smithyref29_Set.j1
    rw [if_neg (by simp; omega)]
  | cons d l ih =>
    intro q i y hd hi hq hy hg
    simp only [List.length_cons] at hq
    obtain ⟨q, rfl⟩ : ∃ m, q = m + 1 := ⟨q - 1, by omega⟩
    obtain ⟨g, hi2, hr⟩ := gt_dropG hd
    obtain ⟨p, h1, h2, h3, h4, h5, h6⟩ := plc_eq (kF := kF) (by omega) (hg d (by simp))
    obtain ⟨y1, a1, a2, a3⟩ := set_inner p.1 p.2.1 p.2.2 h2 h3 h4 (i : Int) (smithyref29_Set.l1 (kF + 200) x1 q) (kF + 190) y hy
    obtain ⟨y', c1, c2, c3⟩ := ih q (i + 1) y1 hr (by omega) (by omega) a2 (fun z hz => hg z (by simp [hz]))
    refine ⟨y', ?_, c2, fun n => ?_⟩
    · refine Eq.trans ?_ c1
      show smithyref29_Set.b1 _ _ _ _ _ = _
      unfold smithyref29_Set.b1
      rw [if_pos (by simp; omega), if_pos (by omega), g, h6, Option.bind_some]
      refine a1.trans ?_
      unfold smithyref29_Set.j2
      rw [next_i i (by omega)]
    · rw [c3 n, a3 n, Bool.or_assoc, ← h1]; rfl
theorem set_eq (hk : 400 < kF) (l : List (List Int)) (hl : l.length < 2000 ∧ l.length < kF + 200) (hg : ∀ d ∈ l, d.length < 2000 ∧ d.length + 300 < kF + 200) : ∃ y, smithyref29_Set.f (kF + 200) l = some y ∧ y.length = 2048 ∧ ∀ n, y.getD n false = hit kF l n := by
  obtain ⟨y, a1, a2, a3⟩ := set_loop hk l hl.1 l (kF + 200) 0 (List.replicate 2048 false) rfl (by omega) (by omega) (by simp) hg
  refine ⟨y, ?_, a2, fun n => ?_⟩
  · unfold smithyref29_Set.f
    rw [if_pos (by omega)]
    exact a1
  · rw [a3 n, List.getD_eq_getElem?_getD, List.getElem?_replicate]; split <;> simp
theorem lbytes_loop (x : Lg) (hg : GL x) : ∀ (l : List (List Int)) (q i : Nat) (y : List (List Int)), x.2.1.drop i = l → i ≤ x.2.1.length → l.length < q → y.length ≤ 100 + i → smithyref29_Bytes.l1 (kF + 200) x q (i : Int) y = some (y ++ l.map wbytes) := by
  intro l
  induction l with
  | nil =>
    intro q i y hd hi hq hy
    obtain ⟨q, rfl⟩ : ∃ m, q = m + 1 := ⟨q - 1, by omega⟩
    have : x.2.1.length ≤ i := by simpa using hd
    show smithyref29_Bytes.b1 _ _ _ _ _ = _
    unfold smithyref29_Bytes.b1 smithyref29_Bytes.j1
    rw [if_neg (by simp; omega)]; simp
  | cons t l ih =>
    intro q i y hd hi hq hy
    simp only [List.length_cons] at hq
    obtain ⟨q, rfl⟩ : ∃ m, q = m + 1 := ⟨q - 1, by omega⟩
    obtain ⟨g, hi2, hr⟩ := gt_dropG hd
    have ht := hg.2.2 t (by have : t ∈ x.2.1.drop i := by rw [hd]; simp
                            exact List.drop_subset _ _ this)
    have hl := hg.2.1
    show smithyref29_Bytes.b1 _ _ _ _ _ = _
    unfold smithyref29_Bytes.b1
    rw [if_pos (by simp; omega), if_pos (by omega), g, show kF + 200 = kF + 160 + 40 from rfl, of_f (kF + 160) ht.1, Option.bind_some, dbytes_f (kF + 160) ht.1 (fun z hz => (inK_u64 (ht.2 z hz)).1), Option.bind_some, cut32 (wbytes_len t), if_pos (by rw [wbytes_len]; simp), if_pos (by simp; omega), next_i i (by omega), show kF + 160 + 40 = kF + 200 from rfl, List.nil_append]
    refine (ih q (i + 1) _ hr (by omega) (by omega) (by simp; omega)).trans ?_
    simp
theorem lbytes_eq (x : Lg) (hg : GL x) : smithyref29_Bytes.f (kF + 200) x = some (lgB x) := by
  unfold smithyref29_Bytes.f
  rw [cut20 hg.1, if_pos (by have := hg.1; simp; omega), List.nil_append]
  exact (lbytes_loop x hg x.2.1 (kF + 200) 0 [x.1] rfl (by omega) (by have := hg.2.1; omega) (by simp)).trans rfl
theorem flat_len (l : List Lg) (hg : ∀ x ∈ l, GL x) : (l.flatMap lgB).length ≤ 31 * l.length := by
  induction l with
  | nil => simp
  | cons x l ih =>
    have h1 := ih fun z hz => hg z (by simp [hz])
    have h2 := (hg x (by simp)).2.1
    simp only [List.flatMap_cons, List.length_append, List.length_cons, lgB, List.length_map]
    omega
theorem rof_loop (x1 : List Lg) (hx : x1.length ≤ 60) : ∀ (l : List Lg) (q i : Nat) (y : List (List Int)), x1.drop i = l → i ≤ x1.length → l.length < q → (∀ x ∈ l, GL x) → y.length + 31 * l.length ≤ 2000 → smithyref29_Of.l1 (kF + 200) x1 q (i : Int) y = smithyref29_Of.j1 (kF + 200) (y ++ l.flatMap lgB) := by
  intro l
  induction l with
  | nil =>
    intro q i y hd hi hq hg hy
    obtain ⟨q, rfl⟩ : ∃ m, q = m + 1 := ⟨q - 1, by omega⟩
    have : x1.length ≤ i := by simpa using hd
    show smithyref29_Of.b1 _ _ _ _ _ = _
    unfold smithyref29_Of.b1
    rw [if_neg (by simp; omega)]; simp
  | cons x l ih =>
    intro q i y hd hi hq hg hy
    simp only [List.length_cons] at hq hy
    obtain ⟨q, rfl⟩ : ∃ m, q = m + 1 := ⟨q - 1, by omega⟩
    obtain ⟨g, hi2, hr⟩ := gt_dropG hd
    have h2 := (hg x (by simp)).2.1
    have hlen : (lgB x).length ≤ 31 := by simp [lgB]; omega
    show smithyref29_Of.b1 _ _ _ _ _ = _
    unfold smithyref29_Of.b1
    rw [if_pos (by simp; omega), if_pos (by omega)]
    simp only [g]
    rw [show smithyref29_Bytes.f (kF + 200) (x.1, x.2.1, x.2.2) = _ from lbytes_eq x (hg x (by simp)), Option.bind_some, if_pos (by omega), next_i i (by omega)]
    refine (ih q (i + 1) _ hr (by omega) (by omega) (fun z hz => hg z (by simp [hz])) (by simp; omega)).trans ?_
    simp
theorem rof_eq (hk : 2000 < kF) (l : List Lg) (hl : l.length ≤ 60) (hg : ∀ x ∈ l, GL x) : ∃ y, smithyref29_Of.f (kF + 200) l = some y ∧ y.length = 2048 ∧ ∀ n, y.getD n false = hit kF (l.flatMap lgB) n := by
  have hf := flat_len l hg
  obtain ⟨y, a1, a2, a3⟩ := set_eq (kF := kF) (by omega) (l.flatMap lgB) (by omega) (fun d hd => by
    obtain ⟨x, hx, hd⟩ := List.mem_flatMap.1 hd
    have := lgB_len (hg x hx) d hd
    omega)
  refine ⟨y, ?_, a2, a3⟩
  unfold smithyref29_Of.f
  refine (rof_loop l hl l (kF + 200) 0 [] rfl (by omega) (by omega) hg (by simp; omega)).trans ?_
  rw [List.nil_append]
  unfold smithyref29_Of.j1
  rw [a1]; rfl
end
end GW
