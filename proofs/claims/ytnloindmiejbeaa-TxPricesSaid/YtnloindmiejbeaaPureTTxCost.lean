/-
  What a transaction may cost, what it pays a gas, what it costs ahead of all: the program's way and the document's.
-/
import Derived.Test.YtnloindmiejbeaaPureTGreat
import Derived.Test.YtnloindmiejbeaaPureTGas
import Derived.Test.YtnloindmiejbeaaPureWAdd
import Derived.Test.YtnloindmiejbeaaPureWSub
import Derived.Test.YtnloindmiejbeaaPureWMul
import Derived.Test.YtnloindmiejbeaaPureWRefC
import Derived.Test.YtnloindmiejbeaaPureWRefW
import Derived.Test.YtnloindmiejbeaaPureWTimes
set_option linter.unusedVariables false
set_option linter.unusedSimpArgs false
set_option maxRecDepth 100000
namespace GW
open Go Go.RowKit
def W256 : Int := 115792089237316195423570985008687907853269984665640564039457584007913129639936
/-- What it may cost. -/
def costI (x : TxT) : Int := x.2.2.2.2.2.2.1 * wv x.2.2.2.2.2.2.2.1 + wv x.2.2.2.2.1
/-- What is known of its numbers. -/
structure TxW (x : TxT) : Prop where
  nonce : inK .u64 x.2.2.2.1
  value : Wd x.2.2.2.2.1
  gas : inK .u64 x.2.2.2.2.2.2.1
  fee : Wd x.2.2.2.2.2.2.2.1
  tip : Wd x.2.2.2.2.2.2.2.2.1
theorem txCost_eq (k : Nat) (x : TxT) (h : TxW x) : ∃ c, tx_Cost.f (k + 100) x = some (c, decide (costI x < W256)) ∧ Wd c ∧ (costI x < W256 → wv c = costI x) ∧ (¬ costI x < W256 → c = [0, 0, 0, 0]) := by
  obtain ⟨lo, hi, e1, hlo, hhi, e2⟩ := product_eq (k + 95) (Wd.of h.gas) h.fee
  obtain ⟨s, f1, hs, f2⟩ := add_eq (k + 95) hlo h.value
  rw [wv_of] at e2
  have b1 := hlo.lt
  have b2 := hhi.lt
  have b3 := h.value.lt
  have bs := hs.lt
  have hc : costI x = wv lo + 115792089237316195423570985008687907853269984665640564039457584007913129639936 * wv hi + wv x.2.2.2.2.1 := by unfold costI; omega
  have e0 : tx_Cost.f (k + 100) x = tx_Cost.j1 (k + 100) x hi lo := by
    unfold tx_Cost.f
    rw [show word_Of.f x.2.2.2.2.2.2.1 = some [x.2.2.2.2.2.2.1, 0, 0, 0] from rfl, Option.bind_some, show k + 100 = k + 95 + 5 from rfl, e1, Option.bind_some]
  rw [e0]
  unfold tx_Cost.j1
  rw [show k + 100 = k + 95 + 5 from rfl, f1, Option.bind_some]
  by_cases hz : hi = [0, 0, 0, 0]
  · have hz' : wv hi = 0 := hhi.eq0.1 hz
    rw [if_neg (by simpa using hz), cmp_eq (k + 95) hs hlo, Option.bind_some, cmpI_lt]
    unfold tx_Cost.j2 W256
    by_cases c : wv s < wv lo
    · rw [decide_eq_true c, if_pos rfl]
      refine ⟨_, ?_, Wd.zero, fun hlt => absurd hlt (by omega), fun _ => rfl⟩
      rw [decide_eq_false (by omega)]
    · rw [decide_eq_false c, if_neg (by simp)]
      refine ⟨s, ?_, hs, fun hlt => by omega, fun hn => absurd (by omega) hn⟩
      rw [decide_eq_true (by omega)]
  · have hz' : 0 < wv hi := by
      have : wv hi ≠ 0 := fun e => hz (hhi.eq0.2 e)
      omega
    rw [if_pos (by simpa using hz)]
    unfold tx_Cost.j2 W256
    rw [if_pos rfl]
    refine ⟨_, ?_, Wd.zero, fun hlt => absurd hlt (by omega), fun _ => rfl⟩
    rw [decide_eq_false (by omega)]
theorem refCost_eq (k : Nat) (x : TxT) (h : TxW x) : ∃ n, smithyref19_Cost.f (k + 200) x = some n ∧ n.length = 66 ∧ Dig 256 n ∧ dv 256 n = costI x := by
  obtain ⟨g, g1, g2, g3, g4⟩ := ofN_eq (k + 160) (Wd.of h.gas)
  obtain ⟨f, f1, f2, f3, f4⟩ := ofN_eq (k + 160) h.fee
  obtain ⟨v, v1, v2, v3, v4⟩ := ofN_eq (k + 160) h.value
  obtain ⟨p, p1, p2, p3, p4⟩ := timesN_eq (k + 200) g3 f3 (by omega) (by omega) (by omega)
  obtain ⟨s, s1, s2, s3, s4⟩ := plusN_eq (k + 200) p3 v3 (by omega) (by omega) (by omega)
  refine ⟨s, ?_, by omega, s3, ?_⟩
  · unfold smithyref19_Cost.f
    rw [show k + 200 = k + 160 + 40 from rfl, g1, Option.bind_some, f1, Option.bind_some, show k + 160 + 40 = k + 200 from rfl, p1, Option.bind_some, show k + 200 = k + 160 + 40 from rfl, v1, Option.bind_some, show k + 160 + 40 = k + 200 from rfl, s1]; rfl
  · rw [s4, p4, g4, f4, v4, wv_of]; rfl
/-- Does it fit into a word, and which one is it? -/
theorem refFits (k : Nat) {n : List Int} (hl : n.length < 1000) (hd : Dig 256 n) : smithyref02_Zero.f (k + 2000) (n.drop 32) = some (decide (dv 256 n < W256)) ∧ ∃ w, smithyref02_N_Word.f (k + 2000) n = some w ∧ Wd w ∧ (dv 256 n < W256 → wv w = dv 256 n) := by
  obtain ⟨h1, h2, h3, h4⟩ := highN_eq n hd
  have h5 := (dv_lt (by omega) h2).1
  rw [show (256 : Int) ^ 32 = W256 from rfl] at h3 h4
  unfold W256 at h3 h4 ⊢
  obtain ⟨w, w1, w2, w3⟩ := wordN_eq (k + 1960) hd
  have key : dv 256 (n.drop 32) = 0 ↔ dv 256 n < 115792089237316195423570985008687907853269984665640564039457584007913129639936 := by
    constructor
    · intro h; omega
    · intro h; omega
  refine ⟨?_, w, w1, w2, fun h => ?_⟩
  · rw [zeroN_eq (k + 2000) h2 (by rw [List.length_drop]; omega) (by rw [List.length_drop]; omega)]
    exact congrArg some (decide_eq_decide.2 key)
  · have h6 := key.2 h
    omega
def priceI (x : TxT) (b : Int) : Int := if b + wv x.2.2.2.2.2.2.2.2.1 < wv x.2.2.2.2.2.2.2.1 then b + wv x.2.2.2.2.2.2.2.2.1 else wv x.2.2.2.2.2.2.2.1
theorem txPrice_eq (k : Nat) (x : TxT) (h : TxW x) {b : List Int} (hb : Wd b) : ∃ p, tx_Price.f (k + 100) x b = some (p, decide (¬ wv x.2.2.2.2.2.2.2.1 < wv b)) ∧ Wd p ∧ (wv x.2.2.2.2.2.2.2.1 < wv b → p = [0, 0, 0, 0]) ∧ (¬ wv x.2.2.2.2.2.2.2.1 < wv b → wv p = priceI x (wv b)) := by
  have b1 := h.fee.lt
  have b2 := hb.lt
  have b3 := h.tip.lt
  unfold tx_Price.f
  rw [show k + 100 = k + 95 + 5 from rfl, cmp_eq (k + 95) h.fee hb, Option.bind_some, cmpI_lt]
  by_cases c : wv x.2.2.2.2.2.2.2.1 < wv b
  · rw [decide_eq_true c, if_pos rfl]
    refine ⟨_, ?_, Wd.zero, fun _ => rfl, fun hn => absurd c hn⟩
    rw [decide_eq_false (by omega)]
  · rw [decide_eq_false c, if_neg (by simp)]
    obtain ⟨l, l1, l2, l3⟩ := sub_eq (k + 95) h.fee hb
    rw [l1, Option.bind_some, cmp_eq (k + 95) l2 h.tip, Option.bind_some, cmpI_lt]
    unfold priceI
    by_cases c2 : wv l < wv x.2.2.2.2.2.2.2.2.1
    · rw [decide_eq_true c2, if_pos rfl]
      refine ⟨_, ?_, h.fee, fun hn => absurd hn c, fun _ => ?_⟩
      · rw [decide_eq_true c]
      · rw [if_neg (by omega)]
    · rw [decide_eq_false c2, if_neg (by simp)]
      obtain ⟨s, s1, s2, s3⟩ := add_eq (k + 95) hb h.tip
      rw [s1, Option.bind_some]
      refine ⟨s, ?_, s2, fun hn => absurd hn c, fun _ => ?_⟩
      · rw [decide_eq_true c]
      · by_cases c3 : wv b + wv x.2.2.2.2.2.2.2.2.1 < wv x.2.2.2.2.2.2.2.1
        · rw [if_pos c3]; omega
        · rw [if_neg c3]; omega
theorem less19_eq (k : Nat) {a b : List Int} (ha : Wd a) (hb : Wd b) : smithyref19_less.f (k + 100) a b = some (decide (wv a < wv b)) := by
  obtain ⟨d, d1, d2, d3, d4⟩ := ofD_eq (k + 60) ha
  obtain ⟨e, e1, e2, e3, e4⟩ := ofD_eq (k + 60) hb
  unfold smithyref19_less.f
  rw [show k + 100 = k + 60 + 40 from rfl, d1, Option.bind_some, e1, Option.bind_some, cmpD_eq (k + 60) d3 e3 d2 e2, Option.bind_some, cmpI_lt, d4, e4]
theorem refPrice_eq (k : Nat) (x : TxT) (h : TxW x) {b : List Int} (hb : Wd b) : ∃ p, smithyref19_Price.f (k + 2200) x b = some (p, decide (¬ wv x.2.2.2.2.2.2.2.1 < wv b)) ∧ Wd p ∧ (wv x.2.2.2.2.2.2.2.1 < wv b → p = [0, 0, 0, 0]) ∧ (¬ wv x.2.2.2.2.2.2.2.1 < wv b → wv p = priceI x (wv b)) := by
  have b1 := h.fee.lt
  unfold smithyref19_Price.f
  rw [show k + 2200 = k + 2100 + 100 from rfl, less19_eq (k + 2100) h.fee hb, Option.bind_some]
  by_cases c : wv x.2.2.2.2.2.2.2.1 < wv b
  · rw [decide_eq_true c, if_pos rfl]
    refine ⟨_, ?_, Wd.zero, fun _ => rfl, fun hn => absurd c hn⟩
    rw [decide_eq_false (by omega)]
  · rw [decide_eq_false c, if_neg (by simp)]
    obtain ⟨g, g1, g2, g3, g4⟩ := ofN_eq (k + 2160) hb
    obtain ⟨f, f1, f2, f3, f4⟩ := ofN_eq (k + 2160) h.tip
    obtain ⟨v, v1, v2, v3, v4⟩ := ofN_eq (k + 2160) h.fee
    obtain ⟨s, s1, s2, s3, s4⟩ := plusN_eq (k + 2200) g3 f3 (by omega) (by omega) (by omega)
    have hl := lessN_eq (k + 2200) s3 v3 (by omega) (by omega) (by omega)
    rw [show k + 2100 + 100 = k + 2160 + 40 from rfl, g1, Option.bind_some, f1, Option.bind_some, show k + 2160 + 40 = k + 2200 from rfl, s1, Option.bind_some, show k + 2200 = k + 2160 + 40 from rfl, v1, Option.bind_some, show k + 2160 + 40 = k + 2200 from rfl, hl, Option.bind_some, s4, g4, f4, v4]
    unfold priceI
    by_cases c2 : wv b + wv x.2.2.2.2.2.2.2.2.1 < wv x.2.2.2.2.2.2.2.1
    · rw [decide_eq_true c2, if_pos rfl]
      obtain ⟨_, w, w1, w2, w3⟩ := refFits (k + 200) (by omega) s3
      rw [show k + 2200 = k + 200 + 2000 from rfl, w1, Option.bind_some]
      refine ⟨w, by rw [decide_eq_true c], w2, fun hn => absurd hn c, fun _ => ?_⟩
      rw [if_pos c2, w3 (by rw [s4, g4, f4]; unfold W256; omega), s4, g4, f4]
    · rw [decide_eq_false c2, if_neg (by simp)]
      refine ⟨_, by rw [decide_eq_true c], h.fee, fun hn => absurd hn c, fun _ => ?_⟩
      rw [if_neg c2]
/-! ### what it costs ahead of all -/
def keysN : List Wm → Nat
  | [] => 0
  | w :: l => w.2.length + keysN l
theorem keysN_le (l : List Wm) (h : ∀ w ∈ l, w.2.length ≤ 30) : keysN l ≤ 30 * l.length := by
  induction l with
  | nil => simp [keysN]
  | cons w l ih =>
    have h1 := h w (by simp)
    have h2 := ih fun v hv => h v (by simp [hv])
    simp only [keysN, List.length_cons]; omega
theorem txIntr_loop (k : Nat) (x : TxT) (hx : x.2.2.2.2.2.2.2.2.2.length ≤ 30) : ∀ (l : List Wm) (q i n : Nat), x.2.2.2.2.2.2.2.2.2.drop i = l → i ≤ x.2.2.2.2.2.2.2.2.2.length → l.length < q → (∀ w ∈ l, w.2.length ≤ 30) → n + 30 * l.length ≤ 10000 → tx_Intrinsic.l1 k x q (i : Int) (n : Int) = tx_Intrinsic.j1 k x ((n + keysN l : Nat) : Int) ∧ smithyref19_Intrinsic.l1 k x q (i : Int) (n : Int) = smithyref19_Intrinsic.j1 k x ((n + keysN l : Nat) : Int) := by
  intro l
  induction l with
  | nil =>
    intro q i n hd hi hq hs hn
    obtain ⟨q, rfl⟩ : ∃ m, q = m + 1 := ⟨q - 1, by omega⟩
    have : x.2.2.2.2.2.2.2.2.2.length ≤ i := by simpa using hd
    constructor
    · show tx_Intrinsic.b1 k x _ _ _ = _
      unfold tx_Intrinsic.b1
      rw [if_neg (by simp; omega)]; rfl
    · show smithyref19_Intrinsic.b1 k x _ _ _ = _
      unfold smithyref19_Intrinsic.b1
      rw [if_neg (by simp; omega)]; rfl
  | cons w l ih =>
    intro q i n hd hi hq hs hn
    simp only [List.length_cons] at hq hn
    obtain ⟨q, rfl⟩ : ∃ m, q = m + 1 := ⟨q - 1, by omega⟩
    obtain ⟨g, hi2, hr⟩ := gt_dropG hd
    have hw := hs w (by simp)
    obtain ⟨h1, h2⟩ := ih q (i + 1) (n + w.2.length) hr (by omega) (by omega) (fun v hv => hs v (by simp [hv])) (by omega)
    have e : n + w.2.length + keysN l = n + keysN (w :: l) := by simp only [keysN]; omega
    rw [e] at h1 h2
    constructor
    · refine Eq.trans ?_ h1
      show tx_Intrinsic.b1 k x _ _ _ = _
      unfold tx_Intrinsic.b1
      simp only [g]
      rw [if_pos (by simp; omega), if_pos (by omega), wr_i64_id (by omega) (by omega), wr_u64_id (x := (w.2.length : Int)) (by omega) (by omega), wr_u64_id (by omega) (by omega)]
      rfl
    · refine Eq.trans ?_ h2
      show smithyref19_Intrinsic.b1 k x _ _ _ = _
      unfold smithyref19_Intrinsic.b1
      simp only [g]
      rw [if_pos (by simp; omega), if_pos (by omega), wr_i64_id (x := (i : Int) + 1) (by omega) (by omega), wr_i64_id (by omega) (by omega)]
      rfl
theorem txIntrinsic_eq (k : Nat) (x : TxT) (h : Small x) (hk : 4000 < k) : ∃ v, tx_Intrinsic.f k x = some v ∧ smithyref19_Intrinsic.f k x = some v := by
  obtain ⟨h1, h2, h3⟩ := h
  obtain ⟨l1, l2⟩ := txIntr_loop k x h2 x.2.2.2.2.2.2.2.2.2 k 0 0 rfl (by omega) (by omega) h3 (by omega)
  have hn := keysN_le x.2.2.2.2.2.2.2.2.2 h3
  rw [Nat.zero_add] at l1 l2
  obtain ⟨v, v1, v2⟩ := intrinsic_eq k x.2.2.2.2.2.1 x.2.2.1 ((x.2.2.2.2.2.2.2.2.2.length : Nat) : Int) ((keysN x.2.2.2.2.2.2.2.2.2 : Nat) : Int) (by omega) (by omega) (by omega) (by omega)
  refine ⟨v, l1.trans ?_, l2.trans ?_⟩
  · unfold tx_Intrinsic.j1
    rw [wr_u64_id (x := (x.2.2.2.2.2.2.2.2.2.length : Int)) (by omega) (by omega), v1]; rfl
  · unfold smithyref19_Intrinsic.j1
    rw [wr_u64_id (x := (x.2.2.2.2.2.2.2.2.2.length : Int)) (by omega) (by omega), wr_u64_id (x := (keysN _ : Int)) (by omega) (by omega), v2]; rfl
end GW
