/-
  Filters: their bits.
-/
import Derived.Test.YtkohappfcfimmaaDoorPureSum
import Derived.Test.YtkohappfcfimmaaDoorGWPlain
import Derived.Laws.Bits64b
set_option linter.unusedVariables false
set_option linter.unusedSimpArgs false
set_option maxRecDepth 100000
namespace GW
open Go Go.RowKit
theorem bits_or_u8_nat (a b : Nat) (ha : a < 256) (hb : b < 256) : bits .or .u8 (a : Int) (b : Int) = ((a ||| b : Nat) : Int) ∧ a ||| b < 256 := by
  have hx : a ||| b < 2 ^ 8 := Nat.or_lt_two_pow (by omega) (by omega)
  refine ⟨?_, by omega⟩
  have h1 : (BitVec.ofInt 8 (a : Int)).toNat = a := by
    rw [BitVec.ofInt_natCast, BitVec.toNat_ofNat]; exact Nat.mod_eq_of_lt (by omega)
  have h2 : (BitVec.ofInt 8 (b : Int)).toNat = b := by
    rw [BitVec.ofInt_natCast, BitVec.toNat_ofNat]; exact Nat.mod_eq_of_lt (by omega)
  show IntKind.u8.wrap ((BitVec.ofInt 8 (a : Int) ||| BitVec.ofInt 8 (b : Int)).toNat : Int) = _
  rw [BitVec.toNat_or, h1, h2]
  exact wr_u8_id (by omega) (by omega)
theorem bits_and_u8_one (a : Nat) (ha : a < 256) : bits .and .u8 (a : Int) 1 = ((a % 2 : Nat) : Int) := by
  have h1 : (BitVec.ofInt 8 (a : Int)).toNat = a := by
    rw [BitVec.ofInt_natCast, BitVec.toNat_ofNat]; exact Nat.mod_eq_of_lt (by omega)
  have h2 : (BitVec.ofInt 8 (1 : Int)).toNat = 1 := by decide
  show IntKind.u8.wrap ((BitVec.ofInt 8 (a : Int) &&& BitVec.ofInt 8 (1 : Int)).toNat : Int) = _
  rw [BitVec.toNat_and, h1, h2, Nat.and_one_is_mod]
  exact wr_u8_id (by omega) (by omega)
theorem place_eq (a b : Nat) (ha : a < 256) (hb : b < 256) : bits .and .i64 (bits .or .i64 (shl .i64 (wr .i64 (a : Int)) 8) (wr .i64 (b : Int))) 2047 = (((256 * a + b) % 2048 : Nat) : Int) := by
  rw [wr_i64_id (x := (a : Int)) (by omega) (by omega), wr_i64_id (x := (b : Int)) (by omega) (by omega)]
  have e1 : shl .i64 (a : Int) 8 = ((a * 256 : Nat) : Int) := by
    unfold shl
    have : (a : Int) * 2 ^ 8 = ((a * 256 : Nat) : Int) := by simp
    rw [this]
    exact wr_i64_id (by omega) (by omega)
  have t : ∀ n : Nat, n < 9223372036854775808 → (BitVec.ofInt 64 (n : Int)).toNat = n := fun n hn => by
    rw [BitVec.ofInt_natCast, BitVec.toNat_ofNat]; exact Nat.mod_eq_of_lt (by omega)
  have e2 : bits .or .i64 ((a * 256 : Nat) : Int) (b : Int) = ((256 * a + b : Nat) : Int) := by
    show IntKind.i64.wrap ((BitVec.ofInt 64 ((a * 256 : Nat) : Int) ||| BitVec.ofInt 64 (b : Int)).toNat : Int) = _
    rw [BitVec.toNat_or, t _ (by omega), t _ (by omega)]
    have : a * 256 ||| b = 256 * a + b := by
      have := Nat.shiftLeft_add_eq_or_of_lt (i := 8) (b := b) (by omega) a
      rw [Nat.shiftLeft_eq, show (2 : Nat) ^ 8 = 256 from rfl] at this
      omega
    rw [this]
    exact wr_i64_id (by omega) (by omega)
  rw [e1, e2]
  show IntKind.i64.wrap ((BitVec.ofInt 64 ((256 * a + b : Nat) : Int) &&& BitVec.ofInt 64 ((2047 : Nat) : Int)).toNat : Int) = _
  rw [BitVec.toNat_and, t _ (by omega), t _ (by omega)]
  have : (256 * a + b) &&& 2047 = (256 * a + b) % 2048 := Nat.and_two_pow_sub_one_eq_mod _ 11
  rw [this]
  exact wr_i64_id (by omega) (by omega)
/-- A filter. -/
def Fl (b : List Int) : Prop := b.length = 256 ∧ ∀ y ∈ b, inK .u8 y
theorem Fl.at {b : List Int} (h : Fl b) (i : Nat) : ∃ v : Nat, b.getD i 0 = (v : Int) ∧ v < 256 := by
  rw [List.getD_eq_getElem?_getD]
  by_cases hi : i < b.length
  · rw [List.getElem?_eq_getElem hi]
    obtain ⟨h0, h1⟩ := inK_u8 (h.2 _ (List.getElem_mem hi))
    obtain ⟨v, hv⟩ := Int.eq_ofNat_of_zero_le h0
    exact ⟨v, hv, by omega⟩
  · rw [List.getElem?_eq_none (by omega)]; exact ⟨0, rfl, by omega⟩
theorem inK_of_u8 {x : Int} (h0 : 0 ≤ x) (h1 : x < 256) : inK .u8 x := by
  have : x ≤ 255 := by omega
  simpa [inK, Lit.wf, IntKind.min, IntKind.max, IntKind.signed, IntKind.bits] using And.intro h0 this
theorem Fl.set {b : List Int} (h : Fl b) (i v : Nat) (hv : v < 256) : Fl (b.set i (v : Int)) := ⟨by simpa using h.1, fun y hy => by
  rcases List.mem_or_eq_of_mem_set hy with h1 | rfl
  · exact h.2 y h1
  · exact inK_of_u8 (by omega) (by omega)⟩
/-- A bit. -/
def bitN (b : List Int) (n : Nat) : Bool := (b.getD (255 - n / 8) 0).toNat.testBit (n % 8)
theorem fl_ext {a b : List Int} (ha : Fl a) (hb : Fl b) (h : ∀ n, n < 2048 → bitN a n = bitN b n) : a = b := by
  refine List.ext_getElem (ha.1.trans hb.1.symm) fun i h1 h2 => ?_
  obtain ⟨u, hu, hu2⟩ := ha.at i
  obtain ⟨v, hv, hv2⟩ := hb.at i
  have ea : a[i] = (u : Int) := by rw [← hu, List.getD_eq_getElem?_getD, List.getElem?_eq_getElem h1]; rfl
  have eb : b[i] = (v : Int) := by rw [← hv, List.getD_eq_getElem?_getD, List.getElem?_eq_getElem h2]; rfl
  rw [ea, eb]
  refine congrArg _ (Nat.eq_of_testBit_eq fun m => ?_)
  have hl := ha.1
  by_cases hm : m < 8
  · have := h (8 * (255 - i) + m) (by omega)
    unfold bitN at this
    rw [show (8 * (255 - i) + m) / 8 = 255 - i by omega, show (8 * (255 - i) + m) % 8 = m by omega, show 255 - (255 - i) = i by omega, hu, hv] at this
    simpa using this
  · have p : (256 : Nat) ≤ 2 ^ m := by
      have := Nat.pow_le_pow_right (n := 2) (by omega) (show 8 ≤ m by omega)
      omega
    rw [Nat.testBit_lt_two_pow (by omega), Nat.testBit_lt_two_pow (by omega)]
theorem bit_loop (m : Nat) : ∀ (d q i v : Nat), i + d = m → d < q → m < 8 → v < 256 → smithyref29_Bit.l1 ((8 * 0 + m : Nat) : Int) q (i : Int) (v : Int) = some (decide (v / 2 ^ d % 2 = 1)) := by
  intro d
  induction d with
  | zero =>
    intro q i v hi hq hm hv
    obtain ⟨q, rfl⟩ : ∃ p, q = p + 1 := ⟨q - 1, by omega⟩
    show smithyref29_Bit.b1 _ _ _ _ = _
    unfold smithyref29_Bit.b1 smithyref29_Bit.j1
    rw [if_neg (by rw [tmod_pos (by omega)]; simp; omega), tmod_pos (by omega)]
    refine congrArg some ?_
    simp only [Nat.pow_zero, Nat.div_one]
    by_cases c : v % 2 = 1
    · rw [decide_eq_true c, show (v : Int) % 2 = 1 by omega]; rfl
    · rw [decide_eq_false c, show (v : Int) % 2 = 0 by omega]; rfl
  | succ d ih =>
    intro q i v hi hq hm hv
    obtain ⟨q, rfl⟩ : ∃ p, q = p + 1 := ⟨q - 1, by omega⟩
    show smithyref29_Bit.b1 _ _ _ _ = _
    unfold smithyref29_Bit.b1
    rw [if_pos (by rw [tmod_pos (by omega)]; simp; omega), wr_i64_id (by omega) (by omega), tdiv_pos (by omega), wr_i64_id (by omega) (by omega)]
    have := ih q (i + 1) (v / 2) (by omega) (by omega) hm (by omega)
    refine Eq.trans ?_ (this.trans ?_)
    · rfl
    · rw [Nat.div_div_eq_div_mul, Nat.pow_succ, Nat.mul_comm]
theorem bit_eq (k : Nat) {b : List Int} (hb : Fl b) (n : Nat) (hn : n < 2048) : smithyref29_Bit.f (k + 10) b (n : Int) = some (bitN b n) := by
  unfold smithyref29_Bit.f
  have e1 : wr .i64 (255 - wr .i64 (Int.tdiv (n : Int) 8)) = ((255 - n / 8 : Nat) : Int) := by
    rw [tdiv_pos (by omega), wr_i64_id (x := (n : Int) / 8) (by omega) (by omega), wr_i64_id (by omega) (by omega)]; omega
  obtain ⟨v, hv, hv2⟩ := hb.at (255 - n / 8)
  rw [e1, if_pos (by omega), show rd b ((255 - n / 8 : Nat) : Int) = (v : Int) from hv, wr_i64_id (by omega) (by omega)]
  have key : smithyref29_Bit.l1 (n : Int) (k + 10) 0 (v : Int) = smithyref29_Bit.l1 ((8 * 0 + n % 8 : Nat) : Int) (k + 10) ((0 : Nat) : Int) (v : Int) := by
    have gen : ∀ (q : Nat) (i w : Int), smithyref29_Bit.l1 (n : Int) q i w = smithyref29_Bit.l1 ((8 * 0 + n % 8 : Nat) : Int) q i w := by
      intro q
      induction q with
      | zero => intro i w; rfl
      | succ q ih =>
        intro i w
        show smithyref29_Bit.b1 _ _ _ _ = smithyref29_Bit.b1 _ _ _ _
        have hf : smithyref29_Bit.l1 (n : Int) q = smithyref29_Bit.l1 ((8 * 0 + n % 8 : Nat) : Int) q := funext fun i => funext fun w => ih i w
        unfold smithyref29_Bit.b1
        rw [hf, tmod_pos (by omega), tmod_pos (by omega), show ((8 * 0 + n % 8 : Nat) : Int) % 8 = (n : Int) % 8 by omega]
    exact gen _ _ _
  rw [key, bit_loop (n % 8) (n % 8) (k + 10) 0 v (by omega) (by omega) (by omega) hv2]
  refine congrArg some ?_
  unfold bitN
  rw [hv, Nat.testBit_eq_decide_div_mod_eq]
  rfl
/-- A bit set. -/
theorem bit_set (b : List Int) (hb : Fl b) (p : Nat) (hp : p < 2048) : ∃ v : Nat, bits .or .u8 (rd b ((255 - p / 8 : Nat) : Int)) (shl .u8 1 (p % 8)) = (v : Int) ∧ v < 256 ∧ Fl (b.set (255 - p / 8) (v : Int)) ∧ ∀ n, n < 2048 → bitN (b.set (255 - p / 8) (v : Int)) n = (bitN b n || decide (n = p)) := by
  obtain ⟨u, hu, hu2⟩ := hb.at (255 - p / 8)
  have hpw : 2 ^ (p % 8) < 256 := by
    have := Nat.pow_lt_pow_right (a := 2) (by omega) (show p % 8 < 8 by omega)
    omega
  have e2 : shl .u8 1 (p % 8) = ((2 ^ (p % 8) : Nat) : Int) := by
    unfold shl
    have : (1 : Int) * 2 ^ (p % 8) = ((2 ^ (p % 8) : Nat) : Int) := by simp
    rw [this]
    generalize 2 ^ (p % 8) = z at *
    exact wr_u8_id (by omega) (by omega)
  obtain ⟨e3, e4⟩ := bits_or_u8_nat u (2 ^ (p % 8)) hu2 hpw
  refine ⟨u ||| 2 ^ (p % 8), by rw [show rd b ((255 - p / 8 : Nat) : Int) = (u : Int) from hu, e2, e3], e4, hb.set _ _ e4, fun n hn => ?_⟩
  have hl := hb.1
  unfold bitN
  rw [List.getD_eq_getElem?_getD, List.getElem?_set]
  by_cases c : 255 - p / 8 = 255 - n / 8
  · rw [if_pos c, if_pos (by omega), ← c, hu]
    simp only [Option.getD_some, Int.toNat_natCast, Nat.testBit_or, Nat.testBit_two_pow]
    refine congrArg _ (decide_eq_decide.2 ?_)
    omega
  · rw [if_neg c, ← List.getD_eq_getElem?_getD, decide_eq_false (by omega), Bool.or_false]
/-- Is it set? -/
theorem bit_has (b : List Int) (hb : Fl b) (p : Nat) (hp : p < 2048) : (bits .and .u8 (shr (rd b ((255 - p / 8 : Nat) : Int)) (p % 8)) 1 == 0) = !bitN b p := by
  obtain ⟨u, hu, hu2⟩ := hb.at (255 - p / 8)
  have e1 : shr (u : Int) (p % 8) = ((u / 2 ^ (p % 8) : Nat) : Int) := by
    unfold shr
    rw [Int.fdiv_eq_ediv_of_nonneg _ (Int.le_of_lt (Int.pow_pos (by omega)))]
    simp
  rw [show rd b ((255 - p / 8 : Nat) : Int) = (u : Int) from hu, e1, bits_and_u8_one _ (Nat.lt_of_le_of_lt (Nat.div_le_self _ _) hu2)]
  unfold bitN
  rw [hu, Int.toNat_natCast, Nat.testBit_eq_decide_div_mod_eq]
  by_cases c : u / 2 ^ (p % 8) % 2 = 1
  · rw [c, decide_eq_true rfl]; rfl
  · rw [decide_eq_false c, show u / 2 ^ (p % 8) % 2 = 0 by omega]; rfl
/-! ### the places of some bytes -/
section
variable {kF : Nat}
/-- Three places. -/
def P3 (t : List Int) (p : Nat × Nat × Nat) : Prop := t = [(p.1 : Int), (p.2.1 : Int), (p.2.2 : Int)] ∧ p.1 < 2048 ∧ p.2.1 < 2048 ∧ p.2.2 < 2048
theorem places_eq (hk : 20 < kF) (b : List Int) (hb : b.length < 9000000) (hf : b.length + 300 < kF + 200) : ∃ t p, bloom_places.f (kF + 200) b = some t ∧ smithyref29_Places.f (kF + 200) b = some t ∧ P3 t p := by
  obtain ⟨h, h1, h2, h3, h4⟩ := sums_eq b hb hf
  match h, h3 with
  | [x0, x1, x2, x3, x4, x5, x6, x7, x8, x9, x10, x11, x12, x13, x14, x15, x16, x17, x18, x19, x20, x21, x22, x23, x24, x25, x26, x27, x28, x29, x30, x31], _ =>
    have nat : ∀ x : Int, 0 ≤ x ∧ x < 256 → ∃ n : Nat, x = (n : Int) ∧ n < 256 := fun x hx => by
      obtain ⟨n, rfl⟩ := Int.eq_ofNat_of_zero_le hx.1
      exact ⟨n, rfl, by omega⟩
    obtain ⟨a0, rfl, b0⟩ := nat x0 (h4 x0 (by simp))
    obtain ⟨a1, rfl, b1⟩ := nat x1 (h4 x1 (by simp))
    obtain ⟨a2, rfl, b2⟩ := nat x2 (h4 x2 (by simp))
    obtain ⟨a3, rfl, b3⟩ := nat x3 (h4 x3 (by simp))
    obtain ⟨a4, rfl, b4⟩ := nat x4 (h4 x4 (by simp))
    obtain ⟨a5, rfl, b5⟩ := nat x5 (h4 x5 (by simp))
    obtain ⟨k, rfl⟩ : ∃ k, kF = k + 4 := ⟨kF - 4, by omega⟩
    refine ⟨_, ((256 * a0 + a1) % 2048, (256 * a2 + a3) % 2048, (256 * a4 + a5) % 2048), ?_, ?_, rfl, Nat.mod_lt _ (by omega), Nat.mod_lt _ (by omega), Nat.mod_lt _ (by omega)⟩
    · unfold bloom_places.f
      rw [h1, Option.bind_some, ← place_eq a0 a1 b0 b1, ← place_eq a2 a3 b2 b3, ← place_eq a4 a5 b4 b5]
      rfl
    · have ref : ∀ a b : Nat, a < 256 → b < 256 → Int.tmod (wr .i64 (wr .i64 (256 * wr .i64 (a : Int)) + wr .i64 (b : Int))) 2048 = (((256 * a + b) % 2048 : Nat) : Int) := fun a b ha hb => by
        rw [wr_i64_id (x := (a : Int)) (by omega) (by omega), wr_i64_id (x := (b : Int)) (by omega) (by omega), wr_i64_id (x := 256 * (a : Int)) (by omega) (by omega), wr_i64_id (by omega) (by omega), tmod_pos (by omega)]
        omega
      unfold smithyref29_Places.f
      rw [h2, Option.bind_some, ← ref a0 a1 b0 b1, ← ref a2 a3 b2 b3, ← ref a4 a5 b4 b5]
      rfl
end
end GW
