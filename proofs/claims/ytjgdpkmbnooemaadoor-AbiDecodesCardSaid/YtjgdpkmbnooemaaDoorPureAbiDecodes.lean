import Derived.Test.YtjgdpkmbnooemaaDoorPureEncode
set_option linter.unusedVariables false
set_option linter.unusedSimpArgs false
set_option maxRecDepth 100000
namespace GW
open Go Go.RowKit
theorem byte8 (b0 b1 b2 b3 b4 b5 b6 b7 : Nat) (h0 : b0 < 256) (h1 : b1 < 256) (h2 : b2 < 256) (h3 : b3 < 256) (h4 : b4 < 256) (h5 : b5 < 256) (h6 : b6 < 256) (h7 : b7 < 256) :
  wr .u8 (shr ((num8 b0 b1 b2 b3 b4 b5 b6 b7 : Nat) : Int) 0) = (b0 : Int) ∧ wr .u8 (shr ((num8 b0 b1 b2 b3 b4 b5 b6 b7 : Nat) : Int) 8) = (b1 : Int) ∧ wr .u8 (shr ((num8 b0 b1 b2 b3 b4 b5 b6 b7 : Nat) : Int) 16) = (b2 : Int) ∧ wr .u8 (shr ((num8 b0 b1 b2 b3 b4 b5 b6 b7 : Nat) : Int) 24) = (b3 : Int) ∧
  wr .u8 (shr ((num8 b0 b1 b2 b3 b4 b5 b6 b7 : Nat) : Int) 32) = (b4 : Int) ∧ wr .u8 (shr ((num8 b0 b1 b2 b3 b4 b5 b6 b7 : Nat) : Int) 40) = (b5 : Int) ∧ wr .u8 (shr ((num8 b0 b1 b2 b3 b4 b5 b6 b7 : Nat) : Int) 48) = (b6 : Int) ∧ wr .u8 (shr ((num8 b0 b1 b2 b3 b4 b5 b6 b7 : Nat) : Int) 56) = (b7 : Int) := by
 simp only [shr_nat, wr_u8]
 unfold num8
 refine ⟨?_, ?_, ?_, ?_, ?_, ?_, ?_, ?_⟩ <;> omega
theorem join8 (a : Nat) (ha : a < 18446744073709551616) : num8 (wr .u8 (shr (a : Int) 0)).toNat (wr .u8 (shr (a : Int) 8)).toNat (wr .u8 (shr (a : Int) 16)).toNat (wr .u8 (shr (a : Int) 24)).toNat (wr .u8 (shr (a : Int) 32)).toNat (wr .u8 (shr (a : Int) 40)).toNat (wr .u8 (shr (a : Int) 48)).toNat (wr .u8 (shr (a : Int) 56)).toNat = a := by
 simp only [shr_nat, wr_u8]
 have e : ∀ n : Nat, ((n : Int) % 256).toNat = n % 256 := fun n => by omega
 simp only [e]
 unfold num8
 omega
theorem wb_wf {h : List Int} (hl : h.length = 32) (hb : ∀ x ∈ h, 0 ≤ x ∧ x < 256) : wbytes (wfrom h) = h := by
 match h, hl with
 | [h0, h1, h2, h3, h4, h5, h6, h7, h8, h9, h10, h11, h12, h13, h14, h15, h16, h17, h18, h19, h20, h21, h22, h23, h24, h25, h26, h27, h28, h29, h30, h31], _ =>
  obtain ⟨h0, rfl⟩ := Int.eq_ofNat_of_zero_le (hb h0 (by simp)).1
  obtain ⟨h1, rfl⟩ := Int.eq_ofNat_of_zero_le (hb h1 (by simp)).1
  obtain ⟨h2, rfl⟩ := Int.eq_ofNat_of_zero_le (hb h2 (by simp)).1
  obtain ⟨h3, rfl⟩ := Int.eq_ofNat_of_zero_le (hb h3 (by simp)).1
  obtain ⟨h4, rfl⟩ := Int.eq_ofNat_of_zero_le (hb h4 (by simp)).1
  obtain ⟨h5, rfl⟩ := Int.eq_ofNat_of_zero_le (hb h5 (by simp)).1
  obtain ⟨h6, rfl⟩ := Int.eq_ofNat_of_zero_le (hb h6 (by simp)).1
  obtain ⟨h7, rfl⟩ := Int.eq_ofNat_of_zero_le (hb h7 (by simp)).1
  obtain ⟨h8, rfl⟩ := Int.eq_ofNat_of_zero_le (hb h8 (by simp)).1
  obtain ⟨h9, rfl⟩ := Int.eq_ofNat_of_zero_le (hb h9 (by simp)).1
  obtain ⟨h10, rfl⟩ := Int.eq_ofNat_of_zero_le (hb h10 (by simp)).1
  obtain ⟨h11, rfl⟩ := Int.eq_ofNat_of_zero_le (hb h11 (by simp)).1
  obtain ⟨h12, rfl⟩ := Int.eq_ofNat_of_zero_le (hb h12 (by simp)).1
  obtain ⟨h13, rfl⟩ := Int.eq_ofNat_of_zero_le (hb h13 (by simp)).1
  obtain ⟨h14, rfl⟩ := Int.eq_ofNat_of_zero_le (hb h14 (by simp)).1
  obtain ⟨h15, rfl⟩ := Int.eq_ofNat_of_zero_le (hb h15 (by simp)).1
  obtain ⟨h16, rfl⟩ := Int.eq_ofNat_of_zero_le (hb h16 (by simp)).1
  obtain ⟨h17, rfl⟩ := Int.eq_ofNat_of_zero_le (hb h17 (by simp)).1
  obtain ⟨h18, rfl⟩ := Int.eq_ofNat_of_zero_le (hb h18 (by simp)).1
  obtain ⟨h19, rfl⟩ := Int.eq_ofNat_of_zero_le (hb h19 (by simp)).1
  obtain ⟨h20, rfl⟩ := Int.eq_ofNat_of_zero_le (hb h20 (by simp)).1
  obtain ⟨h21, rfl⟩ := Int.eq_ofNat_of_zero_le (hb h21 (by simp)).1
  obtain ⟨h22, rfl⟩ := Int.eq_ofNat_of_zero_le (hb h22 (by simp)).1
  obtain ⟨h23, rfl⟩ := Int.eq_ofNat_of_zero_le (hb h23 (by simp)).1
  obtain ⟨h24, rfl⟩ := Int.eq_ofNat_of_zero_le (hb h24 (by simp)).1
  obtain ⟨h25, rfl⟩ := Int.eq_ofNat_of_zero_le (hb h25 (by simp)).1
  obtain ⟨h26, rfl⟩ := Int.eq_ofNat_of_zero_le (hb h26 (by simp)).1
  obtain ⟨h27, rfl⟩ := Int.eq_ofNat_of_zero_le (hb h27 (by simp)).1
  obtain ⟨h28, rfl⟩ := Int.eq_ofNat_of_zero_le (hb h28 (by simp)).1
  obtain ⟨h29, rfl⟩ := Int.eq_ofNat_of_zero_le (hb h29 (by simp)).1
  obtain ⟨h30, rfl⟩ := Int.eq_ofNat_of_zero_le (hb h30 (by simp)).1
  obtain ⟨h31, rfl⟩ := Int.eq_ofNat_of_zero_le (hb h31 (by simp)).1
  obtain ⟨e0_0, e0_1, e0_2, e0_3, e0_4, e0_5, e0_6, e0_7⟩ := byte8 h31 h30 h29 h28 h27 h26 h25 h24 (by have := (hb h31 (by simp)).2; omega) (by have := (hb h30 (by simp)).2; omega) (by have := (hb h29 (by simp)).2; omega) (by have := (hb h28 (by simp)).2; omega) (by have := (hb h27 (by simp)).2; omega) (by have := (hb h26 (by simp)).2; omega) (by have := (hb h25 (by simp)).2; omega) (by have := (hb h24 (by simp)).2; omega)
  obtain ⟨e1_0, e1_1, e1_2, e1_3, e1_4, e1_5, e1_6, e1_7⟩ := byte8 h23 h22 h21 h20 h19 h18 h17 h16 (by have := (hb h23 (by simp)).2; omega) (by have := (hb h22 (by simp)).2; omega) (by have := (hb h21 (by simp)).2; omega) (by have := (hb h20 (by simp)).2; omega) (by have := (hb h19 (by simp)).2; omega) (by have := (hb h18 (by simp)).2; omega) (by have := (hb h17 (by simp)).2; omega) (by have := (hb h16 (by simp)).2; omega)
  obtain ⟨e2_0, e2_1, e2_2, e2_3, e2_4, e2_5, e2_6, e2_7⟩ := byte8 h15 h14 h13 h12 h11 h10 h9 h8 (by have := (hb h15 (by simp)).2; omega) (by have := (hb h14 (by simp)).2; omega) (by have := (hb h13 (by simp)).2; omega) (by have := (hb h12 (by simp)).2; omega) (by have := (hb h11 (by simp)).2; omega) (by have := (hb h10 (by simp)).2; omega) (by have := (hb h9 (by simp)).2; omega) (by have := (hb h8 (by simp)).2; omega)
  obtain ⟨e3_0, e3_1, e3_2, e3_3, e3_4, e3_5, e3_6, e3_7⟩ := byte8 h7 h6 h5 h4 h3 h2 h1 h0 (by have := (hb h7 (by simp)).2; omega) (by have := (hb h6 (by simp)).2; omega) (by have := (hb h5 (by simp)).2; omega) (by have := (hb h4 (by simp)).2; omega) (by have := (hb h3 (by simp)).2; omega) (by have := (hb h2 (by simp)).2; omega) (by have := (hb h1 (by simp)).2; omega) (by have := (hb h0 (by simp)).2; omega)
  show [wr .u8 (shr ((num8 h7 h6 h5 h4 h3 h2 h1 h0 : Nat) : Int) 56), wr .u8 (shr ((num8 h7 h6 h5 h4 h3 h2 h1 h0 : Nat) : Int) 48), wr .u8 (shr ((num8 h7 h6 h5 h4 h3 h2 h1 h0 : Nat) : Int) 40), wr .u8 (shr ((num8 h7 h6 h5 h4 h3 h2 h1 h0 : Nat) : Int) 32), wr .u8 (shr ((num8 h7 h6 h5 h4 h3 h2 h1 h0 : Nat) : Int) 24), wr .u8 (shr ((num8 h7 h6 h5 h4 h3 h2 h1 h0 : Nat) : Int) 16), wr .u8 (shr ((num8 h7 h6 h5 h4 h3 h2 h1 h0 : Nat) : Int) 8), wr .u8 (shr ((num8 h7 h6 h5 h4 h3 h2 h1 h0 : Nat) : Int) 0), wr .u8 (shr ((num8 h15 h14 h13 h12 h11 h10 h9 h8 : Nat) : Int) 56), wr .u8 (shr ((num8 h15 h14 h13 h12 h11 h10 h9 h8 : Nat) : Int) 48), wr .u8 (shr ((num8 h15 h14 h13 h12 h11 h10 h9 h8 : Nat) : Int) 40), wr .u8 (shr ((num8 h15 h14 h13 h12 h11 h10 h9 h8 : Nat) : Int) 32), wr .u8 (shr ((num8 h15 h14 h13 h12 h11 h10 h9 h8 : Nat) : Int) 24), wr .u8 (shr ((num8 h15 h14 h13 h12 h11 h10 h9 h8 : Nat) : Int) 16), wr .u8 (shr ((num8 h15 h14 h13 h12 h11 h10 h9 h8 : Nat) : Int) 8), wr .u8 (shr ((num8 h15 h14 h13 h12 h11 h10 h9 h8 : Nat) : Int) 0), wr .u8 (shr ((num8 h23 h22 h21 h20 h19 h18 h17 h16 : Nat) : Int) 56), wr .u8 (shr ((num8 h23 h22 h21 h20 h19 h18 h17 h16 : Nat) : Int) 48), wr .u8 (shr ((num8 h23 h22 h21 h20 h19 h18 h17 h16 : Nat) : Int) 40), wr .u8 (shr ((num8 h23 h22 h21 h20 h19 h18 h17 h16 : Nat) : Int) 32), wr .u8 (shr ((num8 h23 h22 h21 h20 h19 h18 h17 h16 : Nat) : Int) 24), wr .u8 (shr ((num8 h23 h22 h21 h20 h19 h18 h17 h16 : Nat) : Int) 16), wr .u8 (shr ((num8 h23 h22 h21 h20 h19 h18 h17 h16 : Nat) : Int) 8), wr .u8 (shr ((num8 h23 h22 h21 h20 h19 h18 h17 h16 : Nat) : Int) 0), wr .u8 (shr ((num8 h31 h30 h29 h28 h27 h26 h25 h24 : Nat) : Int) 56), wr .u8 (shr ((num8 h31 h30 h29 h28 h27 h26 h25 h24 : Nat) : Int) 48), wr .u8 (shr ((num8 h31 h30 h29 h28 h27 h26 h25 h24 : Nat) : Int) 40), wr .u8 (shr ((num8 h31 h30 h29 h28 h27 h26 h25 h24 : Nat) : Int) 32), wr .u8 (shr ((num8 h31 h30 h29 h28 h27 h26 h25 h24 : Nat) : Int) 24), wr .u8 (shr ((num8 h31 h30 h29 h28 h27 h26 h25 h24 : Nat) : Int) 16), wr .u8 (shr ((num8 h31 h30 h29 h28 h27 h26 h25 h24 : Nat) : Int) 8), wr .u8 (shr ((num8 h31 h30 h29 h28 h27 h26 h25 h24 : Nat) : Int) 0)] = _
  simp only [e0_0, e0_1, e0_2, e0_3, e0_4, e0_5, e0_6, e0_7, e1_0, e1_1, e1_2, e1_3, e1_4, e1_5, e1_6, e1_7, e2_0, e2_1, e2_2, e2_3, e2_4, e2_5, e2_6, e2_7, e3_0, e3_1, e3_2, e3_3, e3_4, e3_5, e3_6, e3_7]
theorem wf_wb {w : List Int} (hw : Gd54 w) : wfrom (wbytes w) = w := by
 obtain ⟨a, b, c, d, rfl, ha, hb, hc, hd, hv⟩ := lanes_of hw
 have e0 := join8 a ha
 have e1 := join8 b hb
 have e2 := join8 c hc
 have e3 := join8 d hd
 show [((num8 (wr .u8 (shr (a : Int) 0)).toNat (wr .u8 (shr (a : Int) 8)).toNat (wr .u8 (shr (a : Int) 16)).toNat (wr .u8 (shr (a : Int) 24)).toNat (wr .u8 (shr (a : Int) 32)).toNat (wr .u8 (shr (a : Int) 40)).toNat (wr .u8 (shr (a : Int) 48)).toNat (wr .u8 (shr (a : Int) 56)).toNat : Nat) : Int), ((num8 (wr .u8 (shr (b : Int) 0)).toNat (wr .u8 (shr (b : Int) 8)).toNat (wr .u8 (shr (b : Int) 16)).toNat (wr .u8 (shr (b : Int) 24)).toNat (wr .u8 (shr (b : Int) 32)).toNat (wr .u8 (shr (b : Int) 40)).toNat (wr .u8 (shr (b : Int) 48)).toNat (wr .u8 (shr (b : Int) 56)).toNat : Nat) : Int), ((num8 (wr .u8 (shr (c : Int) 0)).toNat (wr .u8 (shr (c : Int) 8)).toNat (wr .u8 (shr (c : Int) 16)).toNat (wr .u8 (shr (c : Int) 24)).toNat (wr .u8 (shr (c : Int) 32)).toNat (wr .u8 (shr (c : Int) 40)).toNat (wr .u8 (shr (c : Int) 48)).toNat (wr .u8 (shr (c : Int) 56)).toNat : Nat) : Int), ((num8 (wr .u8 (shr (d : Int) 0)).toNat (wr .u8 (shr (d : Int) 8)).toNat (wr .u8 (shr (d : Int) 16)).toNat (wr .u8 (shr (d : Int) 24)).toNat (wr .u8 (shr (d : Int) 32)).toNat (wr .u8 (shr (d : Int) 40)).toNat (wr .u8 (shr (d : Int) 48)).toNat (wr .u8 (shr (d : Int) 56)).toNat : Nat) : Int)] = _
 rw [e0, e1, e2, e3]
theorem inK_u8_of {x : Int} (h0 : 0 ≤ x) (h1 : x < 256) : inK .u8 x := by
 simp [inK, Lit.wf, IntKind.min, IntKind.max, IntKind.signed, IntKind.bits]
 omega
theorem inK_u64_of {x : Int} (h0 : 0 ≤ x) (h1 : x < 18446744073709551616) : inK .u64 x := by
 simp [inK, Lit.wf, IntKind.min, IntKind.max, IntKind.signed, IntKind.bits]
 omega
theorem wf_good (h : List Int) (hb : ∀ i : Nat, 0 ≤ rd h (i : Int) ∧ rd h (i : Int) < 256) : Gd54 (wfrom h) := by
 refine ⟨rfl, fun y hy => ?_⟩
 have lt : ∀ i : Nat, (rd h (i : Int)).toNat < 256 := fun i => by have := hb i; omega
 simp only [wfrom, List.mem_cons, List.not_mem_nil, or_false] at hy
 rcases hy with rfl | rfl | rfl | rfl <;> refine inK_u64_of (Int.natCast_nonneg _) ?_
 ·have h5 : num8 (rd h 31).toNat (rd h 30).toNat (rd h 29).toNat (rd h 28).toNat (rd h 27).toNat (rd h 26).toNat (rd h 25).toNat (rd h 24).toNat < 18446744073709551616 := num8_lt (lt 31) (lt 30) (lt 29) (lt 28) (lt 27) (lt 26) (lt 25) (lt 24)
  omega
 ·have h5 : num8 (rd h 23).toNat (rd h 22).toNat (rd h 21).toNat (rd h 20).toNat (rd h 19).toNat (rd h 18).toNat (rd h 17).toNat (rd h 16).toNat < 18446744073709551616 := num8_lt (lt 23) (lt 22) (lt 21) (lt 20) (lt 19) (lt 18) (lt 17) (lt 16)
  omega
 ·have h5 : num8 (rd h 15).toNat (rd h 14).toNat (rd h 13).toNat (rd h 12).toNat (rd h 11).toNat (rd h 10).toNat (rd h 9).toNat (rd h 8).toNat < 18446744073709551616 := num8_lt (lt 15) (lt 14) (lt 13) (lt 12) (lt 11) (lt 10) (lt 9) (lt 8)
  omega
 ·have h5 : num8 (rd h 7).toNat (rd h 6).toNat (rd h 5).toNat (rd h 4).toNat (rd h 3).toNat (rd h 2).toNat (rd h 1).toNat (rd h 0).toNat < 18446744073709551616 := num8_lt (lt 7) (lt 6) (lt 5) (lt 4) (lt 3) (lt 2) (lt 1) (lt 0)
  omega
end GW
set_option linter.unusedVariables false
set_option linter.unusedSimpArgs false
set_option maxRecDepth 100000
namespace GW
open Go Go.RowKit
mutual
def Sx.Full : Sx → Prop
 | .leaf _ => True
 | .list x => x.Full
 | .arr _ x => x.Full
 | .tup l => l ≠ [] ∧ Sx.Fulll l
def Sx.Fulll : List Sx → Prop
 | [] => True
 | x :: l => x.Full ∧ Sx.Fulll l
end
theorem Sx.Fulll_mem {l : List Sx} : Sx.Fulll l ↔ ∀ x ∈ l, x.Full := by
 induction l with
 | nil => simp [Sx.Fulll]
 | cons x l ih => simp [Sx.Fulll, ih]
theorem Sx.Full.part {x y : Sx} (h : x.Full) (hy : y ∈ x.parts) : y.Full := by
 cases x with
 | leaf i => simp [Sx.parts] at hy
 | list z => simp [Sx.parts] at hy; subst hy; simpa [Sx.Full] using h
 | arr n z => simp [Sx.parts] at hy; subst hy; simpa [Sx.Full] using h
 | tup l => simp [Sx.parts] at hy; simp [Sx.Full] at h; exact Sx.Fulll_mem.1 h.2 y hy
theorem sfx_full : ∀ (m : Nat) (x : Sx) (s : Txt) (v : Sx × Txt), x.Full → sfx m x s = some v → v.1.Full := by
 intro m
 induction m with
 | zero => intro x s v _ h; cases h
 | succ m ih =>
  intro x s v hx h
  rw [sfx] at h
  cases h1 : pre [91] s with
  | none => simp only [h1] at h; obtain rfl := Option.some.inj h; exact hx
  | some s1 =>
   simp only [h1] at h
   cases h2 : pre [93] s1 with
   | some r => simp only [h2] at h; exact ih _ _ _ (by simpa [Sx.Full] using hx) h
   | none =>
    simp only [h2] at h
    cases h3 : arrP s1 with
    | none => simp only [h3] at h; cases h
    | some u => simp only [h3] at h; exact ih _ _ _ (by simpa [Sx.Full] using hx) h
theorem gram_full : ∀ n : Nat, (∀ (s : Txt) (v : Sx × Txt), pw n s = some v → v.1.Full) ∧ (∀ (s : Txt) (v : Sx × Txt), po n s = some v → v.1.Full) ∧ (∀ (l : List Sx) (s : Txt) (v : Sx × Txt), Sx.Fulll l → ptup n l s = some v → v.1.Full) := by
 intro n
 induction n with
 | zero => exact ⟨fun s v h => by simp [pw] at h, fun s v h => by simp [po] at h, fun l s v _ h => by simp [ptup] at h⟩
 | succ n ih =>
  obtain ⟨i1, i2, i3⟩ := ih
  refine ⟨fun s v h => ?_, fun s v h => ?_, fun l s v hl h => ?_⟩
  ·rw [pw] at h
   cases h1 : po n s with
   | none => rw [h1] at h; cases h
   | some u => simp only [h1] at h; exact sfx_full _ _ _ _ (i2 s u h1) h
  ·rw [po] at h
   cases h1 : pre wU s with
   | some r => simp only [h1] at h; obtain rfl := Option.some.inj h; simp [Sx.Full]
   | none =>
   simp only [h1] at h
   cases h2 : pre wA s with
   | some r => simp only [h2] at h; obtain rfl := Option.some.inj h; simp [Sx.Full]
   | none =>
   simp only [h2] at h
   cases h3 : pre wB s with
   | some r => simp only [h3] at h; obtain rfl := Option.some.inj h; simp [Sx.Full]
   | none =>
   simp only [h3] at h
   cases h4 : pre wY s with
   | some r => simp only [h4] at h; obtain rfl := Option.some.inj h; simp [Sx.Full]
   | none =>
   simp only [h4] at h
   cases h5 : pre [40] s with
   | none => simp only [h5] at h; cases h
   | some r => simp only [h5] at h; exact i3 [] r v (by simp [Sx.Fulll]) h
  ·rw [ptup] at h
   cases h1 : pw n s with
   | none => rw [h1] at h; cases h
   | some u =>
    simp only [h1] at h
    have hu := i1 s u h1
    have hlo : Sx.Fulll (l ++ [u.1]) := Sx.Fulll_mem.2 fun x hx => by
     rcases List.mem_append.1 hx with hx | hx
     ·exact Sx.Fulll_mem.1 hl x hx
     ·rw [List.mem_singleton.1 hx]; exact hu
    cases h2 : pre [41] u.2 with
    | some r => simp only [h2] at h; obtain rfl := Option.some.inj h; simp only [Sx.Full]; exact ⟨by simp, hlo⟩
    | none =>
     simp only [h2] at h
     cases h3 : pre [44] u.2 with
     | none => simp only [h3] at h; cases h
     | some r => simp only [h3] at h; exact i3 _ r v hlo h
theorem pz_full {s : Txt} {x : Sx} (h : pz s = some x) : x = .tup [] ∨ x.Full := by
 unfold pz at h
 split at h
 ·obtain rfl := Option.some.inj h; exact Or.inl rfl
 ·split at h
  ·split at h
   ·rename_i v hv
    split at h
    ·obtain rfl := Option.some.inj h; exact Or.inr ((gram_full _).1 _ _ hv)
    ·cases h
   ·cases h
  ·cases h
theorem Sx.sz_ge (x : Sx) : x.Ok → x.Full → 32 ≤ x.sz := by
 induction x using Sx.ind with
 | h x ih =>
  intro ho hf
  cases x with
  | leaf i => simp [Sx.sz]
  | list y => simp [Sx.sz]
  | arr n y =>
   have hy := ih y (by simp [Sx.parts]) (ho.part (by simp [Sx.parts])) (hf.part (by simp [Sx.parts]))
   simp only [Sx.Ok] at ho
   rw [Sx.sz]
   split
   ·omega
   ·have : 1 * y.sz ≤ n * y.sz := Nat.mul_le_mul_right _ ho.1
    omega
  | tup l =>
   simp only [Sx.Full] at hf
   rw [Sx.sz]
   split
   ·omega
   ·cases l with
    | nil => exact absurd rfl hf.1
    | cons z l =>
     have hz := ih z (by simp [Sx.parts]) (ho.part (by simp [Sx.parts])) (Sx.Full.part (x := .tup (z :: l)) (by simp only [Sx.Full]; exact hf) (by simp [Sx.parts]))
     rw [Sx.szl]; omega
def U8 (b : List Int) : Prop := ∀ x ∈ b, 0 ≤ x ∧ x < 256
def wordAt (b : List Int) (a : Nat) : Option (List Int) := if a + 32 ≤ b.length then some (wfrom ((b.drop a).take 32)) else none
def countAt (b : List Int) (a : Nat) : Option Nat := match wordAt b a with
 | none => none
 | some w => if rd w 1 = 0 ∧ rd w 2 = 0 ∧ rd w 3 = 0 ∧ rd w 0 ≤ (b.length : Int) then some (rd w 0).toNat else none
theorem U8.drop {b : List Int} (h : U8 b) (i : Nat) : U8 (b.drop i) := fun x hx => h x (List.mem_of_mem_drop hx)
theorem U8.take {b : List Int} (h : U8 b) (i : Nat) : U8 (b.take i) := fun x hx => h x (List.mem_of_mem_take hx)
theorem U8.rd {b : List Int} (h : U8 b) (i : Nat) : 0 ≤ rd b (i : Int) ∧ rd b (i : Int) < 256 := by
 unfold GW.rd
 rw [Int.toNat_natCast, List.getD_eq_getElem?_getD]
 by_cases hi : i < b.length
 ·rw [List.getElem?_eq_getElem hi]; exact h _ (List.getElem_mem hi)
 ·rw [List.getElem?_eq_none (by omega)]; simp
theorem take32_len {b : List Int} {a : Nat} (h : a + 32 ≤ b.length) : ((b.drop a).take 32).length = 32 := by simp; omega
theorem wordAt_good {b : List Int} (hb : U8 b) {a : Nat} {w : List Int} (h : wordAt b a = some w) : Gd54 w ∧ a + 32 ≤ b.length ∧ (b.drop a).take 32 = wbytes w := by
 unfold wordAt at h
 split at h
 ·rename_i hl
  obtain rfl := Option.some.inj h
  have hu := (hb.drop a).take 32
  exact ⟨wf_good _ (fun i => hu.rd i), hl, (wb_wf (take32_len hl) hu).symm⟩
 ·cases h
theorem wordAt_of {b : List Int} {a : Nat} {w : List Int} (hw : Gd54 w) (h : (b.drop a).take 32 = wbytes w) : wordAt b a = some w := by
 unfold wordAt
 have hl : a + 32 ≤ b.length := by
  have := congrArg List.length h
  rw [wbytes_len, List.length_take, List.length_drop] at this
  omega
 rw [if_pos hl, h, wf_wb hw]
theorem countAt_good {b : List Int} (hb : U8 b) {a n : Nat} (h : countAt b a = some n) : n ≤ b.length ∧ a + 32 ≤ b.length ∧ (b.drop a).take 32 = cnt n := by
 unfold countAt at h
 cases hw : wordAt b a with
 | none => rw [hw] at h; cases h
 | some w =>
  simp only [hw] at h
  obtain ⟨g1, g2, g3⟩ := wordAt_good hb hw
  split at h
  ·rename_i hc
   obtain rfl := Option.some.inj h
   obtain ⟨a0, b0, c0, d0, rfl, ha, hb', hc', hd, _⟩ := lanes_of g1
   have e0 : rd [(a0 : Int), b0, c0, d0] 0 = a0 := rfl
   have e1 : rd [(a0 : Int), b0, c0, d0] 1 = b0 := rfl
   have e2 : rd [(a0 : Int), b0, c0, d0] 2 = c0 := rfl
   have e3 : rd [(a0 : Int), b0, c0, d0] 3 = d0 := rfl
   rw [e0, e1, e2, e3] at hc
   refine ⟨by rw [e0]; omega, g2, ?_⟩
   rw [g3]
   unfold cnt
   rw [e0]
   have : b0 = 0 ∧ c0 = 0 ∧ d0 = 0 := by omega
   obtain ⟨rfl, rfl, rfl⟩ := this
   rfl
  ·cases h
theorem countAt_of {b : List Int} {a n : Nat} (hn : n ≤ b.length) (hl : b.length < 18446744073709551616) (h : (b.drop a).take 32 = cnt n) : countAt b a = some n := by
 have hw : Gd54 [(n : Int), 0, 0, 0] := by
  refine ⟨rfl, fun y hy => ?_⟩
  simp only [List.mem_cons, List.not_mem_nil, or_false] at hy
  rcases hy with rfl | rfl | rfl | rfl
  ·exact inK_u64_of (by omega) (by omega)
  ·exact inK_u64_of (by omega) (by omega)
  ·exact inK_u64_of (by omega) (by omega)
  ·exact inK_u64_of (by omega) (by omega)
 unfold countAt
 rw [wordAt_of hw h]
 have e0 : rd [(n : Int), 0, 0, 0] 0 = n := rfl
 simp only [e0]
 rw [if_pos ⟨rfl, rfl, rfl, by omega⟩, Int.toNat_natCast]
def cw (n : Nat) : Nat := (n + 31) / 32 * 32
theorem cw_eq (n : Nat) : cw n = n + padN n := by unfold cw padN; omega
def decB (b : List Int) (a : Nat) : Option (List Int × Nat) := match countAt b a with
 | none => none
 | some m => if a + 32 + cw m ≤ b.length ∧ (b.take (a + 32 + cw m)).drop (a + 32 + m) = List.replicate (padN m) 0 then some ((b.take (a + 32 + m)).drop (a + 32), a + 32 + cw m) else none
def decl (f : Sx → Nat → Nat → Option (Vx × Nat)) (b : List Int) (a1 : Nat) : List Sx → Nat → Nat → Option (List Vx × Nat)
  | [], _, d => some ([], d)
  | y :: es, fr, d =>
    if y.dyn = true then
      match countAt b fr with
      | none => none
      | some c => if a1 + c = d then
          match f y d d with
          | none => none
          | some u => match decl f b a1 es (fr + y.sz) u.2 with
            | none => none
            | some z => some (u.1 :: z.1, z.2)
        else none
    else
      match f y fr d with
      | none => none
      | some u => match decl f b a1 es (fr + y.sz) u.2 with
        | none => none
        | some z => some (u.1 :: z.1, z.2)
def Sx.cnt_ (x : Sx) : Nat := match x with
 | .arr m _ => m
 | .tup l => l.length
 | _ => 0
theorem Sx.cnt_ok (x : Sx) (hk : 4 ≤ x.kd) (h4 : x.kd ≠ 4) (hx : x.Ok) : x.okN x.cnt_ = true := by
 cases x with
 | leaf i => simp only [Sx.Ok] at hx; simp [Sx.kd] at hk; omega
 | list y => simp [Sx.kd] at h4
 | arr m y => simp [Sx.okN, Sx.cnt_]
 | tup l => simp [Sx.okN, Sx.cnt_]
theorem Sx.cnt_of (x : Sx) {n : Nat} (hk : 4 ≤ x.kd) (h4 : x.kd ≠ 4) (hx : x.Ok) (h : x.okN n = true) : x.cnt_ = n := by
 cases x with
 | leaf i => simp only [Sx.Ok] at hx; simp [Sx.kd] at hk; omega
 | list y => simp [Sx.kd] at h4
 | arr m y => simp [Sx.okN] at h; simp [Sx.cnt_, h]
 | tup l => simp [Sx.okN] at h; simp [Sx.cnt_, h]
def decR (f : Sx → Nat → Nat → Option (Vx × Nat)) (b : List Int) (x : Sx) (N a1 d : Nat) : Option (Vx × Nat) :=
 if N ≤ b.length / 32 ∧ (N = 0 ∨ a1 + Sx.szl (x.els N) ≤ b.length) then
  match decl f b a1 (x.els N) a1 (max d (a1 + Sx.szl (x.els N))) with
  | none => none
  | some z => some (.row z.1, z.2)
 else none
def dec (b : List Int) : Nat → Sx → Nat → Nat → Option (Vx × Nat)
 | 0, _, _, _ => none
 | n + 1, x, a, d =>
  if x.kd < 3 then match wordAt b a with
   | none => none
   | some w => if wBad x.kd w = true then none else some (.word w, max d (a + 32))
  else if x.kd = 3 then match decB b a with
   | none => none
   | some z => some (.bytes z.1, z.2)
  else if x.kd = 4 then match countAt b a with
   | none => none
   | some N => decR (dec b n) b x N (a + 32) (max d (a + 32))
  else decR (dec b n) b x x.cnt_ a d
def Lies (b : List Int) (a : Nat) (e : List Int) : Prop := (b.drop a).take e.length = e ∧ a + e.length ≤ b.length
theorem Lies.app {b e f : List Int} {a : Nat} (h1 : Lies b a e) (h2 : Lies b (a + e.length) f) : Lies b a (e ++ f) := by
 refine ⟨?_, by rw [List.length_append]; have := h2.2; omega⟩
 rw [List.length_append, List.take_add, h1.1, List.drop_drop, h2.1]
theorem Lies.left {b e f : List Int} {a : Nat} (h : Lies b a (e ++ f)) : Lies b a e := by
 obtain ⟨h1, h2⟩ := h
 rw [List.length_append] at h1 h2
 refine ⟨?_, by omega⟩
 have := congrArg (List.take e.length) h1
 rw [List.take_take, Nat.min_eq_left (by omega), List.take_left] at this
 exact this
theorem Lies.right {b e f : List Int} {a : Nat} (h : Lies b a (e ++ f)) : Lies b (a + e.length) f := by
 obtain ⟨h1, h2⟩ := h
 rw [List.length_append] at h1 h2
 refine ⟨?_, by omega⟩
 have := congrArg (List.drop e.length) h1
 rw [List.drop_left, List.drop_take, List.drop_drop, Nat.add_sub_cancel_left] at this
 exact this
theorem Lies.nil (b : List Int) (a : Nat) (h : a ≤ b.length) : Lies b a [] := ⟨by simp, by simpa using h⟩
theorem cut_drop (b : List Int) (a m : Nat) : (b.take (a + m)).drop a = (b.drop a).take m := by
 rw [List.drop_take]; congr 1; omega
theorem decB_good {b : List Int} (hb : U8 b) {a : Nat} {z : List Int × Nat} (h : decB b a = some z) : Lies b a (cnt z.1.length ++ z.1 ++ List.replicate (padN z.1.length) 0) ∧ z.2 = a + 32 + cw z.1.length ∧ z.1.length ≤ b.length := by
 unfold decB at h
 cases hc : countAt b a with
 | none => rw [hc] at h; cases h
 | some m =>
  simp only [hc] at h
  obtain ⟨c1, c2, c3⟩ := countAt_good hb hc
  split at h
  ·rename_i hd
   obtain rfl := Option.some.inj h
   simp only
   have hcw := cw_eq m
   have hl : ((b.take (a + 32 + m)).drop (a + 32)).length = m := by simp; omega
   rw [hl]
   refine ⟨Lies.app (Lies.app ⟨by rw [cnt_len]; exact c3, by rw [cnt_len]; omega⟩ ⟨?_, ?_⟩) ⟨?_, ?_⟩, rfl, c1⟩
   ·rw [cnt_len, hl, cut_drop]
   ·rw [cnt_len, hl]; omega
   ·rw [List.length_append, cnt_len, hl, List.length_replicate]
    have := hd.2
    rw [show a + 32 + cw m = a + 32 + m + padN m by omega, cut_drop] at this
    rw [show a + (32 + m) = a + 32 + m by omega]; exact this
   ·rw [List.length_append, cnt_len, hl, List.length_replicate]; omega
  ·cases h
theorem decB_of {b s : List Int} {a : Nat} (hl : b.length < 18446744073709551616) (h : Lies b a (cnt s.length ++ s ++ List.replicate (padN s.length) 0)) : decB b a = some (s, a + 32 + cw s.length) := by
 have h1 := h.left.left
 have h2 := h.left.right
 have h3 := h.right
 have hcw := cw_eq s.length
 rw [cnt_len] at h2
 rw [List.length_append, cnt_len] at h3
 have e3 := h3.2
 rw [List.length_replicate] at e3
 unfold decB
 have hc : countAt b a = some s.length := countAt_of (by have := h2.2; omega) hl (by have := h1.1; rwa [cnt_len] at this)
 simp only [hc]
 rw [if_pos]
 ·congr 2
  rw [cut_drop]; exact h2.1
 ·refine ⟨by omega, ?_⟩
  rw [show a + 32 + cw s.length = a + 32 + s.length + padN s.length by omega, cut_drop]
  have := h3.1
  rw [List.length_replicate] at this
  rw [show a + 32 + s.length = a + (32 + s.length) by omega]; exact this
end GW
set_option linter.unusedVariables false
set_option linter.unusedSimpArgs false
set_option maxRecDepth 100000
namespace GW
open Go Go.RowKit
def Read (b : List Int) (y : Sx) (a d : Nat) (v : Vx) (d' : Nat) : Prop :=
 v.Typ y ∧ v.bad y = false ∧ Lies b a (v.enc y) ∧ (y.dyn = false → d' = max d (a + y.sz)) ∧ (y.dyn = true → d ≤ a → d' = a + (v.enc y).length)
theorem decl_good (b : List Int) (hb : U8 b) (f : Sx → Nat → Nat → Option (Vx × Nat)) (a1 S : Nat) : ∀ (es : List Sx) (fr o : Nat) (z : List Vx × Nat),
  (∀ y ∈ es, y.Ok ∧ (∀ a d u, (y.dyn = true → d ≤ a) → f y a d = some u → Read b y a d u.1 u.2)) → fr + Sx.szl es = a1 + S → S ≤ o → decl f b a1 es fr (a1 + o) = some z →
   Vx.Typl z.1 es ∧ Vx.badl z.1 es = false ∧ (fr + Sx.szl es ≤ b.length → Lies b fr (Vx.frt z.1 es o)) ∧ ((Vx.bck z.1 es).length = 0 ∨ Lies b (a1 + o) (Vx.bck z.1 es)) ∧ z.2 = a1 + o + (Vx.bck z.1 es).length := by
 intro es
 induction es with
 | nil =>
  intro fr o z _ hfr hS h
  obtain rfl := Option.some.inj h
  simp only [Sx.szl] at hfr
  exact ⟨trivial, by simp [Vx.badl], fun hl => by rw [Vx.frt]; exact Lies.nil b fr (by simpa [Sx.szl] using hl), Or.inl (by simp [Vx.bck]), by simp [Vx.bck]⟩
 | cons y es ih =>
  intro fr o z hf hfr hS h
  obtain ⟨hok, hfy⟩ := hf y List.mem_cons_self
  have hf' := fun y' (hy : y' ∈ es) => hf y' (List.mem_cons_of_mem _ hy)
  rw [Sx.szl] at hfr
  rw [decl] at h
  cases hd : y.dyn with
  | true =>
   rw [hd, if_pos rfl] at h
   cases hc : countAt b fr with
   | none => rw [hc] at h; cases h
   | some c =>
    simp only [hc] at h
    split at h
    ·rename_i hcd
     obtain rfl : c = o := by omega
     obtain ⟨c1, c2, c3⟩ := countAt_good hb hc
     cases hu : f y (a1 + c) (a1 + c) with
     | none => simp only [hu] at h; cases h
     | some u =>
      simp only [hu] at h
      obtain ⟨r1, r2, r3, -, r5⟩ := hfy _ _ _ (fun _ => Nat.le_refl _) hu
      have hu2 := r5 hd (Nat.le_refl _)
      cases hz : decl f b a1 es (fr + y.sz) u.2 with
      | none => simp only [hz] at h; cases h
      | some w =>
       simp only [hz] at h
       obtain rfl := Option.some.inj h
       rw [hu2, Nat.add_assoc a1] at hz
       obtain ⟨k1, k2, k3, k4, k5⟩ := ih (fr + y.sz) (c + (u.1.enc y).length) w hf' (by omega) (by omega) hz
       have h32 := Sx.sz_dyn hok hd
       refine ⟨⟨r1, k1⟩, by simp only [Vx.badl]; rw [r2, k2]; rfl, fun hl => ?_, Or.inr ?_, ?_⟩
       ·simp only [Vx.frt]
        rw [if_pos hd]
        rw [Sx.szl] at hl
        refine Lies.app ⟨by rw [cnt_len]; exact c3, by rw [cnt_len]; exact c2⟩ ?_
        rw [cnt_len, ← h32]
        exact k3 (by omega)
       ·simp only [Vx.bck]
        rw [if_pos hd]
        refine Lies.app r3 ?_
        rcases k4 with k4 | k4
        ·rw [List.eq_nil_of_length_eq_zero k4]; exact Lies.nil _ _ r3.2
        ·rw [Nat.add_assoc]; exact k4
       ·simp only [Vx.bck]
        rw [if_pos hd, List.length_append, k5]; omega
    ·cases h
  | false =>
   rw [hd, if_neg (by simp)] at h
   cases hu : f y fr (a1 + o) with
   | none => rw [hu] at h; cases h
   | some u =>
    simp only [hu] at h
    obtain ⟨r1, r2, r3, r4, -⟩ := hfy _ _ _ (fun h => by rw [hd] at h; cases h) hu
    have hu2 : u.2 = a1 + o := by rw [r4 hd]; exact Nat.max_eq_left (by omega)
    have hlen := enc_static y.nd y u.1 (Nat.le_refl _) hok r1 hd
    cases hz : decl f b a1 es (fr + y.sz) u.2 with
    | none => simp only [hz] at h; cases h
    | some w =>
     simp only [hz] at h
     obtain rfl := Option.some.inj h
     rw [hu2] at hz
     obtain ⟨k1, k2, k3, k4, k5⟩ := ih (fr + y.sz) o w hf' (by omega) hS hz
     have hdn : ¬ y.dyn = true := by rw [hd]; simp
     refine ⟨⟨r1, k1⟩, by simp only [Vx.badl]; rw [r2, k2]; rfl, fun hl => ?_, ?_, ?_⟩
     ·simp only [Vx.frt]
      rw [if_neg hdn]
      rw [Sx.szl] at hl
      refine Lies.app r3 ?_
      rw [hlen]
      exact k3 (by omega)
     ·simp only [Vx.bck]
      rw [if_neg hdn]; exact k4
     ·simp only [Vx.bck]
      rw [if_neg hdn]; exact k5
theorem frt_static : ∀ (l : List Vx) (es : List Sx) (o o' : Nat), (∀ y ∈ es, y.dyn = false) → Vx.frt l es o = Vx.frt l es o'
 | [], _, _, _, _ => by simp [Vx.frt]
 | _ :: _, [], _, _, _ => by simp [Vx.frt]
 | v :: l, x :: es, o, o', h => by
  have hx : ¬ x.dyn = true := by rw [h x List.mem_cons_self]; simp
  rw [Vx.frt, Vx.frt, if_neg hx, if_neg hx, frt_static l es o o' fun y hy => h y (List.mem_cons_of_mem _ hy)]
theorem decR_good (b : List Int) (hb : U8 b) (f : Sx → Nat → Nat → Option (Vx × Nat)) (x : Sx) (hx : x.Ok) (hk : 4 ≤ x.kd) (N a1 d : Nat) (hN : x.okN N = true) (z : Vx × Nat)
  (hda : x.dyn = true → d ≤ a1)
  (hf : ∀ y ∈ x.els N, y.Ok ∧ (∀ a d u, (y.dyn = true → d ≤ a) → f y a d = some u → Read b y a d u.1 u.2)) (ha : a1 ≤ b.length ∨ x.els N ≠ []) (h : decR f b x N a1 d = some z) :
   ∃ vs, z.1 = .row vs ∧ vs.length = N ∧ Vx.Typl vs (x.els N) ∧ Vx.badl vs (x.els N) = false ∧ Lies b a1 (Vx.frt vs (x.els N) (Sx.szl (x.els N)) ++ Vx.bck vs (x.els N)) ∧
    (x.dyn = false → z.2 = max d (a1 + Sx.szl (x.els N))) ∧ (x.dyn = true → d ≤ a1 → z.2 = a1 + (Vx.frt vs (x.els N) (Sx.szl (x.els N)) ++ Vx.bck vs (x.els N)).length) := by
 unfold decR at h
 split at h
 ·rename_i hc
  cases hd : decl f b a1 (x.els N) a1 (max d (a1 + Sx.szl (x.els N))) with
  | none => rw [hd] at h; cases h
  | some w =>
   simp only [hd] at h
   obtain rfl := Option.some.inj h
   have hel := Sx.els_len hN
   obtain ⟨o, ho⟩ : ∃ o, max d (a1 + Sx.szl (x.els N)) = a1 + o := ⟨max d (a1 + Sx.szl (x.els N)) - a1, by omega⟩
   rw [ho] at hd
   obtain ⟨k1, k2, k3, k4, k5⟩ := decl_good b hb f a1 (Sx.szl (x.els N)) (x.els N) a1 o w hf rfl (by omega) hd
   have hl : a1 + Sx.szl (x.els N) ≤ b.length := by
    rcases hc.2 with h0 | h0
    ·subst h0
     have he : x.els 0 = [] := List.eq_nil_of_length_eq_zero hel
     rcases ha with ha | ha
     ·rw [he, Sx.szl]; omega
     ·exact absurd he ha
    ·exact h0
   have hle := Vx.Typl_len k1
   have hfl := frt_len w.1 (x.els N) o (fun y hy => (hf y hy).1) (fun y hy v hv hd => enc_static y.nd y v (Nat.le_refl _) (hf y hy).1 hv hd) k1
   refine ⟨w.1, rfl, by omega, k1, k2, ?_, fun hs => ?_, fun hs _ => ?_⟩
   ·cases hs : x.dyn with
    | false =>
     have hst := fun (y : Sx) (hy : y ∈ x.els N) => Sx.dyn_els hx hs hy
     rw [bck_nil _ _ hst, List.append_nil, frt_static _ _ _ o hst]
     exact k3 hl
    | true =>
     have hda := hda hs
     obtain rfl : o = Sx.szl (x.els N) := by omega
     refine Lies.app (k3 hl) ?_
     rw [hfl]
     rcases k4 with k4 | k4
     ·rw [List.eq_nil_of_length_eq_zero k4]; exact Lies.nil _ _ hl
     ·exact k4
   ·have hst := fun (y : Sx) (hy : y ∈ x.els N) => Sx.dyn_els hx hs hy
    rw [k5, bck_nil _ _ hst, List.length_nil]; omega
   ·have hda := hda hs
    obtain rfl : o = Sx.szl (x.els N) := by omega
    rw [k5, List.length_append, hfl]; omega
 ·cases h
end GW
set_option linter.unusedVariables false
set_option linter.unusedSimpArgs false
set_option maxRecDepth 100000
namespace GW
open Go Go.RowKit
theorem imax_nat (a b : Nat) : imax (a : Int) (b : Int) = ((max a b : Nat) : Int) := by unfold imax; split <;> omega
theorem small_eq {w : List Int} (h : Gd54 w) : ff5_.f w = some (if rd w 1 = 0 ∧ rd w 2 = 0 ∧ rd w 3 = 0 then (rd w 0, true) else (0, false)) := by
 obtain ⟨p, q, r, s, rfl, hp, hq, hr, hs, -⟩ := lanes_of h
 have e1 : rd [(p : Int), q, r, s] 1 = q := rfl
 have e2 : rd [(p : Int), q, r, s] 2 = r := rfl
 have e3 : rd [(p : Int), q, r, s] 3 = s := rfl
 unfold ff5_.f
 rw [e1, e2, e3, bits_or_u64_nat _ _ hq hr, bits_or_u64_nat _ _ (Nat.or_lt_two_pow (n := 64) (by simpa using hq) (by simpa using hr)) hs]
 by_cases hz : q = 0 ∧ r = 0 ∧ s = 0
 ·obtain ⟨rfl, rfl, rfl⟩ := hz
  simp
 ·have : ¬ (q ||| r ||| s = 0) := by
   intro h
   rw [Nat.or_eq_zero_iff, Nat.or_eq_zero_iff] at h
   exact hz ⟨h.1.1, h.1.2, h.2⟩
  rw [if_pos (by simpa using this), if_neg (by omega)]
theorem wordR {b : List Int} (hb : U8 b) (hl : b.length ≤ 2000000) (d : Int) (out : L38) (a k : Nat) (ha : a ≤ 100000000000) (hk : 40 ≤ k) :
  fd7_.f k (b, d, out, false) (a : Int) = some (match wordAt b a with
   | none => (Z4, ((), (), out, true))
   | some w => (w, ((), (), out, false))) := by
 unfold fd7_.f fd7_.j1 wordAt
 simp only
 rw [if_neg (by simp), if_neg (by simp), wi (by omega) (by omega)]
 by_cases c : a + 32 ≤ b.length
 ·rw [if_pos c, if_neg (by simp; omega), wi (by omega) (by omega), if_pos (by omega)]
  obtain ⟨k, rfl⟩ : ∃ u, k = u + 40 := ⟨k - 40, by omega⟩
  have e : ((a : Int) + 32).toNat = a + 32 := by omega
  rw [e, Int.toNat_natCast, cut_drop, from_f k (take32_len c) ((hb.drop a).take 32)]
  rfl
 ·rw [if_neg c, if_pos (by simp; omega)]
theorem countR {b : List Int} (hb : U8 b) (hl : b.length ≤ 2000000) (d : Int) (out : L38) (a k : Nat) (ha : a ≤ 100000000000) (hk : 40 ≤ k) :
  fd0_.f k (b, d, out, false) (a : Int) = some (match countAt b a with
   | none => (0, ((), (), out, true))
   | some n => ((n : Int), ((), (), out, false))) := by
 unfold fd0_.f fd0_.j1
 rw [wordR hb hl d out a k ha hk, Option.bind_some]
 unfold countAt
 cases hw : wordAt b a with
 | none =>
  simp only
  have hz : Gd54 Z4 := ⟨rfl, fun y hy => by simp at hy; subst hy; exact inK_u64_of (by omega) (by omega)⟩
  have hs : ff5_.f Z4 = some (0, true) := (small_eq hz).trans (by rw [if_pos ⟨rfl, rfl, rfl⟩]; rfl)
  have hd : decide (wr .u64 (b.length : Int) < 0) = false := by rw [wr_u64_id (by omega) (by omega)]; simp
  rw [hs, Option.bind_some, hd, if_neg (by simp), if_neg (by simp)]
  rfl
 | some w =>
  obtain ⟨g1, -, -⟩ := wordAt_good hb hw
  simp only
  have hr : 0 ≤ rd w 0 := by obtain ⟨p, q, r, s, rfl, -⟩ := lanes_of g1; show (0 : Int) ≤ (p : Int); omega
  rw [wr_u64_id (by omega) (by omega)]
  by_cases c : rd w 1 = 0 ∧ rd w 2 = 0 ∧ rd w 3 = 0
  ·have hs : ff5_.f w = some (rd w 0, true) := (small_eq g1).trans (by rw [if_pos c])
   rw [hs, Option.bind_some, if_neg (by simp)]
   by_cases c2 : rd w 0 ≤ (b.length : Int)
   ·have hd : decide ((b.length : Int) < rd w 0) = false := decide_eq_false (by omega)
    simp only
    rw [if_pos (⟨c.1, c.2.1, c.2.2, c2⟩ : rd w 1 = 0 ∧ rd w 2 = 0 ∧ rd w 3 = 0 ∧ rd w 0 ≤ (b.length : Int)), hd, if_neg (by simp), wi (by omega) (by omega)]
    simp only
    rw [show (((rd w 0).toNat : Nat) : Int) = rd w 0 by omega]
   ·have hd : decide ((b.length : Int) < rd w 0) = true := decide_eq_true (by omega)
    simp only
    have hn : ¬ (rd w 1 = 0 ∧ rd w 2 = 0 ∧ rd w 3 = 0 ∧ rd w 0 ≤ (b.length : Int)) := fun h => c2 h.2.2.2
    rw [hd, if_pos rfl, if_neg hn]
  ·have hs : ff5_.f w = some (0, false) := (small_eq g1).trans (by rw [if_neg c])
   have hn : ¬ (rd w 1 = 0 ∧ rd w 2 = 0 ∧ rd w 3 = 0 ∧ rd w 0 ≤ (b.length : Int)) := fun h => c ⟨h.1, h.2.1, h.2.2.1⟩
   rw [hs, Option.bind_some, if_pos (by simp), if_pos trivial, if_neg hn]
theorem idx_loop (c : List Int) (hc : c.length ≤ 1000000) : ∀ (n q i : Nat), i + n = c.length → n < q → ∃ r : Int, fa0_.l1 c q (i : Int) = some r ∧ (r < 0 ↔ c.drop i = List.replicate n 0) := by
 intro n
 induction n with
 | zero =>
  intro q i hi hq
  obtain ⟨q, rfl⟩ : ∃ u, q = u + 1 := ⟨q - 1, by omega⟩
  refine ⟨-1, ?_, ?_⟩
  ·show fa0_.b1 _ _ _ = _
   unfold fa0_.b1
   rw [if_neg (by simp; omega)]; rfl
  ·rw [List.drop_eq_nil_of_le (by omega)]; simp
 | succ n ih =>
  intro q i hi hq
  obtain ⟨q, rfl⟩ : ∃ u, q = u + 1 := ⟨q - 1, by omega⟩
  have hil : i < c.length := by omega
  have hw : wr .i64 ((i : Int) + 1) = ((i + 1 : Nat) : Int) := by rw [wi (by omega) (by omega)]; omega
  have hd : c.drop i = rd c (i : Int) :: c.drop (i + 1) := by
   rw [List.drop_eq_getElem_cons hil]
   congr 1
   unfold rd
   rw [Int.toNat_natCast, List.getD_eq_getElem?_getD, List.getElem?_eq_getElem hil]; rfl
  obtain ⟨r, e, h⟩ := ih q (i + 1) (by omega) (by omega)
  have step : fa0_.l1 c (q + 1) (i : Int) = if (rd c (i : Int) != 0) = true then some (i : Int) else fa0_.l1 c q ((i + 1 : Nat) : Int) := by
   show fa0_.b1 _ _ _ = _
   unfold fa0_.b1 fa7_.f
   rw [if_pos (by simp; omega), if_pos (by omega), Option.bind_some, hw]
  rw [step, hd, List.replicate_succ]
  by_cases c0 : rd c (i : Int) = 0
  ·rw [if_neg (by simp [c0])]
   refine ⟨r, e, ?_⟩
   rw [h, c0]; simp
  ·rw [if_pos (by simp [c0])]
   refine ⟨_, rfl, ?_⟩
   constructor
   ·intro h; omega
   ·intro h; exact absurd (List.cons.inj h).1 c0
theorem contP (c : List Int) (k : Nat) (hk : c.length < k) (hc : c.length ≤ 1000000) : fa_.f k c = some (!decide (c = List.replicate c.length 0)) := by
 obtain ⟨r, e, h⟩ := idx_loop c hc c.length k 0 (by omega) hk
 unfold fa_.f fa0_.f
 have e' : fa0_.l1 c k 0 = some r := e
 rw [e', Option.bind_some]
 rw [List.drop_zero] at h
 by_cases c0 : c = List.replicate c.length 0
 ·rw [decide_eq_true c0, decide_eq_false (by have := h.2 c0; omega)]; rfl
 ·rw [decide_eq_false c0, decide_eq_true (by by_cases g : r < 0; exact absurd (h.1 g) c0; omega)]; rfl
theorem cw_int (m : Nat) (hm : m ≤ 2000000) : wr .i64 (wr .i64 (Int.tdiv (wr .i64 ((m : Int) + 31)) 32) * 32) = ((cw m : Nat) : Int) := by
 have e0 : wr .i64 ((m : Int) + 31) = (m : Int) + 31 := wi (by omega) (by omega)
 have e : Int.tdiv ((m : Int) + 31) 32 = (((m + 31) / 32 : Nat) : Int) := by
  rw [show (m : Int) + 31 = ((m + 31 : Nat) : Int) by omega]
  rfl
 have e1 : wr .i64 ((((m + 31) / 32 : Nat) : Int)) = (((m + 31) / 32 : Nat) : Int) := wi (by omega) (by omega)
 rw [e0, e, e1, wi (by omega) (by omega)]
 unfold cw
 omega
theorem bytesR {b : List Int} (hb : U8 b) (hl : b.length ≤ 2000000) (d : Int) (out : L38) (ho : out.length ≤ 1000000000000) (a k : Nat) (ha : a ≤ 100000000000) (hk : 40 ≤ k) :
  fc7_.f k (b, d, out, false) (a : Int) = some (match decB b a with
   | none => ((), d, out, true)
   | some z => ((), (z.2 : Int), out ++ [(Z4, z.1, 0)], false)) := by
 unfold fc7_.f
 rw [countR hb hl d out a k ha hk, Option.bind_some]
 unfold decB
 cases hc : countAt b a with
 | none => rfl
 | some m =>
  obtain ⟨c1, c2, c3⟩ := countAt_good hb hc
  simp only
  have hcw := cw_eq m
  have w1 : wr .i64 ((a : Int) + 32) = ((a + 32 : Nat) : Int) := by rw [wi (by omega) (by omega)]; omega
  have hcl : cw m ≤ m + 31 := by unfold cw; omega
  have hcg : m ≤ cw m := by omega
  have w2 : wr .i64 (((a + 32 : Nat) : Int) + (cw m : Int)) = ((a + 32 + cw m : Nat) : Int) := by rw [wi (by omega) (by omega)]; omega
  have w3 : wr .i64 (((a + 32 : Nat) : Int) + (m : Int)) = ((a + 32 + m : Nat) : Int) := by rw [wi (by omega) (by omega)]; omega
  rw [if_neg (by simp), w1, cw_int m (by omega), w2, w3]
  by_cases ce : a + 32 + cw m ≤ b.length
  ·have hlen : ((b.take (a + 32 + cw m)).drop (a + 32 + m)).length = padN m := by simp; omega
   have hpn : padN m ≤ 31 := by unfold padN; omega
   rw [if_neg (by simp; omega), if_pos (by omega), Int.toNat_natCast, Int.toNat_natCast, contP _ k (by omega) (by omega), Option.bind_some, hlen]
   unfold fc7_.j1
   simp only
   by_cases cp : (b.take (a + 32 + cw m)).drop (a + 32 + m) = List.replicate (padN m) 0
   ·rw [w1, w3, cw_int m (by omega), w2, decide_eq_true cp, if_neg (by simp), if_pos (by omega), Int.toNat_natCast, Int.toNat_natCast]
    simp only [cp, ce, and_self, if_true]
    unfold fa4_.f
    rw [if_pos (by simp; omega), Option.bind_some, List.nil_append, if_pos (by simp; omega)]
   ·rw [decide_eq_false cp, if_pos (by simp)]
    simp only [cp, and_false, if_false]
  ·rw [if_pos (by simp; omega)]
   simp only [ce, false_and, if_false]
   rfl
end GW
set_option linter.unusedVariables false
set_option linter.unusedSimpArgs false
set_option maxRecDepth 100000
namespace GW
open Go Go.RowKit
theorem Sx.dyn_low {x : Sx} (hx : x.kd < 3) : x.dyn = false := by
 cases x with
 | leaf i => simp only [Sx.kd] at hx; simp [Sx.dyn]; omega
 | list y => simp [Sx.kd] at hx
 | arr m y => simp [Sx.kd] at hx
 | tup l => simp [Sx.kd] at hx
theorem Sx.dyn_34 {x : Sx} (ho : x.Ok) (hx : x.kd = 3 ∨ x.kd = 4) : x.dyn = true := by
 rw [Sx.dyn_eq x ho]
 rcases hx with h | h <;> rw [h] <;> simp
theorem dec_good (b : List Int) (hb : U8 b) : ∀ (n : Nat) (x : Sx) (a d : Nat) (u : Vx × Nat), x.Ok → (∀ y ∈ x.parts, y.Full) → (a ≤ b.length ∨ x.Full) → (x.dyn = true → d ≤ a) → dec b n x a d = some u → Read b x a d u.1 u.2 := by
 intro n
 induction n with
 | zero => intro x a d u _ _ _ _ h; cases h
 | succ n ih =>
  intro x a d u hok hp ha hd h
  have hel : ∀ N, ∀ y ∈ x.els N, y.Ok ∧ (∀ a d u, (y.dyn = true → d ≤ a) → dec b n y a d = some u → Read b y a d u.1 u.2) := fun N y hy =>
   have hm := Sx.els_mem hy
   ⟨hok.part hm, fun a d u hda hu => ih y a d u (hok.part hm) (fun z hz => (hp y hm).part hz) (Or.inr (hp y hm)) hda hu⟩
  rw [dec] at h
  by_cases c3 : x.kd < 3
  ·rw [if_pos c3] at h
   cases hw : wordAt b a with
   | none => rw [hw] at h; cases h
   | some w =>
    simp only [hw] at h
    obtain ⟨g1, g2, g3⟩ := wordAt_good hb hw
    split at h
    ·cases h
    ·rename_i hbad
     obtain rfl := Option.some.inj h
     have hdy := Sx.dyn_low c3
     have hsz : x.sz = 32 := by rw [Sx.sz_eq x hok, if_pos (Or.inr (by omega))]
     refine ⟨by simpa [Vx.Typ] using c3, by simpa [Vx.bad] using hbad, ?_, fun _ => by rw [hsz], fun h => by rw [hdy] at h; cases h⟩
     rw [Vx.enc]
     exact ⟨by rw [wbytes_len]; exact g3, by rw [wbytes_len]; exact g2⟩
  ·rw [if_neg c3] at h
   by_cases k3 : x.kd = 3
   ·rw [if_pos k3] at h
    cases hz : decB b a with
    | none => rw [hz] at h; cases h
    | some z =>
     simp only [hz] at h
     obtain rfl := Option.some.inj h
     obtain ⟨g1, g2, g3⟩ := decB_good hb hz
     have hdy := Sx.dyn_34 hok (Or.inl k3)
     refine ⟨by simpa [Vx.Typ] using k3, by simp [Vx.bad], by rw [Vx.enc]; exact g1, fun h => absurd h (by simp [hdy]), fun _ _ => ?_⟩
     simp only
     rw [Vx.enc, g2]
     have := cw_eq z.1.length
     simp only [List.length_append, cnt_len, List.length_replicate]
     omega
   ·rw [if_neg k3] at h
    by_cases k4 : x.kd = 4
    ·rw [if_pos k4] at h
     have hdy := Sx.dyn_34 hok (Or.inr k4)
     cases hc : countAt b a with
     | none => rw [hc] at h; cases h
     | some N =>
      simp only [hc] at h
      obtain ⟨c1, c2, c3'⟩ := countAt_good hb hc
      have hN : x.okN N = true := by
       cases x with
       | list y => rfl
       | leaf i => simp only [Sx.Ok] at hok; simp [Sx.kd] at k4; omega
       | arr m y => simp [Sx.kd] at k4
       | tup l => simp [Sx.kd] at k4
      have hda := hd hdy
      obtain ⟨vs, e1, e2, e3, e4, e5, e6, e7⟩ := decR_good b hb (dec b n) x hok (by omega) N (a + 32) (max d (a + 32)) hN u (fun _ => by omega) (hel N) (Or.inl c2) h
      obtain ⟨u1, u2⟩ := u
      simp only at e1 e7 ⊢
      subst e1
      have e8 := e7 hdy (by omega)
      subst e2
      refine ⟨by simp only [Vx.Typ]; exact ⟨by omega, hN, e3⟩, by simpa [Vx.bad] using e4, ?_, fun h => absurd h (by simp [hdy]), fun _ _ => ?_⟩
      ·rw [Vx.enc, if_pos k4]
       exact Lies.app ⟨by rw [cnt_len]; exact c3', by rw [cnt_len]; exact c2⟩ (by rw [cnt_len]; exact e5)
      ·rw [Vx.enc, if_pos k4, List.length_append, cnt_len, e8]; omega
    ·rw [if_neg k4] at h
     have hN := Sx.cnt_ok x (by omega) k4 hok
     have ha' : a ≤ b.length ∨ x.els x.cnt_ ≠ [] := by
      rcases ha with ha | ha
      ·exact Or.inl ha
      ·refine Or.inr fun h0 => ?_
       have hlen := Sx.els_len hN
       rw [h0] at hlen
       cases x with
       | leaf i => simp only [Sx.Ok] at hok; simp [Sx.kd] at c3 k3; omega
       | list y => simp [Sx.kd] at k4
       | arr m y => simp only [Sx.Ok] at hok; simp [Sx.cnt_] at hlen; omega
       | tup l => simp [Sx.cnt_] at hlen; simp only [Sx.Full] at ha; exact ha.1 (List.eq_nil_of_length_eq_zero hlen.symm)
     obtain ⟨vs, e1, e2, e3, e4, e5, e6, e7⟩ := decR_good b hb (dec b n) x hok (by omega) x.cnt_ a d hN u hd (hel _) ha' h
     obtain ⟨u1, u2⟩ := u
     simp only at e1 e6 e7 ⊢
     subst e1
     have e2' := e2.symm
     rw [e2'] at e3 e4 e5 e6 e7 hN
     refine ⟨by simp only [Vx.Typ]; exact ⟨by omega, hN, e3⟩, by simpa [Vx.bad] using e4, ?_, fun hs => ?_, fun hs hda => ?_⟩
     ·rw [Vx.enc, if_neg k4, List.nil_append]; exact e5
     ·rw [e6 hs, Sx.sz_els hok (by omega) hs hN]
     ·rw [Vx.enc, if_neg k4, List.nil_append]; exact e7 hs hda
theorem Read.le {b : List Int} {y : Sx} {a d d' : Nat} {v : Vx} (hy : y.Ok) (h : Read b y a d v d') (hd : d ≤ b.length) (hda : y.dyn = true → d ≤ a) : d' ≤ b.length := by
 obtain ⟨h1, h2, h3, h4, h5⟩ := h
 have := h3.2
 cases hdy : y.dyn with
 | false => rw [h4 hdy]; have := enc_static y.nd y v (Nat.le_refl _) hy h1 hdy; omega
 | true => rw [h5 hdy (hda hdy)]; exact this
theorem row_many (W : Nat) : ∀ (l : List Vx) (es : List Sx) (o : Nat), (∀ y ∈ es, ∀ v : Vx, v.Typ y → 32 * v.flat.length ≤ W * (v.enc y).length) → Vx.Typl l es → 32 * (Vx.flatl l).length ≤ W * ((Vx.frt l es o).length + (Vx.bck l es).length)
 | [], [], o, _, _ => by simp [Vx.flatl]
 | v :: l, x :: es, o, he, h => by
  simp only [Vx.Typl] at h
  have ih := fun o => row_many W l es o (fun y hy => he y (List.mem_cons_of_mem _ hy)) h.2
  have h1 := he x List.mem_cons_self v h.1
  rw [Vx.flatl, List.length_append, Vx.frt, Vx.bck]
  cases hd : x.dyn with
  | true =>
   simp only [if_true, List.length_append, cnt_len]
   have h2 := ih (o + (v.enc x).length)
   have e : W * (32 + (Vx.frt l es (o + (v.enc x).length)).length + ((v.enc x).length + (Vx.bck l es).length)) = W * 32 + W * (v.enc x).length + W * ((Vx.frt l es (o + (v.enc x).length)).length + (Vx.bck l es).length) := by simp only [Nat.mul_add]; omega
   rw [e]; omega
  | false =>
   simp only [Bool.false_eq_true, if_false, List.length_append]
   have h2 := ih o
   have e : W * ((v.enc x).length + (Vx.frt l es o).length + (Vx.bck l es).length) = W * (v.enc x).length + W * ((Vx.frt l es o).length + (Vx.bck l es).length) := by simp only [Nat.mul_add]; omega
   rw [e]; omega
 | [], _ :: _, _, _, h => by simp [Vx.Typl] at h
 | _ :: _, [], _, _, h => by simp [Vx.Typl] at h
theorem Sx.dp_part {x y : Sx} (ho : x.Ok) (hk : 4 ≤ x.kd) (hy : y ∈ x.parts) : y.dp + 1 ≤ x.dp := by
 rw [Sx.dp_eq x ho, if_pos hk]
 have : ∀ l : List Sx, y ∈ l → y.dp ≤ Sx.dpl l := fun l => by
  induction l with
  | nil => intro h; cases h
  | cons z l ih =>
   intro h
   rw [Sx.dpl]
   rcases List.mem_cons.1 h with rfl | h
   ·omega
   ·have := ih h; omega
 have := this _ hy
 omega
theorem szl_ge : ∀ (es : List Sx), (∀ y ∈ es, 32 ≤ y.sz) → 32 * es.length ≤ Sx.szl es := by
 intro es
 induction es with
 | nil => intro _; simp
 | cons y es ih => intro h; have := ih fun z hz => h z (List.mem_cons_of_mem _ hz); have := h y List.mem_cons_self; rw [Sx.szl, List.length_cons]; omega
theorem many : ∀ (n : Nat) (x : Sx) (v : Vx), x.nd ≤ n → x.Ok → x.Full → v.Typ x → 32 * v.flat.length ≤ (x.dp + 1) * (v.enc x).length := by
 intro n
 induction n with
 | zero => intro x v hx; have := x.nd_pos; omega
 | succ n ih =>
  intro x v hx ho hf ht
  cases v with
  | word w =>
   rw [Vx.enc, wbytes_len]; simp only [Vx.flat, List.length_singleton]
   have : 1 * 32 ≤ (x.dp + 1) * 32 := Nat.mul_le_mul_right _ (by omega)
   omega
  | bytes s =>
   rw [Vx.enc]; simp only [Vx.flat, List.length_singleton, List.length_append, cnt_len]
   have : 1 * (32 + s.length + (List.replicate (padN s.length) (0 : Int)).length) ≤ (x.dp + 1) * (32 + s.length + (List.replicate (padN s.length) (0 : Int)).length) := Nat.mul_le_mul_right _ (by omega)
   omega
  | row l =>
   simp only [Vx.Typ] at ht
   obtain ⟨t1, t2, t3⟩ := ht
   have hel := Sx.els_len t2
   have hfl := fun o => frt_len l (x.els l.length) o (fun y hy => ho.part (Sx.els_mem hy)) (fun y hy v hv hd => enc_static y.nd y v (Nat.le_refl _) (ho.part (Sx.els_mem hy)) hv hd) t3
   have hm := row_many x.dp l (x.els l.length) (Sx.szl (x.els l.length)) (fun y hy v hv => by
    have hp := Sx.els_mem hy
    have h1 := ih y v (by have := Sx.nd_part hp; omega) (ho.part hp) (hf.part hp) hv
    have h2 : (y.dp + 1) * (v.enc y).length ≤ x.dp * (v.enc y).length := Nat.mul_le_mul_right _ (Sx.dp_part ho t1 hp)
    omega) t3
   have hge := szl_ge (x.els l.length) fun y hy => Sx.sz_ge y (ho.part (Sx.els_mem hy)) (hf.part (Sx.els_mem hy))
   rw [Vx.enc, Vx.flat]
   simp only [List.length_cons, List.length_append] at hm ⊢
   rw [hfl] at hm ⊢
   have hpos : 32 ≤ (if x.kd = 4 then cnt l.length else []).length + (Sx.szl (x.els l.length) + (Vx.bck l (x.els l.length)).length) := by
    by_cases k4 : x.kd = 4
    ·rw [if_pos k4, cnt_len]; omega
    ·have : 1 ≤ l.length := by
      cases x with
      | leaf i => simp [Sx.okN] at t2
      | list y => simp [Sx.kd] at k4
      | arr m y => simp only [Sx.Ok] at ho; simp [Sx.okN] at t2; omega
      | tup ts =>
       simp only [Sx.Full] at hf
       simp [Sx.okN] at t2
       rcases Nat.eq_zero_or_pos l.length with h0 | h0
       ·exact absurd (List.eq_nil_of_length_eq_zero (by omega)) hf.1
       ·exact h0
     omega
   generalize (if x.kd = 4 then cnt l.length else []).length = C at hpos ⊢
   generalize Sx.szl (x.els l.length) + (Vx.bck l (x.els l.length)).length = X at hpos hm ⊢
   have e : (x.dp + 1) * (C + X) = x.dp * C + x.dp * X + (C + X) := by rw [Nat.add_mul, Nat.mul_add, Nat.one_mul]
   rw [e]; omega
end GW
set_option linter.unusedVariables false
set_option linter.unusedSimpArgs false
set_option maxRecDepth 100000
namespace GW
open Go Go.RowKit
abbrev RdT := Option (Unit × Int × L38 × Bool)
def Outc (e : RdT) (r : Option (Vx × Nat)) (out : L38) : Prop := match r with
 | none => ∃ (d' : Int) (o' : L38), e = some ((), d', o', true)
 | some u => e = some ((), (u.2 : Int), out ++ u.1.flat, false)
def Outl (e : RdT) (r : Option (List Vx × Nat)) (out : L38) : Prop := match r with
 | none => ∃ (d' : Int) (o' : L38), e = some ((), d', o', true)
 | some u => e = some ((), (u.2 : Int), out ++ Vx.flatl u.1, false)
def szc : List Sx → Nat
 | [] => 0
 | y :: es => min y.sz 1048577 + szc es
theorem szc_le (es : List Sx) : szc es ≤ Sx.szl es := by
 induction es with
 | nil => simp [szc]
 | cons y es ih => rw [szc, Sx.szl]; omega
theorem szc_len (es : List Sx) : szc es ≤ es.length * 1048577 := by
 induction es with
 | nil => simp [szc]
 | cons y es ih => rw [szc, List.length_cons]; omega
theorem szc_eq (es : List Sx) (h : Sx.szl es < 1048577 ∨ szc es < 1048577) : szc es = Sx.szl es := by
 induction es with
 | nil => simp [szc, Sx.szl]
 | cons y es ih =>
  rw [szc, Sx.szl] at h ⊢
  have := szc_le es
  have := ih (by omega)
  omega
theorem bad_end (k : Nat) (self : fd2_.Ty) (x1 : (List Int) × Int × L38 × Bool) (x4 : Int) (t1 : List PT61) (q i : Nat) (fr d : Int) (out : L38) :
  fe1_.l1 k self x1 x4 t1 (q + 1) (i : Int) fr d out true = some ((), d, out, true) := by
 show fe1_.b1 _ _ _ _ _ _ _ _ _ _ _ = _
 unfold fe1_.b1
 by_cases c : i < t1.length
 ·rw [if_pos (by simp; omega), if_pos (by omega), if_pos rfl]
 ·rw [if_neg (by simp; omega)]
theorem fronts_loop (b : List Int) (hbl : b.length ≤ 320000) (k : Nat) (self : fd2_.Ty) (d : Int) (out : L38) (x3 x4 : Int) (es : List Sx) (he : es.length ≤ 10000) (ho : ∀ y ∈ es, y.Ok ∧ y.nd ≤ 600) (hk : 3100 ≤ k) :
  ∀ (n q i acc : Nat) (bad : Bool), i + n = es.length → n < q → acc + szc (es.drop i) ≤ 100000000000 → (bad = true → b.length < acc) →
   fe1_.l2 k self (b, d, out, false) x3 x4 (es.map Sx.P) q (i : Int) (acc : Int) bad = fe1_.j2 k self (b, d, out, false) x3 x4 (es.map Sx.P) ((acc + szc (es.drop i) : Nat) : Int) (bad || (decide (i < es.length) && decide (b.length < acc + szc (es.drop i)))) := by
 intro n
 induction n with
 | zero =>
  intro q i acc bad hi hq ha hbad
  obtain ⟨q, rfl⟩ : ∃ u, q = u + 1 := ⟨q - 1, by omega⟩
  show fe1_.b2 _ _ _ _ _ _ _ _ _ _ = _
  unfold fe1_.b2
  simp only [List.length_map]
  rw [if_neg (by simp; omega), List.drop_eq_nil_of_le (by omega), szc, decide_eq_false (by omega), Bool.false_and, Bool.or_false]
  rfl
 | succ n ih =>
  intro q i acc bad hi hq ha hbad
  obtain ⟨q, rfl⟩ : ∃ u, q = u + 1 := ⟨q - 1, by omega⟩
  have hil : i < es.length := by omega
  have hm := gt_mem es i hil
  rw [gt_drop es i hil, szc] at ha
  rw [gt_drop es i hil, szc]
  have hw : wr .i64 ((i : Int) + 1) = ((i + 1 : Nat) : Int) := by rw [wi (by omega) (by omega)]; omega
  have hz : wr .i64 ((acc : Int) + ((min (gt es (i : Int)).sz 1048577 : Nat) : Int)) = ((acc + min (gt es (i : Int)).sz 1048577 : Nat) : Int) := by rw [wi (by omega) (by omega)]; omega
  have step : fe1_.l2 k self (b, d, out, false) x3 x4 (es.map Sx.P) (q + 1) (i : Int) (acc : Int) bad = fe1_.l2 k self (b, d, out, false) x3 x4 (es.map Sx.P) q ((i + 1 : Nat) : Int) ((acc + min (gt es (i : Int)).sz 1048577 : Nat) : Int) (bad || decide (b.length < acc + min (gt es (i : Int)).sz 1048577)) := by
   show fe1_.b2 _ _ _ _ _ _ _ _ _ _ = _
   unfold fe1_.b2 fe1_.j5
   simp only [List.length_map]
   rw [if_pos (by simp; omega), if_pos (by omega), gt_map _ _ _ hil, sizeP _ (ho _ hm).1 (by have := (ho _ hm).2; omega) k (by have := (ho _ hm).2; omega), Option.bind_some, hw, hz]
   cases bad with
   | true => rw [if_pos rfl, Bool.true_or]
   | false =>
    rw [if_neg (by simp), Bool.false_or]
    congr 1
    exact decide_eq_decide.2 (by omega)
  rw [step, ih q (i + 1) _ _ (by omega) (by omega) (by omega) (by
   intro h
   rw [Bool.or_eq_true, decide_eq_true_eq] at h
   rcases h with h | h
   ·have := hbad h; omega
   ·omega)]
  rw [Nat.add_assoc]
  congr 1
  rw [decide_eq_true hil, Bool.true_and, Bool.or_assoc]
  cases bad with
  | true => simp
  | false =>
   simp only [Bool.false_or]
   by_cases c : b.length < acc + min (gt es (i : Int)).sz 1048577
   ·rw [decide_eq_true c, decide_eq_true (p := b.length < acc + (min (gt es (i : Int)).sz 1048577 + szc (es.drop (i + 1)))) (by omega)]; simp
   ·rw [decide_eq_false c, Bool.false_or]
    by_cases c2 : i + 1 < es.length
    ·rw [decide_eq_true c2, Bool.true_and]
    ·rw [decide_eq_false c2, Bool.false_and, List.drop_eq_nil_of_le (by omega), szc]
     exact (decide_eq_false (by omega)).symm
theorem parts_loop (b : List Int) (hb : U8 b) (hbl : b.length ≤ 320000) (n k : Nat) (x1 : (List Int) × Int × L38 × Bool) (hx1 : x1.1 = b) (self : fd2_.Ty) (f : Sx → Nat → Nat → Option (Vx × Nat))
    (a1 S K : Nat) (es : List Sx) (he : es.length ≤ 10000) (ho : ∀ y ∈ es, y.Ok ∧ y.Full ∧ y.nd ≤ 600 ∧ y.dp ≤ 16) (hk : 3100 ≤ k)
    (hbs : ∀ (d : Int) (out : L38) (y : PT61) (a : Int), self (b, d, out, true) y a = some ((), d, out, true))
    (hs : ∀ y ∈ es, ∀ (a d : Nat) (out : L38), a ≤ b.length → d ≤ b.length → (y.dyn = true → d ≤ a) → 32 * out.length ≤ K → Outc (self (b, (d : Int), out, false) y.P (a : Int)) (f y a d) out)
    (hr : ∀ y ∈ es, ∀ (a d : Nat) (u : Vx × Nat), (y.dyn = true → d ≤ a) → f y a d = some u → Read b y a d u.1 u.2) (hS : a1 + S ≤ b.length) :
    ∀ (m q i fr o : Nat) (out : L38), i + m = es.length → m < q → fr + Sx.szl (es.drop i) = a1 + S → S ≤ o → a1 + o ≤ b.length → 32 * out.length + 17 * ((a1 + S - fr) + (b.length - (a1 + o))) ≤ K →
      Outl (fe1_.l1 k self x1 (a1 : Int) (es.map Sx.P) q (i : Int) (fr : Int) ((a1 + o : Nat) : Int) out false) (decl f b a1 (es.drop i) fr (a1 + o)) out := by
  intro m
  induction m with
  | zero =>
    intro q i fr o out hi hq hfr hSo hol hK
    obtain ⟨q, rfl⟩ : ∃ u, q = u + 1 := ⟨q - 1, by omega⟩
    rw [List.drop_eq_nil_of_le (by omega), decl]
    show fe1_.b1 _ _ _ _ _ _ _ _ _ _ _ = _
    unfold fe1_.b1
    simp only [List.length_map]
    rw [if_neg (by simp; omega), Vx.flatl, List.append_nil]
  | succ m ih =>
    intro q i fr o out hi hq hfr hSo hol hK
    obtain ⟨q, rfl⟩ : ∃ u, q = u + 2 := ⟨q - 2, by omega⟩
    have hil : i < es.length := by omega
    have hm := gt_mem es i hil
    rw [gt_drop es i hil, Sx.szl] at hfr
    rw [gt_drop es i hil, decl]
    obtain ⟨o1, o2, o3, o4⟩ := ho _ hm
    have hw : wr .i64 ((i : Int) + 1) = ((i + 1 : Nat) : Int) := by rw [wi (by omega) (by omega)]; omega
    have hmin : min (gt es (i : Int)).sz 1048577 = (gt es (i : Int)).sz := Nat.min_eq_left (by omega)
    have hz : wr .i64 ((fr : Int) + (((gt es (i : Int)).sz : Nat) : Int)) = ((fr + (gt es (i : Int)).sz : Nat) : Int) := by rw [wi (by omega) (by omega)]; omega
    have j3 : ∀ (y36 : Int) (y37 : L38) (y38 : Bool), fe1_.j3 k (es.map Sx.P) (i : Int) (fr : Int) (fe1_.l1 k self x1 (a1 : Int) (es.map Sx.P) (q + 1)) y36 y37 y38 = fe1_.l1 k self x1 (a1 : Int) (es.map Sx.P) (q + 1) ((i + 1 : Nat) : Int) ((fr + (gt es (i : Int)).sz : Nat) : Int) y36 y37 y38 := fun y36 y37 y38 => by
      unfold fe1_.j3
      rw [gt_map _ _ _ hil, sizeP _ o1 (by omega) k (by omega), Option.bind_some, hw, hmin, hz]
    have j3b : ∀ (y36 : Int) (y37 : L38), fe1_.j3 k (es.map Sx.P) (i : Int) (fr : Int) (fe1_.l1 k self x1 (a1 : Int) (es.map Sx.P) (q + 1)) y36 y37 true = some ((), y36, y37, true) := fun y36 y37 => by
      rw [j3, bad_end]
    have start : fe1_.l1 k self x1 (a1 : Int) (es.map Sx.P) (q + 2) (i : Int) (fr : Int) ((a1 + o : Nat) : Int) out false =
        (if (!(gt es (i : Int)).dyn) = true then ((self (b, ((a1 + o : Nat) : Int), out, false) (gt es (i : Int)).P (fr : Int)).bind fun t18 => (fe1_.j3 k (es.map Sx.P) (i : Int) (fr : Int) (fe1_.l1 k self x1 (a1 : Int) (es.map Sx.P) (q + 1)) t18.2.1 t18.2.2.1 t18.2.2.2)) else ((fd0_.f k (b, ((a1 + o : Nat) : Int), out, false) (fr : Int)).bind fun t21 => (fe1_.j4 k self x1 (es.map Sx.P) (i : Int) (fr : Int) ((a1 + o : Nat) : Int) (fe1_.l1 k self x1 (a1 : Int) (es.map Sx.P) (q + 1)) (t21.1 != (wr .i64 (((a1 + o : Nat) : Int) - (a1 : Int)))) t21.2.2.2.1 t21.2.2.2.2))) := by
      show fe1_.b1 _ _ _ _ _ _ _ _ _ _ _ = _
      unfold fe1_.b1
      simp only [List.length_map]
      rw [if_pos (by simp; omega), if_pos (by omega), if_neg (by simp), gt_map _ _ _ hil, dynP _ o1 (by omega) k (by omega), Option.bind_some, hx1]
    rw [start]
    cases hd : (gt es (i : Int)).dyn with
    | false =>
      rw [if_pos (by simp), if_neg (by simp)]
      have hsim := hs _ hm fr (a1 + o) out (by omega) hol (fun h => by rw [hd] at h; cases h) (by omega)
      cases hu : f (gt es (i : Int)) fr (a1 + o) with
      | none =>
        rw [hu] at hsim
        obtain ⟨d', o', e⟩ := hsim
        simp only
        refine ⟨d', o', ?_⟩
        rw [e, Option.bind_some]
        exact j3b d' o'
      | some u =>
        rw [hu] at hsim
        have hread := hr _ hm fr (a1 + o) u (fun h => by rw [hd] at h; cases h) hu
        have hsim' : self (b, ((a1 + o : Nat) : Int), out, false) (gt es (i : Int)).P (fr : Int) = some ((), (u.2 : Int), out ++ u.1.flat, false) := hsim
        obtain ⟨r1, r2, r3, r4, -⟩ := hread
        have hu2 : u.2 = a1 + o := by rw [r4 hd]; exact Nat.max_eq_left (by omega)
        have hlen := enc_static _ _ u.1 (Nat.le_refl _) o1 r1 hd
        have hmany := many _ _ u.1 (Nat.le_refl _) o1 o2 r1
        have h17 : ((gt es (i : Int)).dp + 1) * (u.1.enc (gt es (i : Int))).length ≤ 17 * (u.1.enc (gt es (i : Int))).length := Nat.mul_le_mul_right _ (by omega)
        have hnext := ih (q + 1) (i + 1) (fr + (gt es (i : Int)).sz) o (out ++ u.1.flat) (by omega) (by omega) (by omega) hSo hol (by rw [List.length_append]; omega)
        rw [hsim', Option.bind_some]
        simp only
        rw [j3, hu2]
        cases hz' : decl f b a1 (es.drop (i + 1)) (fr + (gt es (i : Int)).sz) (a1 + o) with
        | none =>
          rw [hz'] at hnext
          exact hnext
        | some z =>
          rw [hz'] at hnext
          have hn : fe1_.l1 k self x1 (a1 : Int) (es.map Sx.P) (q + 1) ((i + 1 : Nat) : Int) ((fr + (gt es (i : Int)).sz : Nat) : Int) ((a1 + o : Nat) : Int) (out ++ u.1.flat) false = some ((), (z.2 : Int), (out ++ u.1.flat) ++ Vx.flatl z.1, false) := hnext
          show _ = some ((), (z.2 : Int), out ++ Vx.flatl (u.1 :: z.1), false)
          rw [hn, Vx.flatl, List.append_assoc]
    | true =>
      rw [if_neg (by simp), if_pos rfl, countR hb (by omega) _ out fr k (by omega) (by omega), Option.bind_some]
      have j4b : ∀ (y39 : Bool) (t : Int), ∃ (d' : Int) (o' : L38), fe1_.j4 k self x1 (es.map Sx.P) (i : Int) (fr : Int) ((a1 + o : Nat) : Int) (fe1_.l1 k self x1 (a1 : Int) (es.map Sx.P) (q + 1)) y39 out true = some ((), d', o', true) := fun y39 t => by
        unfold fe1_.j4
        cases y39 with
        | true => rw [if_pos rfl]; exact ⟨_, _, j3b _ _⟩
        | false => rw [if_neg (by simp), hx1, hbs, Option.bind_some]; exact ⟨_, _, j3b _ _⟩
      cases hc : countAt b fr with
      | none =>
        simp only
        exact j4b _ 0
      | some c =>
        simp only
        have hwo : wr .i64 (((a1 + o : Nat) : Int) - (a1 : Int)) = (o : Int) := by rw [wi (by omega) (by omega)]; omega
        rw [hwo]
        by_cases hco : c = o
        · subst hco
          rw [if_pos rfl]
          unfold fe1_.j4
          rw [if_neg (by simp), gt_map _ _ _ hil, hx1]
          have hsim := hs _ hm (a1 + c) (a1 + c) out hol hol (fun _ => Nat.le_refl _) (by omega)
          cases hu : f (gt es (i : Int)) (a1 + c) (a1 + c) with
          | none =>
            rw [hu] at hsim
            obtain ⟨d', o', e⟩ := hsim
            simp only
            refine ⟨d', o', ?_⟩
            rw [e, Option.bind_some]
            exact j3b d' o'
          | some u =>
            rw [hu] at hsim
            have hread := hr _ hm (a1 + c) (a1 + c) u (fun _ => Nat.le_refl _) hu
            have hsim' : self (b, ((a1 + c : Nat) : Int), out, false) (gt es (i : Int)).P ((a1 + c : Nat) : Int) = some ((), (u.2 : Int), out ++ u.1.flat, false) := hsim
            have hule := hread.le o1 hol (fun _ => Nat.le_refl _)
            obtain ⟨r1, r2, r3, -, r5⟩ := hread
            have hu2 : u.2 = a1 + (c + (u.1.enc (gt es (i : Int))).length) := by rw [r5 hd (Nat.le_refl _)]; omega
            have hmany := many _ _ u.1 (Nat.le_refl _) o1 o2 r1
            have h17 : ((gt es (i : Int)).dp + 1) * (u.1.enc (gt es (i : Int))).length ≤ 17 * (u.1.enc (gt es (i : Int))).length := Nat.mul_le_mul_right _ (by omega)
            have hnext := ih (q + 1) (i + 1) (fr + (gt es (i : Int)).sz) (c + (u.1.enc (gt es (i : Int))).length) (out ++ u.1.flat) (by omega) (by omega) (by omega) (by omega) (by omega) (by rw [List.length_append]; omega)
            rw [hsim', Option.bind_some]
            simp only
            rw [j3, hu2]
            cases hz' : decl f b a1 (es.drop (i + 1)) (fr + (gt es (i : Int)).sz) (a1 + (c + (u.1.enc (gt es (i : Int))).length)) with
            | none =>
              rw [hz'] at hnext
              exact hnext
            | some z =>
              rw [hz'] at hnext
              have hn : fe1_.l1 k self x1 (a1 : Int) (es.map Sx.P) (q + 1) ((i + 1 : Nat) : Int) ((fr + (gt es (i : Int)).sz : Nat) : Int) ((a1 + (c + (u.1.enc (gt es (i : Int))).length) : Nat) : Int) (out ++ u.1.flat) false = some ((), (z.2 : Int), (out ++ u.1.flat) ++ Vx.flatl z.1, false) := hnext
              show _ = some ((), (z.2 : Int), out ++ Vx.flatl (u.1 :: z.1), false)
              rw [hn, Vx.flatl, List.append_assoc]
        · rw [if_neg (by omega)]
          unfold fe1_.j4
          rw [if_pos (by simp; omega)]
          exact ⟨_, _, j3b _ _⟩
end GW
set_option linter.unusedVariables false
set_option linter.unusedSimpArgs false
set_option maxRecDepth 100000
namespace GW
open Go Go.RowKit
theorem bad_value (k : Nat) (b : List Int) (d : Int) (out : L38) (y : PT61) (a : Int) : fd2_.f (k + 1) (b, d, out, true) y a = some ((), d, out, true) := by
 show fd2_.body _ _ _ _ _ _ = _
 unfold fd2_.body
 rw [if_pos rfl]
theorem rowR (b : List Int) (hb : U8 b) (hbl : b.length ≤ 320000) (n k : Nat) (hk : 2 * n + 10200 ≤ k)
  (hs : ∀ (x : Sx), x.Ok → x.Full → x.nd ≤ n → x.nd ≤ 600 → x.dp ≤ 16 → ∀ (a d : Nat) (out : L38), a ≤ b.length → d ≤ b.length → (x.dyn = true → d ≤ a) → out.length + n * (4 * b.length + 4) ≤ 1000000000000 → Outc (fd2_.f k (b, (d : Int), out, false) x.P (a : Int)) (dec b n x a d) out)
  (x : Sx) (hok : x.Ok) (hp : ∀ y ∈ x.parts, y.Full) (hn : x.nd ≤ n + 1) (h6 : x.nd ≤ 600) (h16 : x.dp ≤ 16) (hk4 : 4 ≤ x.kd) (N a1 d : Nat) (out : L38) (hN : x.okN N = true) (hNb : N ≤ b.length ∨ N ≤ 600) (ha : a1 ≤ b.length) (hd : d ≤ b.length)
  (ho : out.length + (n + 1) * (4 * b.length + 4) ≤ 1000000000000) : Outc (fe1_.f (k + 1) (b, (d : Int), out, false) x.P (N : Int) (a1 : Int)) (decR (dec b n) b x N a1 d) out := by
 have hexp : (n + 1) * (4 * b.length + 4) = n * (4 * b.length + 4) + (4 * b.length + 4) := Nat.succ_mul _ _
 rw [hexp] at ho
 have hstart : fe1_.f (k + 1) (b, (d : Int), out, false) x.P (N : Int) (a1 : Int) = fe1_.j1 k (fd2_.f k) (b, (d : Int), out, false) x.P (N : Int) (a1 : Int) (decide (b.length / 32 < N)) := by
  show fe1_.body _ _ _ _ _ _ _ = _
  unfold fe1_.body
  simp only [List.length_singleton]
  rw [if_pos (by omega), if_neg (by simp), tdiv_pos (by omega), wi (by omega) (by omega)]
  congr 1
  exact decide_eq_decide.2 (by omega)
 rw [hstart]
 unfold decR
 by_cases hNl : N ≤ b.length / 32
 ·have hel := Sx.els_len hN
  have hoe : ∀ y ∈ x.els N, y.Ok ∧ y.Full ∧ y.nd ≤ 600 ∧ y.dp ≤ 16 ∧ y.nd ≤ n := fun y hy => by
   have hm := Sx.els_mem hy
   have h1 := Sx.nd_part hm
   have h2 := Sx.dp_part hok hk4 hm
   exact ⟨hok.part hm, hp y hm, by omega, by omega, by omega⟩
  have hsc := szc_len (x.els N)
  have hcut := szc_le (x.els N)
  rw [hel] at hsc
  have hfr := fronts_loop b hbl k (fd2_.f k) (d : Int) out (N : Int) (a1 : Int) (x.els N) (by omega) (fun y hy => ⟨(hoe y hy).1, (hoe y hy).2.2.1⟩) (by omega) N k 0 a1 false (by omega) (by omega) (by rw [List.drop_zero]; omega) (by simp)
  rw [List.drop_zero, hel, Bool.false_or] at hfr
  have hfr' : fe1_.j1 k (fd2_.f k) (b, (d : Int), out, false) x.P (N : Int) (a1 : Int) (decide (b.length / 32 < N)) = fe1_.j2 k (fd2_.f k) (b, (d : Int), out, false) (N : Int) (a1 : Int) ((x.els N).map Sx.P) ((a1 + szc (x.els N) : Nat) : Int) (decide (0 < N) && decide (b.length < a1 + szc (x.els N))) := by
   unfold fe1_.j1
   rw [if_neg (by simp; omega), elsP x hk4 hok N k hN (by omega) (by omega), Option.bind_some]
   exact hfr
  rw [hfr']
  unfold fe1_.j2
  simp only
  obtain ⟨k', rfl⟩ : ∃ u, k = u + 1 := ⟨k - 1, by omega⟩
  by_cases hc : N = 0 ∨ a1 + Sx.szl (x.els N) ≤ b.length
  ·have hS : a1 + Sx.szl (x.els N) ≤ b.length := by
    rcases hc with h0 | h0
    ·subst h0
     rw [List.eq_nil_of_length_eq_zero hel, Sx.szl]; omega
    ·exact h0
   have hz : szc (x.els N) = Sx.szl (x.els N) := szc_eq _ (Or.inl (by omega))
   rw [if_pos ⟨hNl, hc⟩, hz, decide_eq_false (p := b.length < a1 + Sx.szl (x.els N)) (by omega), Bool.and_false, imax_nat]
   obtain ⟨o, hoo⟩ : ∃ o, max d (a1 + Sx.szl (x.els N)) = a1 + o := ⟨max d (a1 + Sx.szl (x.els N)) - a1, by omega⟩
   rw [hoo]
   have hl := parts_loop b hb hbl n (k' + 1) (b, (d : Int), out, false) rfl (fd2_.f (k' + 1)) (dec b n) a1 (Sx.szl (x.els N)) (32 * (out.length + (4 * b.length + 4))) (x.els N) (by omega) (fun y hy => ⟨(hoe y hy).1, (hoe y hy).2.1, (hoe y hy).2.2.1, (hoe y hy).2.2.2.1⟩) (by omega)
    (fun d out y a => bad_value k' b d out y a)
    (fun y hy a d out h1 h2 h3 h4 => hs y (hoe y hy).1 (hoe y hy).2.1 (hoe y hy).2.2.2.2 (hoe y hy).2.2.1 (hoe y hy).2.2.2.1 a d out h1 h2 h3 (by omega))
    (fun y hy a d u h1 h2 => dec_good b hb n y a d u (hoe y hy).1 (fun z hz => (hoe y hy).2.1.part hz) (Or.inr (hoe y hy).2.1) h1 h2) hS N (k' + 1) 0 a1 o (out ++ [([0, 0, 0, 0], [], (N : Int))]) (by omega) (by omega) (by rw [List.drop_zero]) (by omega) (by omega) (by rw [List.length_append, List.length_singleton]; omega)
   rw [List.drop_zero] at hl
   cases hdl : decl (dec b n) b a1 (x.els N) a1 (a1 + o) with
   | none =>
    rw [hdl] at hl
    exact hl
   | some z =>
    rw [hdl] at hl
    have hl' : fe1_.l1 (k' + 1) (fd2_.f (k' + 1)) (b, (d : Int), out, false) (a1 : Int) ((x.els N).map Sx.P) (k' + 1) 0 (a1 : Int) ((a1 + o : Nat) : Int) (out ++ [([0, 0, 0, 0], [], (N : Int))]) false = some ((), (z.2 : Int), (out ++ [([0, 0, 0, 0], [], (N : Int))]) ++ Vx.flatl z.1, false) := hl
    show _ = some ((), (z.2 : Int), out ++ (Vx.row z.1).flat, false)
    rw [hl']
    have hlen : z.1.length = N := by
     obtain ⟨q1, -⟩ := decl_good b hb (dec b n) a1 (Sx.szl (x.els N)) (x.els N) a1 o z (fun y hy => ⟨(hoe y hy).1, fun a d u h1 h2 => dec_good b hb n y a d u (hoe y hy).1 (fun z hz => (hoe y hy).2.1.part hz) (Or.inr (hoe y hy).2.1) h1 h2⟩) rfl (by omega) hdl
     rw [Vx.Typl_len q1, hel]
    rw [Vx.flat, hlen, List.append_assoc]
    rfl
  ·rw [if_neg (fun h => hc h.2)]
   have hN0 : 0 < N := by omega
   have hbig : b.length < a1 + szc (x.els N) := by
    refine Decidable.byContradiction fun h => ?_
    have := szc_eq (x.els N) (Or.inr (by omega))
    omega
   rw [decide_eq_true hN0, decide_eq_true hbig, Bool.true_and]
   exact ⟨_, _, bad_end _ _ _ _ _ k' 0 _ _ _⟩
 ·rw [if_neg (fun h => hNl h.1)]
  unfold fe1_.j1
  rw [if_pos (by simp; omega)]
  exact ⟨_, _, rfl⟩
theorem valueR (b : List Int) (hb : U8 b) (hbl : b.length ≤ 320000) : ∀ (n : Nat) (x : Sx), x.Ok → (∀ y ∈ x.parts, y.Full) → x.nd ≤ n → x.nd ≤ 600 → x.dp ≤ 16 → ∀ (a d : Nat) (out : L38) (k : Nat), a ≤ b.length → d ≤ b.length → (x.dyn = true → d ≤ a) → out.length + n * (4 * b.length + 4) ≤ 1000000000000 → 2 * n + 10200 ≤ k →
  Outc (fd2_.f k (b, (d : Int), out, false) x.P (a : Int)) (dec b n x a d) out := by
 intro n
 induction n with
 | zero => intro x _ _ hx; have := x.nd_pos; omega
 | succ n ih =>
  intro x hok hp hn h6 h16 a d out k ha hd hda ho hk
  obtain ⟨k, rfl⟩ : ∃ u, k = u + 2 := ⟨k - 2, by omega⟩
  have hexp : (n + 1) * (4 * b.length + 4) = n * (4 * b.length + 4) + (4 * b.length + 4) := Nat.succ_mul _ _
  have hrow := rowR b hb hbl n k (by omega) (fun x h1 h2 h3 h4 h5 a d out h7 h8 h9 h10 => ih x h1 (fun y hy => h2.part hy) h3 h4 h5 a d out k h7 h8 h9 h10 (by omega)) x hok hp hn h6 h16
  have ho1 : out.length ≤ 999999999999 := by omega
  have w32 : wr .i64 ((a : Int) + 32) = ((a + 32 : Nat) : Int) := by rw [wi (by omega) (by omega)]; omega
  have hstart : fd2_.f (k + 2) (b, (d : Int), out, false) x.P (a : Int) = fd2_.body (fd2_.f (k + 1)) (fe1_.f (k + 1)) (k + 1) (b, (d : Int), out, false) x.P (a : Int) := rfl
  rw [hstart]
  unfold fd2_.body
  simp only [Sx.toP]
  rw [if_neg (by simp), if_pos x.nnP, dec]
  by_cases c3 : x.kd < 3
  ·rw [if_pos (by simp; omega), if_pos c3, wordR hb (by omega) _ out a (k + 1) (by omega) (by omega), Option.bind_some]
   cases hw : wordAt b a with
   | none =>
    simp only
    unfold fd2_.j1
    rw [if_pos trivial, if_pos (by simp only [List.length_singleton]; omega)]
    exact ⟨_, _, rfl⟩
   | some w =>
    obtain ⟨g1, g2, g3⟩ := wordAt_good hb hw
    simp only
    rw [if_neg (by simp), rightP x c3 w g1 (k + 1) (by omega), Option.bind_some]
    unfold fd2_.j1
    simp only [List.length_singleton]
    rw [if_pos (by omega), w32, imax_nat, Bool.not_not]
    cases hbad : wBad x.kd w with
    | true => rw [if_pos rfl]; exact ⟨_, _, rfl⟩
    | false => rw [if_neg (by simp)]; exact rfl
  ·rw [if_neg (by simp; omega), if_neg c3]
   by_cases k3 : x.kd = 3
   ·rw [if_pos (by simp; omega), if_pos k3, bytesR hb (by omega) _ out (by omega) a (k + 1) (by omega) (by omega), Option.bind_some]
    cases hz : decB b a with
    | none => exact ⟨_, _, rfl⟩
    | some z => exact rfl
   ·rw [if_neg (by simp; omega), if_neg k3]
    by_cases k4 : x.kd = 4
    ·rw [if_pos (by simp; omega), if_pos k4, countR hb (by omega) _ out a (k + 1) (by omega) (by omega), Option.bind_some, w32, imax_nat]
     cases hc : countAt b a with
     | none =>
      simp only
      have : fe1_.f (k + 1) (b, ((max d (a + 32) : Nat) : Int), out, true) x.P 0 ((a + 32 : Nat) : Int) = some ((), ((max d (a + 32) : Nat) : Int), out ++ [([0, 0, 0, 0], [], 0)], true) := by
       show fe1_.body _ _ _ _ _ _ _ = _
       unfold fe1_.body fe1_.j1
       simp only [List.length_singleton]
       rw [if_pos (by omega), if_pos trivial, if_pos trivial]
      rw [this, Option.bind_some]
      exact ⟨_, _, rfl⟩
     | some N =>
      simp only
      obtain ⟨c1, c2, c3'⟩ := countAt_good hb hc
      have hN : x.okN N = true := by
       cases x with
       | list y => rfl
       | leaf i => simp only [Sx.Ok] at hok; simp [Sx.kd] at k4; omega
       | arr m y => simp [Sx.kd] at k4
       | tup l => simp [Sx.kd] at k4
      have hr := hrow (by omega) N (a + 32) (max d (a + 32)) out hN (Or.inl c1) c2 (by omega) ho
      cases hdr : decR (dec b n) b x N (a + 32) (max d (a + 32)) with
      | none =>
       rw [hdr] at hr
       obtain ⟨d', o', e⟩ := hr
       rw [e, Option.bind_some]; exact ⟨_, _, rfl⟩
      | some u =>
       rw [hdr] at hr
       have hr' : fe1_.f (k + 1) (b, ((max d (a + 32) : Nat) : Int), out, false) x.P (N : Int) ((a + 32 : Nat) : Int) = some ((), (u.2 : Int), out ++ u.1.flat, false) := hr
       rw [hr', Option.bind_some]; exact rfl
    ·rw [if_neg (by simp; omega), if_neg k4]
     have hN := Sx.cnt_ok x (by omega) k4 hok
     have hc6 : x.cnt_ ≤ 600 := by
      have := x.parts_len
      cases x with
      | leaf i => simp [Sx.cnt_]
      | list y => simp [Sx.cnt_]
      | arr m y => simp only [Sx.Ok] at hok; simp [Sx.cnt_]; omega
      | tup l => simp only [Sx.parts] at this; simp [Sx.cnt_]; omega
     have hr := hrow (by omega) x.cnt_ a d out hN (Or.inr hc6) ha hd ho
     have hgo : ∀ e : RdT, fe1_.f (k + 1) (b, (d : Int), out, false) x.P (x.cnt_ : Int) (a : Int) = e → (e.bind fun t => some ((), t.2.1, t.2.2.1, t.2.2.2)) = e := fun e _ => by
      cases e with
      | none => rfl
      | some t => obtain ⟨⟨⟩, t1, t2, t3⟩ := t; rfl
     by_cases k5 : x.kd = 5
     ·have hnum : (x.num : Int) = (x.cnt_ : Int) := by
       cases x with
       | leaf i => simp only [Sx.Ok] at hok; simp [Sx.kd] at k5; omega
       | list y => simp [Sx.kd] at k5
       | arr m y => rfl
       | tup l => simp [Sx.kd] at k5
      rw [if_pos (by simp; omega), hnum, hgo _ rfl]
      exact hr
     ·have hnum : ((x.parts.map Sx.P).length : Int) = (x.cnt_ : Int) := by
       cases x with
       | leaf i => simp only [Sx.Ok] at hok; simp [Sx.kd] at c3 k3; omega
       | list y => simp [Sx.kd] at k4
       | arr m y => simp [Sx.kd] at k5
       | tup l => simp [Sx.parts, Sx.cnt_]
      rw [if_neg (by simp; omega), hnum, hgo _ rfl]
      exact hr
end GW
set_option linter.unusedVariables false
set_option linter.unusedSimpArgs false
set_option maxRecDepth 100000
namespace GW
open Go Go.RowKit
def aft (x : Sx) (v : Vx) (a d : Nat) : Nat := if x.dyn = true then a + (v.enc x).length else max d (a + x.sz)
theorem decl_of (b : List Int) (hl : b.length ≤ 1000000000) (f : Sx → Nat → Nat → Option (Vx × Nat)) (a1 S : Nat) : ∀ (l : List Vx) (es : List Sx) (fr o : Nat),
  (∀ y ∈ es, y.Ok ∧ (∀ (v : Vx) (a d : Nat), v.Typ y → v.bad y = false → Gn v.flat → Lies b a (v.enc y) → (y.dyn = true → d ≤ a) → d ≤ b.length → f y a d = some (v, aft y v a d))) →
   Vx.Typl l es → Vx.badl l es = false → Gn (Vx.flatl l) → fr + Sx.szl es = a1 + S → S ≤ o → Lies b fr (Vx.frt l es o) → Lies b (a1 + o) (Vx.bck l es) →
    decl f b a1 es fr (a1 + o) = some (l, a1 + o + (Vx.bck l es).length)
 | [], [], fr, o, _, _, _, _, _, _, _, _ => by simp [decl, Vx.bck]
 | v :: l, y :: es, fr, o, hf, ht, hb, hg, hfr, hS, hF, hB => by
  obtain ⟨hok, hfy⟩ := hf y List.mem_cons_self
  have hf' := fun y' (hy : y' ∈ es) => hf y' (List.mem_cons_of_mem _ hy)
  simp only [Vx.Typl] at ht
  rw [Vx.badl, Bool.or_eq_false_iff] at hb
  rw [Vx.flatl] at hg
  obtain ⟨g1, g2⟩ := Gn.app.1 hg
  rw [Sx.szl] at hfr
  rw [Vx.frt] at hF
  rw [Vx.bck] at hB
  rw [decl, Vx.bck]
  cases hd : y.dyn with
  | true =>
   rw [hd, if_pos rfl] at hF hB
   simp only [if_true]
   have hF1 := hF.left
   have hF2 := hF.right
   have hB1 := hB.left
   have hB2 := hB.right
   rw [cnt_len] at hF2
   have h32 := Sx.sz_dyn hok hd
   have hol : a1 + o ≤ b.length := by have := hB.2; omega
   have hc : countAt b fr = some o := countAt_of (by omega) (by omega) (by have := hF1.1; rwa [cnt_len] at this)
   rw [hc]
   simp only
   rw [if_pos trivial, hfy v (a1 + o) (a1 + o) ht.1 hb.1 g1 hB1 (fun _ => Nat.le_refl _) hol]
   simp only
   have he : aft y v (a1 + o) (a1 + o) = a1 + (o + (v.enc y).length) := by unfold aft; rw [if_pos hd]; omega
   rw [he, h32, decl_of b hl f a1 S l es (fr + 32) (o + (v.enc y).length) hf' ht.2 hb.2 g2 (by omega) (by omega) hF2 (by rw [← Nat.add_assoc]; exact hB2)]
   simp only
   rw [List.length_append]
   congr 2; omega
  | false =>
   rw [hd, if_neg (by simp)] at hF hB
   rw [if_neg (by simp), if_neg (by simp)]
   have hF1 := hF.left
   have hF2 := hF.right
   have hlen := enc_static y.nd y v (Nat.le_refl _) hok ht.1 hd
   rw [hlen] at hF2
   have hol : a1 + o ≤ b.length := by have := hB.2; omega
   rw [hfy v fr (a1 + o) ht.1 hb.1 g1 hF1 (fun h => absurd h (by simp [hd])) hol]
   simp only
   have he : aft y v fr (a1 + o) = a1 + o := by unfold aft; rw [if_neg (by simp [hd])]; exact Nat.max_eq_left (by omega)
   rw [he, decl_of b hl f a1 S l es (fr + y.sz) o hf' ht.2 hb.2 g2 (by omega) hS hF2 hB]
 | [], _ :: _, _, _, _, h, _, _, _, _, _, _ => by simp [Vx.Typl] at h
 | _ :: _, [], _, _, _, h, _, _, _, _, _, _ => by simp [Vx.Typl] at h
theorem decR_of (b : List Int) (hl : b.length ≤ 1000000000) (f : Sx → Nat → Nat → Option (Vx × Nat)) (x : Sx) (hx : x.Ok) (hp : ∀ y ∈ x.parts, y.Full) (l : List Vx) (a1 d : Nat) (hN : x.okN l.length = true) (hda : x.dyn = true → d ≤ a1) (hd : d ≤ b.length)
  (hf : ∀ y ∈ x.els l.length, y.Ok ∧ (∀ (v : Vx) (a d : Nat), v.Typ y → v.bad y = false → Gn v.flat → Lies b a (v.enc y) → (y.dyn = true → d ≤ a) → d ≤ b.length → f y a d = some (v, aft y v a d)))
  (ht : Vx.Typl l (x.els l.length)) (hb : Vx.badl l (x.els l.length) = false) (hg : Gn (Vx.flatl l)) (hL : Lies b a1 (Vx.frt l (x.els l.length) (Sx.szl (x.els l.length)) ++ Vx.bck l (x.els l.length))) :
  decR f b x l.length a1 d = some (.row l, if x.dyn = true then a1 + (Vx.frt l (x.els l.length) (Sx.szl (x.els l.length)) ++ Vx.bck l (x.els l.length)).length else max d (a1 + Sx.szl (x.els l.length))) := by
 have hel := Sx.els_len hN
 have hfl := fun o => frt_len l (x.els l.length) o (fun y hy => (hf y hy).1) (fun y hy v hv hd => enc_static y.nd y v (Nat.le_refl _) (hf y hy).1 hv hd) ht
 have hL1 := hL.left
 have hL2 := hL.right
 rw [hfl] at hL2
 have hS : a1 + Sx.szl (x.els l.length) ≤ b.length := by have := hL1.2; rwa [hfl] at this
 have hge := szl_ge (x.els l.length) fun y hy => Sx.sz_ge y (hf y hy).1 (hp y (Sx.els_mem hy))
 rw [hel] at hge
 unfold decR
 rw [if_pos ⟨by omega, Or.inr hS⟩]
 cases hs : x.dyn with
 | true =>
  have hdle := hda hs
  rw [Nat.max_eq_right (by omega), decl_of b hl f a1 (Sx.szl (x.els l.length)) l (x.els l.length) a1 (Sx.szl (x.els l.length)) hf ht hb hg rfl (Nat.le_refl _) hL1 hL2]
  simp only [if_true]
  rw [List.length_append, hfl, Nat.add_assoc]
 | false =>
  have hst := fun (y : Sx) (hy : y ∈ x.els l.length) => Sx.dyn_els hx hs hy
  obtain ⟨o, ho⟩ : ∃ o, max d (a1 + Sx.szl (x.els l.length)) = a1 + o := ⟨max d (a1 + Sx.szl (x.els l.length)) - a1, by omega⟩
  have hbn := bck_nil l (x.els l.length) hst
  rw [ho, decl_of b hl f a1 (Sx.szl (x.els l.length)) l (x.els l.length) a1 o hf ht hb hg rfl (by omega) (by rw [frt_static _ _ _ (Sx.szl (x.els l.length)) hst]; exact hL1) (by rw [hbn]; exact Lies.nil _ _ (by omega)), hbn]
  simp
theorem dec_of (b : List Int) (hl : b.length ≤ 1000000000) : ∀ (n : Nat) (x : Sx), x.nd ≤ n → x.Ok → (∀ y ∈ x.parts, y.Full) → ∀ (v : Vx) (a d : Nat), v.Typ x → v.bad x = false → Gn v.flat → Lies b a (v.enc x) → (x.dyn = true → d ≤ a) → d ≤ b.length → dec b n x a d = some (v, aft x v a d) := by
 intro n
 induction n with
 | zero => intro x hx; have := x.nd_pos; omega
 | succ n ih =>
  intro x hx hok hp v a d ht hb hg hL hda hd
  have hel : ∀ N, ∀ y ∈ x.els N, y.Ok ∧ (∀ (v : Vx) (a d : Nat), v.Typ y → v.bad y = false → Gn v.flat → Lies b a (v.enc y) → (y.dyn = true → d ≤ a) → d ≤ b.length → dec b n y a d = some (v, aft y v a d)) := fun N y hy =>
   have hm := Sx.els_mem hy
   ⟨hok.part hm, fun v a d h1 h2 h3 h4 h5 h6 => ih y (by have := Sx.nd_part hm; omega) (hok.part hm) (fun z hz => (hp y hm).part hz) v a d h1 h2 h3 h4 h5 h6⟩
  rw [dec]
  cases v with
  | word w =>
   simp only [Vx.Typ] at ht
   have hw : Gd54 w := (hg (w, [], 0) (by simp [Vx.flat])).1
   rw [Vx.enc] at hL
   rw [if_pos ht, wordAt_of hw (by have := hL.1; rwa [wbytes_len] at this)]
   simp only [Vx.bad] at hb
   simp only [hb]
   rw [if_neg (by simp)]
   unfold aft
   rw [if_neg (by rw [Sx.dyn_low ht]; simp), Sx.sz_eq x hok, if_pos (Or.inr (by omega))]
  | bytes s =>
   simp only [Vx.Typ] at ht
   rw [Vx.enc] at hL
   rw [if_neg (by omega), if_pos ht, decB_of (by omega) hL]
   simp only
   unfold aft
   rw [if_pos (Sx.dyn_34 hok (Or.inl ht)), Vx.enc]
   have := cw_eq s.length
   simp only [List.length_append, cnt_len, List.length_replicate]
   congr 2; omega
  | row l =>
   simp only [Vx.Typ] at ht
   obtain ⟨t1, t2, t3⟩ := ht
   rw [Vx.bad] at hb
   rw [Vx.flat] at hg
   have hg2 := (Gn.app (a := [(Z4, [], (l.length : Int))]) (b := Vx.flatl l)).1 hg
   rw [Vx.enc] at hL
   rw [if_neg (by omega), if_neg (by omega)]
   unfold aft
   rw [Vx.enc]
   by_cases k4 : x.kd = 4
   ·rw [if_pos k4] at hL ⊢
    rw [if_pos k4]
    have hdy := Sx.dyn_34 hok (Or.inr k4)
    have hda' := hda hdy
    have hL1 := hL.left
    have hL2 := hL.right
    rw [cnt_len] at hL2
    have hle := hL2.2
    have hfl := frt_len l (x.els l.length) (Sx.szl (x.els l.length)) (fun y hy => hok.part (Sx.els_mem hy)) (fun y hy v hv hd => enc_static y.nd y v (Nat.le_refl _) (hok.part (Sx.els_mem hy)) hv hd) t3
    have hge := szl_ge (x.els l.length) fun y hy => Sx.sz_ge y (hok.part (Sx.els_mem hy)) (hp y (Sx.els_mem hy))
    rw [Sx.els_len t2] at hge
    rw [List.length_append, hfl] at hle
    have hc : countAt b a = some l.length := countAt_of (by omega) (by omega) (by have := hL1.1; rwa [cnt_len] at this)
    rw [hc]
    simp only
    rw [decR_of b hl (dec b n) x hok hp l (a + 32) (max d (a + 32)) t2 (fun _ => by omega) (by omega) (hel _) t3 hb hg2.2 hL2, if_pos hdy, if_pos hdy]
    have e : ∀ X : List Int, a + 32 + X.length = a + (cnt l.length ++ X).length := fun X => by rw [List.length_append, cnt_len, Nat.add_assoc]
    rw [e]
   ·rw [if_neg k4, List.nil_append] at hL
    rw [if_neg k4, if_neg k4, List.nil_append, Sx.cnt_of x t1 k4 hok t2, decR_of b hl (dec b n) x hok hp l a d t2 hda hd (hel _) t3 hb hg2.2 hL]
    cases hs : x.dyn with
    | true => simp
    | false => rw [if_neg (by simp), if_neg (by simp), Sx.sz_els hok t1 hs t2]
theorem u8_app {a b : List Int} (ha : U8 a) (hb : U8 b) : U8 (a ++ b) := fun x hx => by
 rcases List.mem_append.1 hx with h | h
 ·exact ha x h
 ·exact hb x h
theorem u8_nil : U8 [] := fun x hx => by cases hx
theorem row_u8 : ∀ (l : List Vx) (es : List Sx) (o : Nat), (∀ y ∈ es, ∀ v : Vx, v.Typ y → Gn v.flat → U8 (v.enc y)) → Vx.Typl l es → Gn (Vx.flatl l) → U8 (Vx.frt l es o) ∧ U8 (Vx.bck l es)
 | [], [], o, _, _, _ => by simp [Vx.frt, Vx.bck, u8_nil]
 | v :: l, x :: es, o, he, h, hg => by
  simp only [Vx.Typl] at h
  rw [Vx.flatl] at hg
  obtain ⟨g1, g2⟩ := Gn.app.1 hg
  have ih := fun o => row_u8 l es o (fun y hy => he y (List.mem_cons_of_mem _ hy)) h.2 g2
  have h1 := he x List.mem_cons_self v h.1 g1
  rw [Vx.frt, Vx.bck]
  cases hd : x.dyn with
  | true => rw [if_pos rfl, if_pos rfl]; exact ⟨u8_app (fun y hy => wbytes_u8 _ y hy) (ih _).1, u8_app h1 (ih 0).2⟩
  | false => rw [if_neg (by simp), if_neg (by simp)]; exact ⟨u8_app h1 (ih _).1, (ih 0).2⟩
 | [], _ :: _, _, _, h, _ => by simp [Vx.Typl] at h
 | _ :: _, [], _, _, h, _ => by simp [Vx.Typl] at h
theorem enc_u8 : ∀ (n : Nat) (x : Sx) (v : Vx), x.nd ≤ n → v.Typ x → Gn v.flat → U8 (v.enc x) := by
 intro n
 induction n with
 | zero => intro x v hx; have := x.nd_pos; omega
 | succ n ih =>
  intro x v hx ht hg
  cases v with
  | word w => rw [Vx.enc]; exact fun y hy => wbytes_u8 _ y hy
  | bytes s =>
   rw [Vx.enc]
   have hs := (hg (Z4, s, 0) (by simp [Vx.flat])).2.1
   refine u8_app (u8_app (fun y hy => wbytes_u8 _ y hy) fun y hy => ?_) fun y hy => ?_
   ·have := inK_u8 (hs.1 y hy); exact this
   ·rw [List.eq_of_mem_replicate hy]; omega
  | row l =>
   simp only [Vx.Typ] at ht
   obtain ⟨t1, t2, t3⟩ := ht
   rw [Vx.flat] at hg
   have hg2 := (Gn.app (a := [(Z4, [], (l.length : Int))]) (b := Vx.flatl l)).1 hg
   obtain ⟨u1, u2⟩ := row_u8 l (x.els l.length) (Sx.szl (x.els l.length)) (fun y hy v hv hgv => ih y v (by have := Sx.nd_part (Sx.els_mem hy); omega) hv hgv) t3 hg2.2
   rw [Vx.enc]
   refine u8_app ?_ (u8_app u1 u2)
   split
   ·exact fun y hy => wbytes_u8 _ y hy
   ·exact u8_nil
end GW
set_option linter.unusedVariables false
set_option linter.unusedSimpArgs false
set_option maxRecDepth 100000
namespace GW
open Go Go.RowKit
def bv : List Int → Nat → Nat
 | [], s => s
 | x :: l, s => bv l (s * 256 + x.toNat)
theorem bv_ge : ∀ (l : List Int) (s : Nat), s ≤ bv l s := by
 intro l
 induction l with
 | nil => intro s; exact Nat.le_refl _
 | cons x l ih => intro s; rw [bv]; have := ih (s * 256 + x.toNat); omega
theorem bv_wf {h : List Int} (hl : h.length = 32) : rd (wfrom h) 0 + 18446744073709551616 * rd (wfrom h) 1 + 18446744073709551616 * 18446744073709551616 * rd (wfrom h) 2 + 18446744073709551616 * 18446744073709551616 * 18446744073709551616 * rd (wfrom h) 3 = ((bv h 0 : Nat) : Int) := by
 match h, hl with
 | [h0, h1, h2, h3, h4, h5, h6, h7, h8, h9, h10, h11, h12, h13, h14, h15, h16, h17, h18, h19, h20, h21, h22, h23, h24, h25, h26, h27, h28, h29, h30, h31], _ =>
  show ((num8 h31.toNat h30.toNat h29.toNat h28.toNat h27.toNat h26.toNat h25.toNat h24.toNat : Nat) : Int) + 18446744073709551616 * ((num8 h23.toNat h22.toNat h21.toNat h20.toNat h19.toNat h18.toNat h17.toNat h16.toNat : Nat) : Int) + 18446744073709551616 * 18446744073709551616 * ((num8 h15.toNat h14.toNat h13.toNat h12.toNat h11.toNat h10.toNat h9.toNat h8.toNat : Nat) : Int) + 18446744073709551616 * 18446744073709551616 * 18446744073709551616 * ((num8 h7.toNat h6.toNat h5.toNat h4.toNat h3.toNat h2.toNat h1.toNat h0.toNat : Nat) : Int) = _
  simp only [bv, num8]
  omega
theorem win_step (b : List Int) (a d : Nat) (h : a < b.length) : (b.drop a).take (d + 1) = rd b (a : Int) :: (b.drop (a + 1)).take d := by
 rw [List.drop_eq_getElem_cons h, List.take_succ_cons]
 congr 1
 unfold rd
 rw [Int.toNat_natCast, List.getD_eq_getElem?_getD, List.getElem?_eq_getElem h]; rfl
theorem cnt_loop (b : List Int) (hb : U8 b) (hl : b.length ≤ 1000000) (a : Nat) (ha : a + 32 ≤ b.length) : ∀ (d q i s : Nat), i + d = 32 → d < q → s ≤ b.length →
  fc_.l1 b (a : Int) q (i : Int) (s : Int) = some (if bv ((b.drop (a + i)).take d) s ≤ b.length then ((bv ((b.drop (a + i)).take d) s : Nat) : Int) else -1) := by
 intro d
 induction d with
 | zero =>
  intro q i s hi hq hs
  obtain ⟨q, rfl⟩ : ∃ u, q = u + 1 := ⟨q - 1, by omega⟩
  show fc_.b1 _ _ _ _ _ = _
  unfold fc_.b1 fc_.j2
  rw [if_neg (by simp; omega), List.take_zero, bv, if_pos hs]
 | succ d ih =>
  intro q i s hi hq hs
  obtain ⟨q, rfl⟩ : ∃ u, q = u + 1 := ⟨q - 1, by omega⟩
  have hr := hb.rd (a + i)
  have w0 : wr .i64 ((a : Int) + (i : Int)) = ((a + i : Nat) : Int) := by rw [wi (by omega) (by omega)]; omega
  have w1 : wr .i64 ((i : Int) + 1) = ((i + 1 : Nat) : Int) := by rw [wi (by omega) (by omega)]; omega
  have w2 : wr .i64 (rd b ((a + i : Nat) : Int)) = rd b ((a + i : Nat) : Int) := wi (by omega) (by omega)
  have w3 : wr .i64 ((s : Int) * 256) = (s : Int) * 256 := wi (by omega) (by omega)
  have w4 : wr .i64 ((s : Int) * 256 + rd b ((a + i : Nat) : Int)) = ((s * 256 + (rd b ((a + i : Nat) : Int)).toNat : Nat) : Int) := by rw [wi (by omega) (by omega)]; omega
  have start : fc_.l1 b (a : Int) (q + 1) (i : Int) (s : Int) = fc_.b1 b (a : Int) (fc_.l1 b (a : Int) q) (i : Int) (s : Int) := rfl
  rw [start]
  unfold fc_.b1
  rw [if_pos (by simp; omega), w0, if_pos (by omega), w2, w3, w4, w1, win_step b (a + i) d (by omega), bv]
  by_cases c : b.length < s * 256 + (rd b ((a + i : Nat) : Int)).toNat
  ·rw [if_pos (by rw [decide_eq_true_eq]; omega), if_neg (by have := bv_ge ((b.drop (a + i + 1)).take d) (s * 256 + (rd b ((a + i : Nat) : Int)).toNat); omega)]
  ·rw [if_neg (by rw [decide_eq_true_eq]; omega), ih q (i + 1) _ (by omega) (by omega) (by omega), Nat.add_assoc]
theorem countS (b : List Int) (hb : U8 b) (hl : b.length ≤ 1000000) (a k : Nat) (ha : a ≤ 1000000000000000) (hk : 40 ≤ k) : fc_.f k b (a : Int) = some (match countAt b a with
  | none => -1
  | some n => (n : Int)) := by
 have w0 : wr .i64 ((a : Int) + 32) = (a : Int) + 32 := wi (by omega) (by omega)
 by_cases c : a + 32 ≤ b.length
 ·have hlp := cnt_loop b hb hl a c 32 k 0 0 (by omega) (by omega) (by omega)
  rw [Nat.add_zero, show ((0 : Nat) : Int) = 0 from rfl] at hlp
  have hv := bv_wf (take32_len c)
  have hg := wf_good ((b.drop a).take 32) (fun i => ((hb.drop a).take 32).rd i)
  have hw : wordAt b a = some (wfrom ((b.drop a).take 32)) := by unfold wordAt; rw [if_pos c]
  generalize wfrom ((b.drop a).take 32) = w at hv hg hw
  generalize bv ((b.drop a).take 32) 0 = V at hv hlp
  obtain ⟨p, q, r, s, rfl, hp, hq, hr, hs, -⟩ := lanes_of hg
  have e0 : rd [(p : Int), q, r, s] 0 = p := rfl
  have e1 : rd [(p : Int), q, r, s] 1 = q := rfl
  have e2 : rd [(p : Int), q, r, s] 2 = r := rfl
  have e3 : rd [(p : Int), q, r, s] 3 = s := rfl
  rw [e0, e1, e2, e3] at hv
  have hc : countAt b a = if V ≤ b.length then some V else none := by
   unfold countAt
   rw [hw]
   simp only [e0, e1, e2, e3]
   by_cases c2 : V ≤ b.length
   ·rw [if_pos c2, if_pos (by omega)]
    congr 1; omega
   ·rw [if_neg c2, if_neg (by omega)]
  rw [hc]
  unfold fc_.f fc_.j1
  rw [if_neg (by simp), w0, if_neg (by simp; omega), hlp]
  by_cases c2 : V ≤ b.length
  ·rw [if_pos c2, if_pos c2]
  ·rw [if_neg c2, if_neg c2]
 ·have hc : countAt b a = none := by unfold countAt wordAt; rw [if_neg c]
  rw [hc]
  unfold fc_.f fc_.j1
  rw [if_neg (by simp), w0, if_pos (by simp; omega)]
theorem bstr_list (l : List Int) : (bstr l).toList = l.map (fun n => UInt8.ofNat n.toNat) := by
 rw [bB_of (bstr l), bB_toList, bstr_data]
theorem bstr_inj {a b : List Int} (ha : U8 a) (hb : U8 b) (h : (bstr a).toList = (bstr b).toList) : a = b := by
 rw [bstr_list, bstr_list] at h
 have back : ∀ l : List Int, U8 l → (l.map (fun n => UInt8.ofNat n.toNat)).map (fun c => (c.toNat : Int)) = l := by
  intro l
  induction l with
  | nil => intro _; rfl
  | cons x l ih =>
   intro hx
   have h0 := hx x List.mem_cons_self
   rw [List.map_cons, List.map_cons, ih fun y hy => hx y (List.mem_cons_of_mem _ hy)]
   congr 1
   rw [UInt8.toNat_ofNat']
   omega
 rw [← back a ha, h, back b hb]
end GW
set_option linter.unusedVariables false
set_option linter.unusedSimpArgs false
set_option maxRecDepth 100000
namespace GW
open Go Go.RowKit
def Sl (L : Nat) (l : List Nd) : Prop := Gn l ∧ ∀ a ∈ l, a.2.1.length ≤ L
theorem Sl.app {L : Nat} {a b : List Nd} (ha : Sl L a) (hb : Sl L b) : Sl L (a ++ b) := ⟨Gn.app.2 ⟨ha.1, hb.1⟩, fun x hx => by
 rcases List.mem_append.1 hx with h | h
 ·exact ha.2 x h
 ·exact hb.2 x h⟩
theorem Sl.nil (L : Nat) : Sl L [] := ⟨fun x hx => (by cases hx), fun x hx => (by cases hx)⟩
theorem z4_good : Gd54 Z4 := ⟨rfl, fun y hy => by simp at hy; subst hy; exact inK_u64_of (by omega) (by omega)⟩
theorem inK_i64_of {n : Nat} (h : n ≤ 1000000000) : inK .i64 (n : Int) := by
 simp [inK, Lit.wf, IntKind.min, IntKind.max, IntKind.signed, IntKind.bits]
 omega
theorem hdr_sl (L N : Nat) (hN : N ≤ 1000000000) : Sl L [(Z4, [], (N : Int))] := by
 refine ⟨fun x hx => ?_, fun x hx => ?_⟩
 ·rw [List.mem_singleton.1 hx]; exact ⟨z4_good, ⟨fun y hy => (by cases hy), Nat.zero_le _⟩, inK_i64_of hN⟩
 ·rw [List.mem_singleton.1 hx]; simp
def Fnd (b : List Int) (x : Sx) (g : L38 × Bool) (B : Nat) : Prop := g.2 = true → ∃ v : Vx, v.Typ x ∧ g.1 = v.flat ∧ Sl b.length v.flat ∧ v.flat.length ≤ B
theorem guess_loop (b : List Int) (hb : U8 b) (hbl : b.length ≤ 1500) (k : Nat) (hk : 3100 ≤ k) (self : fc2_.Ty) (x : Sx) (hk4 : 4 ≤ x.kd) (hx : x.Ok) (hn : x.nd ≤ 600) (base N M : Nat) (hM : M ≤ 100000) (hok : x.okN N = true) (hN : N ≤ b.length / 32) (hbase : base ≤ b.length + 32)
    (hs : ∀ y ∈ x.els N, ∀ a : Nat, a ≤ 200000000000000 → ∃ g, self y.S b (a : Int) = some g ∧ Fnd b y g M ∧ (∀ v : Vx, v.Typ y → Gn v.flat → Lies b a (v.enc y) → v.flat.length ≤ b.length + 1 → g = (v.flat, true))) :
    ∀ (d q i fr : Nat) (out : L38), i + d = N → d < q → fr ≤ b.length + 32 + i * 1099511627776 → out.length ≤ 200000 → ∃ g, fc2_.l1 k self x.S b (base : Int) (N : Int) q (i : Int) (fr : Int) out = some g ∧
      (g.2 = true → ∃ vs : List Vx, Vx.Typl vs ((x.els N).drop i) ∧ g.1 = out ++ Vx.flatl vs ∧ Sl b.length (Vx.flatl vs) ∧ g.1.length ≤ max out.length (b.length + M)) ∧
      (∀ (vs : List Vx) (o : Nat), Vx.Typl vs ((x.els N).drop i) → Gn (Vx.flatl vs) → Lies b fr (Vx.frt vs ((x.els N).drop i) o) → Lies b (base + o) (Vx.bck vs ((x.els N).drop i)) → out.length + (Vx.flatl vs).length ≤ b.length + 1 → g = (out ++ Vx.flatl vs, true)) := by
  have hel := Sx.els_len hok
  intro d
  induction d with
  | zero =>
    intro q i fr out hi hq hfr ho
    obtain ⟨q, rfl⟩ : ∃ u, q = u + 1 := ⟨q - 1, by omega⟩
    have start : fc2_.l1 k self x.S b (base : Int) (N : Int) (q + 1) (i : Int) (fr : Int) out = some (out, true) := by
      show fc2_.b1 _ _ _ _ _ _ _ _ _ _ = _
      unfold fc2_.b1 fc2_.j4
      rw [if_neg (by simp; omega)]
    rw [start, List.drop_eq_nil_of_le (show (x.els N).length ≤ i by omega)]
    refine ⟨_, rfl, fun _ => ⟨[], trivial, by simp [Vx.flatl], by simpa [Vx.flatl] using Sl.nil _, by simp only; omega⟩, fun vs o ht _ _ _ _ => ?_⟩
    obtain rfl := Vx.Typl_nil ht
    simp [Vx.flatl]
  | succ d ih =>
    intro q i fr out hi hq hfr ho
    obtain ⟨q, rfl⟩ : ∃ u, q = u + 1 := ⟨q - 1, by omega⟩
    have hil : i < (x.els N).length := by omega
    have hm := gt_mem (x.els N) i hil
    have hyn := Sx.nd_part (Sx.els_mem hm)
    have hyo := hx.part (Sx.els_mem hm)
    have hi46 : i ≤ 46 := by omega
    rw [gt_drop (x.els N) i hil]
    have hw1 : wr .i64 ((i : Int) + 1) = ((i + 1 : Nat) : Int) := by rw [wi (by omega) (by omega)]; omega
    have fail : ∀ (P : L38 × Bool → Prop), P ([], false) → ∃ g, some (([] : L38), false) = some g ∧ P g := fun P h => ⟨_, rfl, h⟩
    have go : ∀ (p : Nat), p ≤ 200000000000000 → ∃ g, fc2_.j5 k self b (i : Int) (fr : Int) out (fc2_.l1 k self x.S b (base : Int) (N : Int) q) (gt (x.els N) (i : Int)).S (p : Int) = some g ∧
        (g.2 = true → ∃ vs : List Vx, Vx.Typl vs (gt (x.els N) (i : Int) :: (x.els N).drop (i + 1)) ∧ g.1 = out ++ Vx.flatl vs ∧ Sl b.length (Vx.flatl vs) ∧ g.1.length ≤ max out.length (b.length + M)) ∧
        (∀ (v : Vx) (vs : List Vx) (o : Nat), v.Typ (gt (x.els N) (i : Int)) → Vx.Typl vs ((x.els N).drop (i + 1)) → Gn v.flat → Gn (Vx.flatl vs) → Lies b p (v.enc (gt (x.els N) (i : Int))) → (gt (x.els N) (i : Int)).sz ≤ b.length + 32 → Lies b (fr + (gt (x.els N) (i : Int)).sz) (Vx.frt vs ((x.els N).drop (i + 1)) o) → Lies b (base + o) (Vx.bck vs ((x.els N).drop (i + 1))) → out.length + v.flat.length + (Vx.flatl vs).length ≤ b.length + 1 → g = (out ++ (v.flat ++ Vx.flatl vs), true)) := by
      intro p hp
      obtain ⟨g, e, hg1, hg2⟩ := hs _ hm p hp
      unfold fc2_.j5
      rw [e, Option.bind_some]
      have bad : ∀ (h : ∀ v : Vx, v.Typ (gt (x.els N) (i : Int)) → Gn v.flat → Lies b p (v.enc (gt (x.els N) (i : Int))) → out.length + v.flat.length ≤ b.length + 1 → False), ∃ g', fc2_.j6 k (i : Int) (fr : Int) out (fc2_.l1 k self x.S b (base : Int) (N : Int) q) (gt (x.els N) (i : Int)).S g true = some g' ∧
        (g'.2 = true → ∃ vs : List Vx, Vx.Typl vs (gt (x.els N) (i : Int) :: (x.els N).drop (i + 1)) ∧ g'.1 = out ++ Vx.flatl vs ∧ Sl b.length (Vx.flatl vs) ∧ g'.1.length ≤ max out.length (b.length + M)) ∧
        (∀ (v : Vx) (vs : List Vx) (o : Nat), v.Typ (gt (x.els N) (i : Int)) → Vx.Typl vs ((x.els N).drop (i + 1)) → Gn v.flat → Gn (Vx.flatl vs) → Lies b p (v.enc (gt (x.els N) (i : Int))) → (gt (x.els N) (i : Int)).sz ≤ b.length + 32 → Lies b (fr + (gt (x.els N) (i : Int)).sz) (Vx.frt vs ((x.els N).drop (i + 1)) o) → Lies b (base + o) (Vx.bck vs ((x.els N).drop (i + 1))) → out.length + v.flat.length + (Vx.flatl vs).length ≤ b.length + 1 → g' = (out ++ (v.flat ++ Vx.flatl vs), true)) := fun h => by
        unfold fc2_.j6
        rw [if_pos rfl]
        exact ⟨_, rfl, fun h => absurd h (by simp), fun v vs o t1 _ g1 _ l1 _ _ _ hle => (h v t1 g1 l1 (by omega)).elim⟩
      cases hgb : g.2 with
      | false =>
        rw [if_pos (by simp)]
        refine bad fun v t1 g1 l1 hle => ?_
        have := hg2 v t1 g1 l1 (by omega)
        rw [this] at hgb; simp at hgb
      | true =>
        rw [if_neg (by simp)]
        obtain ⟨v, v1, v2, v3, v4⟩ := hg1 hgb
        by_cases c : b.length < out.length
        · have hdc : decide ((b.length : Int) < (out.length : Int)) = true := decide_eq_true (by omega)
          rw [hdc]
          refine bad fun v' t1 g1 l1 hle => ?_
          have := v'.flat_pos
          omega
        · have hdc : decide ((b.length : Int) < (out.length : Int)) = false := decide_eq_false (by omega)
          rw [hdc]
          unfold fc2_.j6
          rw [if_neg (by simp), v2, if_pos (by omega), sizeS _ hyo (by omega) k (by omega), Option.bind_some, hw1]
          have hfr' : wr .i64 ((fr : Int) + ((min (gt (x.els N) (i : Int)).sz 1099511627776 : Nat) : Int)) = ((fr + min (gt (x.els N) (i : Int)).sz 1099511627776 : Nat) : Int) := by rw [wi (by omega) (by omega)]; omega
          rw [hfr']
          obtain ⟨g', e', h1, h2⟩ := ih q (i + 1) (fr + min (gt (x.els N) (i : Int)).sz 1099511627776) (out ++ v.flat) (by omega) (by omega) (by omega) (by rw [List.length_append]; omega)
          refine ⟨g', e', fun h => ?_, fun v' vs o t1 t2 g1 g2 l1 hsz l2 l3 hle => ?_⟩
          · obtain ⟨vs, w1, w2, w3, w4⟩ := h1 h
            refine ⟨v :: vs, ⟨v1, w1⟩, by rw [w2, Vx.flatl, List.append_assoc], by rw [Vx.flatl]; exact v3.app w3, ?_⟩
            rw [List.length_append] at w4
            omega
          · have := hg2 v' t1 g1 l1 (by omega)
            have hvv : v.flat = v'.flat := by rw [← v2, this]
            rw [hvv] at h2
            have hmin : min (gt (x.els N) (i : Int)).sz 1099511627776 = (gt (x.els N) (i : Int)).sz := by omega
            rw [hmin] at h2
            rw [h2 vs o t2 g2 l2 l3 (by rw [List.length_append]; omega), List.append_assoc]
    have start : fc2_.l1 k self x.S b (base : Int) (N : Int) (q + 1) (i : Int) (fr : Int) out =
        (if (gt (x.els N) (i : Int)).dyn = true then ((fc_.f k b (fr : Int)).bind fun t20 => (if (decide (t20 < 0)) = true then (some (([] : List ((List Int) × (List Int) × Int)), false)) else (fc2_.j5 k self b (i : Int) (fr : Int) out (fc2_.l1 k self x.S b (base : Int) (N : Int) q) (gt (x.els N) (i : Int)).S (wr .i64 ((base : Int) + t20))))) else (fc2_.j5 k self b (i : Int) (fr : Int) out (fc2_.l1 k self x.S b (base : Int) (N : Int) q) (gt (x.els N) (i : Int)).S (fr : Int))) := by
      show fc2_.b1 _ _ _ _ _ _ _ _ _ _ = _
      unfold fc2_.b1
      rw [if_pos (by simp; omega), partS x hk4 hx N i hok (by omega), Option.bind_some, dynS _ hyo (by omega) k (by omega), Option.bind_some]
    rw [start]
    cases hd : (gt (x.els N) (i : Int)).dyn with
    | false =>
      rw [if_neg (by simp)]
      obtain ⟨g, e, h1, h2⟩ := go fr (by omega)
      refine ⟨g, e, h1, fun vs o ht hg hF hB hle => ?_⟩
      obtain ⟨v, vs', rfl, t1, t2⟩ := Vx.Typl_cons ht
      rw [Vx.flatl] at hg hle ⊢
      obtain ⟨g1, g2⟩ := Gn.app.1 hg
      rw [Vx.frt, if_neg (by simp [hd])] at hF
      rw [Vx.bck, if_neg (by simp [hd])] at hB
      have hlen := enc_static _ _ v (Nat.le_refl _) hyo t1 hd
      have hF2 := hF.right
      rw [hlen] at hF2
      rw [List.length_append] at hle
      exact h2 v vs' o t1 t2 g1 g2 hF.left (by have := hF.left.2; omega) hF2 hB (by omega)
    | true =>
      rw [if_pos rfl, countS b hb (by omega) fr k (by omega) (by omega), Option.bind_some]
      cases hc : countAt b fr with
      | none =>
        simp only
        rw [if_pos (by simp)]
        refine ⟨_, rfl, fun h => absurd h (by simp), fun vs o ht hg hF hB hle => ?_⟩
        obtain ⟨v, vs', rfl, t1, t2⟩ := Vx.Typl_cons ht
        rw [Vx.frt, if_pos hd] at hF
        have := countAt_of (b := b) (a := fr) (n := o) (by rw [Vx.bck, if_pos hd] at hB; have := hB.2; omega) (by omega) (by have := hF.left.1; rwa [cnt_len] at this)
        rw [this] at hc; cases hc
      | some c =>
        obtain ⟨c1, c2, c3⟩ := countAt_good hb hc
        simp only
        have hwp : wr .i64 ((base : Int) + (c : Int)) = ((base + c : Nat) : Int) := by rw [wi (by omega) (by omega)]; omega
        rw [if_neg (by simp), hwp]
        obtain ⟨g, e, h1, h2⟩ := go (base + c) (by omega)
        refine ⟨g, e, h1, fun vs o ht hg hF hB hle => ?_⟩
        obtain ⟨v, vs', rfl, t1, t2⟩ := Vx.Typl_cons ht
        rw [Vx.flatl] at hg hle ⊢
        obtain ⟨g1, g2⟩ := Gn.app.1 hg
        rw [Vx.frt, if_pos hd] at hF
        rw [Vx.bck, if_pos hd] at hB
        have hco := countAt_of (b := b) (a := fr) (n := o) (by have := hB.2; omega) (by omega) (by have := hF.left.1; rwa [cnt_len] at this)
        rw [hc] at hco
        obtain rfl := Option.some.inj hco
        have h32 := Sx.sz_dyn hyo hd
        have hF2 := hF.right
        rw [cnt_len, ← h32] at hF2
        rw [List.length_append] at hle
        exact h2 v vs' (c + (v.enc (gt (x.els N) (i : Int))).length) t1 t2 g1 g2 hB.left (by omega) hF2 (by rw [← Nat.add_assoc]; exact hB.right) (by omega)
end GW
set_option linter.unusedVariables false
set_option linter.unusedSimpArgs false
set_option maxRecDepth 100000
namespace GW
open Go Go.RowKit
def GsP (b : List Int) (x : Sx) (a : Nat) (g : L38 × Bool) (B : Nat) : Prop := Fnd b x g B ∧ (∀ v : Vx, v.Typ x → Gn v.flat → Lies b a (v.enc x) → v.flat.length ≤ b.length + 1 → g = (v.flat, true))
theorem GsP.fail {b : List Int} {x : Sx} {a B : Nat} (h : ∀ v : Vx, v.Typ x → Gn v.flat → Lies b a (v.enc x) → v.flat.length ≤ b.length + 1 → False) : ∃ g, some (([] : List ((List Int) × (List Int) × Int)), false) = some g ∧ GsP b x a g B :=
 ⟨_, rfl, fun h => absurd h (by simp), fun v h1 h2 h3 h4 => (h v h1 h2 h3 h4).elim⟩
theorem guess_row (b : List Int) (hb : U8 b) (hbl : b.length ≤ 1500) (k : Nat) (hk : 3100 ≤ k) (self : fc2_.Ty) (x : Sx) (hk4 : 4 ≤ x.kd) (hx : x.Ok) (hp : ∀ y ∈ x.parts, y.Full) (hn : x.nd ≤ 600) (base N M : Nat) (hM : M ≤ 100000) (hok : x.okN N = true) (hbase : base ≤ b.length + 32) (hNl : N ≤ 10000)
  (hs : ∀ y ∈ x.els N, ∀ a : Nat, a ≤ 200000000000000 → ∃ g, self y.S b (a : Int) = some g ∧ Fnd b y g M ∧ (∀ v : Vx, v.Typ y → Gn v.flat → Lies b a (v.enc y) → v.flat.length ≤ b.length + 1 → g = (v.flat, true))) :
  ∃ g, fc2_.j3 k self x.S b (base : Int) (N : Int) = some g ∧
   (g.2 = true → ∃ vs : List Vx, vs.length = N ∧ Vx.Typl vs (x.els N) ∧ g.1 = (Vx.row vs).flat ∧ Sl b.length (Vx.row vs).flat ∧ (Vx.row vs).flat.length ≤ b.length + M + 1) ∧
   (∀ vs : List Vx, vs.length = N → Vx.Typl vs (x.els N) → Gn (Vx.flatl vs) → Lies b base (Vx.frt vs (x.els N) (Sx.szl (x.els N)) ++ Vx.bck vs (x.els N)) → (Vx.row vs).flat.length ≤ b.length + 1 → g = ((Vx.row vs).flat, true)) := by
 have hel := Sx.els_len hok
 unfold fc2_.j3
 rw [tdiv_pos (by omega), wi (by omega) (by omega)]
 by_cases c : N ≤ b.length / 32
 ·rw [if_neg (by simp; omega)]
  obtain ⟨g, e, h1, h2⟩ := guess_loop b hb hbl k hk self x hk4 hx hn base N M hM hok c hbase hs N k 0 base [(Z4, [], (N : Int))] (by omega) (by omega) (by omega) (by simp)
  rw [List.drop_zero] at h1 h2
  refine ⟨g, e, fun h => ?_, fun vs hvl ht hg hL hle => ?_⟩
  ·obtain ⟨vs, t1, t2, t3, t4⟩ := h1 h
   have hvl := Vx.Typl_len t1
   rw [hel] at hvl
   have hfl : (Vx.row vs).flat = [(Z4, [], (N : Int))] ++ Vx.flatl vs := by rw [Vx.flat, hvl]; rfl
   refine ⟨vs, hvl, t1, by rw [t2, hfl], by rw [hfl]; exact (hdr_sl _ N (by omega)).app t3, ?_⟩
   rw [hfl, ← t2]
   simp only [List.length_singleton] at t4
   omega
  ·have hfl : (Vx.row vs).flat = [(Z4, [], (N : Int))] ++ Vx.flatl vs := by rw [Vx.flat, hvl]; rfl
   have hfr := frt_len vs (x.els N) (Sx.szl (x.els N)) (fun y hy => hx.part (Sx.els_mem hy)) (fun y hy v hv hd => enc_static y.nd y v (Nat.le_refl _) (hx.part (Sx.els_mem hy)) hv hd) ht
   have hB := hL.right
   rw [hfr] at hB
   rw [hfl] at hle ⊢
   rw [List.length_append] at hle
   exact h2 vs (Sx.szl (x.els N)) ht hg hL.left hB hle
 ·rw [if_pos (by simp; omega)]
  refine ⟨_, rfl, fun h => absurd h (by simp), fun vs hvl ht hg hL hle => ?_⟩
  have hfr := frt_len vs (x.els N) (Sx.szl (x.els N)) (fun y hy => hx.part (Sx.els_mem hy)) (fun y hy v hv hd => enc_static y.nd y v (Nat.le_refl _) (hx.part (Sx.els_mem hy)) hv hd) ht
  have hge := szl_ge (x.els N) fun y hy => Sx.sz_ge y (hx.part (Sx.els_mem hy)) (hp y (Sx.els_mem hy))
  have := hL.left.2
  rw [hfr] at this
  omega
theorem guessS (b : List Int) (hb : U8 b) (hbl : b.length ≤ 1500) : ∀ (n : Nat) (x : Sx), x.Ok → (∀ y ∈ x.parts, y.Full) → x.nd ≤ n → x.nd ≤ 600 → x.dp ≤ 16 → ∀ (a k : Nat), a ≤ 200000000000000 → n + 3200 ≤ k → ∃ g, fc2_.f k x.S b (a : Int) = some g ∧ GsP b x a g ((b.length + 1) * x.dp + 1) := by
 intro n
 induction n with
 | zero => intro x _ _ hx; have := x.nd_pos; omega
 | succ n ih =>
  intro x hok hp hn h6 h16 a k ha hk
  obtain ⟨k, rfl⟩ : ∃ u, k = u + 1 := ⟨k - 1, by omega⟩
  have start : fc2_.f (k + 1) x.S b (a : Int) = fc2_.j1 k (fc2_.f k) x.S b (a : Int) (decide ((b.length : Int) < (a : Int))) := by
   show fc2_.body _ _ _ _ _ = _
   unfold fc2_.body
   rw [if_neg (by simp)]
  rw [start]
  unfold fc2_.j1
  by_cases c0 : b.length < a
  ·rw [if_pos (by simp; omega)]
   exact GsP.fail fun v _ _ hL _ => by have := hL.2; omega
  rw [if_neg (by simp; omega), Sx.unS]
  simp only
  have w32 : wr .i64 ((a : Int) + 32) = ((a + 32 : Nat) : Int) := by rw [wi (by omega) (by omega)]; omega
  have hdb : (b.length + 1) * x.dp ≤ 1501 * 16 := Nat.mul_le_mul (by omega) h16
  have hels : 4 ≤ x.kd → ∀ N, ∀ y ∈ x.els N, ∀ a : Nat, a ≤ 200000000000000 → ∃ g, fc2_.f k y.S b (a : Int) = some g ∧ Fnd b y g ((b.length + 1) * (x.dp - 1) + 1) ∧ (∀ v : Vx, v.Typ y → Gn v.flat → Lies b a (v.enc y) → v.flat.length ≤ b.length + 1 → g = (v.flat, true)) := fun hk4 N y hy a ha => by
   have hm := Sx.els_mem hy
   have h1 := Sx.nd_part hm
   have h2 := Sx.dp_part hok hk4 hm
   obtain ⟨g, e, g1, g2⟩ := ih y (hok.part hm) (fun z hz => (hp y hm).part hz) (by omega) (by omega) (by omega) a k ha (by omega)
   refine ⟨g, e, fun h => ?_, g2⟩
   obtain ⟨v, v1, v2, v3, v4⟩ := g1 h
   have : (b.length + 1) * y.dp ≤ (b.length + 1) * (x.dp - 1) := Nat.mul_le_mul_left _ (by omega)
   exact ⟨v, v1, v2, v3, by omega⟩
  by_cases c3 : x.kd < 3
  ·rw [if_pos (by simp; omega), w32]
   by_cases c : a + 32 ≤ b.length
   ·rw [if_neg (by simp; omega), if_pos (by omega), Int.toNat_natCast, Int.toNat_natCast, cut_drop]
    obtain ⟨k', rfl⟩ : ∃ u, k = u + 40 := ⟨k - 40, by omega⟩
    rw [dfrom_f k' (take32_len c), Option.bind_some, dword_f k' (take32_len c) ((hb.drop a).take 32), Option.bind_some]
    have hg : Gd54 (wfrom ((b.drop a).take 32)) := wf_good _ (fun i => ((hb.drop a).take 32).rd i)
    refine ⟨_, rfl, fun _ => ⟨.word (wfrom ((b.drop a).take 32)), c3, rfl, ⟨fun y hy => ?_, fun y hy => ?_⟩, by simp [Vx.flat]⟩, fun v ht hgv hL _ => ?_⟩
    ·rw [Vx.flat] at hy
     rw [List.mem_singleton.1 hy]
     exact ⟨hg, ⟨fun y hy => (by cases hy), Nat.zero_le _⟩, inK_i64_of (n := 0) (by omega)⟩
    ·rw [Vx.flat] at hy
     rw [List.mem_singleton.1 hy]; exact Nat.zero_le _
    ·cases v with
     | word w =>
      have hw : Gd54 w := (hgv (w, [], 0) (by simp [Vx.flat])).1
      rw [Vx.enc] at hL
      have := hL.1
      rw [wbytes_len] at this
      rw [this, wf_wb hw]; rfl
     | bytes s => simp only [Vx.Typ] at ht; omega
     | row l => simp only [Vx.Typ] at ht; omega
   ·rw [if_pos (by simp; omega)]
    refine GsP.fail fun v ht hgv hL _ => ?_
    cases v with
    | word w => rw [Vx.enc] at hL; have := hL.2; rw [wbytes_len] at this; omega
    | bytes s => simp only [Vx.Typ] at ht; omega
    | row l => simp only [Vx.Typ] at ht; omega
  rw [if_neg (by simp; omega)]
  unfold fc2_.j7 fc2_.j2
  simp only [Sx.unS]
  by_cases k3 : x.kd = 3
  ·rw [if_pos (by simp; omega), if_pos trivial, countS b hb (by omega) a k (by omega) (by omega), Option.bind_some]
   cases hc : countAt b a with
   | none =>
    simp only
    rw [if_pos (by simp)]
    refine GsP.fail fun v ht hgv hL _ => ?_
    cases v with
    | word w => simp only [Vx.Typ] at ht; omega
    | row l => simp only [Vx.Typ] at ht; omega
    | bytes s =>
     rw [Vx.enc] at hL
     have := decB_of (by omega) hL
     unfold decB at this
     rw [hc] at this; cases this
   | some N =>
    obtain ⟨c1, c2, -⟩ := countAt_good hb hc
    simp only
    have wN : wr .i64 (((a + 32 : Nat) : Int) + (N : Int)) = ((a + 32 + N : Nat) : Int) := by rw [wi (by omega) (by omega)]; omega
    rw [if_neg (by simp), w32, if_pos (by simp; omega), wN]
    have lies_len : ∀ s : List Int, Lies b a ((Vx.bytes s).enc x) → s.length = N ∧ (b.take (a + 32 + N)).drop (a + 32) = s ∧ a + 32 + N ≤ b.length := fun s hL => by
     rw [Vx.enc] at hL
     have hd := decB_of (by omega) hL
     unfold decB at hd
     rw [hc] at hd
     simp only at hd
     split at hd
     ·have h1 := Option.some.inj hd
      have h2 : (b.take (a + 32 + N)).drop (a + 32) = s := congrArg Prod.fst h1
      have h3 := hL.2
      simp only [List.length_append, cnt_len] at h3
      have h4 : N = s.length := by
       have := countAt_of (b := b) (a := a) (n := s.length) (by omega) (by omega) (by have := hL.left.left.1; rwa [cnt_len] at this)
       rw [hc] at this; exact Option.some.inj this
      exact ⟨h4.symm, h2, by omega⟩
     ·cases hd
    by_cases c : a + 32 + N ≤ b.length
    ·rw [if_neg (by simp; omega), if_pos (by omega), if_pos (by simp; omega), Int.toNat_natCast, Int.toNat_natCast, List.nil_append]
     have hsu : U8 ((b.take (a + 32 + N)).drop (a + 32)) := (hb.take _).drop _
     have hsl : ((b.take (a + 32 + N)).drop (a + 32)).length = N := by simp; omega
     refine ⟨_, rfl, fun _ => ⟨.bytes ((b.take (a + 32 + N)).drop (a + 32)), k3, rfl, ⟨fun y hy => ?_, fun y hy => ?_⟩, by simp [Vx.flat]⟩, fun v ht hgv hL _ => ?_⟩
     ·rw [Vx.flat] at hy
      rw [List.mem_singleton.1 hy]
      exact ⟨z4_good, ⟨fun z hz => inK_u8_of (hsu z hz).1 (hsu z hz).2, by simp only; rw [hsl]; have : 1500 ≤ maxLen := (by decide); omega⟩, inK_i64_of (n := 0) (by omega)⟩
     ·rw [Vx.flat] at hy
      rw [List.mem_singleton.1 hy]; simp only; rw [hsl]; exact c1
     ·cases v with
      | word w => simp only [Vx.Typ] at ht; omega
      | row l => simp only [Vx.Typ] at ht; omega
      | bytes s =>
       obtain ⟨-, h2, -⟩ := lies_len s hL
       rw [h2]; rfl
    ·rw [if_pos (by simp; omega)]
     refine GsP.fail fun v ht hgv hL _ => ?_
     cases v with
     | word w => simp only [Vx.Typ] at ht; omega
     | row l => simp only [Vx.Typ] at ht; omega
     | bytes s => have := (lies_len s hL).2.2; omega
  rw [if_neg (by simp; omega)]
  have hdp : 1 ≤ x.dp := by rw [Sx.dp_eq x hok, if_pos (by omega)]; omega
  have hMb : (b.length + 1) * (x.dp - 1) + (b.length + 1) = (b.length + 1) * x.dp := by
   obtain ⟨m, hm⟩ : ∃ m, x.dp = m + 1 := ⟨x.dp - 1, by omega⟩
   rw [hm, Nat.add_sub_cancel, Nat.mul_succ]
  by_cases k4 : x.kd = 4
  ·have e4 : (((x.kd : Nat) : Int) == 4) = true := by simp [k4]
   rw [e4, if_pos rfl, countS b hb (by omega) a k (by omega) (by omega), Option.bind_some]
   cases hc : countAt b a with
   | none =>
    simp only
    rw [if_pos (by simp)]
    refine GsP.fail fun v ht hgv hL hle => ?_
    cases v with
    | word w => simp only [Vx.Typ] at ht; omega
    | bytes s => simp only [Vx.Typ] at ht; omega
    | row l =>
     rw [Vx.enc, if_pos k4] at hL
     have hfl := Vx.flatl_len l
     rw [Vx.flat, List.length_cons] at hle
     have := countAt_of (b := b) (a := a) (n := l.length) (by omega) (by omega) (by have := hL.left.1; rwa [cnt_len] at this)
     rw [hc] at this; cases this
   | some N =>
    obtain ⟨c1, c2, -⟩ := countAt_good hb hc
    have hN : x.okN N = true := by
     cases x with
     | list y => rfl
     | leaf i => simp only [Sx.Ok] at hok; simp [Sx.kd] at k4; omega
     | arr m y => simp [Sx.kd] at k4
     | tup l => simp [Sx.kd] at k4
    simp only
    rw [if_neg (by simp), w32, if_neg (by simp; omega), if_neg (by simp; omega)]
    obtain ⟨g, e, h1, h2⟩ := guess_row b hb hbl k (by omega) (fc2_.f k) x (by omega) hok hp h6 (a + 32) N ((b.length + 1) * (x.dp - 1) + 1) (by omega) hN (by omega) (by omega) (hels (by omega) N)
    refine ⟨g, e, fun h => ?_, fun v ht hgv hL hle => ?_⟩
    ·obtain ⟨vs, t1, t2, t3, t4, t5⟩ := h1 h
     exact ⟨.row vs, by simp only [Vx.Typ]; exact ⟨by omega, by rw [t1]; exact hN, by rw [t1]; exact t2⟩, t3, t4, by omega⟩
    ·cases v with
     | word w => simp only [Vx.Typ] at ht; omega
     | bytes s => simp only [Vx.Typ] at ht; omega
     | row l =>
      simp only [Vx.Typ] at ht
      rw [Vx.enc, if_pos k4] at hL
      have hfl := Vx.flatl_len l
      have hle' := hle
      rw [Vx.flat, List.length_cons] at hle'
      have hco := countAt_of (b := b) (a := a) (n := l.length) (by omega) (by omega) (by have := hL.left.1; rwa [cnt_len] at this)
      rw [hc] at hco
      obtain rfl := Option.some.inj hco
      have hL2 := hL.right
      rw [cnt_len] at hL2
      rw [Vx.flat] at hgv
      exact h2 l rfl ht.2.2 ((Gn.app (a := [(Z4, [], (l.length : Int))]) (b := Vx.flatl l)).1 hgv).2 hL2 hle
  ·have e4 : (((x.kd : Nat) : Int) == 4) = false := by simp; omega
   rw [e4, if_neg (by simp), if_neg (by simp; omega)]
   have hN := Sx.cnt_ok x (by omega) k4 hok
   have hc6 : x.cnt_ ≤ 600 := by
    have := x.parts_len
    cases x with
    | leaf i => simp [Sx.cnt_]
    | list y => simp [Sx.cnt_]
    | arr m y => simp only [Sx.Ok] at hok; simp [Sx.cnt_]; omega
    | tup l => simp only [Sx.parts] at this; simp [Sx.cnt_]; omega
   obtain ⟨g, e, h1, h2⟩ := guess_row b hb hbl k (by omega) (fc2_.f k) x (by omega) hok hp h6 a x.cnt_ ((b.length + 1) * (x.dp - 1) + 1) (by omega) hN (by omega) (by omega) (hels (by omega) x.cnt_)
   have hj : (if (((x.kd : Nat) : Int) == 6) = true then fc2_.j3 k (fc2_.f k) x.S b (a : Int) ((x.parts.map Sx.S).length : Int) else fc2_.j3 k (fc2_.f k) x.S b (a : Int) (x.num : Int)) = some g := by
    rw [← e]
    cases x with
    | leaf i => simp only [Sx.Ok] at hok; simp [Sx.kd] at c3 k3; omega
    | list y => simp [Sx.kd] at k4
    | arr m y => rw [if_neg (by simp [Sx.kd])]; rfl
    | tup l => rw [if_pos (by simp [Sx.kd])]; simp [Sx.parts, Sx.cnt_]
   refine ⟨g, hj, fun h => ?_, fun v ht hgv hL hle => ?_⟩
   ·obtain ⟨vs, t1, t2, t3, t4, t5⟩ := h1 h
    exact ⟨.row vs, by simp only [Vx.Typ]; exact ⟨by omega, by rw [t1]; exact hN, by rw [t1]; exact t2⟩, t3, t4, by omega⟩
   ·cases v with
    | word w => simp only [Vx.Typ] at ht; omega
    | bytes s => simp only [Vx.Typ] at ht; omega
    | row l =>
     simp only [Vx.Typ] at ht
     have hcl := Sx.cnt_of x (by omega) k4 hok ht.2.1
     rw [Vx.enc, if_neg k4, List.nil_append] at hL
     rw [Vx.flat] at hgv
     rw [hcl] at h2
     exact h2 l rfl ht.2.2 ((Gn.app (a := [(Z4, [], (l.length : Int))]) (b := Vx.flatl l)).1 hgv).2 hL hle
end GW
set_option linter.unusedVariables false
set_option linter.unusedSimpArgs false
set_option maxRecDepth 100000
namespace GW
open Go Go.RowKit
def decZ (s : Txt) (b : List Int) : List Nd × Int :=
 match pz s with
 | none => ([], 17)
 | some x => if x.kd = 6 then (match dec b 600 x 0 0 with
  | none => ([], 2)
  | some u => if u.2 = b.length then (u.1.flat, 0) else ([], 2)) else ([], 17)
theorem pz_parts {s : Txt} {x : Sx} (h : pz s = some x) : ∀ y ∈ x.parts, y.Full := by
 rcases pz_full h with rfl | h
 ·intro y hy; simp [Sx.parts] at hy
 ·exact fun y hy => h.part hy
theorem decP (s : Txt) (hs : s.length ≤ 600) (b : List Int) (hb : U8 b) (hl : b.length ≤ 320000) (k : Nat) (hk : 20000 ≤ k) : ff1_.f k (bB s) b = some (decZ s b) := by
 unfold ff1_.f decZ
 rw [parseP s hs k (by omega), Option.bind_some]
 cases hp : pz s with
 | none => rfl
 | some x =>
  obtain ⟨g1, g2, g3⟩ := pz_got hp
  simp only
  unfold ff1_.j1 ff1_.j2
  rw [x.nnP, if_neg (by simp), if_pos rfl, Sx.toP]
  simp only
  by_cases k6 : x.kd = 6
  ·rw [if_neg (by simp [k6]), if_pos k6, if_neg (by simp; omega)]
   have h := valueR b hb hl 600 x g1 (pz_parts hp) (by omega) (by omega) (by omega) 0 0 [] k (by omega) (by omega) (fun _ => Nat.le_refl _) (by simp; omega) (by omega)
   have e0 : fd2_.f k (b, 0, ([] : List ((List Int) × (List Int) × Int)), false) x.P 0 = fd2_.f k (b, ((0 : Nat) : Int), ([] : List ((List Int) × (List Int) × Int)), false) x.P ((0 : Nat) : Int) := rfl
   rw [e0]
   cases hd : dec b 600 x 0 0 with
   | none =>
    rw [hd] at h
    obtain ⟨d', o', e⟩ := h
    rw [e, Option.bind_some, if_pos rfl, if_pos trivial]
   | some u =>
    rw [hd] at h
    have h' : fd2_.f k (b, ((0 : Nat) : Int), ([] : List ((List Int) × (List Int) × Int)), false) x.P ((0 : Nat) : Int) = some ((), (u.2 : Int), [] ++ u.1.flat, false) := h
    rw [h', Option.bind_some, if_neg (by simp)]
    simp only
    by_cases c : u.2 = b.length
    ·rw [if_neg (by simp [c]), if_pos c, List.nil_append]
    ·rw [if_pos (by simp; omega), if_neg c]
  ·rw [if_pos (by simp; omega), if_neg k6]
theorem same_loop (l : List Nd) (hl : l.length ≤ 1000000) : ∀ (m q i : Nat), i + m = l.length → m < q → fc6_.l1 l l q (i : Int) = some true := by
 intro m
 induction m with
 | zero =>
  intro q i hi hq
  obtain ⟨q, rfl⟩ : ∃ u, q = u + 1 := ⟨q - 1, by omega⟩
  show fc6_.b1 _ _ _ _ = _
  unfold fc6_.b1
  rw [if_neg (by simp; omega)]; rfl
 | succ m ih =>
  intro q i hi hq
  obtain ⟨q, rfl⟩ : ∃ u, q = u + 1 := ⟨q - 1, by omega⟩
  have hw : wr .i64 ((i : Int) + 1) = ((i + 1 : Nat) : Int) := by rw [wi (by omega) (by omega)]; omega
  show fc6_.b1 _ _ _ _ = _
  unfold fc6_.b1 fc6_.j2
  rw [if_pos (by simp; omega), if_pos (by omega), if_pos (by omega), if_neg (by simp), if_neg (by simp), if_neg (by simp), hw]
  exact ih q (i + 1) (by omega) (by omega)
theorem same_eq (l : List Nd) (k : Nat) (hl : l.length ≤ 1000000) (hk : l.length < k) : fc6_.f k l l = some true := by
 unfold fc6_.f
 rw [if_neg (by simp)]
 exact same_loop l hl l.length k 0 (by omega) hk
end GW
set_option linter.unusedVariables false
set_option linter.unusedSimpArgs false
set_option maxRecDepth 100000
namespace GW
open Go Go.RowKit
theorem decl_gn (b : List Int) (f : Sx → Nat → Nat → Option (Vx × Nat)) (a1 : Nat) : ∀ (es : List Sx) (fr d : Nat) (z : List Vx × Nat), (∀ y ∈ es, ∀ a d u, f y a d = some u → Gn u.1.flat) → decl f b a1 es fr d = some z → Gn (Vx.flatl z.1) ∧ z.1.length = es.length := by
 intro es
 induction es with
 | nil => intro fr d z _ h; obtain rfl := Option.some.inj h; simp [Vx.flatl, Gn]
 | cons y es ih =>
  intro fr d z hf h
  rw [decl] at h
  have key : ∀ a d', (match f y a d' with | none => none | some u => match decl f b a1 es (fr + y.sz) u.2 with | none => none | some z => some (u.1 :: z.1, z.2)) = some z → Gn (Vx.flatl z.1) ∧ z.1.length = (y :: es).length := fun a d' h => by
   cases hu : f y a d' with
   | none => rw [hu] at h; cases h
   | some u =>
    simp only [hu] at h
    cases hz : decl f b a1 es (fr + y.sz) u.2 with
    | none => rw [hz] at h; cases h
    | some w =>
     simp only [hz] at h
     obtain rfl := Option.some.inj h
     obtain ⟨i1, i2⟩ := ih _ _ _ (fun y' hy' => hf y' (List.mem_cons_of_mem _ hy')) hz
     exact ⟨by rw [Vx.flatl]; exact Gn.app.2 ⟨hf y List.mem_cons_self _ _ _ hu, i1⟩, by simp [i2]⟩
  split at h
  ·cases hc : countAt b fr with
   | none => rw [hc] at h; cases h
   | some c =>
    simp only [hc] at h
    split at h
    ·exact key d d h
    ·cases h
  ·exact key fr d h
theorem decR_gn (b : List Int) (f : Sx → Nat → Nat → Option (Vx × Nat)) (x : Sx) (N a1 d : Nat) (u : Vx × Nat) (hf : ∀ y ∈ x.els N, ∀ a d u, f y a d = some u → Gn u.1.flat) (hel : (x.els N).length ≤ 1000000000) (h : decR f b x N a1 d = some u) : Gn u.1.flat := by
 unfold decR at h
 split at h
 ·cases hd : decl f b a1 (x.els N) a1 (max d (a1 + Sx.szl (x.els N))) with
  | none => rw [hd] at h; cases h
  | some z =>
   simp only [hd] at h
   obtain rfl := Option.some.inj h
   obtain ⟨i1, i2⟩ := decl_gn b f a1 _ _ _ _ hf hd
   rw [Vx.flat]
   exact (Gn.app (a := [(Z4, [], (z.1.length : Int))]) (b := Vx.flatl z.1)).2 ⟨(hdr_sl 0 z.1.length (by omega)).1, i1⟩
 ·cases h
theorem dec_gn (b : List Int) (hb : U8 b) (hl : b.length ≤ 1500) : ∀ (n : Nat) (x : Sx) (a d : Nat) (u : Vx × Nat), x.Ok → x.nd ≤ 600 → dec b n x a d = some u → Gn u.1.flat := by
 intro n
 induction n with
 | zero => intro x a d u _ _ h; cases h
 | succ n ih =>
  intro x a d u hok h6 h
  rw [dec] at h
  by_cases c3 : x.kd < 3
  ·rw [if_pos c3] at h
   cases hw : wordAt b a with
   | none => rw [hw] at h; cases h
   | some w =>
    simp only [hw] at h
    obtain ⟨g1, -, -⟩ := wordAt_good hb hw
    split at h
    ·cases h
    ·obtain rfl := Option.some.inj h
     intro y hy
     rw [Vx.flat] at hy
     rw [List.mem_singleton.1 hy]
     exact ⟨g1, ⟨fun y hy => (by cases hy), Nat.zero_le _⟩, inK_i64_of (n := 0) (by omega)⟩
  ·rw [if_neg c3] at h
   by_cases k3 : x.kd = 3
   ·rw [if_pos k3] at h
    cases hz : decB b a with
    | none => rw [hz] at h; cases h
    | some z =>
     simp only [hz] at h
     obtain rfl := Option.some.inj h
     obtain ⟨g1, g2, g3⟩ := decB_good hb hz
     intro y hy
     rw [Vx.flat] at hy
     rw [List.mem_singleton.1 hy]
     have hzu : U8 z.1 := by
      unfold decB at hz
      cases hc : countAt b a with
      | none => rw [hc] at hz; cases hz
      | some m =>
       simp only [hc] at hz
       split at hz
       ·obtain rfl := Option.some.inj hz
        exact (hb.take _).drop _
       ·cases hz
     have hmx : 1500 ≤ maxLen := (by decide)
     exact ⟨z4_good, ⟨fun q hq => inK_u8_of (hzu q hq).1 (hzu q hq).2, by simp only; omega⟩, inK_i64_of (n := 0) (by omega)⟩
   ·rw [if_neg k3] at h
    have hpart : ∀ N, ∀ y ∈ x.els N, ∀ a d u, dec b n y a d = some u → Gn u.1.flat := fun N y hy a d u hu =>
     ih y a d u (hok.part (Sx.els_mem hy)) (by have := Sx.nd_part (Sx.els_mem hy); omega) hu
    by_cases k4 : x.kd = 4
    ·rw [if_pos k4] at h
     cases hc : countAt b a with
     | none => rw [hc] at h; cases h
     | some N =>
      simp only [hc] at h
      obtain ⟨c1, -, -⟩ := countAt_good hb hc
      have hN : x.okN N = true := by
       cases x with
       | list y => rfl
       | leaf i => simp only [Sx.Ok] at hok; simp [Sx.kd] at k4; omega
       | arr m y => simp [Sx.kd] at k4
       | tup l => simp [Sx.kd] at k4
      exact decR_gn b _ x N _ _ u (hpart N) (by rw [Sx.els_len hN]; omega) h
    ·rw [if_neg k4] at h
     have hN := Sx.cnt_ok x (by omega) k4 hok
     have hc6 : x.cnt_ ≤ 600 := by
      have := x.parts_len
      cases x with
      | leaf i => simp [Sx.cnt_]
      | list y => simp [Sx.cnt_]
      | arr m y => simp only [Sx.Ok] at hok; simp [Sx.cnt_]; omega
      | tup l => simp only [Sx.parts] at this; simp [Sx.cnt_]; omega
     exact decR_gn b _ x x.cnt_ _ _ u (hpart x.cnt_) (by rw [Sx.els_len hN]; omega) h
def Bs : List Nd → Nat
 | [] => 0
 | a :: l => a.2.1.length + Bs l
theorem Bs_app (a b : List Nd) : Bs (a ++ b) = Bs a + Bs b := by
 induction a with
 | nil => simp [Bs]
 | cons x a ih => simp only [List.cons_append, Bs, ih]; omega
theorem Wt_Bs (l : List Nd) : Wt l = 96 * l.length + Bs l := by
 induction l with
 | nil => simp [Wt, Bs]
 | cons a l ih => simp only [Wt, Bs, List.length_cons, ih]; omega
theorem row_bs : ∀ (l : List Vx) (es : List Sx) (o : Nat), (∀ y ∈ es, ∀ v : Vx, v.Typ y → Bs v.flat ≤ (v.enc y).length) → Vx.Typl l es → Bs (Vx.flatl l) ≤ (Vx.frt l es o).length + (Vx.bck l es).length
 | [], [], o, _, _ => by simp [Vx.flatl, Bs]
 | v :: l, x :: es, o, he, h => by
  simp only [Vx.Typl] at h
  have ih := fun o => row_bs l es o (fun y hy => he y (List.mem_cons_of_mem _ hy)) h.2
  have h1 := he x List.mem_cons_self v h.1
  rw [Vx.flatl, Bs_app, Vx.frt, Vx.bck]
  cases hd : x.dyn with
  | true => simp only [if_true, List.length_append, cnt_len]; have := ih (o + (v.enc x).length); omega
  | false => simp only [Bool.false_eq_true, if_false, List.length_append]; have := ih o; omega
 | [], _ :: _, _, _, h => by simp [Vx.Typl] at h
 | _ :: _, [], _, _, h => by simp [Vx.Typl] at h
theorem enc_bs : ∀ (n : Nat) (x : Sx) (v : Vx), x.nd ≤ n → v.Typ x → Bs v.flat ≤ (v.enc x).length := by
 intro n
 induction n with
 | zero => intro x v hx; have := x.nd_pos; omega
 | succ n ih =>
  intro x v hx ht
  cases v with
  | word w => simp [Vx.flat, Bs]
  | bytes b => simp only [Vx.flat, Bs, Vx.enc, List.length_append]; omega
  | row l =>
   simp only [Vx.Typ] at ht
   obtain ⟨t1, t2, t3⟩ := ht
   have := row_bs l (x.els l.length) (Sx.szl (x.els l.length)) (fun y hy v hv => ih y v (by have := Sx.nd_part (Sx.els_mem hy); omega) hv) t3
   rw [Vx.enc, Vx.flat, Bs, List.length_append, List.length_append]
   simp only [List.length_nil]
   omega
theorem lies_all {b e : List Int} (h : Lies b 0 e) (hl : e.length = b.length) : e = b := by
 have h1 := h.1
 rw [List.drop_zero, hl, List.take_length] at h1
 exact h1.symm
theorem aft0 {x : Sx} (ho : x.Ok) {v : Vx} (ht : v.Typ x) : aft x v 0 0 = (v.enc x).length := by
 unfold aft
 cases hdy : x.dyn with
 | true => simp
 | false => rw [if_neg (by simp), enc_static x.nd x v (Nat.le_refl _) ho ht hdy]; omega
theorem dec_all {s : Txt} {x : Sx} (hp : pz s = some x) (b : List Int) (hb : U8 b) (hl : b.length ≤ 1500) {u : Vx × Nat} (h : dec b 600 x 0 0 = some u) (hu : u.2 = b.length) : u.1.Typ x ∧ u.1.bad x = false ∧ u.1.enc x = b ∧ Fine u.1.flat ∧ u.1.flat.length ≤ b.length + 1 := by
 obtain ⟨g1, g2, g3⟩ := pz_got hp
 have hr := dec_good b hb 600 x 0 0 u g1 (pz_parts hp) (Or.inl (Nat.zero_le _)) (fun _ => Nat.le_refl _) h
 obtain ⟨r1, r2, r3, r4, r5⟩ := hr
 have hlen : (u.1.enc x).length = b.length := by
  rw [← hu]
  cases hdy : x.dyn with
  | true => rw [r5 hdy (Nat.le_refl _)]; omega
  | false => rw [r4 hdy, enc_static x.nd x u.1 (Nat.le_refl _) g1 r1 hdy]; omega
 have he := lies_all r3 hlen
 have hgn := dec_gn b hb hl 600 x 0 0 u g1 (by omega) h
 have hbs := enc_bs x.nd x u.1 (Nat.le_refl _) r1
 have hmany : u.1.flat.length ≤ b.length + 1 := by
  rcases pz_full hp with rfl | hf
  ·obtain ⟨v, d⟩ := u
   cases v with
   | word w => simp [Vx.Typ, Sx.kd] at r1
   | bytes s => simp [Vx.Typ, Sx.kd] at r1
   | row l =>
    simp only [Vx.Typ, Sx.okN] at r1
    have hl0 : l = [] := by
     have := r1.2.1
     simp at this; exact this
    subst hl0
    simp [Vx.flat, Vx.flatl]
  ·have hm := many x.nd x u.1 (Nat.le_refl _) g1 hf r1
   have h17 : (x.dp + 1) * (u.1.enc x).length ≤ 17 * (u.1.enc x).length := Nat.mul_le_mul_right _ (by omega)
   omega
 refine ⟨r1, r2, he, ⟨hgn, by omega, ?_⟩, hmany⟩
 rw [Wt_Bs]; omega
theorem decS (s : Txt) (hs : s.length ≤ 600) (b : List Int) (hb : U8 b) (hl : b.length ≤ 1500) (k : Nat) (hk : 40000 ≤ k) : fb0_.f k (bB s) b = some (decZ s b) := by
 unfold fb0_.f decZ
 rw [parseS s hs k (by omega), Option.bind_some]
 cases hp : pz s with
 | none => rfl
 | some x =>
  obtain ⟨g1, g2, g3⟩ := pz_got hp
  simp only
  unfold fb0_.j1 fb0_.j2
  rw [if_neg (by simp), Sx.unS]
  simp only
  by_cases k6 : x.kd = 6
  ·rw [if_neg (by simp [k6]), if_pos k6, if_neg (by simp; omega)]
   obtain ⟨g, e, f1, f2⟩ := guessS b hb hl 600 x g1 (pz_parts hp) (by omega) (by omega) (by omega) 0 k (by omega) (by omega)
   have e' : fc2_.f k x.S b 0 = some g := e
   rw [e', Option.bind_some]
   have hdb : (b.length + 1) * x.dp ≤ 1501 * 16 := Nat.mul_le_mul (by omega) g3
   have wide : ∀ v : Vx, Sl b.length v.flat → v.flat.length ≤ (b.length + 1) * x.dp + 1 → Wide v.flat := fun v h1 h2 => by
    refine ⟨h1.1, by omega, ?_⟩
    have : ∀ l : List Nd, (∀ a ∈ l, a.2.1.length ≤ b.length) → Bs l ≤ l.length * 1500 := fun l => by
     induction l with
     | nil => intro _; simp [Bs]
     | cons a l ih => intro h; have := ih fun y hy => h y (List.mem_cons_of_mem _ hy); have := h a List.mem_cons_self; rw [Bs, List.length_cons]; omega
    have := this _ h1.2
    rw [Wt_Bs]; omega
   have encv : ∀ v : Vx, v.Typ x → encZ s v.flat = if v.bad x = true then ([], 5) else if 1048576 < (v.enc x).length then ([], 4) else (v.enc x, 0) := fun v ht => by
    have hr := rv_flat 600 x v [] (by omega) ht
    rw [List.append_nil] at hr
    unfold encZ
    simp only [hp]
    rw [if_pos k6, hr]
    simp only
    rw [if_pos trivial]
   by_cases hok : ∃ u, dec b 600 x 0 0 = some u ∧ u.2 = b.length
   ·obtain ⟨u, hu1, hu2⟩ := hok
    obtain ⟨a1, a2, a3, a4, a5⟩ := dec_all hp b hb hl hu1 hu2
    have hg := f2 u.1 a1 a4.1 (by rw [a3]; exact ⟨by simp, by omega⟩) a5
    have hE := encv u.1 a1
    rw [a2, if_neg (by simp), if_neg (by rw [a3]; omega), a3] at hE
    rw [hu1, hg, if_neg (by simp), encS s hs u.1.flat a4.wide k hk, Option.bind_some, hE]
    simp only
    rw [if_neg (by simp), if_neg (by simp), if_pos hu2]
   ·refine Eq.trans (b := some ([], 2)) ?_ (Eq.symm ?_)
    rotate_left
    ·cases hd : dec b 600 x 0 0 with
     | none => rfl
     | some u =>
      simp only
      rw [if_neg (fun h => hok ⟨u, hd, h⟩)]
    cases hg : g.2 with
    | false => rw [if_pos (by simp)]
    | true =>
     rw [if_neg (by simp)]
     obtain ⟨v, v1, v2, v3, v4⟩ := f1 hg
     rw [v2, encS s hs v.flat (wide v v3 v4) k hk, Option.bind_some]
     have hE := encv v v1
     cases hb' : v.bad x with
     | true =>
      rw [hb', if_pos rfl] at hE
      rw [hE, if_pos (by simp), if_pos trivial]
     | false =>
      rw [hb', if_neg (by simp)] at hE
      by_cases c4 : 1048576 < (v.enc x).length
      ·rw [if_pos c4] at hE
       rw [hE, if_pos (by simp), if_pos trivial]
      ·rw [if_neg c4] at hE
       have hne : ((bstr (v.enc x)).toList == (bstr b).toList) = false := by
        rw [beq_eq_false_iff_ne]
        intro he
        have heq := bstr_inj (enc_u8 x.nd x v (Nat.le_refl _) v1 v3.1) hb he
        refine hok ⟨(v, aft x v 0 0), dec_of b (by omega) 600 x (by omega) g1 (pz_parts hp) v 0 0 v1 hb' v3.1 (by rw [heq]; exact ⟨by simp, by omega⟩) (fun _ => Nat.le_refl _) (by omega), ?_⟩
        rw [aft0 g1 v1, heq]
       rw [hE]
       simp only
       rw [hne, if_neg (by simp), if_pos (by simp)]
  ·rw [if_pos (by simp; omega), if_neg k6]
theorem fa3_true (a0 : ByteArray) (a1 : List Int) (w0 : a0.size ≤ maxLen) (w1 : Gd26 a1) : ∃ k : Nat, fa3_.f k a0 a1 = some true := by
 refine ⟨60000, ?_⟩
 rw [bB_of a0]
 generalize a0.data.toList = s
 have hu : U8 a1 := fun x hx => inK_u8 (w1.1 x hx)
 unfold fa3_.f fa3_.j1
 simp only [bB_size]
 by_cases h : 600 < s.length
 ·rw [if_pos (by simp; omega), if_pos trivial, fixed_true]; rfl
 rw [if_neg (by simp; omega)]
 by_cases h2 : 1500 < a1.length
 ·rw [if_pos (by simp; omega), fixed_true]; rfl
 rw [if_neg (by simp; omega), if_pos (by simp; omega)]
 rw [List.nil_append, decP s (by omega) a1 hu (by omega) 60000 (by omega), decS s (by omega) a1 hu (by omega) 60000 (by omega), fixed_true]
 simp only [Option.bind_some]
 rw [if_neg (by simp)]
 have hlen : (decZ s a1).1.length ≤ 2100 ∧ ((decZ s a1).2 = 0 → Fine (decZ s a1).1 ∧ encZ s (decZ s a1).1 = (a1, 0)) := by
  unfold decZ
  cases hp : pz s with
  | none => exact ⟨by simp, fun h => by simp at h⟩
  | some x =>
   simp only
   by_cases k6 : x.kd = 6
   ·rw [if_pos k6]
    cases hd : dec a1 600 x 0 0 with
    | none => exact ⟨by simp, fun h => by simp at h⟩
    | some u =>
     simp only
     by_cases hul : u.2 = a1.length
     ·rw [if_pos hul]
      obtain ⟨b1, b2, b3, b4, b5⟩ := dec_all hp a1 hu (by omega) hd hul
      refine ⟨b4.2.1, fun _ => ⟨b4, ?_⟩⟩
      obtain ⟨g1, g2, g3⟩ := pz_got hp
      have hr := rv_flat 600 x u.1 [] (by omega) b1
      rw [List.append_nil] at hr
      unfold encZ
      simp only [hp]
      rw [if_pos k6, hr]
      simp only
      rw [if_pos trivial, b2, if_neg (by simp), if_neg (by rw [b3]; omega), b3]
     ·rw [if_neg hul]; exact ⟨by simp, fun h => by simp at h⟩
   ·rw [if_neg k6]; exact ⟨by simp, fun h => by simp at h⟩
 rw [same_eq _ 60000 (by omega) (by omega), Option.bind_some, if_neg (by simp)]
 have hne : ((decZ s a1).2 != (decZ s a1).2) = false := by simp
 have hbe : (!((bstr a1).toList == (bstr a1).toList)) = false := by simp
 rw [hne, if_neg (by simp), hbe]
 unfold fa3_.j2
 rw [if_neg (by simp)]
 by_cases h0 : (decZ s a1).2 = 0
 ·obtain ⟨f1, f2⟩ := hlen.2 h0
  rw [if_neg (by simp [h0]), encP s (by omega) _ f1 60000 (by omega), Option.bind_some, f2, if_pos (by simp)]
  simp
 ·rw [if_pos (by simp [h0])]
end GW
