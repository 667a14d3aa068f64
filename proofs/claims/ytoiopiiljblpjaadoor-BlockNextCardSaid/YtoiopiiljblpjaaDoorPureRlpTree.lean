import Derived.Test.YtoiopiiljblpjaaDoorPureNumber
set_option linter.unusedVariables false
set_option linter.unusedSimpArgs false
namespace GW
open Go Go.RowKit
abbrev Nd := Bool × List Int × Int
inductive Fst where
  | nil : Fst
  | leaf (b : List Int) (f : Fst) : Fst
  | node (c : Fst) (f : Fst) : Fst
namespace Fst
def flat : Fst → List Nd
  | nil => []
  | leaf b f => (false, b, 0) :: flat f
  | node c f => (true, [], ((flat c).length : Int)) :: (flat c ++ flat f)
def dep : Fst → Nat
  | nil => 0
  | leaf _ f => dep f
  | node c f => max (1 + dep c) (dep f)
def app : Fst → Fst → Fst
  | nil, g => g
  | leaf b f, g => leaf b (app f g)
  | node c f, g => node c (app f g)
theorem flat_app (f g : Fst) : (f.app g).flat = f.flat ++ g.flat := by
  induction f with
  | nil => rfl
  | leaf b f ih => simp [app, flat, ih]
  | node c f _ ih => simp [app, flat, ih]
def One : Fst → Prop
  | leaf _ nil => True
  | node _ nil => True
  | _ => False
end Fst
def beb (n : Nat) : List Int := if n < 256 then [(n : Int)] else if n < 65536 then [((n / 256 : Nat) : Int), ((n % 256 : Nat) : Int)] else [((n / 65536 : Nat) : Int), ((n / 256 % 256 : Nat) : Int), ((n % 256 : Nat) : Int)]
def hd (n o : Nat) : List Int := if n ≤ 55 then [((128 + o + n : Nat) : Int)] else ((183 + o + (beb n).length : Nat) : Int) :: beb n
def encL (b : List Int) : List Int := if b.length = 1 ∧ rd b 0 < 128 then b else hd b.length 0 ++ b
namespace Fst
def enc : Fst → List Int
  | nil => []
  | leaf b f => encL b ++ enc f
  | node c f => hd (enc c).length 64 ++ enc c ++ enc f
theorem enc_app (f g : Fst) : (f.app g).enc = f.enc ++ g.enc := by
  induction f with
  | nil => rfl
  | leaf b f ih => simp [app, enc, ih]
  | node c f _ ih => simp [app, enc, ih]
theorem dep_app (f g : Fst) : (f.app g).dep = max f.dep g.dep := by
  induction f with
  | nil => simp [app, dep]
  | leaf b f ih => simp [app, dep, ih]
  | node c f _ ih => simp [app, dep, ih]
end Fst
def Fst.Fit : Fst → Prop
  | .nil => True
  | .leaf b f => b.length < 16777216 ∧ f.Fit
  | .node c f => c.Fit ∧ f.Fit
theorem beb_len (n : Nat) : 1 ≤ (beb n).length ∧ (beb n).length ≤ 3 := by
  unfold beb
  by_cases h1 : n < 256
  · simp [h1]
  · by_cases h2 : n < 65536 <;> simp [h1, h2]
theorem hd_len (n o : Nat) : 1 ≤ (hd n o).length ∧ (hd n o).length ≤ 4 := by
  unfold hd
  have := beb_len n
  by_cases h : n ≤ 55
  · simp [h]
  · simp [h]; omega
theorem small_bytes (n : Nat) (hn : n < 16777216) (m : Nat) (hm : m ≤ 32) (h55 : 55 < n) (hz : ∀ i : Nat, i < 32 - m → rd (wbytes [(n : Int), 0, 0, 0]) (i : Int) = 0) (hnz : m ≠ 0 → rd (wbytes [(n : Int), 0, 0, 0]) ((32 - m : Nat) : Int) ≠ 0) : (wbytes [(n : Int), 0, 0, 0]).drop (32 - m) = beb n := by
  have r : ∀ t : Nat, t < 32 → rd (wbytes [(n : Int), 0, 0, 0]) ((31 - t : Nat) : Int) = ((n / 256 ^ t % 256 : Nat) : Int) := fun t ht => by
    have := wbytes_rd n 0 0 0 (by omega) (by omega) (by omega) (by omega) t ht
    have e : num4 n 0 0 0 = n := by unfold num4; omega
    rw [e] at this
    exact this
  have z : ∀ t : Nat, 3 ≤ t → n / 256 ^ t % 256 = 0 := fun t ht => by
    rw [Nat.div_eq_of_lt (Nat.lt_of_lt_of_le hn ?_)]
    exact Nat.le_trans (by decide : 16777216 ≤ 256 ^ 3) (Nat.pow_le_pow_right (by omega) ht)
  have m0 : m ≠ 0 := by
    intro h; subst h
    have := hz 31 (by omega)
    have := hz 30 (by omega)
    have := hz 29 (by omega)
    have r0 := r 0 (by omega)
    have r1 := r 1 (by omega)
    have r2 := r 2 (by omega)
    simp only [show 31 - 0 = 31 by omega, show 31 - 1 = 30 by omega, show 31 - 2 = 29 by omega] at r0 r1 r2
    omega
  have hnz := hnz m0
  have rm := r (m - 1) (by omega)
  rw [show 31 - (m - 1) = 32 - m by omega] at rm
  have m3 : m ≤ 3 := by
    refine Decidable.byContradiction fun h => ?_
    rw [rm, z (m - 1) (by omega)] at hnz
    exact hnz rfl
  have d29 : (wbytes [(n : Int), 0, 0, 0]).drop 29 = [wr .u8 (shr (n : Int) 16), wr .u8 (shr (n : Int) 8), wr .u8 (shr (n : Int) 0)] := rfl
  have e16 : wr .u8 (shr (n : Int) 16) = ((n / 65536 : Nat) : Int) := by
    rw [shr_u8]
    show ((n / 65536 % 256 : Nat) : Int) = _
    exact congrArg (fun n : Nat => (n : Int)) (by omega)
  have e8 : wr .u8 (shr (n : Int) 8) = ((n / 256 % 256 : Nat) : Int) := shr_u8 n 8
  have e0 : wr .u8 (shr (n : Int) 0) = ((n % 256 : Nat) : Int) := by
    rw [shr_u8]
    show ((n / 1 % 256 : Nat) : Int) = _
    rw [Nat.div_one]
  rw [e16, e8, e0] at d29
  have dd : (wbytes [(n : Int), 0, 0, 0]).drop (32 - m) = ([((n / 65536 : Nat) : Int), ((n / 256 % 256 : Nat) : Int), ((n % 256 : Nat) : Int)] : List Int).drop (3 - m) := by
    rw [← d29, List.drop_drop]
    exact congrArg (fun q => (wbytes [(n : Int), 0, 0, 0]).drop q) (by omega)
  rw [dd]
  have q0 := r 0 (by omega)
  have q1 := r 1 (by omega)
  have q2 := r 2 (by omega)
  simp only [show 31 - 0 = 31 by omega, show 31 - 1 = 30 by omega, show 31 - 2 = 29 by omega, Nat.pow_zero, Nat.div_one, Nat.pow_one, show 256 ^ 2 = 65536 by decide] at q0 q1 q2
  unfold beb
  match m, m0, m3 with
  | 1, _, _ =>
    have h1 := hz 30 (by omega)
    have h2 := hz 29 (by omega)
    have : n < 256 := by omega
    rw [if_pos this]
    show [((n % 256 : Nat) : Int)] = _
    rw [Nat.mod_eq_of_lt this]
  | 2, _, _ =>
    have h2 := hz 29 (by omega)
    have h3 : rd (wbytes [(n : Int), 0, 0, 0]) ((30 : Nat) : Int) ≠ 0 := hnz
    have c1 : ¬ n < 256 := by omega
    have c2 : n < 65536 := by omega
    rw [if_neg c1, if_pos c2]
    show [((n / 256 % 256 : Nat) : Int), ((n % 256 : Nat) : Int)] = _
    rw [Nat.mod_eq_of_lt (a := n / 256) (by omega)]
  | 3, _, _ =>
    have h3 : rd (wbytes [(n : Int), 0, 0, 0]) ((29 : Nat) : Int) ≠ 0 := hnz
    have c1 : ¬ n < 256 := by omega
    have c2 : ¬ n < 65536 := by omega
    rw [if_neg c1, if_neg c2]
    rfl
theorem inK_nat (n : Nat) (h : n < 18446744073709551616) : inK .u64 (n : Int) := by
  have : inK .u64 (n : Int) ↔ ((0 : Int) ≤ n ∧ (n : Int) ≤ 18446744073709551615) := by simp [inK, Lit.wf, IntKind.min, IntKind.max, IntKind.signed, IntKind.bits]
  rw [this]; omega
theorem num_small (n : Nat) (hn : n < 16777216) (h55 : 55 < n) (k : Nat) : rlp_Number.f (k + 40) [(n : Int), 0, 0, 0] = some (beb n) ∧ smithyref07_Number.f (k + 40) [(n : Int), 0, 0, 0] = some (beb n) := by
  have hx : ∀ y ∈ [(n : Int), 0, 0, 0], inK .u64 y := by
    intro y hy
    simp only [List.mem_cons, List.not_mem_nil, or_false] at hy
    rcases hy with rfl | rfl | rfl | rfl
    · exact inK_nat n (by omega)
    all_goals exact inK_nat 0 (by omega)
  have hl : ([(n : Int), 0, 0, 0] : List Int).length = 4 := rfl
  obtain ⟨m, m1, e, hnz, hz⟩ := number_eq hl hx
  rw [small_bytes n hn m m1 h55 hz hnz] at e
  exact e k
theorem head_eq (n o : Nat) (hn : n < 16777216) (ho : o = 0 ∨ o = 64) (k : Nat) : rlp_head.f (k + 40) (n : Int) (o : Int) = some (hd n o) := by
  have hb := beb_len n
  by_cases h : n ≤ 55
  · unfold rlp_head.f hd
    rw [if_pos (by simpa using by omega), if_pos h]
    rcases ho with rfl | rfl <;> (simp only [wr_u8]; refine congrArg (fun x => some [x]) ?_; omega)
  · obtain ⟨n1, n2⟩ := num_small n hn (by omega) k
    unfold rlp_head.f hd word_Of.f
    rw [if_neg (by simpa using by omega), if_neg h, Option.bind_some, wr_u64_id (by omega) (by omega), n1, Option.bind_some, if_pos (by simp; omega)]
    rcases ho with rfl | rfl <;> (simp only [wr_u8, List.singleton_append]; refine congrArg (fun x => some (x :: beb n)) ?_; omega)
end GW
