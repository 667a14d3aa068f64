import Derived.Test.YtoiopiiljblpjaaDoorPureBytes
set_option linter.unusedVariables false
set_option linter.unusedSimpArgs false
namespace GW
open Go Go.RowKit
def LenIs (v n : Nat) : Prop := v < 2 ^ n ∧ (n = 0 ∨ 2 ^ (n - 1) ≤ v)
theorem LenIs.zero : LenIs 0 0 := ⟨by simp, Or.inl rfl⟩
theorem LenIs.up {v n k : Nat} (r : Nat) (hr : r < 2 ^ k) (hv : 0 < v) (h : LenIs v n) : LenIs (v * 2 ^ k + r) (n + k) := by
  have hn : n ≠ 0 := by
    intro h0; subst h0; have := h.1; simp at this; omega
  refine ⟨?_, Or.inr ?_⟩
  · have : v + 1 ≤ 2 ^ n := h.1
    have h2 := Nat.mul_le_mul_right (2 ^ k) this
    rw [← Nat.pow_add] at h2
    rw [Nat.add_mul, Nat.one_mul] at h2
    omega
  · rcases h.2 with h0 | h1
    · exact absurd h0 hn
    · have h2 := Nat.mul_le_mul_right (2 ^ k) h1
      rw [← Nat.pow_add] at h2
      have : n + k - 1 = n - 1 + k := by omega
      rw [this]
      omega
theorem shr_nat (v k : Nat) : shr (v : Int) k = ((v / 2 ^ k : Nat) : Int) := by
  unfold shr
  rw [Int.fdiv_eq_ediv_of_nonneg _ (by exact Int.le_of_lt (Int.pow_pos (by omega)))]
  simp
theorem table_len : ∀ i : Nat, i < 256 → ∃ n : Nat, bt txt0 (i : Int) = (n : Int) ∧ n ≤ 8 ∧ LenIs i n := by
  have h : (List.range 256).all (fun i => (bt txt0 (i : Int) == ((bt txt0 (i : Int)).toNat : Int)) && decide ((bt txt0 (i : Int)).toNat ≤ 8) && decide (i < 2 ^ (bt txt0 (i : Int)).toNat) && (((bt txt0 (i : Int)).toNat == 0) || decide (2 ^ ((bt txt0 (i : Int)).toNat - 1) ≤ i))) = true := by kernel_rfl
  intro i hi
  have := List.all_eq_true.mp h i (List.mem_range.mpr hi)
  simp only [Bool.and_eq_true, beq_iff_eq, decide_eq_true_eq, Bool.or_eq_true] at this
  exact ⟨_, this.1.1.1, this.1.1.2, this.1.2, this.2⟩
theorem len_j3 (y v : Nat) (hy : y ≤ 56) (hv : v < 256) : ∃ n : Nat, n ≤ 8 ∧ LenIs v n ∧ bits_Len64.j3 (y : Int) (v : Int) = some ((y + n : Nat) : Int) := by
  obtain ⟨n, e, hn, h⟩ := table_len v hv
  refine ⟨n, hn, h, ?_⟩
  unfold bits_Len64.j3
  have e1 : wr .u8 (v : Int) = (v : Int) := wr_u8_id (by omega) (by omega)
  have hs : (txt0.size : Int) = 256 := by kernel_rfl
  rw [e1, if_pos ⟨by omega, by omega⟩, e, wr_i64_id (x := (n : Int)) (by omega) (by omega), wr_i64_id (by omega) (by omega)]
  rfl
theorem len_up {v n y : Nat} (k : Nat) (hv : 2 ^ k ≤ v) (h : LenIs (v / 2 ^ k) n) : LenIs v (n + k) := by
  have h0 : 0 < v / 2 ^ k := Nat.div_pos hv (Nat.two_pow_pos k)
  have := LenIs.up (v % 2 ^ k) (Nat.mod_lt _ (Nat.two_pow_pos k)) h0 h
  rwa [Nat.mul_comm, Nat.div_add_mod] at this
theorem len_j2 (y v : Nat) (hy : y ≤ 48) (hv : v < 65536) : ∃ n : Nat, n ≤ 16 ∧ LenIs v n ∧ bits_Len64.j2 (y : Int) (v : Int) = some ((y + n : Nat) : Int) := by
  unfold bits_Len64.j2
  by_cases h : 256 ≤ v
  · have e1 : wr .i64 ((y : Int) + 8) = ((y + 8 : Nat) : Int) := by rw [wr_i64_id (by omega) (by omega)]; omega
    obtain ⟨n, hn, hl, e⟩ := len_j3 (y + 8) (v / 2 ^ 8) (by omega) (by omega)
    refine ⟨n + 8, by omega, len_up (y := 0) 8 (by omega) hl, ?_⟩
    rw [if_pos (by simp; omega), e1, shr_nat, e]
    exact congrArg some (by omega)
  · obtain ⟨n, hn, hl, e⟩ := len_j3 y v (by omega) (by omega)
    refine ⟨n, by omega, hl, ?_⟩
    rw [if_neg (by simp; omega), e]
theorem len_j1 (y v : Nat) (hy : y ≤ 32) (hv : v < 4294967296) : ∃ n : Nat, n ≤ 32 ∧ LenIs v n ∧ bits_Len64.j1 (y : Int) (v : Int) = some ((y + n : Nat) : Int) := by
  unfold bits_Len64.j1
  by_cases h : 65536 ≤ v
  · have e1 : wr .i64 ((y : Int) + 16) = ((y + 16 : Nat) : Int) := by rw [wr_i64_id (by omega) (by omega)]; omega
    obtain ⟨n, hn, hl, e⟩ := len_j2 (y + 16) (v / 2 ^ 16) (by omega) (by omega)
    refine ⟨n + 16, by omega, len_up (y := 0) 16 (by omega) hl, ?_⟩
    rw [if_pos (by simp; omega), e1, shr_nat, e]
    exact congrArg some (by omega)
  · obtain ⟨n, hn, hl, e⟩ := len_j2 y v (by omega) (by omega)
    refine ⟨n, by omega, hl, ?_⟩
    rw [if_neg (by simp; omega), e]
theorem len64_eq (v : Nat) (hv : v < 18446744073709551616) : ∃ n : Nat, n ≤ 64 ∧ LenIs v n ∧ bits_Len64.f (v : Int) = some (n : Int) := by
  unfold bits_Len64.f
  by_cases h : 4294967296 ≤ v
  · obtain ⟨n, hn, hl, e⟩ := len_j1 32 (v / 2 ^ 32) (by omega) (by omega)
    refine ⟨n + 32, by omega, len_up (y := 0) 32 (by omega) hl, ?_⟩
    rw [if_pos (by simp; omega), shr_nat]
    refine Eq.trans e ?_
    exact congrArg some (by omega)
  · obtain ⟨n, hn, hl, e⟩ := len_j1 0 v (by omega) (by omega)
    refine ⟨n, by omega, hl, ?_⟩
    rw [if_neg (by simp; omega)]
    refine Eq.trans e ?_
    exact congrArg some (by omega)
theorem z0_ : (((0 : Nat) : Int) != 0) = false := rfl
def num4 (a b c d : Nat) : Nat := a + 18446744073709551616 * b + 18446744073709551616 * 18446744073709551616 * c + 18446744073709551616 * 18446744073709551616 * 18446744073709551616 * d
theorem wordLen_eq (a b c d : Nat) (ha : a < 18446744073709551616) (hb : b < 18446744073709551616) (hc : c < 18446744073709551616) (hd : d < 18446744073709551616) (k : Nat) :
    ∃ n : Nat, n ≤ 256 ∧ LenIs (num4 a b c d) n ∧ word_Len.f (k + 5) [(a : Int), b, c, d] = some (n : Int) := by
  obtain ⟨na, la, La, ea⟩ := len64_eq a ha
  obtain ⟨nb, lb, Lb, eb⟩ := len64_eq b hb
  obtain ⟨nc, lc, Lc, ec⟩ := len64_eq c hc
  obtain ⟨nd, ld, Ld, ed⟩ := len64_eq d hd
  have st : word_Len.f (k + 5) [(a : Int), b, c, d] = if ((d : Int) != 0) = true then (bits_Len64.f d).bind (fun t => some (wr .i64 (192 + t))) else if ((c : Int) != 0) = true then (bits_Len64.f c).bind (fun t => some (wr .i64 (128 + t))) else if ((b : Int) != 0) = true then (bits_Len64.f b).bind (fun t => some (wr .i64 (64 + t))) else if ((a : Int) != 0) = true then (bits_Len64.f a).bind (fun t => some (wr .i64 (0 + t))) else some 0 := by rfl
  rw [st, ea, eb, ec, ed]
  simp only [Option.bind_some]
  by_cases h3 : d = 0
  · subst h3
    by_cases h2 : c = 0
    · subst h2
      by_cases h1 : b = 0
      · subst h1
        by_cases h0 : a = 0
        · subst h0
          exact ⟨0, by omega, LenIs.zero, by simp⟩
        · refine ⟨na, by omega, by simpa [num4] using La, ?_⟩
          have : ((a : Int) != 0) = true := by simp; omega
          simp only [z0_, Bool.false_eq_true, if_false, this, if_true]
          rw [wr_i64_id (by omega) (by omega)]
          exact congrArg some (by omega)
      · refine ⟨nb + 64, by omega, ?_, ?_⟩
        · have := Lb.up (k := 64) a (by omega) (by omega)
          have e : num4 a b 0 0 = b * 2 ^ 64 + a := by unfold num4; omega
          rw [e]; exact this
        · have : ((b : Int) != 0) = true := by simp; omega
          simp only [z0_, Bool.false_eq_true, if_false, this, if_true]
          rw [wr_i64_id (by omega) (by omega)]
          exact congrArg some (by omega)
    · refine ⟨nc + 128, by omega, ?_, ?_⟩
      · have := Lc.up (k := 128) (a + 18446744073709551616 * b) (by omega) (by omega)
        have e : num4 a b c 0 = c * 2 ^ 128 + (a + 18446744073709551616 * b) := by unfold num4; omega
        rw [e]; exact this
      · have : ((c : Int) != 0) = true := by simp; omega
        simp only [z0_, Bool.false_eq_true, if_false, this, if_true]
        rw [wr_i64_id (by omega) (by omega)]
        exact congrArg some (by omega)
  · refine ⟨nd + 192, by omega, ?_, ?_⟩
    · have := Ld.up (k := 192) (a + 18446744073709551616 * b + 18446744073709551616 * 18446744073709551616 * c) (by omega) (by omega)
      have e : num4 a b c d = d * 2 ^ 192 + (a + 18446744073709551616 * b + 18446744073709551616 * 18446744073709551616 * c) := by unfold num4; omega
      rw [e]; exact this
    · have : ((d : Int) != 0) = true := by simp; omega
      simp only [z0_, Bool.false_eq_true, if_false, this, if_true]
      rw [wr_i64_id (by omega) (by omega)]
      exact congrArg some (by omega)
theorem shr_u8 (v m : Nat) : wr .u8 (shr (v : Int) m) = ((v / 2 ^ m % 256 : Nat) : Int) := by
  rw [shr_nat, wr_u8]
  omega
theorem wbytes_rd (v0 v1 v2 v3 : Nat) (h0 : v0 < 18446744073709551616) (h1 : v1 < 18446744073709551616) (h2 : v2 < 18446744073709551616) (h3 : v3 < 18446744073709551616) (t : Nat) (ht : t < 32) : rd (wbytes [(v0 : Int), v1, v2, v3]) ((31 - t : Nat) : Int) = ((num4 v0 v1 v2 v3 / 256 ^ t % 256 : Nat) : Int) := by
  match t, ht with
  | 0, _ =>
    show wr .u8 (shr (v0 : Int) 0) = _
    rw [shr_u8]
    refine congrArg (fun n : Nat => (n : Int)) ?_
    unfold num4
    show v0 / 1 % 256 = (_ / 1) % 256
    omega
  | 1, _ =>
    show wr .u8 (shr (v0 : Int) 8) = _
    rw [shr_u8]
    refine congrArg (fun n : Nat => (n : Int)) ?_
    unfold num4
    show v0 / 256 % 256 = (_ / 256) % 256
    omega
  | 2, _ =>
    show wr .u8 (shr (v0 : Int) 16) = _
    rw [shr_u8]
    refine congrArg (fun n : Nat => (n : Int)) ?_
    unfold num4
    show v0 / 65536 % 256 = (_ / 65536) % 256
    omega
  | 3, _ =>
    show wr .u8 (shr (v0 : Int) 24) = _
    rw [shr_u8]
    refine congrArg (fun n : Nat => (n : Int)) ?_
    unfold num4
    show v0 / 16777216 % 256 = (_ / 16777216) % 256
    omega
  | 4, _ =>
    show wr .u8 (shr (v0 : Int) 32) = _
    rw [shr_u8]
    refine congrArg (fun n : Nat => (n : Int)) ?_
    unfold num4
    show v0 / 4294967296 % 256 = (_ / 4294967296) % 256
    omega
  | 5, _ =>
    show wr .u8 (shr (v0 : Int) 40) = _
    rw [shr_u8]
    refine congrArg (fun n : Nat => (n : Int)) ?_
    unfold num4
    show v0 / 1099511627776 % 256 = (_ / 1099511627776) % 256
    omega
  | 6, _ =>
    show wr .u8 (shr (v0 : Int) 48) = _
    rw [shr_u8]
    refine congrArg (fun n : Nat => (n : Int)) ?_
    unfold num4
    show v0 / 281474976710656 % 256 = (_ / 281474976710656) % 256
    omega
  | 7, _ =>
    show wr .u8 (shr (v0 : Int) 56) = _
    rw [shr_u8]
    refine congrArg (fun n : Nat => (n : Int)) ?_
    unfold num4
    show v0 / 72057594037927936 % 256 = (_ / 72057594037927936) % 256
    omega
  | 8, _ =>
    show wr .u8 (shr (v1 : Int) 0) = _
    rw [shr_u8]
    refine congrArg (fun n : Nat => (n : Int)) ?_
    unfold num4
    show v1 / 1 % 256 = (_ / 18446744073709551616) % 256
    omega
  | 9, _ =>
    show wr .u8 (shr (v1 : Int) 8) = _
    rw [shr_u8]
    refine congrArg (fun n : Nat => (n : Int)) ?_
    unfold num4
    show v1 / 256 % 256 = (_ / 4722366482869645213696) % 256
    omega
  | 10, _ =>
    show wr .u8 (shr (v1 : Int) 16) = _
    rw [shr_u8]
    refine congrArg (fun n : Nat => (n : Int)) ?_
    unfold num4
    show v1 / 65536 % 256 = (_ / 1208925819614629174706176) % 256
    omega
  | 11, _ =>
    show wr .u8 (shr (v1 : Int) 24) = _
    rw [shr_u8]
    refine congrArg (fun n : Nat => (n : Int)) ?_
    unfold num4
    show v1 / 16777216 % 256 = (_ / 309485009821345068724781056) % 256
    omega
  | 12, _ =>
    show wr .u8 (shr (v1 : Int) 32) = _
    rw [shr_u8]
    refine congrArg (fun n : Nat => (n : Int)) ?_
    unfold num4
    show v1 / 4294967296 % 256 = (_ / 79228162514264337593543950336) % 256
    omega
  | 13, _ =>
    show wr .u8 (shr (v1 : Int) 40) = _
    rw [shr_u8]
    refine congrArg (fun n : Nat => (n : Int)) ?_
    unfold num4
    show v1 / 1099511627776 % 256 = (_ / 20282409603651670423947251286016) % 256
    omega
  | 14, _ =>
    show wr .u8 (shr (v1 : Int) 48) = _
    rw [shr_u8]
    refine congrArg (fun n : Nat => (n : Int)) ?_
    unfold num4
    show v1 / 281474976710656 % 256 = (_ / 5192296858534827628530496329220096) % 256
    omega
  | 15, _ =>
    show wr .u8 (shr (v1 : Int) 56) = _
    rw [shr_u8]
    refine congrArg (fun n : Nat => (n : Int)) ?_
    unfold num4
    show v1 / 72057594037927936 % 256 = (_ / 1329227995784915872903807060280344576) % 256
    omega
  | 16, _ =>
    show wr .u8 (shr (v2 : Int) 0) = _
    rw [shr_u8]
    refine congrArg (fun n : Nat => (n : Int)) ?_
    unfold num4
    show v2 / 1 % 256 = (_ / 340282366920938463463374607431768211456) % 256
    omega
  | 17, _ =>
    show wr .u8 (shr (v2 : Int) 8) = _
    rw [shr_u8]
    refine congrArg (fun n : Nat => (n : Int)) ?_
    unfold num4
    show v2 / 256 % 256 = (_ / 87112285931760246646623899502532662132736) % 256
    omega
  | 18, _ =>
    show wr .u8 (shr (v2 : Int) 16) = _
    rw [shr_u8]
    refine congrArg (fun n : Nat => (n : Int)) ?_
    unfold num4
    show v2 / 65536 % 256 = (_ / 22300745198530623141535718272648361505980416) % 256
    omega
  | 19, _ =>
    show wr .u8 (shr (v2 : Int) 24) = _
    rw [shr_u8]
    refine congrArg (fun n : Nat => (n : Int)) ?_
    unfold num4
    show v2 / 16777216 % 256 = (_ / 5708990770823839524233143877797980545530986496) % 256
    omega
  | 20, _ =>
    show wr .u8 (shr (v2 : Int) 32) = _
    rw [shr_u8]
    refine congrArg (fun n : Nat => (n : Int)) ?_
    unfold num4
    show v2 / 4294967296 % 256 = (_ / 1461501637330902918203684832716283019655932542976) % 256
    omega
  | 21, _ =>
    show wr .u8 (shr (v2 : Int) 40) = _
    rw [shr_u8]
    refine congrArg (fun n : Nat => (n : Int)) ?_
    unfold num4
    show v2 / 1099511627776 % 256 = (_ / 374144419156711147060143317175368453031918731001856) % 256
    omega
  | 22, _ =>
    show wr .u8 (shr (v2 : Int) 48) = _
    rw [shr_u8]
    refine congrArg (fun n : Nat => (n : Int)) ?_
    unfold num4
    show v2 / 281474976710656 % 256 = (_ / 95780971304118053647396689196894323976171195136475136) % 256
    omega
  | 23, _ =>
    show wr .u8 (shr (v2 : Int) 56) = _
    rw [shr_u8]
    refine congrArg (fun n : Nat => (n : Int)) ?_
    unfold num4
    show v2 / 72057594037927936 % 256 = (_ / 24519928653854221733733552434404946937899825954937634816) % 256
    omega
  | 24, _ =>
    show wr .u8 (shr (v3 : Int) 0) = _
    rw [shr_u8]
    refine congrArg (fun n : Nat => (n : Int)) ?_
    unfold num4
    show v3 / 1 % 256 = (_ / 6277101735386680763835789423207666416102355444464034512896) % 256
    omega
  | 25, _ =>
    show wr .u8 (shr (v3 : Int) 8) = _
    rw [shr_u8]
    refine congrArg (fun n : Nat => (n : Int)) ?_
    unfold num4
    show v3 / 256 % 256 = (_ / 1606938044258990275541962092341162602522202993782792835301376) % 256
    omega
  | 26, _ =>
    show wr .u8 (shr (v3 : Int) 16) = _
    rw [shr_u8]
    refine congrArg (fun n : Nat => (n : Int)) ?_
    unfold num4
    show v3 / 65536 % 256 = (_ / 411376139330301510538742295639337626245683966408394965837152256) % 256
    omega
  | 27, _ =>
    show wr .u8 (shr (v3 : Int) 24) = _
    rw [shr_u8]
    refine congrArg (fun n : Nat => (n : Int)) ?_
    unfold num4
    show v3 / 16777216 % 256 = (_ / 105312291668557186697918027683670432318895095400549111254310977536) % 256
    omega
  | 28, _ =>
    show wr .u8 (shr (v3 : Int) 32) = _
    rw [shr_u8]
    refine congrArg (fun n : Nat => (n : Int)) ?_
    unfold num4
    show v3 / 4294967296 % 256 = (_ / 26959946667150639794667015087019630673637144422540572481103610249216) % 256
    omega
  | 29, _ =>
    show wr .u8 (shr (v3 : Int) 40) = _
    rw [shr_u8]
    refine congrArg (fun n : Nat => (n : Int)) ?_
    unfold num4
    show v3 / 1099511627776 % 256 = (_ / 6901746346790563787434755862277025452451108972170386555162524223799296) % 256
    omega
  | 30, _ =>
    show wr .u8 (shr (v3 : Int) 48) = _
    rw [shr_u8]
    refine congrArg (fun n : Nat => (n : Int)) ?_
    unfold num4
    show v3 / 281474976710656 % 256 = (_ / 1766847064778384329583297500742918515827483896875618958121606201292619776) % 256
    omega
  | 31, _ =>
    show wr .u8 (shr (v3 : Int) 56) = _
    rw [shr_u8]
    refine congrArg (fun n : Nat => (n : Int)) ?_
    unfold num4
    show v3 / 72057594037927936 % 256 = (_ / 452312848583266388373324160190187140051835877600158453279131187530910662656) % 256
    omega
  | n + 32, h => exact absurd h (by omega)
theorem size_eq (a b c d : Nat) (ha : a < 18446744073709551616) (hb : b < 18446744073709551616) (hc : c < 18446744073709551616) (hd : d < 18446744073709551616) (k : Nat) :
    ∃ n : Nat, n ≤ 32 ∧ num4 a b c d < 256 ^ n ∧ (n = 0 ∨ 256 ^ (n - 1) ≤ num4 a b c d) ∧ word_Size.f (k + 5) [(a : Int), b, c, d] = some (n : Int) := by
  obtain ⟨len, hl, ⟨h1, h2⟩, e⟩ := wordLen_eq a b c d ha hb hc hd k
  have p8 : ∀ m : Nat, 256 ^ m = 2 ^ (8 * m) := fun m => by rw [Nat.pow_mul]
  refine ⟨(len + 7) / 8, by omega, ?_, ?_, ?_⟩
  · rw [p8]
    exact Nat.lt_of_lt_of_le h1 (Nat.pow_le_pow_right (by omega) (by omega))
  · rcases h2 with h2 | h2
    · left; omega
    · by_cases hz : len = 0
      · left; omega
      · right
        rw [p8]
        exact Nat.le_trans (Nat.pow_le_pow_right (by omega) (by omega)) h2
  · unfold word_Size.f
    rw [e, Option.bind_some, wr_i64_id (x := (len : Int) + 7) (by omega) (by omega), tdiv_pos (by omega), wr_i64_id (by omega) (by omega)]
    exact congrArg some (by omega)
theorem size_of {a : List Int} (h : a.length = 4) (hx : ∀ y ∈ a, inK .u64 y) (k : Nat) : ∃ n : Nat, n ≤ 32 ∧ word_Size.f (k + 5) a = some (n : Int) ∧ (∀ i : Nat, i < 32 - n → rd (wbytes a) (i : Int) = 0) ∧ (n ≠ 0 → rd (wbytes a) ((32 - n : Nat) : Int) ≠ 0) := by
  match a, h with
  | [p, q, r, s], _ =>
    have g0 := inK_u64 (hx p (by simp))
    have g1 := inK_u64 (hx q (by simp))
    have g2 := inK_u64 (hx r (by simp))
    have g3 := inK_u64 (hx s (by simp))
    obtain ⟨p, rfl⟩ := Int.eq_ofNat_of_zero_le g0.1
    obtain ⟨q, rfl⟩ := Int.eq_ofNat_of_zero_le g1.1
    obtain ⟨r, rfl⟩ := Int.eq_ofNat_of_zero_le g2.1
    obtain ⟨s, rfl⟩ := Int.eq_ofNat_of_zero_le g3.1
    obtain ⟨n, n1, n2, n3, n4⟩ := size_eq p q r s (by omega) (by omega) (by omega) (by omega) k
    refine ⟨n, n1, n4, fun i hi => ?_, fun hn => ?_⟩
    · have h1 := wbytes_rd p q r s (by omega) (by omega) (by omega) (by omega) (31 - i) (by omega)
      rw [show 31 - (31 - i) = i by omega] at h1
      rw [h1, Nat.div_eq_of_lt (Nat.lt_of_lt_of_le n2 (Nat.pow_le_pow_right (by omega) (by omega)))]
      rfl
    · have h1 := wbytes_rd p q r s (by omega) (by omega) (by omega) (by omega) (n - 1) (by omega)
      rw [show 31 - (n - 1) = 32 - n by omega] at h1
      rcases n3 with n3 | n3
      · exact absurd n3 hn
      · have hp : 0 < 256 ^ (n - 1) := Nat.pow_pos (by omega)
        have l1 : num4 p q r s / 256 ^ (n - 1) < 256 := by
          rw [Nat.div_lt_iff_lt_mul hp, ← Nat.pow_succ', show (n - 1).succ = n by omega]
          exact n2
        have l2 : 0 < num4 p q r s / 256 ^ (n - 1) := Nat.div_pos n3 hp
        rw [h1, Nat.mod_eq_of_lt l1]
        omega
theorem number_ref (t : List Int) (ht : t.length = 32) (n : Nat) (hn : n ≤ 32) (hz : ∀ i : Nat, i < 32 - n → rd t (i : Int) = 0) (hnz : n ≠ 0 → rd t ((32 - n : Nat) : Int) ≠ 0) : ∀ (d q i : Nat), d < q → i + d = 32 - n → smithyref07_Number.l1 t q (i : Int) = some (t.drop (32 - n)) := by
  have stop : smithyref07_Number.j1 t ((32 - n : Nat) : Int) = some (t.drop (32 - n)) := by
    unfold smithyref07_Number.j1
    have e : (t.drop (Int.toNat ((32 - n : Nat) : Int))).take (Int.toNat 32 - Int.toNat ((32 - n : Nat) : Int)) = t.drop (32 - n) := by
      rw [Int.toNat_natCast, List.take_of_length_le (by rw [List.length_drop]; show t.length - (32 - n) ≤ 32 - (32 - n); omega)]
    rw [if_pos ⟨by omega, by omega, by decide⟩, e, if_pos (by simp; omega)]
    rfl
  intro d
  induction d with
  | zero =>
    intro q i hq hi
    obtain ⟨q, rfl⟩ : ∃ m, q = m + 1 := ⟨q - 1, by omega⟩
    show smithyref07_Number.b1 t _ _ = _
    unfold smithyref07_Number.b1 smithyref07_Number.j2
    have hi' : i = 32 - n := by omega
    subst hi'
    by_cases c : n = 0
    · rw [if_neg (by simp; omega), if_neg (by simp)]
      exact stop
    · rw [if_pos (by simp; omega), if_pos ⟨by omega, by omega⟩, if_neg (by simpa using hnz c)]
      exact stop
  | succ d ih =>
    intro q i hq hi
    obtain ⟨q, rfl⟩ : ∃ m, q = m + 1 := ⟨q - 1, by omega⟩
    show smithyref07_Number.b1 t _ _ = _
    unfold smithyref07_Number.b1 smithyref07_Number.j2
    rw [if_pos (by simp; omega), if_pos ⟨by omega, by omega⟩, if_pos (by simpa using hz i (by omega)), wr_i64_id (by omega) (by omega)]
    exact ih q (i + 1) (by omega) (by omega)
theorem number_eq {a : List Int} (h : a.length = 4) (hx : ∀ y ∈ a, inK .u64 y) : ∃ n : Nat, n ≤ 32 ∧ (∀ k : Nat, rlp_Number.f (k + 40) a = some ((wbytes a).drop (32 - n)) ∧ smithyref07_Number.f (k + 40) a = some ((wbytes a).drop (32 - n))) ∧ (n ≠ 0 → rd (wbytes a) ((32 - n : Nat) : Int) ≠ 0) ∧ (∀ i : Nat, i < 32 - n → rd (wbytes a) (i : Int) = 0) := by
  obtain ⟨n, n1, _, n3, n4⟩ := size_of h hx 0
  refine ⟨n, n1, fun k => ?_, n4, n3⟩
  obtain ⟨n', m1, m2, m3, m4⟩ := size_of h hx (k + 35)
  have hnn : n' = n := by
    rcases Nat.lt_trichotomy n n' with c | c | c
    · have := n3 (32 - n') (by omega)
      exact absurd this (m4 (by omega))
    · exact c.symm
    · have := m3 (32 - n) (by omega)
      exact absurd this (n4 (by omega))
  subst hnn
  constructor
  · unfold rlp_Number.f
    rw [bytes_f k h, Option.bind_some, show k + 40 = k + 35 + 5 by omega, m2, Option.bind_some]
    have ew := wr_i64_id (x := 32 - (n' : Int)) (by omega) (by omega)
    simp only [ew]
    have e : ((wbytes a).drop (Int.toNat (32 - (n' : Int)))).take (Int.toNat 32 - Int.toNat (32 - (n' : Int))) = (wbytes a).drop (32 - n') := by
      rw [show Int.toNat (32 - (n' : Int)) = 32 - n' by omega, List.take_of_length_le (by rw [List.length_drop, wbytes_len]; show 32 - (32 - n') ≤ 32 - (32 - n'); omega)]
    rw [if_pos ⟨by omega, by omega, by decide⟩, e, if_pos (by simp [wbytes_len]; omega)]
    rfl
  · unfold smithyref07_Number.f
    rw [of_f k h, Option.bind_some, dbytes_f k h (fun y hy => (inK_u64 (hx y hy)).1), Option.bind_some]
    exact number_ref (wbytes a) (wbytes_len a) n' n1 n3 n4 (32 - n') (k + 40) 0 (by omega) (by omega)
end GW
