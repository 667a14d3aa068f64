/-
  What the law 'MemPlays' says of plain Lean values.
-/
import Derived.Test.YtcpinokfhfmilaaPureMemRW
import Derived.Test.YtcpinokfhfmilaaPureMemSums
set_option linter.unusedVariables false
set_option linter.unusedSimpArgs false
namespace GW
open Go Go.RowKit
/-- What is known of the memory, both ways. -/
structure MI (w : List Int) (u : Int) : Prop where
  len : Len32 w u
  by_ : By w
theorem from_nil (k : Nat) : word_From.f (k + 40) [] = some [0, 0, 0, 0] := by kernel_rfl
theorem dfrom_nil (k : Nat) : smithyref01_From.f (k + 40) [] = some [0, 0, 0, 0, 0, 0, 0, 0, 0, 0, 0, 0, 0, 0, 0, 0, 0, 0, 0, 0, 0, 0, 0, 0, 0, 0, 0, 0, 0, 0, 0, 0] := by kernel_rfl
theorem dword_nil (k : Nat) : smithyref01_D_Word.f (k + 40) [0, 0, 0, 0, 0, 0, 0, 0, 0, 0, 0, 0, 0, 0, 0, 0, 0, 0, 0, 0, 0, 0, 0, 0, 0, 0, 0, 0, 0, 0, 0, 0] = some [0, 0, 0, 0] := by kernel_rfl
theorem word_eq {w : List Int} (hw : w.length ≤ 4194304) (hb : By w) {a : Int} (ha : inK .i64 a) (k : Nat) : ∃ z, mem_Memory_Word.f (k + 4194400) w a = some z ∧ smithyref10_Word.f (k + 4194400) w a = some z := by
  unfold mem_Memory_Word.f smithyref10_Word.f
  have h32 : inK .i64 32 := by rfl
  rw [read_mem, read_ref w hw a 32 ha h32 (k + 4194400) (by omega), Option.bind_some, Option.bind_some]
  by_cases c : 0 ≤ a
  · have hl : (rdm w a 32).length = 32 := rdm_len w a 32 ⟨c, by omega, by omega⟩
    have hb' := By_rdm hb a 32
    have e1 := from_f (k + 4194360) hl hb'
    have e2 := dfrom_f (k + 4194360) hl
    have e3 := dword_f (k + 4194360) hl hb'
    refine ⟨wfrom (rdm w a 32), ?_, ?_⟩
    · rw [show k + 4194400 = k + 4194360 + 40 by omega, e1]; rfl
    · rw [show k + 4194400 = k + 4194360 + 40 by omega, e2, Option.bind_some, e3]; rfl
  · have e : rdm w a 32 = [] := by unfold rdm; rw [if_neg (by omega)]
    rw [e]
    have f1 := from_nil (k + 4194360)
    have f2 := dfrom_nil (k + 4194360)
    have f3 := dword_nil (k + 4194360)
    refine ⟨[0, 0, 0, 0], ?_, ?_⟩
    · rw [show k + 4194400 = k + 4194360 + 40 by omega, f1]; rfl
    · rw [show k + 4194400 = k + 4194360 + 40 by omega, f2, Option.bind_some, f3]; rfl
theorem word_nonneg {a : List Int} (h : Gd27 a) : ∀ y ∈ a, 0 ≤ y := fun y hy => (inK_u64 (h.2 y hy)).1
theorem By_data {d : List Int} (h : Gd38 d) : By d := fun x hx => inK_u8 (h.1 x hx)
theorem plays_loop (l : List OpT) (hl : l.length ≤ 9223372036854775807) (hw : ∀ o ∈ l, Gd40 o) (k : Nat) (hk : 9223372036854775807 ≤ k) : ∀ (d q : Nat) (i : Nat) (b : List Int) (w : Int), d < q → i + d = l.length → MI b w → smithylaw10_MemPlays.l1 (k + 4194400) l q b i b = some true := by
  intro d
  induction d with
  | zero =>
    intro q i b w hq hi hb
    obtain ⟨q, rfl⟩ : ∃ m, q = m + 1 := ⟨q - 1, by omega⟩
    show smithylaw10_MemPlays.b1 _ l _ _ _ _ = _
    unfold smithylaw10_MemPlays.b1 smithylaw10_MemPlays.j1
    obtain ⟨⟨h1, h2, h3⟩, _⟩ := hb
    rw [if_neg (by simp; omega), read_mem, rdm_all b (by omega)]
    simp
  | succ d ih =>
    intro q i b w hq hi hb
    obtain ⟨q, rfl⟩ : ∃ m, q = m + 1 := ⟨q - 1, by omega⟩
    have hstep : ∀ (b' : List Int) (w' : Int), MI b' w' → smithylaw10_MemPlays.j2 (i : Int) (smithylaw10_MemPlays.l1 (k + 4194400) l q) b' b' = some true := by
      intro b' w' hb'
      unfold smithylaw10_MemPlays.j2
      have ei : wr .i64 ((i : Int) + 1) = ((i + 1 : Nat) : Int) := by rw [wr_i64_id (by omega) (by omega)]; omega
      have e : mem_Memory_Len.f b' = some (b'.length : Int) := rfl
      rw [e, Option.bind_some, if_neg (by simp), ei]
      exact ih q (i + 1) b' w' (by omega) (by omega) hb'
    show smithylaw10_MemPlays.b1 _ l _ _ _ _ = _
    unfold smithylaw10_MemPlays.b1
    have ho := hw _ (gt_mem (xs := l) (i := i) (by omega) (by omega))
    rw [if_pos (by simp; omega), if_pos ⟨by omega, by omega⟩]
    generalize gt l (i : Int) = o at ho
    obtain ⟨o1, o2, o3, o4, o5, o6, o7⟩ := ho
    have hb0 := hb
    obtain ⟨hlen, hby⟩ := hb
    have hlen' := hlen
    obtain ⟨h1, h2, h3⟩ := hlen'
    have hbl : b.length ≤ 4194304 := by omega
    by_cases k0 : o.1 = 0
    · rw [if_pos (by simpa using k0)]
      have hr := reach_ref h2 h3 o5 o6
      rw [h1, hr, Option.bind_some, cost_mem hlen o5 o6, Option.bind_some, Reach_mem hlen o5 o6]
      have hnow := now_eq hlen
      rw [h1] at hnow
      cases h : rch w o.2.2.2.2.1 o.2.2.2.2.2.1 with
      | none =>
        simp only [ans, Option.bind_some]
        unfold smithylaw10_MemPlays.j3
        simp only [beq_self_eq_true, Bool.not_true, Bool.false_eq_true, if_false, Bool.not_false, if_true, bne_self_eq_false]
        exact hstep b w hb0
      | some v =>
        have hv := rch_le o5 o6 h2 h3 h
        have hp := Pr_mono h2 hv.1
        have hp0 := Pr_nonneg h2
        have hp1 := Pr_lt (v := v) (by omega) hv.2
        have e1 : wr .u64 (wr .i64 (Int.tdiv (32 * v) 32)) = v := by
          rw [tdiv_pos (by omega), wr_i64_id (by omega) (by omega), wr_u64_id (by omega) (by omega)]; omega
        have e2 := price_ref v (by omega) (by omega)
        have e3 := price_ref w h2 (by omega)
        have e4 := wr_u64_id (x := Pr v - Pr w) (by omega) (by omega)
        simp only [ans, Option.bind_some, e1, hnow, e2, e3, e4]
        unfold smithylaw10_MemPlays.j3
        simp only [beq_self_eq_true, Bool.not_true, Bool.false_eq_true, if_false, Bool.not_false, if_true, bne_self_eq_false]
        rw [grow_ref hlen hv.1 hv.2, Option.bind_some]
        exact hstep _ v ⟨grown_len hlen hv.1 hv.2, By_grown hby v⟩
    · rw [if_neg (by simpa using k0)]
      have hwl : ∀ (a : Int) (d : List Int), By d → MI (wrt b a d) w := fun a d hd => ⟨⟨by rw [wrt_len]; exact h1, h2, h3⟩, By_wrt hby hd a⟩
      by_cases k1 : o.1 = 1
      · rw [if_pos (by simpa using k1), write_mem, Option.bind_some, write_ref b hbl o.2.1 o2 o.2.2.2.2.2.2 (by have := o7.2; simpa [maxLen] using this) _ (by have := o7.2; simp only [maxLen] at this; omega), Option.bind_some]
        exact hstep _ w (hwl _ _ (By_data o7))
      · rw [if_neg (by simpa using k1)]
        by_cases k2 : o.1 = 2
        · rw [if_pos (by simpa using k2)]
          have ec : mem_Memory_Copy.f b o.2.1 o.2.2.1 o.2.2.2.1 = some (wrt b o.2.1 (rdm b o.2.2.1 o.2.2.2.1)) := by
            unfold mem_Memory_Copy.f
            rw [read_mem, Option.bind_some, write_mem]; rfl
          have hrl : (rdm b o.2.2.1 o.2.2.2.1).length ≤ 4194304 := by
            unfold rdm
            split
            · simp; omega
            · simp
          rw [ec, Option.bind_some, read_ref b hbl _ _ o3 o4 _ (by omega), Option.bind_some, write_ref b hbl o.2.1 o2 _ (by omega) _ (by omega), Option.bind_some]
          exact hstep _ w (hwl _ _ (By_rdm hby _ _))
        · rw [if_neg (by simpa using k2)]
          by_cases k3 : o.1 = 3
          · rw [if_pos (by simpa using k3)]
            have et : ((wbytes o.2.2.2.2.1).drop 0).take 32 = wbytes o.2.2.2.2.1 := rfl
            have em : mem_Memory_SetWord.f (k + 4194400) b o.2.1 o.2.2.2.2.1 = some (wrt b o.2.1 (wbytes o.2.2.2.2.1)) := by
              unfold mem_Memory_SetWord.f
              rw [show k + 4194400 = k + 4194360 + 40 by omega, bytes_f _ o5.1, Option.bind_some, et, write_mem]; rfl
            have er : smithyref10_SetWord.f (k + 4194400) b o.2.1 o.2.2.2.2.1 = some (wrt b o.2.1 (wbytes o.2.2.2.2.1)) := by
              unfold smithyref10_SetWord.f
              rw [show k + 4194400 = k + 4194360 + 40 by omega, of_f _ o5.1, Option.bind_some, dbytes_f _ o5.1 (word_nonneg o5), Option.bind_some, et, write_ref b hbl o.2.1 o2 _ (by rw [wbytes_len]; omega) _ (by rw [wbytes_len]; omega)]; rfl
            rw [em, Option.bind_some, er, Option.bind_some]
            exact hstep _ w (hwl _ _ (wbytes_u8 _))
          · rw [if_neg (by simpa using k3), read_mem, Option.bind_some, read_ref b hbl _ _ o2 o4 _ (by omega), Option.bind_some, if_neg (by simp)]
            obtain ⟨z, z1, z2⟩ := word_eq hbl hby o2 k
            rw [z1, Option.bind_some, z2, Option.bind_some]
            unfold smithylaw10_MemPlays.j4
            rw [if_neg (by simp)]
            exact hstep b w hb0
theorem smithylaw10_MemPlays_true (a0 : List (Int × Int × Int × Int × (List Int) × (List Int) × (List Int))) (w0 : Gd36 a0) : ∃ k : Nat, smithylaw10_MemPlays.f k a0 = some true := by
  have hl : a0.length ≤ 9223372036854775807 := by have := w0.2; simpa [maxLen] using this
  refine ⟨9223372036854775807 + 4194400, ?_⟩
  obtain ⟨j, hj⟩ := cut_eq a0 hl (9223372036854775807 + 4194400) (by omega)
  unfold smithylaw10_MemPlays.f
  have e0 : mem_New.f = some [] := rfl
  rw [e0, Option.bind_some, fixed10, Option.bind_some, if_neg (by simp), hj, Option.bind_some]
  have hlt : (a0.take j).length ≤ a0.length := by simp; omega
  exact plays_loop (a0.take j) (by omega) (fun o ho => w0.1 o (List.mem_of_mem_take ho)) _ (Nat.le_refl _) (a0.take j).length _ 0 [] 0 (by omega) (by omega) ⟨⟨rfl, by omega, by omega⟩, fun x hx => by cases hx⟩
end GW
