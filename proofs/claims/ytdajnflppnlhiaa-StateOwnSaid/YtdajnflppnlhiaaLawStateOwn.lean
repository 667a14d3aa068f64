/-
  The law 'StateOwn': for every input it says true, and what it was handed reads as it did. Its walk is printed; what it says of plain Lean values is proved in the text beside this one. Conditions: none beside those that the given row bears.
-/
import Derived.Test.YtdajnflppnlhiaaGWRows
import Derived.Test.YtdajnflppnlhiaaPureStateOwn
namespace Go.Proofs.Ytdajnflppnlhiaa.stateOwn
open GW Go.ChangeShapes Go.WideShapes Go.ChangeAt Go.RowKit
set_option linter.unusedVariables false
set_option maxRecDepth 100000
theorem own : ownKnob Try.prog.godebug = none := by kernel_rfl
theorem laid : laidOutB Try.prog = true := by kernel_rfl
theorem O31 : Opens Try.prog 31 (Ty.arr .u8 20) Gd31 := opens_arr Try.underlying31 Try.underlying5 T5 T31
theorem O32 : Opens Try.prog 32 (Ty.int .u64) Gd32 := opens_int Try.underlying32
theorem O35 : Opens Try.prog 35 (Ty.arr .u64 4) Gd35 := opens_arr Try.underlying35 Try.underlying32 T32 T35
theorem O5 : Opens Try.prog 5 (Ty.int .u8) Gd5 := opens_int Try.underlying5
theorem O36 : Opens Try.prog 36 (Ty.slice (Ty.int .u8)) Gd36 := opens_slice Try.underlying36 T5 O5
theorem O82 : Opens Try.prog 82 Y82 Gd82 := opens_struct Try.underlying82 T82 rfl (opensF_cons T35 O35 rfl (opensF_one T35 O35))
theorem O37 : Opens Try.prog 37 (Ty.slice Y82) Gd37 := opens_slice Try.underlying37 T82 O82
theorem O39 : Opens Try.prog 39 Y39 Gd39 := opens_struct Try.underlying39 T39 rfl (opensF_cons T31 O31 rfl (opensF_cons T32 O32 rfl (opensF_cons T35 O35 rfl (opensF_cons T36 O36 rfl (opensF_one T37 O37)))))
theorem O22 : Opens Try.prog 22 (Ty.slice Y39) Gd22 := opens_slice Try.underlying22 T39 O39
theorem O49 : Opens Try.prog 49 (Ty.slice (Ty.arr .u64 4)) Gd49 := opens_slice Try.underlying49 T35 O35
theorem O51 : Opens Try.prog 51 Y51 Gd51 := opens_struct Try.underlying51 T51 rfl (opensF_cons T31 O31 rfl (opensF_cons T49 O49 rfl (opensF_one T36 O36)))
set_option maxRecDepth 100000 in
theorem lifted (os : Os) (started : os.Started) (H : Type) (enc : TypeId × Value → H) :
    ReturnsInHanded {} Try.checked os 4 .any (Rows.stateOwnSpec.pre6 enc Try.prog Try.f4 Rows.stateOwnRow.domain false) (Rows.stateOwnSpec.post enc Try.prog Try.f4 false true false false) := by
  refine returnsInHanded_of_change (C := Try.checked) own started (by kernel_rfl) Try.func4
    (ChangeSpec.witness6 (enc := enc) (C := Try.checked) false ⟨#[], #[.slice none 0 0, .agg #[.int .u8 0, .int .u8 0, .int .u8 0, .int .u8 0, .int .u8 0, .int .u8 0, .int .u8 0, .int .u8 0, .int .u8 0, .int .u8 0, .int .u8 0, .int .u8 0, .int .u8 0, .int .u8 0, .int .u8 0, .int .u8 0, .int .u8 0, .int .u8 0, .int .u8 0, .int .u8 0], .slice none 0 0, .agg #[.int .u8 0, .int .u8 0, .int .u8 0, .int .u8 0, .int .u8 0, .int .u8 0, .int .u8 0, .int .u8 0, .int .u8 0, .int .u8 0, .int .u8 0, .int .u8 0, .int .u8 0, .int .u8 0, .int .u8 0, .int .u8 0, .int .u8 0, .int .u8 0, .int .u8 0, .int .u8 0, .slice none 0 0, .slice none 0 0]], []⟩ 8 (by kernel_rfl) (by kernel_rfl) (by kernel_rfl) (by kernel_rfl)) ?_
  intro W base args ds gs before hval0 hW hcnd _
  have hval : ∀ (j : Nat) t v, Try.f4.params[j]? = some t → args[j]? = some v → Value.okWide Try.prog W .any base t v := hval0
  have hW' := hW
  obtain ⟨p, q, hA0, hV, rfl, hfz, hnd⟩ := hW
  have hA : DataW.TrodAll enc Try.prog W 0 (fun _ => true) true Try.f4.params.toList args.toList ds p := hA0
  rw [Try.params4] at hA hval
  obtain ⟨v0, vs0, d0, ds0, p0, q0, hargs, rfl, rfl, h0, r0⟩ := trodAll_cons hA
  obtain ⟨v1, vs1, d1, ds1, p1, q1, rfl, rfl, rfl, h1, r1⟩ := trodAll_cons r0
  obtain ⟨v2, vs2, d2, ds2, p2, q2, rfl, rfl, rfl, h2, r2⟩ := trodAll_cons r1
  obtain ⟨v3, vs3, d3, ds3, p3, q3, rfl, rfl, rfl, h3, r3⟩ := trodAll_cons r2
  obtain ⟨rfl, rfl, rfl⟩ := trodAll_nil r3
  obtain rfl : args = #[v0, v1, v2, v3] := by cases args; simp_all
  obtain ⟨rfl, rfl⟩ := trodVars_none hV
  obtain ⟨a0, c0, rfl, k0, w0⟩ := o_sl Try.underlying22 O22 (hval 0 22 v0 rfl rfl) h0
  obtain ⟨a1, rfl, l1, w1⟩ := o_arr Try.underlying31 Try.underlying5 T5 T31 (hval 1 31 v1 rfl rfl) h1
  obtain ⟨a2, c2, rfl, k2, w2⟩ := o_sl Try.underlying36 O36 (hval 2 36 v2 rfl rfl) h2
  obtain ⟨a3, c3, rfl, k3, w3⟩ := o_agg Try.underlying51 O51 (hval 3 51 v3 rfl rfl) h3
  clear hA0 hval0
  obtain ⟨k, hk⟩ := fb5_true a0 a1 a2 a3 w0 l1 w1 w2 w3
  refine (fb5_.ok k hk ⟨k0, ⟨l1, trivial⟩, k2, k3, trivial⟩ (Pre.nil (Frz.all W))).mono fun e W' hx => ?_
  obtain ⟨_, he, hb⟩ := hx.ret
  subst he
  exact ⟨_, rfl, law_post hW' rfl laid (by kernel_rfl) rfl Try.underlying4 rfl rfl rfl hb⟩
theorem over : Rows.stateOwnRow.holds Try.pinned (OpenSpec.ofChange Rows.stateOwnSpec) :=
  OpenClaim.holds_of_wide 4 Try.f4 rfl rfl rfl rfl rfl rfl rfl ⟨rfl, rfl, rfl, rfl, rfl⟩ rfl rfl rfl rfl rfl (by kernel_rfl) Try.func4 (by kernel_rfl)
    (of_decide_eq_true (by kernel_rfl)) (by unfold Func.isWrapper; first | (rw [if_pos (by decide +kernel)]; kernel_rfl) | (rw [if_neg (by decide +kernel)]; exact ⟨rfl, rfl⟩))
    (fun os started H enc _ => lifted os started H enc)
theorem proved : Rows.StateOwnSaid :=
  over
#print axioms proved
end Go.Proofs.Ytdajnflppnlhiaa.stateOwn
