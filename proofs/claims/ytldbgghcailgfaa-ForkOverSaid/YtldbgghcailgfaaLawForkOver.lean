/-
  The law 'ForkOver': for every input it says true, and what it was handed reads as it did. Its walk is printed; what it says of plain Lean values is proved in the text beside this one. Conditions: none beside those that the given row bears.
-/
import Derived.Test.YtldbgghcailgfaaGWRows
import Derived.Test.YtldbgghcailgfaaPureForkOver
namespace Go.Proofs.Ytldbgghcailgfaa.forkOver
open GW Go.ChangeShapes Go.WideShapes Go.ChangeAt Go.RowKit
set_option linter.unusedVariables false
set_option maxRecDepth 100000
theorem own : ownKnob Try.prog.godebug = none := by kernel_rfl
theorem laid : laidOutB Try.prog = true := by kernel_rfl
theorem O28 : Opens Try.prog 28 (Ty.arr .u8 20) Gd28 := opens_arr Try.underlying28 Try.underlying5 T5 T28
theorem O29 : Opens Try.prog 29 (Ty.int .u64) Gd29 := opens_int Try.underlying29
theorem O31 : Opens Try.prog 31 (Ty.arr .u64 4) Gd31 := opens_arr Try.underlying31 Try.underlying29 T29 T31
theorem O5 : Opens Try.prog 5 (Ty.int .u8) Gd5 := opens_int Try.underlying5
theorem O24 : Opens Try.prog 24 (Ty.slice (Ty.int .u8)) Gd24 := opens_slice Try.underlying24 T5 O5
theorem O71 : Opens Try.prog 71 Y71 Gd71 := opens_struct Try.underlying71 T71 rfl (opensF_cons T31 O31 rfl (opensF_one T31 O31))
theorem O32 : Opens Try.prog 32 (Ty.slice Y71) Gd32 := opens_slice Try.underlying32 T71 O71
theorem O34 : Opens Try.prog 34 Y34 Gd34 := opens_struct Try.underlying34 T34 rfl (opensF_cons T28 O28 rfl (opensF_cons T29 O29 rfl (opensF_cons T31 O31 rfl (opensF_cons T24 O24 rfl (opensF_one T32 O32)))))
theorem O22 : Opens Try.prog 22 (Ty.slice Y34) Gd22 := opens_slice Try.underlying22 T34 O34
set_option maxRecDepth 100000 in
theorem lifted (os : Os) (started : os.Started) (H : Type) (enc : TypeId × Value → H) :
    ReturnsInHanded {} Try.checked os 4 .any (Rows.forkOverSpec.pre6 enc Try.prog Try.f4 Rows.forkOverRow.domain false) (Rows.forkOverSpec.post enc Try.prog Try.f4 false true false false) := by
  refine returnsInHanded_of_change (C := Try.checked) own started (by kernel_rfl) Try.func4
    (ChangeSpec.witness6 (enc := enc) (C := Try.checked) false ⟨#[], #[.slice none 0 0, .slice none 0 0, .agg #[.int .u8 0, .int .u8 0, .int .u8 0, .int .u8 0, .int .u8 0, .int .u8 0, .int .u8 0, .int .u8 0, .int .u8 0, .int .u8 0, .int .u8 0, .int .u8 0, .int .u8 0, .int .u8 0, .int .u8 0, .int .u8 0, .int .u8 0, .int .u8 0, .int .u8 0, .int .u8 0]], []⟩ 8 (by kernel_rfl) (by kernel_rfl) (by kernel_rfl) (by kernel_rfl)) ?_
  intro W base args ds gs before hval0 hW hcnd _
  have hval : ∀ (j : Nat) t v, Try.f4.params[j]? = some t → args[j]? = some v → Value.okWide Try.prog W .any base t v := hval0
  have hW' := hW
  obtain ⟨p, q, hA0, hV, rfl, hfz, hnd⟩ := hW
  have hA : DataW.TrodAll enc Try.prog W 0 (fun _ => true) true Try.f4.params.toList args.toList ds p := hA0
  rw [Try.params4] at hA hval
  obtain ⟨v0, vs0, d0, ds0, p0, q0, hargs, rfl, rfl, h0, r0⟩ := trodAll_cons hA
  obtain ⟨v1, vs1, d1, ds1, p1, q1, rfl, rfl, rfl, h1, r1⟩ := trodAll_cons r0
  obtain ⟨v2, vs2, d2, ds2, p2, q2, rfl, rfl, rfl, h2, r2⟩ := trodAll_cons r1
  obtain ⟨rfl, rfl, rfl⟩ := trodAll_nil r2
  obtain rfl : args = #[v0, v1, v2] := by cases args; simp_all
  obtain ⟨rfl, rfl⟩ := trodVars_none hV
  obtain ⟨a0, c0, rfl, k0, w0⟩ := o_sl Try.underlying22 O22 (hval 0 22 v0 rfl rfl) h0
  obtain ⟨a1, c1, rfl, k1, w1⟩ := o_sl Try.underlying22 O22 (hval 1 22 v1 rfl rfl) h1
  obtain ⟨a2, rfl, l2, w2⟩ := o_arr Try.underlying28 Try.underlying5 T5 T28 (hval 2 28 v2 rfl rfl) h2
  clear hA0 hval0
  obtain ⟨k, hk⟩ := smithylaw15_ForkOver_true a0 a1 a2 w0 w1 l2 w2
  refine (smithylaw15_ForkOver.ok k a0 a1 a2 c0.1 c0.2 c1.1 c1.2 true hk (memOf W) W ⟨k0, k1, ⟨l2, trivial⟩, trivial⟩ (Pre.nil (Frz.all W))).mono fun e W' hx => ?_
  obtain ⟨_, he, hb⟩ := hx.ret
  subst he
  exact ⟨_, rfl, law_post hW' rfl laid (by kernel_rfl) rfl Try.underlying4 rfl rfl rfl hb⟩
theorem over : Rows.forkOverRow.holds Try.pinned (OpenSpec.ofChange Rows.forkOverSpec) :=
  OpenClaim.holds_of_wide 4 Try.f4 rfl rfl rfl rfl rfl rfl rfl ⟨rfl, rfl, rfl, rfl, rfl⟩ rfl rfl rfl rfl rfl (by kernel_rfl) Try.func4 (by kernel_rfl)
    (of_decide_eq_true (by kernel_rfl)) (by unfold Func.isWrapper; first | (rw [if_pos (by decide +kernel)]; kernel_rfl) | (rw [if_neg (by decide +kernel)]; exact ⟨rfl, rfl⟩))
    (fun os started H enc _ => lifted os started H enc)
theorem proved : Rows.ForkOverSaid :=
  over
#print axioms proved
end Go.Proofs.Ytldbgghcailgfaa.forkOver
