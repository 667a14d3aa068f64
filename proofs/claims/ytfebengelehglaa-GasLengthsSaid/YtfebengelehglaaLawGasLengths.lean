/-
  The law 'GasLengths': for every input it says true, and what it was handed reads as it did. Its walk is printed; what it says of plain Lean values is proved in the text beside this one. Conditions: none beside those that the given row bears.
-/
import Derived.Test.YtfebengelehglaaGWRows
import Derived.Test.YtfebengelehglaaPureGasLengths
namespace Go.Proofs.Ytfebengelehglaa.gasLengths
open GW Go.ChangeShapes Go.WideShapes Go.ChangeAt Go.RowKit
set_option linter.unusedVariables false
theorem own : ownKnob Try.prog.godebug = none := by kernel_rfl
theorem laid : laidOutB Try.prog = true := by kernel_rfl
set_option maxRecDepth 100000 in
theorem lifted (os : Os) (started : os.Started) (H : Type) (enc : TypeId × Value → H) :
    ReturnsInHanded {} Try.checked os 8 .any (Rows.gasLengthsSpec.pre6 enc Try.prog Try.f8 Rows.gasLengthsRow.domain false) (Rows.gasLengthsSpec.post enc Try.prog Try.f8 false true false false) := by
  refine returnsInHanded_of_change (C := Try.checked) own started (by kernel_rfl) Try.func8
    (ChangeSpec.witness6 (enc := enc) (C := Try.checked) false ⟨#[], #[.int .u64 0, .int .u8 0, .agg #[.int .u64 0, .int .u64 0, .int .u64 0, .int .u64 0], .bool false], []⟩ 8 (by kernel_rfl) (by kernel_rfl) (by kernel_rfl) (by kernel_rfl)) ?_
  intro W base args ds gs before hval0 hW hcnd _
  have hval : ∀ (j : Nat) t v, Try.f8.params[j]? = some t → args[j]? = some v → Value.okWide Try.prog W .any base t v := hval0
  have hW' := hW
  obtain ⟨p, q, hA0, hV, rfl, hfz, hnd⟩ := hW
  have hA : DataW.TrodAll enc Try.prog W 0 (fun _ => true) true Try.f8.params.toList args.toList ds p := hA0
  rw [Try.params8] at hA hval
  obtain ⟨v0, vs0, d0, ds0, p0, q0, hargs, rfl, rfl, h0, r0⟩ := trodAll_cons hA
  obtain ⟨v1, vs1, d1, ds1, p1, q1, rfl, rfl, rfl, h1, r1⟩ := trodAll_cons r0
  obtain ⟨v2, vs2, d2, ds2, p2, q2, rfl, rfl, rfl, h2, r2⟩ := trodAll_cons r1
  obtain ⟨v3, vs3, d3, ds3, p3, q3, rfl, rfl, rfl, h3, r3⟩ := trodAll_cons r2
  obtain ⟨rfl, rfl, rfl⟩ := trodAll_nil r3
  obtain rfl : args = #[v0, v1, v2, v3] := by cases args; simp_all
  obtain ⟨rfl, rfl⟩ := trodVars_none hV
  obtain ⟨a0, rfl, w0⟩ := o_int Try.underlying22 (hval 0 22 v0 rfl rfl) h0
  obtain ⟨a1, rfl, w1⟩ := o_int Try.underlying5 (hval 1 5 v1 rfl rfl) h1
  obtain ⟨a2, rfl, l2, w2⟩ := o_arr Try.underlying24 Try.underlying22 T22 T24 (hval 2 24 v2 rfl rfl) h2
  obtain ⟨a3, rfl⟩ := o_bool Try.underlying4 (hval 3 4 v3 rfl rfl) h3
  clear hA0 hval0
  obtain ⟨k, hk⟩ := smithylaw12_GasLengths_true a0 a1 a2 a3 w0 w1 l2 w2
  refine (smithylaw12_GasLengths.ok k a0 a1 a2 a3 true hk (memOf W) W ⟨rfl, rfl, ⟨l2, trivial⟩, rfl, trivial⟩ (Frz.all W)).mono fun e W' ⟨he, _, hb⟩ => ?_
  subst he
  exact ⟨_, rfl, law_post hW' rfl laid (by kernel_rfl) rfl Try.underlying4 rfl rfl rfl hb⟩
theorem over : Rows.gasLengthsRow.holds Try.pinned (OpenSpec.ofChange Rows.gasLengthsSpec) :=
  OpenClaim.holds_of_wide 8 Try.f8 rfl rfl rfl rfl rfl rfl rfl ⟨rfl, rfl, rfl, rfl, rfl⟩ rfl rfl rfl rfl rfl (by kernel_rfl) Try.func8 (by kernel_rfl)
    (of_decide_eq_true (by kernel_rfl)) (by unfold Func.isWrapper; first | (rw [if_pos (by decide +kernel)]; kernel_rfl) | (rw [if_neg (by decide +kernel)]; exact ⟨rfl, rfl⟩))
    (fun os started H enc _ => lifted os started H enc)
theorem proved : Rows.GasLengthsSaid :=
  over
#print axioms proved
end Go.Proofs.Ytfebengelehglaa.gasLengths
