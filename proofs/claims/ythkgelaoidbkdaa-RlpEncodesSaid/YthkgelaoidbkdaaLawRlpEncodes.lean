/-
  The law 'RlpEncodes': for every input it says true, and what it was handed reads as it did. Its walk is printed; what it says of plain Lean values is proved in the text beside this one. Conditions: none beside those that the given row bears.
-/
import Derived.Test.YthkgelaoidbkdaaGWRows
import Derived.Test.YthkgelaoidbkdaaPureRlpEncodes
namespace Go.Proofs.Ythkgelaoidbkdaa.rlpEncodes
open GW Go.ChangeShapes Go.WideShapes Go.ChangeAt Go.RowKit
set_option linter.unusedVariables false
theorem own : ownKnob Try.prog.godebug = none := by kernel_rfl
theorem laid : laidOutB Try.prog = true := by kernel_rfl
theorem O4 : Opens Try.prog 4 Ty.bool Gd4 := opens_bool Try.underlying4
theorem O5 : Opens Try.prog 5 (Ty.int .u8) Gd5 := opens_int Try.underlying5
theorem O25 : Opens Try.prog 25 (Ty.slice (Ty.int .u8)) Gd25 := opens_slice Try.underlying25 T5 O5
theorem O3 : Opens Try.prog 3 (Ty.int .i64) Gd3 := opens_int Try.underlying3
theorem O43 : Opens Try.prog 43 (Ty.prod Ty.bool (Ty.prod (Ty.slice (Ty.int .u8)) (Ty.int .i64))) Gd43 := opens_struct Try.underlying43 T43 rfl (opensF_cons T4 O4 rfl (opensF_cons T25 O25 rfl (opensF_one T3 O3)))
theorem O29 : Opens Try.prog 29 (Ty.slice (Ty.prod Ty.bool (Ty.prod (Ty.slice (Ty.int .u8)) (Ty.int .i64)))) Gd29 := opens_slice Try.underlying29 T43 O43
set_option maxRecDepth 100000 in
theorem lifted (os : Os) (started : os.Started) (H : Type) (enc : TypeId × Value → H) :
    ReturnsInHanded {} Try.checked os 4 .any (Rows.rlpEncodesSpec.pre6 enc Try.prog Try.f4 Rows.rlpEncodesRow.domain false) (Rows.rlpEncodesSpec.post enc Try.prog Try.f4 false true false false) := by
  refine returnsInHanded_of_change (C := Try.checked) own started (by kernel_rfl) Try.func4
    (ChangeSpec.witness6 (enc := enc) (C := Try.checked) false ⟨#[], #[.slice none 0 0], []⟩ 8 (by kernel_rfl) (by kernel_rfl) (by kernel_rfl) (by kernel_rfl)) ?_
  intro W base args ds gs before hval0 hW hcnd _
  have hval : ∀ (j : Nat) t v, Try.f4.params[j]? = some t → args[j]? = some v → Value.okWide Try.prog W .any base t v := hval0
  have hW' := hW
  obtain ⟨p, q, hA0, hV, rfl, hfz, hnd⟩ := hW
  have hA : DataW.TrodAll enc Try.prog W 0 (fun _ => true) true Try.f4.params.toList args.toList ds p := hA0
  rw [Try.params4] at hA hval
  obtain ⟨v0, vs0, d0, ds0, p0, q0, hargs, rfl, rfl, h0, r0⟩ := trodAll_cons hA
  obtain ⟨rfl, rfl, rfl⟩ := trodAll_nil r0
  obtain rfl : args = #[v0] := by cases args; simp_all
  obtain ⟨rfl, rfl⟩ := trodVars_none hV
  obtain ⟨a0, c0, rfl, k0, w0⟩ := o_sl Try.underlying29 O29 (hval 0 29 v0 rfl rfl) h0
  clear hA0 hval0
  obtain ⟨k, hk⟩ := smithylaw07_RlpEncodes_true a0 w0
  refine (smithylaw07_RlpEncodes.ok k a0 c0.1 c0.2 true hk (memOf W) W ⟨k0, trivial⟩ (Pre.nil (Frz.all W))).mono fun e W' hx => ?_
  obtain ⟨_, he, hb⟩ := hx.ret
  subst he
  exact ⟨_, rfl, law_post hW' rfl laid (by kernel_rfl) rfl Try.underlying4 rfl rfl rfl hb⟩
theorem over : Rows.rlpEncodesRow.holds Try.pinned (OpenSpec.ofChange Rows.rlpEncodesSpec) :=
  OpenClaim.holds_of_wide 4 Try.f4 rfl rfl rfl rfl rfl rfl rfl ⟨rfl, rfl, rfl, rfl, rfl⟩ rfl rfl rfl rfl rfl (by kernel_rfl) Try.func4 (by kernel_rfl)
    (of_decide_eq_true (by kernel_rfl)) (by unfold Func.isWrapper; first | (rw [if_pos (by decide +kernel)]; kernel_rfl) | (rw [if_neg (by decide +kernel)]; exact ⟨rfl, rfl⟩))
    (fun os started H enc _ => lifted os started H enc)
theorem proved : Rows.RlpEncodesSaid :=
  over
#print axioms proved
end Go.Proofs.Ythkgelaoidbkdaa.rlpEncodes
