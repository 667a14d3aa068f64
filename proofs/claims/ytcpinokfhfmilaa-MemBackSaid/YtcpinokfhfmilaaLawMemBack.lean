/-
  The law 'MemBack': for every input it says true, and what it was handed reads as it did. Its walk is printed; what it says of plain Lean values is proved in the text beside this one. Conditions: none beside those that the given row bears.
-/
import Derived.Test.YtcpinokfhfmilaaGWRows
import Derived.Test.YtcpinokfhfmilaaPureMemBack
namespace Go.Proofs.Ytcpinokfhfmilaa.memBack
open GW Go.ChangeShapes Go.WideShapes Go.ChangeAt Go.RowKit
set_option linter.unusedVariables false
theorem own : ownKnob Try.prog.godebug = none := by kernel_rfl
theorem laid : laidOutB Try.prog = true := by kernel_rfl
theorem O27 : Opens Try.prog 27 (Ty.arr .u64 4) Gd27 := opens_arr Try.underlying27 Try.underlying22 T22 T27
theorem O42 : Opens Try.prog 42 (Ty.slice (Ty.arr .u64 4)) Gd42 := opens_slice Try.underlying42 T27 O27
set_option maxRecDepth 100000 in
theorem lifted (os : Os) (started : os.Started) (H : Type) (enc : TypeId × Value → H) :
    ReturnsInHanded {} Try.checked os 6 .any (Rows.memBackSpec.pre6 enc Try.prog Try.f6 Rows.memBackRow.domain false) (Rows.memBackSpec.post enc Try.prog Try.f6 false true false false) := by
  refine returnsInHanded_of_change (C := Try.checked) own started (by kernel_rfl) Try.func6
    (ChangeSpec.witness6 (enc := enc) (C := Try.checked) false ⟨#[], #[.slice none 0 0, .int .i64 0], []⟩ 8 (by kernel_rfl) (by kernel_rfl) (by kernel_rfl) (by kernel_rfl)) ?_
  intro W base args ds gs before hval0 hW hcnd _
  have hval : ∀ (j : Nat) t v, Try.f6.params[j]? = some t → args[j]? = some v → Value.okWide Try.prog W .any base t v := hval0
  have hW' := hW
  obtain ⟨p, q, hA0, hV, rfl, hfz, hnd⟩ := hW
  have hA : DataW.TrodAll enc Try.prog W 0 (fun _ => true) true Try.f6.params.toList args.toList ds p := hA0
  rw [Try.params6] at hA hval
  obtain ⟨v0, vs0, d0, ds0, p0, q0, hargs, rfl, rfl, h0, r0⟩ := trodAll_cons hA
  obtain ⟨v1, vs1, d1, ds1, p1, q1, rfl, rfl, rfl, h1, r1⟩ := trodAll_cons r0
  obtain ⟨rfl, rfl, rfl⟩ := trodAll_nil r1
  obtain rfl : args = #[v0, v1] := by cases args; simp_all
  obtain ⟨rfl, rfl⟩ := trodVars_none hV
  obtain ⟨a0, c0, rfl, k0, w0⟩ := o_sl Try.underlying42 O42 (hval 0 42 v0 rfl rfl) h0
  obtain ⟨a1, rfl, w1⟩ := o_int Try.underlying3 (hval 1 3 v1 rfl rfl) h1
  clear hA0 hval0
  obtain ⟨k, hk⟩ := smithylaw10_MemBack_true a0 a1 w0 w1
  refine (smithylaw10_MemBack.ok k a0 a1 c0.1 c0.2 true hk (memOf W) W ⟨k0, rfl, trivial⟩ (Pre.nil (Frz.all W))).mono fun e W' hx => ?_
  obtain ⟨_, he, hb⟩ := hx.ret
  subst he
  exact ⟨_, rfl, law_post hW' rfl laid (by kernel_rfl) rfl Try.underlying4 rfl rfl rfl hb⟩
theorem over : Rows.memBackRow.holds Try.pinned (OpenSpec.ofChange Rows.memBackSpec) :=
  OpenClaim.holds_of_wide 6 Try.f6 rfl rfl rfl rfl rfl rfl rfl ⟨rfl, rfl, rfl, rfl, rfl⟩ rfl rfl rfl rfl rfl (by kernel_rfl) Try.func6 (by kernel_rfl)
    (of_decide_eq_true (by kernel_rfl)) (by unfold Func.isWrapper; first | (rw [if_pos (by decide +kernel)]; kernel_rfl) | (rw [if_neg (by decide +kernel)]; exact ⟨rfl, rfl⟩))
    (fun os started H enc _ => lifted os started H enc)
theorem proved : Rows.MemBackSaid :=
  over
#print axioms proved
end Go.Proofs.Ytcpinokfhfmilaa.memBack
