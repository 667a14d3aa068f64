/-
  The law 'ForkPlays': for every input it says true, and what it was handed reads as it did. Its walk is printed; what it says of plain Lean values is proved in the text beside this one. Conditions: none beside those that the given row bears.
-/
import Derived.Test.YtldbgghcailgfaaGWRows
import Derived.Test.YtldbgghcailgfaaPureForkPlays
namespace Go.Proofs.Ytldbgghcailgfaa.forkPlays
open GW Go.ChangeShapes Go.WideShapes Go.ChangeAt Go.RowKit
set_option linter.unusedVariables false
set_option maxRecDepth 100000
theorem own : ownKnob Try.prog.godebug = none := by kernel_rfl
theorem laid : laidOutB Try.prog = true := by kernel_rfl
theorem O3 : Opens Try.prog 3 (Ty.int .i64) Gd3 := opens_int Try.underlying3
theorem O28 : Opens Try.prog 28 (Ty.arr .u8 20) Gd28 := opens_arr Try.underlying28 Try.underlying5 T5 T28
theorem O29 : Opens Try.prog 29 (Ty.int .u64) Gd29 := opens_int Try.underlying29
theorem O31 : Opens Try.prog 31 (Ty.arr .u64 4) Gd31 := opens_arr Try.underlying31 Try.underlying29 T29 T31
theorem O5 : Opens Try.prog 5 (Ty.int .u8) Gd5 := opens_int Try.underlying5
theorem O24 : Opens Try.prog 24 (Ty.slice (Ty.int .u8)) Gd24 := opens_slice Try.underlying24 T5 O5
theorem O71 : Opens Try.prog 71 Y71 Gd71 := opens_struct Try.underlying71 T71 rfl (opensF_cons T31 O31 rfl (opensF_one T31 O31))
theorem O32 : Opens Try.prog 32 (Ty.slice Y71) Gd32 := opens_slice Try.underlying32 T71 O71
theorem O34 : Opens Try.prog 34 Y34 Gd34 := opens_struct Try.underlying34 T34 rfl (opensF_cons T28 O28 rfl (opensF_cons T29 O29 rfl (opensF_cons T31 O31 rfl (opensF_cons T24 O24 rfl (opensF_one T32 O32)))))
theorem O63 : Opens Try.prog 63 (Ty.prod (Ty.int .i64) Y34) Gd63 := opens_struct Try.underlying63 T63 rfl (opensF_cons T3 O3 rfl (opensF_one T34 O34))
theorem O60 : Opens Try.prog 60 Y60 Gd60 := opens_slice Try.underlying60 T63 O63
set_option maxRecDepth 100000 in
theorem lifted (os : Os) (started : os.Started) (H : Type) (enc : TypeId × Value → H) :
    ReturnsInHanded {} Try.checked os 5 .any (Rows.forkPlaysSpec.pre6 enc Try.prog Try.f5 Rows.forkPlaysRow.domain false) (Rows.forkPlaysSpec.post enc Try.prog Try.f5 false true false false) := by
  refine returnsInHanded_of_change (C := Try.checked) own started (by kernel_rfl) Try.func5
    (ChangeSpec.witness6 (enc := enc) (C := Try.checked) false ⟨#[], #[.slice none 0 0], []⟩ 8 (by kernel_rfl) (by kernel_rfl) (by kernel_rfl) (by kernel_rfl)) ?_
  intro W base args ds gs before hval0 hW hcnd _
  have hval : ∀ (j : Nat) t v, Try.f5.params[j]? = some t → args[j]? = some v → Value.okWide Try.prog W .any base t v := hval0
  have hW' := hW
  obtain ⟨p, q, hA0, hV, rfl, hfz, hnd⟩ := hW
  have hA : DataW.TrodAll enc Try.prog W 0 (fun _ => true) true Try.f5.params.toList args.toList ds p := hA0
  rw [Try.params5] at hA hval
  obtain ⟨v0, vs0, d0, ds0, p0, q0, hargs, rfl, rfl, h0, r0⟩ := trodAll_cons hA
  obtain ⟨rfl, rfl, rfl⟩ := trodAll_nil r0
  obtain rfl : args = #[v0] := by cases args; simp_all
  obtain ⟨rfl, rfl⟩ := trodVars_none hV
  obtain ⟨a0, c0, rfl, k0, w0⟩ := o_sl Try.underlying60 O60 (hval 0 60 v0 rfl rfl) h0
  clear hA0 hval0
  obtain ⟨k, hk⟩ := smithylaw15_ForkPlays_true a0 w0
  refine (smithylaw15_ForkPlays.ok k a0 c0.1 c0.2 true hk (memOf W) W ⟨k0, trivial⟩ (Pre.nil (Frz.all W))).mono fun e W' hx => ?_
  obtain ⟨_, he, hb⟩ := hx.ret
  subst he
  exact ⟨_, rfl, law_post hW' rfl laid (by kernel_rfl) rfl Try.underlying4 rfl rfl rfl hb⟩
theorem over : Rows.forkPlaysRow.holds Try.pinned (OpenSpec.ofChange Rows.forkPlaysSpec) :=
  OpenClaim.holds_of_wide 5 Try.f5 rfl rfl rfl rfl rfl rfl rfl ⟨rfl, rfl, rfl, rfl, rfl⟩ rfl rfl rfl rfl rfl (by kernel_rfl) Try.func5 (by kernel_rfl)
    (of_decide_eq_true (by kernel_rfl)) (by unfold Func.isWrapper; first | (rw [if_pos (by decide +kernel)]; kernel_rfl) | (rw [if_neg (by decide +kernel)]; exact ⟨rfl, rfl⟩))
    (fun os started H enc _ => lifted os started H enc)
theorem proved : Rows.ForkPlaysSaid :=
  over
#print axioms proved
end Go.Proofs.Ytldbgghcailgfaa.forkPlays
