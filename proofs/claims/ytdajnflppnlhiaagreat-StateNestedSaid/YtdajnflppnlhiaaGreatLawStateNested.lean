/-
  The law 'StateNested': for every input it says true, and what it was handed reads as it did. Its walk is printed; what it says of plain Lean values is proved in the text beside this one. Conditions: none beside those that the given row bears.
-/
import Derived.Test.YtdajnflppnlhiaaGreatGWRows
import Derived.Test.YtdajnflppnlhiaaGreatPureStateNested
namespace Go.Proofs.YtdajnflppnlhiaaGreat.stateNested
open GW Go.ChangeShapes Go.WideShapes Go.ChangeAt Go.RowKit
set_option linter.unusedVariables false
set_option maxRecDepth 100000
theorem own : ownKnob Tryz.prog.godebug = none := by kernel_rfl
theorem laid : laidOutB Tryz.prog = true := by kernel_rfl
theorem O40 : Opens Tryz.prog 40 (Ty.arr .u8 20) Gd40 := opens_arr Tryz.underlying40 Tryz.underlying5 T5 T40
theorem O41 : Opens Tryz.prog 41 (Ty.int .u64) Gd41 := opens_int Tryz.underlying41
theorem O43 : Opens Tryz.prog 43 (Ty.arr .u64 4) Gd43 := opens_arr Tryz.underlying43 Tryz.underlying41 T41 T43
theorem O5 : Opens Tryz.prog 5 (Ty.int .u8) Gd5 := opens_int Tryz.underlying5
theorem O44 : Opens Tryz.prog 44 (Ty.slice (Ty.int .u8)) Gd44 := opens_slice Tryz.underlying44 T5 O5
theorem O83 : Opens Tryz.prog 83 Y83 Gd83 := opens_struct Tryz.underlying83 T83 rfl (opensF_cons T43 O43 rfl (opensF_one T43 O43))
theorem O69 : Opens Tryz.prog 69 (Ty.slice Y83) Gd69 := opens_slice Tryz.underlying69 T83 O83
theorem O71 : Opens Tryz.prog 71 Y71 Gd71 := opens_struct Tryz.underlying71 T71 rfl (opensF_cons T40 O40 rfl (opensF_cons T41 O41 rfl (opensF_cons T43 O43 rfl (opensF_cons T44 O44 rfl (opensF_one T69 O69)))))
theorem O22 : Opens Tryz.prog 22 (Ty.slice Y71) Gd22 := opens_slice Tryz.underlying22 T71 O71
theorem O3 : Opens Tryz.prog 3 (Ty.int .i64) Gd3 := opens_int Tryz.underlying3
theorem O46 : Opens Tryz.prog 46 Y46 Gd46 := opens_struct Tryz.underlying46 T46 rfl (opensF_cons T3 O3 rfl (opensF_cons T40 O40 rfl (opensF_cons T43 O43 rfl (opensF_cons T43 O43 rfl (opensF_cons T41 O41 rfl (opensF_one T44 O44))))))
theorem O23 : Opens Tryz.prog 23 (Ty.slice Y46) Gd23 := opens_slice Tryz.underlying23 T46 O46
set_option maxRecDepth 100000 in
theorem lifted (os : Os) (started : os.Started) (H : Type) (enc : TypeId × Value → H) :
    ReturnsInHanded {} Tryz.checked os 3 .any (Rows.stateNestedSpec.pre6 enc Tryz.prog Tryz.f3 Rows.stateNestedRow.domain false) (Rows.stateNestedSpec.post enc Tryz.prog Tryz.f3 false true false false) := by
  refine returnsInHanded_of_change (C := Tryz.checked) own started (by kernel_rfl) Tryz.func3
    (ChangeSpec.witness6 (enc := enc) (C := Tryz.checked) false ⟨#[], #[.slice none 0 0, .slice none 0 0, .slice none 0 0, .slice none 0 0], []⟩ 8 (by kernel_rfl) (by kernel_rfl) (by kernel_rfl) (by kernel_rfl)) ?_
  intro W base args ds gs before hval0 hW hcnd _
  have hval : ∀ (j : Nat) t v, Tryz.f3.params[j]? = some t → args[j]? = some v → Value.okWide Tryz.prog W .any base t v := hval0
  have hW' := hW
  obtain ⟨p, q, hA0, hV, rfl, hfz, hnd⟩ := hW
  have hA : DataW.TrodAll enc Tryz.prog W 0 (fun _ => true) true Tryz.f3.params.toList args.toList ds p := hA0
  rw [Tryz.params3] at hA hval
  obtain ⟨v0, vs0, d0, ds0, p0, q0, hargs, rfl, rfl, h0, r0⟩ := trodAll_cons hA
  obtain ⟨v1, vs1, d1, ds1, p1, q1, rfl, rfl, rfl, h1, r1⟩ := trodAll_cons r0
  obtain ⟨v2, vs2, d2, ds2, p2, q2, rfl, rfl, rfl, h2, r2⟩ := trodAll_cons r1
  obtain ⟨v3, vs3, d3, ds3, p3, q3, rfl, rfl, rfl, h3, r3⟩ := trodAll_cons r2
  obtain ⟨rfl, rfl, rfl⟩ := trodAll_nil r3
  obtain rfl : args = #[v0, v1, v2, v3] := by cases args; simp_all
  obtain ⟨rfl, rfl⟩ := trodVars_none hV
  obtain ⟨a0, c0, rfl, k0, w0⟩ := o_sl Tryz.underlying22 O22 (hval 0 22 v0 rfl rfl) h0
  obtain ⟨a1, c1, rfl, k1, w1⟩ := o_sl Tryz.underlying23 O23 (hval 1 23 v1 rfl rfl) h1
  obtain ⟨a2, c2, rfl, k2, w2⟩ := o_sl Tryz.underlying23 O23 (hval 2 23 v2 rfl rfl) h2
  obtain ⟨a3, c3, rfl, k3, w3⟩ := o_sl Tryz.underlying23 O23 (hval 3 23 v3 rfl rfl) h3
  clear hA0 hval0
  obtain ⟨k, hk⟩ := fb1_true a0 a1 a2 a3 w0 w1 w2 w3
  refine (fb1_.ok k hk ⟨k0, k1, k2, k3, trivial⟩ (Pre.nil (Frz.all W))).mono fun e W' hx => ?_
  obtain ⟨_, he, hb⟩ := hx.ret
  subst he
  exact ⟨_, rfl, law_post hW' rfl laid (by kernel_rfl) rfl Tryz.underlying4 rfl rfl rfl hb⟩
theorem over : Rows.stateNestedRow.holds Tryz.pinned (OpenSpec.ofChange Rows.stateNestedSpec) :=
  OpenClaim.holds_of_wide 3 Tryz.f3 rfl rfl rfl rfl rfl rfl rfl ⟨rfl, rfl, rfl, rfl, rfl⟩ rfl rfl rfl rfl rfl (by kernel_rfl) Tryz.func3 (by kernel_rfl)
    (of_decide_eq_true (by kernel_rfl)) (by unfold Func.isWrapper; first | (rw [if_pos (by decide +kernel)]; kernel_rfl) | (rw [if_neg (by decide +kernel)]; exact ⟨rfl, rfl⟩))
    (fun os started H enc _ => lifted os started H enc)
theorem proved : Rows.StateNestedSaid :=
  over
#print axioms proved
end Go.Proofs.YtdajnflppnlhiaaGreat.stateNested
