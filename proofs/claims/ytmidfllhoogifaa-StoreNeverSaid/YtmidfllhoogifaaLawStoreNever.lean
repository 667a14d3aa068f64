/-
  The law 'StoreNever': for every input it says true, and what it was handed reads as it did. Its walk is printed; what it says of plain Lean values is proved in the text beside this one. Conditions: none beside those that the given row bears.
-/
import Derived.Test.YtmidfllhoogifaaGWRows
import Derived.Test.YtmidfllhoogifaaPureStoreNever
namespace Go.Proofs.Ytmidfllhoogifaa.storeNever
open GW Go.ChangeShapes Go.WideShapes Go.ChangeAt Go.RowKit
set_option linter.unusedVariables false
set_option maxRecDepth 100000
theorem own : ownKnob Try.prog.godebug = none := by kernel_rfl
theorem laid : laidOutB Try.prog = true := by kernel_rfl
theorem O3 : Opens Try.prog 3 (Ty.int .i64) Gd3 := opens_int Try.underlying3
theorem O23 : Opens Try.prog 23 (Ty.arr .u8 20) Gd23 := opens_arr Try.underlying23 Try.underlying5 T5 T23
theorem O24 : Opens Try.prog 24 (Ty.int .u64) Gd24 := opens_int Try.underlying24
theorem O26 : Opens Try.prog 26 (Ty.arr .u64 4) Gd26 := opens_arr Try.underlying26 Try.underlying24 T24 T26
theorem O5 : Opens Try.prog 5 (Ty.int .u8) Gd5 := opens_int Try.underlying5
theorem O27 : Opens Try.prog 27 (Ty.slice (Ty.int .u8)) Gd27 := opens_slice Try.underlying27 T5 O5
theorem O66 : Opens Try.prog 66 Y66 Gd66 := opens_struct Try.underlying66 T66 rfl (opensF_cons T26 O26 rfl (opensF_one T26 O26))
theorem O28 : Opens Try.prog 28 (Ty.slice Y66) Gd28 := opens_slice Try.underlying28 T66 O66
theorem O30 : Opens Try.prog 30 Y30 Gd30 := opens_struct Try.underlying30 T30 rfl (opensF_cons T23 O23 rfl (opensF_cons T24 O24 rfl (opensF_cons T26 O26 rfl (opensF_cons T27 O27 rfl (opensF_one T28 O28)))))
theorem O32 : Opens Try.prog 32 (Ty.slice Y30) Gd32 := opens_slice Try.underlying32 T30 O30
theorem O40 : Opens Try.prog 40 Y40 Gd40 := opens_struct Try.underlying40 T40 rfl (opensF_cons T3 O3 rfl (opensF_one T32 O32))
theorem O35 : Opens Try.prog 35 (Ty.slice Y40) Gd35 := opens_slice Try.underlying35 T40 O40
set_option maxRecDepth 100000 in
theorem lifted (os : Os) (started : os.Started) (H : Type) (enc : TypeId × Value → H) :
    ReturnsInHanded {} Try.checked os 4 .any (Rows.storeNeverSpec.pre6 enc Try.prog Try.f4 Rows.storeNeverRow.domain false) (Rows.storeNeverSpec.post enc Try.prog Try.f4 false true false false) := by
  refine returnsInHanded_of_change (C := Try.checked) own started (by kernel_rfl) Try.func4
    (ChangeSpec.witness6 (enc := enc) (C := Try.checked) false ⟨#[], #[.slice none 0 0, .slice none 0 0], []⟩ 8 (by kernel_rfl) (by kernel_rfl) (by kernel_rfl) (by kernel_rfl)) ?_
  intro W base args ds gs before hval0 hW hcnd _
  have hval : ∀ (j : Nat) t v, Try.f4.params[j]? = some t → args[j]? = some v → Value.okWide Try.prog W .any base t v := hval0
  have hW' := hW
  obtain ⟨p, q, hA0, hV, rfl, hfz, hnd⟩ := hW
  have hA : DataW.TrodAll enc Try.prog W 0 (fun _ => true) true Try.f4.params.toList args.toList ds p := hA0
  rw [Try.params4] at hA hval
  obtain ⟨v0, vs0, d0, ds0, p0, q0, hargs, rfl, rfl, h0, r0⟩ := trodAll_cons hA
  obtain ⟨v1, vs1, d1, ds1, p1, q1, rfl, rfl, rfl, h1, r1⟩ := trodAll_cons r0
  obtain ⟨rfl, rfl, rfl⟩ := trodAll_nil r1
  obtain rfl : args = #[v0, v1] := by cases args; simp_all
  obtain ⟨rfl, rfl⟩ := trodVars_none hV
  obtain ⟨a0, c0, rfl, k0, w0⟩ := o_sl Try.underlying35 O35 (hval 0 35 v0 rfl rfl) h0
  obtain ⟨a1, c1, rfl, k1, w1⟩ := o_sl Try.underlying35 O35 (hval 1 35 v1 rfl rfl) h1
  clear hA0 hval0
  obtain ⟨k, hk⟩ := smithylaw13_StoreNever_true a0 a1 w0 w1
  refine (smithylaw13_StoreNever.ok k a0 a1 c0.1 c0.2 c1.1 c1.2 true hk (memOf W) W ⟨k0, k1, trivial⟩ (Pre.nil (Frz.all W))).mono fun e W' hx => ?_
  obtain ⟨_, he, hb⟩ := hx.ret
  subst he
  exact ⟨_, rfl, law_post hW' rfl laid (by kernel_rfl) rfl Try.underlying4 rfl rfl rfl hb⟩
theorem over : Rows.storeNeverRow.holds Try.pinned (OpenSpec.ofChange Rows.storeNeverSpec) :=
  OpenClaim.holds_of_wide 4 Try.f4 rfl rfl rfl rfl rfl rfl rfl ⟨rfl, rfl, rfl, rfl, rfl⟩ rfl rfl rfl rfl rfl (by kernel_rfl) Try.func4 (by kernel_rfl)
    (of_decide_eq_true (by kernel_rfl)) (by unfold Func.isWrapper; first | (rw [if_pos (by decide +kernel)]; kernel_rfl) | (rw [if_neg (by decide +kernel)]; exact ⟨rfl, rfl⟩))
    (fun os started H enc _ => lifted os started H enc)
theorem proved : Rows.StoreNeverSaid :=
  over
#print axioms proved
end Go.Proofs.Ytmidfllhoogifaa.storeNever
