/-
  The law 'TxEnough': for every input it says true, and what it was handed reads as it did. Its walk is printed; what it says of plain Lean values is proved in the text beside this one. Conditions: none beside those that the given row bears.
-/
import Derived.Test.YtnloindmiejbeaaGWRows
import Derived.Test.YtnloindmiejbeaaPureTxEnough
namespace Go.Proofs.Ytnloindmiejbeaa.txEnough
open GW Go.ChangeShapes Go.WideShapes Go.ChangeAt Go.RowKit
set_option linter.unusedVariables false
set_option maxRecDepth 100000
theorem own : ownKnob Try.prog.godebug = none := by kernel_rfl
theorem laid : laidOutB Try.prog = true := by kernel_rfl
theorem O23 : Opens Try.prog 23 (Ty.arr .u8 20) Gd23 := opens_arr Try.underlying23 Try.underlying5 T5 T23
theorem O4 : Opens Try.prog 4 Ty.bool Gd4 := opens_bool Try.underlying4
theorem O24 : Opens Try.prog 24 (Ty.int .u64) Gd24 := opens_int Try.underlying24
theorem O26 : Opens Try.prog 26 (Ty.arr .u64 4) Gd26 := opens_arr Try.underlying26 Try.underlying24 T24 T26
theorem O5 : Opens Try.prog 5 (Ty.int .u8) Gd5 := opens_int Try.underlying5
theorem O27 : Opens Try.prog 27 (Ty.slice (Ty.int .u8)) Gd27 := opens_slice Try.underlying27 T5 O5
theorem O61 : Opens Try.prog 61 (Ty.slice (Ty.arr .u64 4)) Gd61 := opens_slice Try.underlying61 T26 O26
theorem O63 : Opens Try.prog 63 Y63 Gd63 := opens_struct Try.underlying63 T63 rfl (opensF_cons T23 O23 rfl (opensF_one T61 O61))
theorem O28 : Opens Try.prog 28 (Ty.slice Y63) Gd28 := opens_slice Try.underlying28 T63 O63
theorem O30 : Opens Try.prog 30 Y30 Gd30 := opens_struct Try.underlying30 T30 rfl (opensF_cons T23 O23 rfl (opensF_cons T23 O23 rfl (opensF_cons T4 O4 rfl (opensF_cons T24 O24 rfl (opensF_cons T26 O26 rfl (opensF_cons T27 O27 rfl (opensF_cons T24 O24 rfl (opensF_cons T26 O26 rfl (opensF_cons T26 O26 rfl (opensF_one T28 O28))))))))))
theorem O89 : Opens Try.prog 89 Y89 Gd89 := opens_struct Try.underlying89 T89 rfl (opensF_cons T26 O26 rfl (opensF_one T26 O26))
theorem O74 : Opens Try.prog 74 (Ty.slice Y89) Gd74 := opens_slice Try.underlying74 T89 O89
theorem O76 : Opens Try.prog 76 Y76 Gd76 := opens_struct Try.underlying76 T76 rfl (opensF_cons T23 O23 rfl (opensF_cons T24 O24 rfl (opensF_cons T26 O26 rfl (opensF_cons T27 O27 rfl (opensF_one T74 O74)))))
theorem O44 : Opens Try.prog 44 (Ty.slice Y76) Gd44 := opens_slice Try.underlying44 T76 O76
theorem O129 : Opens Try.prog 129 (Ty.arr .u8 32) Gd129 := opens_arr Try.underlying129 Try.underlying5 T5 T129
theorem O45 : Opens Try.prog 45 (Ty.slice (Ty.arr .u8 32)) Gd45 := opens_slice Try.underlying45 T129 O129
theorem O47 : Opens Try.prog 47 Y47 Gd47 := opens_struct Try.underlying47 T47 rfl (opensF_cons T24 O24 rfl (opensF_cons T24 O24 rfl (opensF_cons T24 O24 rfl (opensF_cons T23 O23 rfl (opensF_cons T26 O26 rfl (opensF_cons T26 O26 rfl (opensF_cons T24 O24 rfl (opensF_one T45 O45))))))))
set_option maxRecDepth 100000 in
theorem lifted (os : Os) (started : os.Started) (H : Type) (enc : TypeId × Value → H) :
    ReturnsInHanded {} Try.checked os 4 .any (Rows.txEnoughSpec.pre6 enc Try.prog Try.f4 Rows.txEnoughRow.domain false) (Rows.txEnoughSpec.post enc Try.prog Try.f4 false true false false) := by
  refine returnsInHanded_of_change (C := Try.checked) own started (by kernel_rfl) Try.func4
    (ChangeSpec.witness6 (enc := enc) (C := Try.checked) false ⟨#[], #[.agg #[.int .u8 0, .int .u8 0, .int .u8 0, .int .u8 0, .int .u8 0, .int .u8 0, .int .u8 0, .int .u8 0, .int .u8 0, .int .u8 0, .int .u8 0, .int .u8 0, .int .u8 0, .int .u8 0, .int .u8 0, .int .u8 0, .int .u8 0, .int .u8 0, .int .u8 0, .int .u8 0, .int .u8 0, .int .u8 0, .int .u8 0, .int .u8 0, .int .u8 0, .int .u8 0, .int .u8 0, .int .u8 0, .int .u8 0, .int .u8 0, .int .u8 0, .int .u8 0, .int .u8 0, .int .u8 0, .int .u8 0, .int .u8 0, .int .u8 0, .int .u8 0, .int .u8 0, .int .u8 0, .bool false, .int .u64 0, .int .u64 0, .int .u64 0, .int .u64 0, .int .u64 0, .slice none 0 0, .int .u64 0, .int .u64 0, .int .u64 0, .int .u64 0, .int .u64 0, .int .u64 0, .int .u64 0, .int .u64 0, .int .u64 0, .slice none 0 0], .slice none 0 0, .agg #[.int .u64 0, .int .u64 0, .int .u64 0, .int .u8 0, .int .u8 0, .int .u8 0, .int .u8 0, .int .u8 0, .int .u8 0, .int .u8 0, .int .u8 0, .int .u8 0, .int .u8 0, .int .u8 0, .int .u8 0, .int .u8 0, .int .u8 0, .int .u8 0, .int .u8 0, .int .u8 0, .int .u8 0, .int .u8 0, .int .u8 0, .int .u64 0, .int .u64 0, .int .u64 0, .int .u64 0, .int .u64 0, .int .u64 0, .int .u64 0, .int .u64 0, .int .u64 0, .slice none 0 0], .int .u64 0], []⟩ 8 (by kernel_rfl) (by kernel_rfl) (by kernel_rfl) (by kernel_rfl)) ?_
  intro W base args ds gs before hval0 hW hcnd _
  have hval : ∀ (j : Nat) t v, Try.f4.params[j]? = some t → args[j]? = some v → Value.okWide Try.prog W .any base t v := hval0
  have hW' := hW
  obtain ⟨p, q, hA0, hV, rfl, hfz, hnd⟩ := hW
  have hA : DataW.TrodAll enc Try.prog W 0 (fun _ => true) true Try.f4.params.toList args.toList ds p := hA0
  rw [Try.params4] at hA hval
  obtain ⟨v0, vs0, d0, ds0, p0, q0, hargs, rfl, rfl, h0, r0⟩ := trodAll_cons hA
  obtain ⟨v1, vs1, d1, ds1, p1, q1, rfl, rfl, rfl, h1, r1⟩ := trodAll_cons r0
  obtain ⟨v2, vs2, d2, ds2, p2, q2, rfl, rfl, rfl, h2, r2⟩ := trodAll_cons r1
  obtain ⟨v3, vs3, d3, ds3, p3, q3, rfl, rfl, rfl, h3, r3⟩ := trodAll_cons r2
  obtain ⟨rfl, rfl, rfl⟩ := trodAll_nil r3
  obtain rfl : args = #[v0, v1, v2, v3] := by cases args; simp_all
  obtain ⟨rfl, rfl⟩ := trodVars_none hV
  obtain ⟨a0, c0, rfl, k0, w0⟩ := o_agg Try.underlying30 O30 (hval 0 30 v0 rfl rfl) h0
  obtain ⟨a1, c1, rfl, k1, w1⟩ := o_sl Try.underlying44 O44 (hval 1 44 v1 rfl rfl) h1
  obtain ⟨a2, c2, rfl, k2, w2⟩ := o_agg Try.underlying47 O47 (hval 2 47 v2 rfl rfl) h2
  obtain ⟨a3, rfl, w3⟩ := o_int Try.underlying24 (hval 3 24 v3 rfl rfl) h3
  clear hA0 hval0
  obtain ⟨k, hk⟩ := smithylaw19_TxEnough_true a0 a1 a2 a3 w0 w1 w2 w3
  refine (smithylaw19_TxEnough.ok k a0 a1 a2 a3 c0.2.2.2.2.2.1.1 c0.2.2.2.2.2.1.2 c0.2.2.2.2.2.2.2.2.2.1 c0.2.2.2.2.2.2.2.2.2.2 c1.1 c1.2 c2.2.2.2.2.2.2.2.1 c2.2.2.2.2.2.2.2.2 true hk (memOf W) W ⟨k0, k1, k2, rfl, trivial⟩ (Pre.nil (Frz.all W))).mono fun e W' hx => ?_
  obtain ⟨_, he, hb⟩ := hx.ret
  subst he
  exact ⟨_, rfl, law_post hW' rfl laid (by kernel_rfl) rfl Try.underlying4 rfl rfl rfl hb⟩
theorem over : Rows.txEnoughRow.holds Try.pinned (OpenSpec.ofChange Rows.txEnoughSpec) :=
  OpenClaim.holds_of_wide 4 Try.f4 rfl rfl rfl rfl rfl rfl rfl ⟨rfl, rfl, rfl, rfl, rfl⟩ rfl rfl rfl rfl rfl (by kernel_rfl) Try.func4 (by kernel_rfl)
    (of_decide_eq_true (by kernel_rfl)) (by unfold Func.isWrapper; first | (rw [if_pos (by decide +kernel)]; kernel_rfl) | (rw [if_neg (by decide +kernel)]; exact ⟨rfl, rfl⟩))
    (fun os started H enc _ => lifted os started H enc)
theorem proved : Rows.TxEnoughSaid :=
  over
#print axioms proved
end Go.Proofs.Ytnloindmiejbeaa.txEnough
