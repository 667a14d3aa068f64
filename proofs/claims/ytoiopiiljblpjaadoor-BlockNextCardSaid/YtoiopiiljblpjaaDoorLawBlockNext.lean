/-
  The law 'BlockNext', its tied card: for every input it says true, and what it was handed reads as it did. Its walk is printed; what it says of plain Lean values is proved in the text beside this one. Conditions: none beside those that the given card bears.
-/
import Derived.Test.YtoiopiiljblpjaaDoorCards
import Derived.Test.YtoiopiiljblpjaaDoorTie
import Derived.Test.YtoiopiiljblpjaaDoorGWRows
import Derived.Test.YtoiopiiljblpjaaDoorPureBlockNext
import Derived.WalkKit
import Derived.ProofKit
import Derived.OpenShut
import Derived.Deep.DeepHandedRow
import Derived.Lib.LaidTab
import Derived.Stop.LaidErr
namespace Go.Proofs.YtoiopiiljblpjaaDoor.blockNext
open GW Go.ChangeShapes Go.WideShapes Go.ChangeAt Go.RowKit
set_option linter.unusedVariables false
set_option maxRecDepth 100000
theorem own : ownKnob Tryd.prog.godebug = none := by kernel_rfl
theorem laid : laidOutB Tryd.prog = true := by kernel_rfl
theorem gN0 : Tryd.prog.globalNamed "smithy/keccak.constants" = some 0 := by kernel_rfl
theorem gT0 : (Tryd.prog.globals[0]?).map (·.type) = some 118 := by kernel_rfl
theorem gC118 : Tryd.prog.cellsOf 118 = 24 := by kernel_rfl
theorem gC24 : Tryd.prog.cellsOf 24 = 1 := by kernel_rfl
theorem gN1 : Tryd.prog.globalNamed "smithy/keccak.places" = some 1 := by kernel_rfl
theorem gT1 : (Tryd.prog.globals[1]?).map (·.type) = some 131 := by kernel_rfl
theorem gC131 : Tryd.prog.cellsOf 131 = 24 := by kernel_rfl
theorem gC3 : Tryd.prog.cellsOf 3 = 1 := by kernel_rfl
theorem gN2 : Tryd.prog.globalNamed "smithy/keccak.turns" = some 2 := by kernel_rfl
theorem gT2 : (Tryd.prog.globals[2]?).map (·.type) = some 131 := by kernel_rfl
/-- What the card's list gives: the tables' cells. -/
theorem tabs {W : World} (h : laidMetH Tryd.prog Rows.blockNextRow.laid W) : Glob (memOf W) := by
  have h0 : laidMet Tryd.prog Rows.blockNextRow.laid W := h
  have t0 : Lib.TabIs Tryd.prog W "smithy/keccak.constants" .u64 tbl_keccak_constants := Lib.tabIs_of_head gN0 gT0 Tryd.underlying118 Tryd.underlying24 gC24 gC118 h0
  have h1 := laidMet.tail h0
  have t2 : Lib.TabIs Tryd.prog W "smithy/keccak.turns" .i64 tbl_keccak_turns := Lib.tabIs_of_head gN2 gT2 Tryd.underlying131 Tryd.underlying3 gC3 gC131 h1
  have h2 := laidMet.tail h1
  have t1 : Lib.TabIs Tryd.prog W "smithy/keccak.places" .i64 tbl_keccak_places := Lib.tabIs_of_head gN1 gT1 Tryd.underlying131 Tryd.underlying3 gC3 gC131 h2
  exact ⟨froTab (fun i hi => t0.cell gN0 i hi) (by kernel_rfl), froTab (fun i hi => t1.cell gN1 i hi) (by kernel_rfl), froTab (fun i hi => t2.cell gN2 i hi) (by kernel_rfl)⟩
theorem O23 : Opens Tryd.prog 23 (Ty.arr .u8 32) Gd23 := opens_arr Tryd.underlying23 Tryd.underlying5 T5 T23
theorem O24 : Opens Tryd.prog 24 (Ty.int .u64) Gd24 := opens_int Tryd.underlying24
theorem O26 : Opens Tryd.prog 26 (Ty.arr .u64 4) Gd26 := opens_arr Tryd.underlying26 Tryd.underlying24 T24 T26
theorem O28 : Opens Tryd.prog 28 (Ty.arr .u8 20) Gd28 := opens_arr Tryd.underlying28 Tryd.underlying5 T5 T28
theorem O30 : Opens Tryd.prog 30 Y30 Gd30 := opens_struct Tryd.underlying30 T30 rfl (opensF_cons T23 O23 rfl (opensF_cons T24 O24 rfl (opensF_cons T24 O24 rfl (opensF_cons T24 O24 rfl (opensF_cons T24 O24 rfl (opensF_cons T26 O26 rfl (opensF_cons T28 O28 rfl (opensF_cons T26 O26 rfl (opensF_cons T23 O23 rfl (opensF_one T23 O23))))))))))
theorem O4 : Opens Tryd.prog 4 Ty.bool Gd4 := opens_bool Tryd.underlying4
theorem O66 : Opens Tryd.prog 66 (Ty.slice (Ty.arr .u64 4)) Gd66 := opens_slice Tryd.underlying66 T26 O26
theorem O5 : Opens Tryd.prog 5 (Ty.int .u8) Gd5 := opens_int Tryd.underlying5
theorem O37 : Opens Tryd.prog 37 (Ty.slice (Ty.int .u8)) Gd37 := opens_slice Tryd.underlying37 T5 O5
theorem O68 : Opens Tryd.prog 68 Y68 Gd68 := opens_struct Tryd.underlying68 T68 rfl (opensF_cons T28 O28 rfl (opensF_cons T66 O66 rfl (opensF_one T37 O37)))
theorem O36 : Opens Tryd.prog 36 (Ty.slice Y68) Gd36 := opens_slice Tryd.underlying36 T68 O68
theorem O39 : Opens Tryd.prog 39 Y39 Gd39 := opens_struct Tryd.underlying39 T39 rfl (opensF_cons T28 O28 rfl (opensF_cons T24 O24 rfl (opensF_cons T4 O4 rfl (opensF_cons T24 O24 rfl (opensF_cons T26 O26 rfl (opensF_cons T28 O28 rfl (opensF_cons T36 O36 rfl (opensF_one T37 O37))))))))
theorem O42 : Opens Tryd.prog 42 (Ty.slice Y39) Gd42 := opens_slice Tryd.underlying42 T39 O39
theorem O31 : Opens Tryd.prog 31 (Ty.slice (Ty.arr .u8 32)) Gd31 := opens_slice Tryd.underlying31 T23 O23
theorem contract (H : Type) (enc : TypeId × Value → H) (W : World) (base : Nat) (args : Array Value) (ds gs : List (DataW H)) (before : List MemPlace)
    (hval0 : ∀ (j : Nat) t v, Tryd.f5.params[j]? = some t → args[j]? = some v → Value.okWide Tryd.prog W .any base t v)
    (hW : DataW.Whole enc Tryd.prog Tryd.f5.params.toList Rows.blockNextSpec.vars false W args.toList ds gs before) (hL : laidMetH Tryd.prog Rows.blockNextRow.laid W) :
    Calls Tryd.prog 5 args W fun e W' => ∃ v, e = .returned v ∧ Rows.blockNextSpec.post enc Tryd.prog Tryd.f5 false true false false W args v W' := by
  have hval : ∀ (j : Nat) t v, Tryd.f5.params[j]? = some t → args[j]? = some v → Value.okWide Tryd.prog W .any base t v := hval0
  have hW' := hW
  obtain ⟨p, q, hA0, hV, rfl, hfz, hnd⟩ := hW
  have hA : DataW.TrodAll enc Tryd.prog W 0 (fun _ => true) true Tryd.f5.params.toList args.toList ds p := hA0
  rw [Tryd.params5] at hA hval
  obtain ⟨v0, vs0, d0, ds0, p0, q0, hargs, rfl, rfl, h0, r0⟩ := trodAll_cons hA
  obtain ⟨v1, vs1, d1, ds1, p1, q1, rfl, rfl, rfl, h1, r1⟩ := trodAll_cons r0
  obtain ⟨v2, vs2, d2, ds2, p2, q2, rfl, rfl, rfl, h2, r2⟩ := trodAll_cons r1
  obtain ⟨v3, vs3, d3, ds3, p3, q3, rfl, rfl, rfl, h3, r3⟩ := trodAll_cons r2
  obtain ⟨v4, vs4, d4, ds4, p4, q4, rfl, rfl, rfl, h4, r4⟩ := trodAll_cons r3
  obtain ⟨rfl, rfl, rfl⟩ := trodAll_nil r4
  obtain rfl : args = #[v0, v1, v2, v3, v4] := by cases args; simp_all
  obtain ⟨rfl, rfl⟩ := trodVars_none hV
  obtain ⟨a0, c0, rfl, k0, w0⟩ := o_agg Tryd.underlying30 O30 (hval 0 30 v0 rfl rfl) h0
  obtain ⟨a1, rfl, w1⟩ := o_int Tryd.underlying24 (hval 1 24 v1 rfl rfl) h1
  obtain ⟨a2, rfl, w2⟩ := o_int Tryd.underlying24 (hval 2 24 v2 rfl rfl) h2
  obtain ⟨a3, c3, rfl, k3, w3⟩ := o_sl Tryd.underlying42 O42 (hval 3 42 v3 rfl rfl) h3
  obtain ⟨a4, c4, rfl, k4, w4⟩ := o_sl Tryd.underlying31 O31 (hval 4 31 v4 rfl rfl) h4
  clear hA0 hval0
  obtain ⟨k, hk⟩ := smithylaw23_BlockNext_true a0 a1 a2 a3 a4 w0 w1 w2 w3 w4
  refine (smithylaw23_BlockNext.ok k a0 a1 a2 a3 a4 c3.1 c3.2 c4.1 c4.2 true hk (memOf W) W (tabs hL) ⟨k0, rfl, rfl, k3, k4, trivial⟩ (Pre.nil (Frz.all W))).mono fun e W' hx => ?_
  obtain ⟨_, he, hb⟩ := hx.ret
  subst he
  exact ⟨_, rfl, law_post hW' rfl laid (by kernel_rfl) rfl Tryd.underlying4 rfl rfl rfl hb⟩
noncomputable def laidWorld (os : Os) : World :=
  { World.holding Tryd.prog os ⟨#[], #[], []⟩ with heap := ((((World.holding Tryd.prog os ⟨#[], #[], []⟩).heap.modify 0 fun | .cells _ t frozen => .cells #[.int .u64 1, .int .u64 32898, .int .u64 9223372036854808714, .int .u64 9223372039002292224, .int .u64 32907, .int .u64 2147483649, .int .u64 9223372039002292353, .int .u64 9223372036854808585, .int .u64 138, .int .u64 136, .int .u64 2147516425, .int .u64 2147483658, .int .u64 2147516555, .int .u64 9223372036854775947, .int .u64 9223372036854808713, .int .u64 9223372036854808579, .int .u64 9223372036854808578, .int .u64 9223372036854775936, .int .u64 32778, .int .u64 9223372039002259466, .int .u64 9223372039002292353, .int .u64 9223372036854808704, .int .u64 2147483649, .int .u64 9223372039002292232] t frozen | o => o).modify 1 fun | .cells _ t frozen => .cells #[.int .i64 10, .int .i64 7, .int .i64 11, .int .i64 17, .int .i64 18, .int .i64 3, .int .i64 5, .int .i64 16, .int .i64 8, .int .i64 21, .int .i64 24, .int .i64 4, .int .i64 15, .int .i64 23, .int .i64 19, .int .i64 13, .int .i64 12, .int .i64 2, .int .i64 20, .int .i64 14, .int .i64 22, .int .i64 9, .int .i64 6, .int .i64 1] t frozen | o => o).modify 2 fun | .cells _ t frozen => .cells #[.int .i64 1, .int .i64 3, .int .i64 6, .int .i64 10, .int .i64 15, .int .i64 21, .int .i64 28, .int .i64 36, .int .i64 45, .int .i64 55, .int .i64 2, .int .i64 14, .int .i64 27, .int .i64 41, .int .i64 56, .int .i64 8, .int .i64 25, .int .i64 43, .int .i64 62, .int .i64 18, .int .i64 39, .int .i64 61, .int .i64 20, .int .i64 44] t frozen | o => o) }
def wit : Array Value := #[.agg #[.int .u8 0, .int .u8 0, .int .u8 0, .int .u8 0, .int .u8 0, .int .u8 0, .int .u8 0, .int .u8 0, .int .u8 0, .int .u8 0, .int .u8 0, .int .u8 0, .int .u8 0, .int .u8 0, .int .u8 0, .int .u8 0, .int .u8 0, .int .u8 0, .int .u8 0, .int .u8 0, .int .u8 0, .int .u8 0, .int .u8 0, .int .u8 0, .int .u8 0, .int .u8 0, .int .u8 0, .int .u8 0, .int .u8 0, .int .u8 0, .int .u8 0, .int .u8 0, .int .u64 0, .int .u64 0, .int .u64 0, .int .u64 0, .int .u64 0, .int .u64 0, .int .u64 0, .int .u64 0, .int .u8 0, .int .u8 0, .int .u8 0, .int .u8 0, .int .u8 0, .int .u8 0, .int .u8 0, .int .u8 0, .int .u8 0, .int .u8 0, .int .u8 0, .int .u8 0, .int .u8 0, .int .u8 0, .int .u8 0, .int .u8 0, .int .u8 0, .int .u8 0, .int .u8 0, .int .u8 0, .int .u64 0, .int .u64 0, .int .u64 0, .int .u64 0, .int .u8 0, .int .u8 0, .int .u8 0, .int .u8 0, .int .u8 0, .int .u8 0, .int .u8 0, .int .u8 0, .int .u8 0, .int .u8 0, .int .u8 0, .int .u8 0, .int .u8 0, .int .u8 0, .int .u8 0, .int .u8 0, .int .u8 0, .int .u8 0, .int .u8 0, .int .u8 0, .int .u8 0, .int .u8 0, .int .u8 0, .int .u8 0, .int .u8 0, .int .u8 0, .int .u8 0, .int .u8 0, .int .u8 0, .int .u8 0, .int .u8 0, .int .u8 0, .int .u8 0, .int .u8 0, .int .u8 0, .int .u8 0, .int .u8 0, .int .u8 0, .int .u8 0, .int .u8 0, .int .u8 0, .int .u8 0, .int .u8 0, .int .u8 0, .int .u8 0, .int .u8 0, .int .u8 0, .int .u8 0, .int .u8 0, .int .u8 0, .int .u8 0, .int .u8 0, .int .u8 0, .int .u8 0, .int .u8 0, .int .u8 0, .int .u8 0, .int .u8 0, .int .u8 0, .int .u8 0, .int .u8 0, .int .u8 0, .int .u8 0, .int .u8 0], .int .u64 0, .int .u64 0, .slice none 0 0, .slice none 0 0]
theorem laid_met (os : Os) : laidMet Tryd.prog Rows.blockNextRow.laid ((laidWorld os).forCall (fun _ _ => 0) ⟨#[], wit, []⟩).memory :=
  laidMet_of_run' 8 (by kernel_rfl) (by kernel_rfl)
theorem reads (os : Os) {H : Type} (enc : TypeId × Value → H) : ∃ places, DataW.whole enc Tryd.prog ((laidWorld os).forCall (fun _ _ => 0) ⟨#[], wit, []⟩).memory Tryd.f5.params.toList Rows.blockNextSpec.vars false (wit : Array Value).toList 8 = some ([.agg [.agg [.lit (.int .u8 0), .lit (.int .u8 0), .lit (.int .u8 0), .lit (.int .u8 0), .lit (.int .u8 0), .lit (.int .u8 0), .lit (.int .u8 0), .lit (.int .u8 0), .lit (.int .u8 0), .lit (.int .u8 0), .lit (.int .u8 0), .lit (.int .u8 0), .lit (.int .u8 0), .lit (.int .u8 0), .lit (.int .u8 0), .lit (.int .u8 0), .lit (.int .u8 0), .lit (.int .u8 0), .lit (.int .u8 0), .lit (.int .u8 0), .lit (.int .u8 0), .lit (.int .u8 0), .lit (.int .u8 0), .lit (.int .u8 0), .lit (.int .u8 0), .lit (.int .u8 0), .lit (.int .u8 0), .lit (.int .u8 0), .lit (.int .u8 0), .lit (.int .u8 0), .lit (.int .u8 0), .lit (.int .u8 0)], .lit (.int .u64 0), .lit (.int .u64 0), .lit (.int .u64 0), .lit (.int .u64 0), .agg [.lit (.int .u64 0), .lit (.int .u64 0), .lit (.int .u64 0), .lit (.int .u64 0)], .agg [.lit (.int .u8 0), .lit (.int .u8 0), .lit (.int .u8 0), .lit (.int .u8 0), .lit (.int .u8 0), .lit (.int .u8 0), .lit (.int .u8 0), .lit (.int .u8 0), .lit (.int .u8 0), .lit (.int .u8 0), .lit (.int .u8 0), .lit (.int .u8 0), .lit (.int .u8 0), .lit (.int .u8 0), .lit (.int .u8 0), .lit (.int .u8 0), .lit (.int .u8 0), .lit (.int .u8 0), .lit (.int .u8 0), .lit (.int .u8 0)], .agg [.lit (.int .u64 0), .lit (.int .u64 0), .lit (.int .u64 0), .lit (.int .u64 0)], .agg [.lit (.int .u8 0), .lit (.int .u8 0), .lit (.int .u8 0), .lit (.int .u8 0), .lit (.int .u8 0), .lit (.int .u8 0), .lit (.int .u8 0), .lit (.int .u8 0), .lit (.int .u8 0), .lit (.int .u8 0), .lit (.int .u8 0), .lit (.int .u8 0), .lit (.int .u8 0), .lit (.int .u8 0), .lit (.int .u8 0), .lit (.int .u8 0), .lit (.int .u8 0), .lit (.int .u8 0), .lit (.int .u8 0), .lit (.int .u8 0), .lit (.int .u8 0), .lit (.int .u8 0), .lit (.int .u8 0), .lit (.int .u8 0), .lit (.int .u8 0), .lit (.int .u8 0), .lit (.int .u8 0), .lit (.int .u8 0), .lit (.int .u8 0), .lit (.int .u8 0), .lit (.int .u8 0), .lit (.int .u8 0)], .agg [.lit (.int .u8 0), .lit (.int .u8 0), .lit (.int .u8 0), .lit (.int .u8 0), .lit (.int .u8 0), .lit (.int .u8 0), .lit (.int .u8 0), .lit (.int .u8 0), .lit (.int .u8 0), .lit (.int .u8 0), .lit (.int .u8 0), .lit (.int .u8 0), .lit (.int .u8 0), .lit (.int .u8 0), .lit (.int .u8 0), .lit (.int .u8 0), .lit (.int .u8 0), .lit (.int .u8 0), .lit (.int .u8 0), .lit (.int .u8 0), .lit (.int .u8 0), .lit (.int .u8 0), .lit (.int .u8 0), .lit (.int .u8 0), .lit (.int .u8 0), .lit (.int .u8 0), .lit (.int .u8 0), .lit (.int .u8 0), .lit (.int .u8 0), .lit (.int .u8 0), .lit (.int .u8 0), .lit (.int .u8 0)]], .lit (.int .u64 0), .lit (.int .u64 0), .nil, .nil], [], places) :=
  ⟨[], by kernel_rfl⟩
set_option maxRecDepth 100000 in
theorem lifted (os : Os) (started : os.Started) (H : Type) (enc : TypeId × Value → H) (F : Stop.Interp) :
    ReturnsInHanded {} Tryd.checked os 5 .any ((OpenSpec.ofChange Rows.blockNextSpec).preRow enc Tryd.prog Tryd.f5 Rows.blockNextRow.domain false Rows.blockNextRow.laid) (((OpenSpec.ofChange Rows.blockNextSpec).at F).post enc Tryd.prog Tryd.f5 false true false false) := by
  obtain ⟨places, hx⟩ := reads os enc
  refine returnsInHanded_of_row (C := Tryd.checked) (s := OpenSpec.ofChange Rows.blockNextSpec) own started (by kernel_rfl) Tryd.func5
    (witness_row_at (enc := enc) (C := Tryd.checked) false (laidWorld os) wit rfl (by kernel_rfl) (by kernel_rfl) (by kernel_rfl)
      (OpenSpec.preRow_of_cond 8 hx (by kernel_rfl) (fun k hk => by cases hk) (by kernel_rfl) (laid_met os))) ?_
  intro W base args ds gs before hval hW _ _ _ hL _ _
  exact contract H enc W base args ds gs before hval hW hL
theorem said : Rows.BlockNextSaid :=
  OpenClaim.holds_of_cond 5 Tryd.f5 rfl rfl rfl rfl rfl rfl rfl ⟨rfl, rfl, rfl, rfl, rfl⟩ rfl rfl rfl rfl rfl (by kernel_rfl) Tryd.func5 (by kernel_rfl)
    (of_decide_eq_true (by kernel_rfl)) (by unfold Func.isWrapper; first | (rw [if_pos (by decide +kernel)]; kernel_rfl) | (rw [if_neg (by decide +kernel)]; exact ⟨rfl, rfl⟩))
    (fun os started H enc _ F => by rw [OpenClaim.pre_eq_preRow]; exact lifted os started H enc F)
theorem plain (f : FuncId) (fn : Func) (hf : Tryd.pinned.checked.prog.funcNamed "smithy/smithylaw23.BlockNext" = some f) (hfn : Tryd.pinned.checked.prog.funcs[f]? = some fn) :
    false = Tryd.pinned.checked.prog.looks [] ∧ ∀ (j : Nat) t, fn.params[j]? = some t → Tryd.pinned.checked.prog.wantsStandIn t = false := by
  obtain rfl : f = 5 := Option.some.inj ((show Tryd.prog.funcNamed "smithy/smithylaw23.BlockNext" = some 5 by kernel_rfl).symm.trans hf) |>.symm
  obtain rfl : fn = Tryd.f5 := (Option.some.inj (Tryd.func5.symm.trans hfn)).symm
  refine ⟨by kernel_rfl, fun j t ht => ?_⟩
  rw [Tryd.params5] at ht
  have hm := Array.mem_of_getElem? ht
  simp only [List.mem_toArray, List.mem_cons, List.not_mem_nil, or_false] at hm
  rcases hm with rfl | rfl | rfl | rfl | rfl
  · exact (show Tryd.prog.wantsStandIn 30 = false by kernel_rfl)
  · exact (show Tryd.prog.wantsStandIn 24 = false by kernel_rfl)
  · exact (show Tryd.prog.wantsStandIn 24 = false by kernel_rfl)
  · exact (show Tryd.prog.wantsStandIn 42 = false by kernel_rfl)
  · exact (show Tryd.prog.wantsStandIn 31 = false by kernel_rfl)
theorem proved : Rows.BlockNextCardSaid :=
  Claim7.holds_tied_plain_at .later [] _ _ _ _ said (fun _ h => by cases h) (by kernel_rfl) (fun _ h => by cases h) blockNext_row_tie rfl ⟨rfl, rfl⟩ (by kernel_rfl) rfl plain (by kernel_rfl)
#print axioms proved
end Go.Proofs.YtoiopiiljblpjaaDoor.blockNext
