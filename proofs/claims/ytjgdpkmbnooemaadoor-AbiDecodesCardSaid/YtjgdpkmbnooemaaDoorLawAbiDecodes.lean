/-
  The law 'AbiDecodes', its tied card: for every input it says true, and what it was handed reads as it did. Its walk is printed; what it says of plain Lean values is proved in the text beside this one. Conditions: none beside those that the given card bears.
-/
import Derived.Test.YtjgdpkmbnooemaaDoorCards
import Derived.Test.YtjgdpkmbnooemaaDoorTie
import Derived.Test.YtjgdpkmbnooemaaDoorGWRows
import Derived.Test.YtjgdpkmbnooemaaDoorPureAbiDecodes
import Derived.WalkKit
import Derived.ProofKit
import Derived.OpenShut
import Derived.Deep.DeepHandedRow
import Derived.Lib.LaidTab
import Derived.Stop.LaidErr
namespace Go.Proofs.YtjgdpkmbnooemaaDoor.abiDecodes
open GW Go.ChangeShapes Go.WideShapes Go.ChangeAt Go.RowKit
set_option linter.unusedVariables false
set_option maxRecDepth 100000
theorem own : ownKnob Tryd.prog.godebug = none := by kernel_rfl
theorem laid : laidOutB Tryd.prog = true := by kernel_rfl
theorem gN0 : Tryd.prog.globalNamed "smithy/keccak.constants" = some 0 := by kernel_rfl
theorem gT0 : (Tryd.prog.globals[0]?).map (·.type) = some 83 := by kernel_rfl
theorem gC83 : Tryd.prog.cellsOf 83 = 24 := by kernel_rfl
theorem gC52 : Tryd.prog.cellsOf 52 = 1 := by kernel_rfl
theorem gN1 : Tryd.prog.globalNamed "smithy/keccak.places" = some 1 := by kernel_rfl
theorem gT1 : (Tryd.prog.globals[1]?).map (·.type) = some 138 := by kernel_rfl
theorem gC138 : Tryd.prog.cellsOf 138 = 24 := by kernel_rfl
theorem gC3 : Tryd.prog.cellsOf 3 = 1 := by kernel_rfl
theorem gN2 : Tryd.prog.globalNamed "smithy/keccak.turns" = some 2 := by kernel_rfl
theorem gT2 : (Tryd.prog.globals[2]?).map (·.type) = some 138 := by kernel_rfl
/-- What the card's list gives: the tables' cells. -/
theorem tabs {W : World} (h : laidMetH Tryd.prog Rows.abiDecodesRow.laid W) : Glob (memOf W) := by
  have h0 : laidMet Tryd.prog Rows.abiDecodesRow.laid W := h
  have t0 : Lib.TabIs Tryd.prog W "smithy/keccak.constants" .u64 tbl_keccak_constants := Lib.tabIs_of_head gN0 gT0 Tryd.underlying83 Tryd.underlying52 gC52 gC83 h0
  have h1 := laidMet.tail h0
  have t2 : Lib.TabIs Tryd.prog W "smithy/keccak.turns" .i64 tbl_keccak_turns := Lib.tabIs_of_head gN2 gT2 Tryd.underlying138 Tryd.underlying3 gC3 gC138 h1
  have h2 := laidMet.tail h1
  have t1 : Lib.TabIs Tryd.prog W "smithy/keccak.places" .i64 tbl_keccak_places := Lib.tabIs_of_head gN1 gT1 Tryd.underlying138 Tryd.underlying3 gC3 gC138 h2
  exact ⟨froTab (fun i hi => t0.cell gN0 i hi) (by kernel_rfl), froTab (fun i hi => t1.cell gN1 i hi) (by kernel_rfl), froTab (fun i hi => t2.cell gN2 i hi) (by kernel_rfl)⟩
theorem O5 : Opens Tryd.prog 5 (Ty.int .u8) Gd5 := opens_int Tryd.underlying5
theorem O26 : Opens Tryd.prog 26 (Ty.slice (Ty.int .u8)) Gd26 := opens_slice Tryd.underlying26 T5 O5
theorem contract (H : Type) (enc : TypeId × Value → H) (W : World) (base : Nat) (args : Array Value) (ds gs : List (DataW H)) (before : List MemPlace)
    (hval0 : ∀ (j : Nat) t v, Tryd.f6.params[j]? = some t → args[j]? = some v → Value.okWide Tryd.prog W .any base t v)
    (hW : DataW.Whole enc Tryd.prog Tryd.f6.params.toList Rows.abiDecodesSpec.vars false W args.toList ds gs before) (hL : laidMetH Tryd.prog Rows.abiDecodesRow.laid W) :
    Calls Tryd.prog 6 args W fun e W' => ∃ v, e = .returned v ∧ Rows.abiDecodesSpec.post enc Tryd.prog Tryd.f6 false true false false W args v W' := by
  have hval : ∀ (j : Nat) t v, Tryd.f6.params[j]? = some t → args[j]? = some v → Value.okWide Tryd.prog W .any base t v := hval0
  have hW' := hW
  obtain ⟨p, q, hA0, hV, rfl, hfz, hnd⟩ := hW
  have hA : DataW.TrodAll enc Tryd.prog W 0 (fun _ => true) true Tryd.f6.params.toList args.toList ds p := hA0
  rw [Tryd.params6] at hA hval
  obtain ⟨v0, vs0, d0, ds0, p0, q0, hargs, rfl, rfl, h0, r0⟩ := trodAll_cons hA
  obtain ⟨v1, vs1, d1, ds1, p1, q1, rfl, rfl, rfl, h1, r1⟩ := trodAll_cons r0
  obtain ⟨rfl, rfl, rfl⟩ := trodAll_nil r1
  obtain rfl : args = #[v0, v1] := by cases args; simp_all
  obtain ⟨rfl, rfl⟩ := trodVars_none hV
  obtain ⟨a0, rfl, w0⟩ := o_str Tryd.underlying9 (hval 0 9 v0 rfl rfl) h0
  obtain ⟨a1, c1, rfl, k1, w1⟩ := o_sl Tryd.underlying26 O26 (hval 1 26 v1 rfl rfl) h1
  clear hA0 hval0
  obtain ⟨k, hk⟩ := fa3_true a0 a1 w0 w1
  refine (fa3_.ok k a0 a1 c1.1 c1.2 true hk (memOf W) W (tabs hL) ⟨rfl, k1, trivial⟩ (Pre.nil (Frz.all W))).mono fun e W' hx => ?_
  obtain ⟨_, he, hb⟩ := hx.ret
  subst he
  exact ⟨_, rfl, law_post hW' rfl laid (by kernel_rfl) rfl Tryd.underlying4 rfl rfl rfl hb⟩
noncomputable def laidWorld (os : Os) : World :=
  { World.holding Tryd.prog os ⟨#[], #[], []⟩ with heap := ((((World.holding Tryd.prog os ⟨#[], #[], []⟩).heap.modify 0 fun | .cells _ t frozen => .cells #[.int .u64 1, .int .u64 32898, .int .u64 9223372036854808714, .int .u64 9223372039002292224, .int .u64 32907, .int .u64 2147483649, .int .u64 9223372039002292353, .int .u64 9223372036854808585, .int .u64 138, .int .u64 136, .int .u64 2147516425, .int .u64 2147483658, .int .u64 2147516555, .int .u64 9223372036854775947, .int .u64 9223372036854808713, .int .u64 9223372036854808579, .int .u64 9223372036854808578, .int .u64 9223372036854775936, .int .u64 32778, .int .u64 9223372039002259466, .int .u64 9223372039002292353, .int .u64 9223372036854808704, .int .u64 2147483649, .int .u64 9223372039002292232] t frozen | o => o).modify 1 fun | .cells _ t frozen => .cells #[.int .i64 10, .int .i64 7, .int .i64 11, .int .i64 17, .int .i64 18, .int .i64 3, .int .i64 5, .int .i64 16, .int .i64 8, .int .i64 21, .int .i64 24, .int .i64 4, .int .i64 15, .int .i64 23, .int .i64 19, .int .i64 13, .int .i64 12, .int .i64 2, .int .i64 20, .int .i64 14, .int .i64 22, .int .i64 9, .int .i64 6, .int .i64 1] t frozen | o => o).modify 2 fun | .cells _ t frozen => .cells #[.int .i64 1, .int .i64 3, .int .i64 6, .int .i64 10, .int .i64 15, .int .i64 21, .int .i64 28, .int .i64 36, .int .i64 45, .int .i64 55, .int .i64 2, .int .i64 14, .int .i64 27, .int .i64 41, .int .i64 56, .int .i64 8, .int .i64 25, .int .i64 43, .int .i64 62, .int .i64 18, .int .i64 39, .int .i64 61, .int .i64 20, .int .i64 44] t frozen | o => o) }
theorem laid_met (os : Os) : laidMet Tryd.prog Rows.abiDecodesRow.laid ((laidWorld os).forCall (fun _ _ => 0) ⟨#[], #[.string .empty, .slice none 0 0], []⟩).memory :=
  laidMet_of_run' 8 (by kernel_rfl) (by kernel_rfl)
theorem reads (os : Os) {H : Type} (enc : TypeId × Value → H) : ∃ places, DataW.whole enc Tryd.prog ((laidWorld os).forCall (fun _ _ => 0) ⟨#[], #[.string .empty, .slice none 0 0], []⟩).memory Tryd.f6.params.toList Rows.abiDecodesSpec.vars false (#[.string .empty, .slice none 0 0] : Array Value).toList 8 = some ([.lit (.string []), .nil], [], places) :=
  ⟨[], by kernel_rfl⟩
set_option maxRecDepth 100000 in
theorem lifted (os : Os) (started : os.Started) (H : Type) (enc : TypeId × Value → H) (F : Stop.Interp) :
    ReturnsInHanded {} Tryd.checked os 6 .any ((OpenSpec.ofChange Rows.abiDecodesSpec).preRow enc Tryd.prog Tryd.f6 Rows.abiDecodesRow.domain false Rows.abiDecodesRow.laid) (((OpenSpec.ofChange Rows.abiDecodesSpec).at F).post enc Tryd.prog Tryd.f6 false true false false) := by
  obtain ⟨places, hx⟩ := reads os enc
  refine returnsInHanded_of_row (C := Tryd.checked) (s := OpenSpec.ofChange Rows.abiDecodesSpec) own started (by kernel_rfl) Tryd.func6
    (witness_row_at (enc := enc) (C := Tryd.checked) false (laidWorld os) #[.string .empty, .slice none 0 0] rfl (by kernel_rfl) (by kernel_rfl) (by kernel_rfl)
      (OpenSpec.preRow_of_cond 8 hx (by kernel_rfl) (fun k hk => by cases hk) (by kernel_rfl) (laid_met os))) ?_
  intro W base args ds gs before hval hW _ _ _ hL _ _
  exact contract H enc W base args ds gs before hval hW hL
theorem said : Rows.AbiDecodesSaid :=
  OpenClaim.holds_of_cond 6 Tryd.f6 rfl rfl rfl rfl rfl rfl rfl ⟨rfl, rfl, rfl, rfl, rfl⟩ rfl rfl rfl rfl rfl (by kernel_rfl) Tryd.func6 (by kernel_rfl)
    (of_decide_eq_true (by kernel_rfl)) (by unfold Func.isWrapper; first | (rw [if_pos (by decide +kernel)]; kernel_rfl) | (rw [if_neg (by decide +kernel)]; exact ⟨rfl, rfl⟩))
    (fun os started H enc _ F => by rw [OpenClaim.pre_eq_preRow]; exact lifted os started H enc F)
theorem plain (f : FuncId) (fn : Func) (hf : Tryd.pinned.checked.prog.funcNamed "smithy/smithylaw28.AbiDecodes" = some f) (hfn : Tryd.pinned.checked.prog.funcs[f]? = some fn) :
    false = Tryd.pinned.checked.prog.looks [] ∧ ∀ (j : Nat) t, fn.params[j]? = some t → Tryd.pinned.checked.prog.wantsStandIn t = false := by
  obtain rfl : f = 6 := Option.some.inj ((show Tryd.prog.funcNamed "smithy/smithylaw28.AbiDecodes" = some 6 by kernel_rfl).symm.trans hf) |>.symm
  obtain rfl : fn = Tryd.f6 := (Option.some.inj (Tryd.func6.symm.trans hfn)).symm
  refine ⟨by kernel_rfl, fun j t ht => ?_⟩
  rw [Tryd.params6] at ht
  have hm := Array.mem_of_getElem? ht
  simp only [List.mem_toArray, List.mem_cons, List.not_mem_nil, or_false] at hm
  rcases hm with rfl | rfl
  · exact (show Tryd.prog.wantsStandIn 9 = false by kernel_rfl)
  · exact (show Tryd.prog.wantsStandIn 26 = false by kernel_rfl)
theorem proved : Rows.AbiDecodesCardSaid :=
  Claim7.holds_tied_plain_at .later [] _ _ _ _ said (fun _ h => by cases h) (by kernel_rfl) (fun _ h => by cases h) abiDecodes_row_tie rfl ⟨rfl, rfl⟩ (by kernel_rfl) rfl plain (by kernel_rfl)
#print axioms proved
end Go.Proofs.YtjgdpkmbnooemaaDoor.abiDecodes
