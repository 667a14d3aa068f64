/-
  The law 'BloomFinds', its tied card: for every input it says true, and what it was handed reads as it did. Its walk is printed; what it says of plain Lean values is proved in the text beside this one. Conditions: none beside those that the given card bears.
-/
import Derived.Test.YtkohappfcfimmaaDoorCards
import Derived.Test.YtkohappfcfimmaaDoorTie
import Derived.Test.YtkohappfcfimmaaDoorGWRows
import Derived.Test.YtkohappfcfimmaaDoorPureBloomFinds
import Derived.WalkKit
import Derived.ProofKit
import Derived.OpenShut
import Derived.Deep.DeepHandedRow
import Derived.Lib.LaidTab
import Derived.Stop.LaidErr
namespace Go.Proofs.YtkohappfcfimmaaDoor.bloomFinds
open GW Go.ChangeShapes Go.WideShapes Go.ChangeAt Go.RowKit
set_option linter.unusedVariables false
set_option maxRecDepth 100000
theorem own : ownKnob Tryd.prog.godebug = none := by kernel_rfl
theorem laid : laidOutB Tryd.prog = true := by kernel_rfl
theorem gN0 : Tryd.prog.globalNamed "smithy/keccak.constants" = some 0 := by kernel_rfl
theorem gT0 : (Tryd.prog.globals[0]?).map (·.type) = some 85 := by kernel_rfl
theorem gC85 : Tryd.prog.cellsOf 85 = 24 := by kernel_rfl
theorem gC51 : Tryd.prog.cellsOf 51 = 1 := by kernel_rfl
theorem gN1 : Tryd.prog.globalNamed "smithy/keccak.places" = some 1 := by kernel_rfl
theorem gT1 : (Tryd.prog.globals[1]?).map (·.type) = some 91 := by kernel_rfl
theorem gC91 : Tryd.prog.cellsOf 91 = 24 := by kernel_rfl
theorem gC3 : Tryd.prog.cellsOf 3 = 1 := by kernel_rfl
theorem gN2 : Tryd.prog.globalNamed "smithy/keccak.turns" = some 2 := by kernel_rfl
theorem gT2 : (Tryd.prog.globals[2]?).map (·.type) = some 91 := by kernel_rfl
/-- What the card's list gives: the tables' cells. -/
theorem tabs {W : World} (h : laidMetH Tryd.prog Rows.bloomFindsRow.laid W) : Glob (memOf W) := by
  have h0 : laidMet Tryd.prog Rows.bloomFindsRow.laid W := h
  have t0 : Lib.TabIs Tryd.prog W "smithy/keccak.constants" .u64 tbl_keccak_constants := Lib.tabIs_of_head gN0 gT0 Tryd.underlying85 Tryd.underlying51 gC51 gC85 h0
  have h1 := laidMet.tail h0
  have t2 : Lib.TabIs Tryd.prog W "smithy/keccak.turns" .i64 tbl_keccak_turns := Lib.tabIs_of_head gN2 gT2 Tryd.underlying91 Tryd.underlying3 gC3 gC91 h1
  have h2 := laidMet.tail h1
  have t1 : Lib.TabIs Tryd.prog W "smithy/keccak.places" .i64 tbl_keccak_places := Lib.tabIs_of_head gN1 gT1 Tryd.underlying91 Tryd.underlying3 gC3 gC91 h2
  exact ⟨froTab (fun i hi => t0.cell gN0 i hi) (by kernel_rfl), froTab (fun i hi => t1.cell gN1 i hi) (by kernel_rfl), froTab (fun i hi => t2.cell gN2 i hi) (by kernel_rfl)⟩
theorem O50 : Opens Tryd.prog 50 (Ty.arr .u8 32) Gd50 := opens_arr Tryd.underlying50 Tryd.underlying5 T5 T50
theorem O51 : Opens Tryd.prog 51 (Ty.int .u64) Gd51 := opens_int Tryd.underlying51
theorem O53 : Opens Tryd.prog 53 (Ty.arr .u64 4) Gd53 := opens_arr Tryd.underlying53 Tryd.underlying51 T51 T53
theorem O34 : Opens Tryd.prog 34 (Ty.arr .u8 20) Gd34 := opens_arr Tryd.underlying34 Tryd.underlying5 T5 T34
theorem O55 : Opens Tryd.prog 55 Y55 Gd55 := opens_struct Tryd.underlying55 T55 rfl (opensF_cons T50 O50 rfl (opensF_cons T51 O51 rfl (opensF_cons T51 O51 rfl (opensF_cons T51 O51 rfl (opensF_cons T51 O51 rfl (opensF_cons T53 O53 rfl (opensF_cons T34 O34 rfl (opensF_cons T53 O53 rfl (opensF_cons T50 O50 rfl (opensF_one T50 O50))))))))))
theorem O56 : Opens Tryd.prog 56 (Ty.slice (Ty.arr .u8 32)) Gd56 := opens_slice Tryd.underlying56 T50 O50
theorem O4 : Opens Tryd.prog 4 Ty.bool Gd4 := opens_bool Tryd.underlying4
theorem O35 : Opens Tryd.prog 35 (Ty.slice (Ty.arr .u64 4)) Gd35 := opens_slice Tryd.underlying35 T53 O53
theorem O5 : Opens Tryd.prog 5 (Ty.int .u8) Gd5 := opens_int Tryd.underlying5
theorem O36 : Opens Tryd.prog 36 (Ty.slice (Ty.int .u8)) Gd36 := opens_slice Tryd.underlying36 T5 O5
theorem O38 : Opens Tryd.prog 38 Y38 Gd38 := opens_struct Tryd.underlying38 T38 rfl (opensF_cons T34 O34 rfl (opensF_cons T35 O35 rfl (opensF_one T36 O36)))
theorem O22 : Opens Tryd.prog 22 (Ty.slice Y38) Gd22 := opens_slice Tryd.underlying22 T38 O38
theorem O61 : Opens Tryd.prog 61 Y61 Gd61 := opens_struct Tryd.underlying61 T61 rfl (opensF_cons T34 O34 rfl (opensF_cons T51 O51 rfl (opensF_cons T4 O4 rfl (opensF_cons T51 O51 rfl (opensF_cons T53 O53 rfl (opensF_cons T34 O34 rfl (opensF_cons T22 O22 rfl (opensF_one T36 O36))))))))
theorem O57 : Opens Tryd.prog 57 (Ty.slice Y61) Gd57 := opens_slice Tryd.underlying57 T61 O61
theorem O59 : Opens Tryd.prog 59 Y59 Gd59 := opens_struct Tryd.underlying59 T59 rfl (opensF_cons T55 O55 rfl (opensF_cons T50 O50 rfl (opensF_cons T56 O56 rfl (opensF_one T57 O57))))
theorem O48 : Opens Tryd.prog 48 (Ty.slice Y59) Gd48 := opens_slice Tryd.underlying48 T59 O59
theorem contract (H : Type) (enc : TypeId × Value → H) (W : World) (base : Nat) (args : Array Value) (ds gs : List (DataW H)) (before : List MemPlace)
    (hval0 : ∀ (j : Nat) t v, Tryd.f6.params[j]? = some t → args[j]? = some v → Value.okWide Tryd.prog W .any base t v)
    (hW : DataW.Whole enc Tryd.prog Tryd.f6.params.toList Rows.bloomFindsSpec.vars false W args.toList ds gs before) (hL : laidMetH Tryd.prog Rows.bloomFindsRow.laid W) :
    Calls Tryd.prog 6 args W fun e W' => ∃ v, e = .returned v ∧ Rows.bloomFindsSpec.post enc Tryd.prog Tryd.f6 false true false false W args v W' := by
  have hval : ∀ (j : Nat) t v, Tryd.f6.params[j]? = some t → args[j]? = some v → Value.okWide Tryd.prog W .any base t v := hval0
  have hW' := hW
  obtain ⟨p, q, hA0, hV, rfl, hfz, hnd⟩ := hW
  have hA : DataW.TrodAll enc Tryd.prog W 0 (fun _ => true) true Tryd.f6.params.toList args.toList ds p := hA0
  rw [Tryd.params6] at hA hval
  obtain ⟨v0, vs0, d0, ds0, p0, q0, hargs, rfl, rfl, h0, r0⟩ := trodAll_cons hA
  obtain ⟨v1, vs1, d1, ds1, p1, q1, rfl, rfl, rfl, h1, r1⟩ := trodAll_cons r0
  obtain ⟨v2, vs2, d2, ds2, p2, q2, rfl, rfl, rfl, h2, r2⟩ := trodAll_cons r1
  obtain ⟨rfl, rfl, rfl⟩ := trodAll_nil r2
  obtain rfl : args = #[v0, v1, v2] := by cases args; simp_all
  obtain ⟨rfl, rfl⟩ := trodVars_none hV
  obtain ⟨a0, c0, rfl, k0, w0⟩ := o_sl Tryd.underlying48 O48 (hval 0 48 v0 rfl rfl) h0
  obtain ⟨a1, rfl, l1, w1⟩ := o_arr Tryd.underlying34 Tryd.underlying5 T5 T34 (hval 1 34 v1 rfl rfl) h1
  obtain ⟨a2, c2, rfl, k2, w2⟩ := o_sl Tryd.underlying35 O35 (hval 2 35 v2 rfl rfl) h2
  clear hA0 hval0
  obtain ⟨k, hk⟩ := smithylaw29_BloomFinds_true a0 a1 a2 w0 l1 w1 w2
  refine (smithylaw29_BloomFinds.ok k a0 a1 a2 c0.1 c0.2 c2.1 c2.2 true hk (memOf W) W (tabs hL) ⟨k0, ⟨l1, trivial⟩, k2, trivial⟩ (Pre.nil (Frz.all W))).mono fun e W' hx => ?_
  obtain ⟨_, he, hb⟩ := hx.ret
  subst he
  exact ⟨_, rfl, law_post hW' rfl laid (by kernel_rfl) rfl Tryd.underlying4 rfl rfl rfl hb⟩
noncomputable def laidWorld (os : Os) : World :=
  { World.holding Tryd.prog os ⟨#[], #[], []⟩ with heap := ((((World.holding Tryd.prog os ⟨#[], #[], []⟩).heap.modify 0 fun | .cells _ t frozen => .cells #[.int .u64 1, .int .u64 32898, .int .u64 9223372036854808714, .int .u64 9223372039002292224, .int .u64 32907, .int .u64 2147483649, .int .u64 9223372039002292353, .int .u64 9223372036854808585, .int .u64 138, .int .u64 136, .int .u64 2147516425, .int .u64 2147483658, .int .u64 2147516555, .int .u64 9223372036854775947, .int .u64 9223372036854808713, .int .u64 9223372036854808579, .int .u64 9223372036854808578, .int .u64 9223372036854775936, .int .u64 32778, .int .u64 9223372039002259466, .int .u64 9223372039002292353, .int .u64 9223372036854808704, .int .u64 2147483649, .int .u64 9223372039002292232] t frozen | o => o).modify 1 fun | .cells _ t frozen => .cells #[.int .i64 10, .int .i64 7, .int .i64 11, .int .i64 17, .int .i64 18, .int .i64 3, .int .i64 5, .int .i64 16, .int .i64 8, .int .i64 21, .int .i64 24, .int .i64 4, .int .i64 15, .int .i64 23, .int .i64 19, .int .i64 13, .int .i64 12, .int .i64 2, .int .i64 20, .int .i64 14, .int .i64 22, .int .i64 9, .int .i64 6, .int .i64 1] t frozen | o => o).modify 2 fun | .cells _ t frozen => .cells #[.int .i64 1, .int .i64 3, .int .i64 6, .int .i64 10, .int .i64 15, .int .i64 21, .int .i64 28, .int .i64 36, .int .i64 45, .int .i64 55, .int .i64 2, .int .i64 14, .int .i64 27, .int .i64 41, .int .i64 56, .int .i64 8, .int .i64 25, .int .i64 43, .int .i64 62, .int .i64 18, .int .i64 39, .int .i64 61, .int .i64 20, .int .i64 44] t frozen | o => o) }
theorem laid_met (os : Os) : laidMet Tryd.prog Rows.bloomFindsRow.laid ((laidWorld os).forCall (fun _ _ => 0) ⟨#[], #[.slice none 0 0, .agg #[.int .u8 0, .int .u8 0, .int .u8 0, .int .u8 0, .int .u8 0, .int .u8 0, .int .u8 0, .int .u8 0, .int .u8 0, .int .u8 0, .int .u8 0, .int .u8 0, .int .u8 0, .int .u8 0, .int .u8 0, .int .u8 0, .int .u8 0, .int .u8 0, .int .u8 0, .int .u8 0], .slice none 0 0], []⟩).memory :=
  laidMet_of_run' 8 (by kernel_rfl) (by kernel_rfl)
theorem reads (os : Os) {H : Type} (enc : TypeId × Value → H) : ∃ places, DataW.whole enc Tryd.prog ((laidWorld os).forCall (fun _ _ => 0) ⟨#[], #[.slice none 0 0, .agg #[.int .u8 0, .int .u8 0, .int .u8 0, .int .u8 0, .int .u8 0, .int .u8 0, .int .u8 0, .int .u8 0, .int .u8 0, .int .u8 0, .int .u8 0, .int .u8 0, .int .u8 0, .int .u8 0, .int .u8 0, .int .u8 0, .int .u8 0, .int .u8 0, .int .u8 0, .int .u8 0], .slice none 0 0], []⟩).memory Tryd.f6.params.toList Rows.bloomFindsSpec.vars false (#[.slice none 0 0, .agg #[.int .u8 0, .int .u8 0, .int .u8 0, .int .u8 0, .int .u8 0, .int .u8 0, .int .u8 0, .int .u8 0, .int .u8 0, .int .u8 0, .int .u8 0, .int .u8 0, .int .u8 0, .int .u8 0, .int .u8 0, .int .u8 0, .int .u8 0, .int .u8 0, .int .u8 0, .int .u8 0], .slice none 0 0] : Array Value).toList 8 = some ([.nil, .agg [.lit (.int .u8 0), .lit (.int .u8 0), .lit (.int .u8 0), .lit (.int .u8 0), .lit (.int .u8 0), .lit (.int .u8 0), .lit (.int .u8 0), .lit (.int .u8 0), .lit (.int .u8 0), .lit (.int .u8 0), .lit (.int .u8 0), .lit (.int .u8 0), .lit (.int .u8 0), .lit (.int .u8 0), .lit (.int .u8 0), .lit (.int .u8 0), .lit (.int .u8 0), .lit (.int .u8 0), .lit (.int .u8 0), .lit (.int .u8 0)], .nil], [], places) :=
  ⟨[], by kernel_rfl⟩
set_option maxRecDepth 100000 in
theorem lifted (os : Os) (started : os.Started) (H : Type) (enc : TypeId × Value → H) (F : Stop.Interp) :
    ReturnsInHanded {} Tryd.checked os 6 .any ((OpenSpec.ofChange Rows.bloomFindsSpec).preRow enc Tryd.prog Tryd.f6 Rows.bloomFindsRow.domain false Rows.bloomFindsRow.laid) (((OpenSpec.ofChange Rows.bloomFindsSpec).at F).post enc Tryd.prog Tryd.f6 false true false false) := by
  obtain ⟨places, hx⟩ := reads os enc
  refine returnsInHanded_of_row (C := Tryd.checked) (s := OpenSpec.ofChange Rows.bloomFindsSpec) own started (by kernel_rfl) Tryd.func6
    (witness_row_at (enc := enc) (C := Tryd.checked) false (laidWorld os) #[.slice none 0 0, .agg #[.int .u8 0, .int .u8 0, .int .u8 0, .int .u8 0, .int .u8 0, .int .u8 0, .int .u8 0, .int .u8 0, .int .u8 0, .int .u8 0, .int .u8 0, .int .u8 0, .int .u8 0, .int .u8 0, .int .u8 0, .int .u8 0, .int .u8 0, .int .u8 0, .int .u8 0, .int .u8 0], .slice none 0 0] rfl (by kernel_rfl) (by kernel_rfl) (by kernel_rfl)
      (OpenSpec.preRow_of_cond 8 hx (by kernel_rfl) (fun k hk => by cases hk) (by kernel_rfl) (laid_met os))) ?_
  intro W base args ds gs before hval hW _ _ _ hL _ _
  exact contract H enc W base args ds gs before hval hW hL
theorem said : Rows.BloomFindsSaid :=
  OpenClaim.holds_of_cond 6 Tryd.f6 rfl rfl rfl rfl rfl rfl rfl ⟨rfl, rfl, rfl, rfl, rfl⟩ rfl rfl rfl rfl rfl (by kernel_rfl) Tryd.func6 (by kernel_rfl)
    (of_decide_eq_true (by kernel_rfl)) (by unfold Func.isWrapper; first | (rw [if_pos (by decide +kernel)]; kernel_rfl) | (rw [if_neg (by decide +kernel)]; exact ⟨rfl, rfl⟩))
    (fun os started H enc _ F => by rw [OpenClaim.pre_eq_preRow]; exact lifted os started H enc F)
theorem plain (f : FuncId) (fn : Func) (hf : Tryd.pinned.checked.prog.funcNamed "smithy/smithylaw29.BloomFinds" = some f) (hfn : Tryd.pinned.checked.prog.funcs[f]? = some fn) :
    false = Tryd.pinned.checked.prog.looks [] ∧ ∀ (j : Nat) t, fn.params[j]? = some t → Tryd.pinned.checked.prog.wantsStandIn t = false := by
  obtain rfl : f = 6 := Option.some.inj ((show Tryd.prog.funcNamed "smithy/smithylaw29.BloomFinds" = some 6 by kernel_rfl).symm.trans hf) |>.symm
  obtain rfl : fn = Tryd.f6 := (Option.some.inj (Tryd.func6.symm.trans hfn)).symm
  refine ⟨by kernel_rfl, fun j t ht => ?_⟩
  rw [Tryd.params6] at ht
  have hm := Array.mem_of_getElem? ht
  simp only [List.mem_toArray, List.mem_cons, List.not_mem_nil, or_false] at hm
  rcases hm with rfl | rfl | rfl
  · exact (show Tryd.prog.wantsStandIn 48 = false by kernel_rfl)
  · exact (show Tryd.prog.wantsStandIn 34 = false by kernel_rfl)
  · exact (show Tryd.prog.wantsStandIn 35 = false by kernel_rfl)
theorem proved : Rows.BloomFindsCardSaid :=
  Claim7.holds_tied_plain_at .later [] _ _ _ _ said (fun _ h => by cases h) (by kernel_rfl) (fun _ h => by cases h) bloomFinds_row_tie rfl ⟨rfl, rfl⟩ (by kernel_rfl) rfl plain (by kernel_rfl)
#print axioms proved
end Go.Proofs.YtkohappfcfimmaaDoor.bloomFinds
