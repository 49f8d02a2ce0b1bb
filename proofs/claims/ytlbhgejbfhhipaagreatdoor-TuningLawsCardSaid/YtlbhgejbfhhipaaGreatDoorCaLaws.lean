/-
For every plan of a tuning and every two intervals the law schismalaw24.TuningLaws returns true and leaves its arguments as they were: the tempered size of the sum is the sum of both, and a comma has the size 0. The listed variables of strconv and math/bits hold what the program's text lays.
-/
import Derived.Test.YtlbhgejbfhhipaaGreatDoorB06
import Derived.Test.YtlbhgejbfhhipaaGreatDoorCb9
namespace Go.Proofs.YtlbhgejbfhhipaaGreatDoor
open Go Go.Am Go.Lib Go.Sp Z1 Z2 Z3 Z4 Z5 Z6
open Go.ChangeShapes Go.WideShapes Go.ChangeAt Go.RowKit
namespace lawsLaw
set_option maxRecDepth 100000 in
theorem contract (H : Type) (enc : TypeId × Value → H) (W : World) (base : Nat) (args : Array Value) (ds gs : List (DataW H)) (before : List MemPlace)
    (hval : ∀ (j : Nat) t v, Tryz.f9.params[j]? = some t → args[j]? = some v → Value.okWide Tryz.prog W .any base t v)
    (hW : DataW.Whole enc Tryz.prog Tryz.f9.params.toList Rows.tuningLawsSpec.vars false W args.toList ds gs before) (hL : laidMetH Tryz.prog laidL W) (hS : W.ShapedOpen Tryz.prog) :
    Calls Tryz.prog 9 args W fun e W' => ∃ v, e = .returned v ∧ Rows.tuningLawsSpec.post enc Tryz.prog Tryz.f9 false true false false W args v W' := by
  have hW' := hW
  obtain ⟨p, q, hA0, hV, rfl, _, _⟩ := hW
  have hA : DataW.TrodAll enc Tryz.prog W 0 (fun _ => true) true Tryz.f9.params.toList args.toList ds p := hA0
  rw [Tryz.params9] at hA hval
  obtain ⟨v0, v1, v2, d0, d1, d2, p0, p1, p2, rfl, rfl, rfl, h0, h1, h2⟩ := trodAll_three hA
  obtain ⟨Q0, hQ0, V0⟩ := arg_plan (hval 0 32 v0 rfl rfl) h0
  obtain ⟨L1, hL1, V1⟩ := arg_r4 (hval 1 92 v1 rfl rfl) h1
  obtain ⟨L2, hL2, V2⟩ := arg_r4 (hval 2 92 v2 rfl rfl) h2
  refine (law_calls (laws_ok Q0 hQ0 L1 L2 hL1 hL2) hL hS (Vl.cons V0 (Vl.cons V1 (Vl.one V2)))).mono fun e W' ⟨he, hF⟩ => ?_
  exact ⟨_, he, law_done rfl rfl rfl (by rw [Tryz.params9]; intro t ht; simp at ht; rcases ht with rfl | rfl <;> exact ⟨by kernel_rfl, of_decide_eq_true (by kernel_rfl)⟩) hW' rfl hF⟩
noncomputable def wargs : Array Value := #[.agg (#[.int .u8 0, .slice none 0 0, .bool false] ++ ((List.range 16).flatMap fun _ => [Value.int .i8 0, Value.int .u8 0]).toArray), .agg (List.replicate 4 (Value.int .i8 0)).toArray, .agg (List.replicate 4 (Value.int .i8 0)).toArray]
set_option maxRecDepth 100000 in
theorem witness_row (os : Os) {H : Type} (enc : TypeId × Value → H) :
    (OpenSpec.ofChange Rows.tuningLawsSpec).preRow enc Tryz.prog Tryz.f9 Rows.tuningLawsRow.domain false Rows.tuningLawsRow.laid ((laidWorld os).forCall (fun _ _ => 0) ⟨#[], wargs, []⟩).memory wargs := by
  have hw : (DataW.whole enc Tryz.prog ((laidWorld os).forCall (fun _ _ => 0) ⟨#[], wargs, []⟩).memory Tryz.f9.params.toList Rows.tuningLawsSpec.vars false wargs.toList 16).isSome = true := by kernel_rfl
  obtain ⟨⟨x1, x2, x3⟩, hx⟩ := Option.isSome_iff_exists.1 hw
  exact OpenSpec.preRow_of_cond 16 hx (by kernel_rfl) (fun k hk => by cases hk) (by kernel_rfl) (laid_met os _)
set_option maxRecDepth 100000 in
set_option maxHeartbeats 2000000 in
theorem lifted (os : Os) (started : os.Started) (H : Type) (enc : TypeId × Value → H) (F : Stop.Interp) :
    ReturnsInHanded {} Tryz.checked os 9 .any ((OpenSpec.ofChange Rows.tuningLawsSpec).preRow enc Tryz.prog Tryz.f9 Rows.tuningLawsRow.domain false Rows.tuningLawsRow.laid) (((OpenSpec.ofChange Rows.tuningLawsSpec).at F).post enc Tryz.prog Tryz.f9 false true false false) := by
  refine returnsInHanded_of_row (C := Tryz.checked) (s := OpenSpec.ofChange Rows.tuningLawsSpec) ownK started (by kernel_rfl) Tryz.func9
    (witness_row_atRef (enc := enc) (C := Tryz.checked) false (laidWorld os) wargs rfl (by kernel_rfl) (by kernel_rfl) (by kernel_rfl) (witness_row os enc)) ?_
  intro W base args ds gs before hval hW _ _ _ hL hS _
  exact contract H enc W base args ds gs before hval hW hL hS
theorem named : Tryz.pinned.checked.prog.funcNamed "schisma/schismalaw24.TuningLaws" = some 9 := by kernel_rfl
theorem noInst : Tryz.f9.isInstance Tryz.pinned.checked.prog Rows.tuningLawsRow.origin Rows.tuningLawsRow.targs := of_decide_eq_true (by kernel_rfl)
theorem noWrap : Tryz.f9.isWrapper Tryz.pinned.checked.prog Rows.tuningLawsRow.wrapper Rows.tuningLawsRow.mainSum := by
  unfold Func.isWrapper; rw [if_neg (of_decide_eq_false (by kernel_rfl))]; exact ⟨rfl, rfl⟩
theorem given (os : Os) (started : os.Started) (H : Type) (enc : TypeId × Value → H) (F : Stop.Interp) : ReturnsInHanded Rows.tuningLawsRow.assume Tryz.pinned.checked os 9 .any (Rows.tuningLawsRow.pre enc Tryz.pinned.checked.prog Tryz.f9 (OpenSpec.ofChange Rows.tuningLawsSpec)) (((OpenSpec.ofChange Rows.tuningLawsSpec).at F).post enc Tryz.pinned.checked.prog Tryz.f9 Rows.tuningLawsRow.apart Rows.tuningLawsRow.fresh Rows.tuningLawsRow.handsOn Rows.tuningLawsRow.again) := by
  rw [OpenClaim.pre_eq_preRow]
  exact lifted os started H enc F
theorem said : Rows.TuningLawsSaid :=
  OpenClaim.holds_of_cond 9 Tryz.f9 rfl rfl rfl rfl rfl rfl rfl ⟨rfl, rfl, rfl, rfl, rfl⟩ rfl rfl rfl rfl rfl named Tryz.func9 closed noInst noWrap (fun os started H enc _ F => given os started H enc F)
theorem plain (f : FuncId) (fn : Func) (hf : Tryz.pinned.checked.prog.funcNamed "schisma/schismalaw24.TuningLaws" = some f) (hfn : Tryz.pinned.checked.prog.funcs[f]? = some fn) :
    true = Tryz.pinned.checked.prog.looks [] ∧ ∀ (j : Nat) t, fn.params[j]? = some t → Tryz.pinned.checked.prog.wantsStandIn t = false := by
  obtain rfl : f = 9 := Option.some.inj ((show Tryz.prog.funcNamed "schisma/schismalaw24.TuningLaws" = some 9 by kernel_rfl).symm.trans hf) |>.symm
  obtain rfl : fn = Tryz.f9 := (Option.some.inj (Tryz.func9.symm.trans hfn)).symm
  refine ⟨by kernel_rfl, fun j t ht => ?_⟩
  rw [Tryz.params9] at ht
  have hm := Array.mem_of_getElem? ht
  simp at hm
  rcases hm with rfl | rfl
  · exact (show Tryz.prog.wantsStandIn 32 = false by kernel_rfl)
  · exact (show Tryz.prog.wantsStandIn 92 = false by kernel_rfl)
end lawsLaw
/-- For every plan of a tuning and every two intervals the law schismalaw24.TuningLaws returns true and leaves its arguments as they were: the tempered size of the sum is the sum of both, and a comma has the size 0. -/
theorem tuningLaws_card : Rows.TuningLawsCardSaid :=
  Claim7.holds_tied_plain_at .later [] _ _ _ _ lawsLaw.said (fun _ h => by cases h) (by kernel_rfl) (fun _ h => by cases h) tuningLaws_row_tie rfl ⟨rfl, rfl⟩ (by kernel_rfl) rfl lawsLaw.plain (by kernel_rfl)
#print axioms tuningLaws_card
end Go.Proofs.YtlbhgejbfhhipaaGreatDoor
