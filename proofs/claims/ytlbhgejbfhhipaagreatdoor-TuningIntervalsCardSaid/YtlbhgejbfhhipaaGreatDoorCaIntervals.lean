/-
For every plan of a tuning and every row the law schismalaw24.TuningIntervals returns true and leaves its arguments as they were: tuning.Of returns the tempered size and tuning.Error the error of an interval, or the first error. The listed variables of strconv and math/bits hold what the program's text lays.
-/
import Derived.Test.YtlbhgejbfhhipaaGreatDoorB06
namespace Go.Proofs.YtlbhgejbfhhipaaGreatDoor
open Go Go.Am Go.Lib Go.Sp Z1 Z2 Z3 Z4 Z5 Z6
open Go.ChangeShapes Go.WideShapes Go.ChangeAt Go.RowKit
namespace intervalsLaw
set_option maxRecDepth 100000 in
theorem contract (H : Type) (enc : TypeId × Value → H) (W : World) (base : Nat) (args : Array Value) (ds gs : List (DataW H)) (before : List MemPlace)
    (hval : ∀ (j : Nat) t v, Tryz.f3.params[j]? = some t → args[j]? = some v → Value.okWide Tryz.prog W .any base t v)
    (hW : DataW.Whole enc Tryz.prog Tryz.f3.params.toList Rows.tuningIntervalsSpec.vars false W args.toList ds gs before) (hL : laidMetH Tryz.prog laidL W) (hS : W.ShapedOpen Tryz.prog) :
    Calls Tryz.prog 3 args W fun e W' => ∃ v, e = .returned v ∧ Rows.tuningIntervalsSpec.post enc Tryz.prog Tryz.f3 false true false false W args v W' := by
  have hW' := hW
  obtain ⟨p, q, hA0, hV, rfl, _, _⟩ := hW
  have hA : DataW.TrodAll enc Tryz.prog W 0 (fun _ => true) true Tryz.f3.params.toList args.toList ds p := hA0
  rw [Tryz.params3] at hA hval
  obtain ⟨v0, v1, d0, d1, p0, p1, rfl, rfl, rfl, h0, h1⟩ := trodAll_two hA
  obtain ⟨Q, hQ, V0⟩ := arg_plan (hval 0 32 v0 rfl rfl) h0
  obtain ⟨X, ⟨hX1, hX2⟩, V1⟩ := arg_row (hval 1 34 v1 rfl rfl) h1
  refine (law_calls (intervals_ok Q hQ X hX1 hX2) hL hS (Vl.cons V0 (Vl.one V1))).mono fun e W' ⟨he, hF⟩ => ?_
  exact ⟨_, he, law_done rfl rfl rfl (by rw [Tryz.params3]; intro t ht; simp at ht; rcases ht with rfl | rfl <;> exact ⟨by kernel_rfl, of_decide_eq_true (by kernel_rfl)⟩) hW' rfl hF⟩
noncomputable def wargs : Array Value := #[.agg (#[.int .u8 0, .slice none 0 0, .bool false] ++ ((List.range 16).flatMap fun _ => [Value.int .i8 0, Value.int .u8 0]).toArray), .slice none 0 0]
set_option maxRecDepth 100000 in
theorem witness_row (os : Os) {H : Type} (enc : TypeId × Value → H) :
    (OpenSpec.ofChange Rows.tuningIntervalsSpec).preRow enc Tryz.prog Tryz.f3 Rows.tuningIntervalsRow.domain false Rows.tuningIntervalsRow.laid ((laidWorld os).forCall (fun _ _ => 0) ⟨#[], wargs, []⟩).memory wargs := by
  have hw : (DataW.whole enc Tryz.prog ((laidWorld os).forCall (fun _ _ => 0) ⟨#[], wargs, []⟩).memory Tryz.f3.params.toList Rows.tuningIntervalsSpec.vars false wargs.toList 16).isSome = true := by kernel_rfl
  obtain ⟨⟨x1, x2, x3⟩, hx⟩ := Option.isSome_iff_exists.1 hw
  exact OpenSpec.preRow_of_cond 16 hx (by kernel_rfl) (fun k hk => by cases hk) (by kernel_rfl) (laid_met os _)
set_option maxRecDepth 100000 in
set_option maxHeartbeats 2000000 in
theorem lifted (os : Os) (started : os.Started) (H : Type) (enc : TypeId × Value → H) (F : Stop.Interp) :
    ReturnsInHanded {} Tryz.checked os 3 .any ((OpenSpec.ofChange Rows.tuningIntervalsSpec).preRow enc Tryz.prog Tryz.f3 Rows.tuningIntervalsRow.domain false Rows.tuningIntervalsRow.laid) (((OpenSpec.ofChange Rows.tuningIntervalsSpec).at F).post enc Tryz.prog Tryz.f3 false true false false) := by
  refine returnsInHanded_of_row (C := Tryz.checked) (s := OpenSpec.ofChange Rows.tuningIntervalsSpec) ownK started (by kernel_rfl) Tryz.func3
    (witness_row_atRef (enc := enc) (C := Tryz.checked) false (laidWorld os) wargs rfl (by kernel_rfl) (by kernel_rfl) (by kernel_rfl) (witness_row os enc)) ?_
  intro W base args ds gs before hval hW _ _ _ hL hS _
  exact contract H enc W base args ds gs before hval hW hL hS
theorem named : Tryz.pinned.checked.prog.funcNamed "schisma/schismalaw24.TuningIntervals" = some 3 := by kernel_rfl
theorem closed : joinedFacts Tryz.pinned.checked.prog 3 Tryz.f3 (OpenSpec.ofChange Rows.tuningIntervalsSpec).bare Rows.tuningIntervalsRow = true := by kernel_rfl
theorem noInst : Tryz.f3.isInstance Tryz.pinned.checked.prog Rows.tuningIntervalsRow.origin Rows.tuningIntervalsRow.targs := of_decide_eq_true (by kernel_rfl)
theorem noWrap : Tryz.f3.isWrapper Tryz.pinned.checked.prog Rows.tuningIntervalsRow.wrapper Rows.tuningIntervalsRow.mainSum := by
  unfold Func.isWrapper; rw [if_neg (of_decide_eq_false (by kernel_rfl))]; exact ⟨rfl, rfl⟩
theorem given (os : Os) (started : os.Started) (H : Type) (enc : TypeId × Value → H) (F : Stop.Interp) : ReturnsInHanded Rows.tuningIntervalsRow.assume Tryz.pinned.checked os 3 .any (Rows.tuningIntervalsRow.pre enc Tryz.pinned.checked.prog Tryz.f3 (OpenSpec.ofChange Rows.tuningIntervalsSpec)) (((OpenSpec.ofChange Rows.tuningIntervalsSpec).at F).post enc Tryz.pinned.checked.prog Tryz.f3 Rows.tuningIntervalsRow.apart Rows.tuningIntervalsRow.fresh Rows.tuningIntervalsRow.handsOn Rows.tuningIntervalsRow.again) := by
  rw [OpenClaim.pre_eq_preRow]
  exact lifted os started H enc F
theorem said : Rows.TuningIntervalsSaid :=
  OpenClaim.holds_of_cond 3 Tryz.f3 rfl rfl rfl rfl rfl rfl rfl ⟨rfl, rfl, rfl, rfl, rfl⟩ rfl rfl rfl rfl rfl named Tryz.func3 closed noInst noWrap (fun os started H enc _ F => given os started H enc F)
theorem plain (f : FuncId) (fn : Func) (hf : Tryz.pinned.checked.prog.funcNamed "schisma/schismalaw24.TuningIntervals" = some f) (hfn : Tryz.pinned.checked.prog.funcs[f]? = some fn) :
    true = Tryz.pinned.checked.prog.looks [] ∧ ∀ (j : Nat) t, fn.params[j]? = some t → Tryz.pinned.checked.prog.wantsStandIn t = false := by
  obtain rfl : f = 3 := Option.some.inj ((show Tryz.prog.funcNamed "schisma/schismalaw24.TuningIntervals" = some 3 by kernel_rfl).symm.trans hf) |>.symm
  obtain rfl : fn = Tryz.f3 := (Option.some.inj (Tryz.func3.symm.trans hfn)).symm
  refine ⟨by kernel_rfl, fun j t ht => ?_⟩
  rw [Tryz.params3] at ht
  have hm := Array.mem_of_getElem? ht
  simp at hm
  rcases hm with rfl | rfl
  · exact (show Tryz.prog.wantsStandIn 32 = false by kernel_rfl)
  · exact (show Tryz.prog.wantsStandIn 34 = false by kernel_rfl)
end intervalsLaw
/-- For every plan of a tuning and every row: true. -/
theorem tuningIntervals_card : Rows.TuningIntervalsCardSaid :=
  Claim7.holds_tied_plain_at .later [] _ _ _ _ intervalsLaw.said (fun _ h => by cases h) (by kernel_rfl) (fun _ h => by cases h) tuningIntervals_row_tie rfl ⟨rfl, rfl⟩ (by kernel_rfl) rfl intervalsLaw.plain (by kernel_rfl)
#print axioms tuningIntervals_card
end Go.Proofs.YtlbhgejbfhhipaaGreatDoor
