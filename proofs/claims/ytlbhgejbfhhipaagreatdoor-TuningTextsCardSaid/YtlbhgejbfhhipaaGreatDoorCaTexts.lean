/-
For every two plans of tunings the law schismalaw24.TuningTexts returns true and leaves its arguments as they were: tuning.Text returns the text of the generators' sizes, and tuning.Equal compares tunings. The listed variables of strconv and math/bits hold what the program's text lays.
-/
import Derived.Test.YtlbhgejbfhhipaaGreatDoorB06
namespace Go.Proofs.YtlbhgejbfhhipaaGreatDoor
open Go Go.Am Go.Lib Go.Sp Z1 Z2 Z3 Z4 Z5 Z6
open Go.ChangeShapes Go.WideShapes Go.ChangeAt Go.RowKit
namespace textsLaw
set_option maxRecDepth 100000 in
theorem contract (H : Type) (enc : TypeId × Value → H) (W : World) (base : Nat) (args : Array Value) (ds gs : List (DataW H)) (before : List MemPlace)
    (hval : ∀ (j : Nat) t v, Tryz.f4.params[j]? = some t → args[j]? = some v → Value.okWide Tryz.prog W .any base t v)
    (hW : DataW.Whole enc Tryz.prog Tryz.f4.params.toList Rows.tuningTextsSpec.vars false W args.toList ds gs before) (hL : laidMetH Tryz.prog laidL W) (hS : W.ShapedOpen Tryz.prog) :
    Calls Tryz.prog 4 args W fun e W' => ∃ v, e = .returned v ∧ Rows.tuningTextsSpec.post enc Tryz.prog Tryz.f4 false true false false W args v W' := by
  have hW' := hW
  obtain ⟨p, q, hA0, hV, rfl, _, _⟩ := hW
  have hA : DataW.TrodAll enc Tryz.prog W 0 (fun _ => true) true Tryz.f4.params.toList args.toList ds p := hA0
  rw [Tryz.params4] at hA hval
  obtain ⟨v0, v1, d0, d1, p0, p1, rfl, rfl, rfl, h0, h1⟩ := trodAll_two hA
  obtain ⟨Q0, hQ0, V0⟩ := arg_plan (hval 0 32 v0 rfl rfl) h0
  obtain ⟨Q1, hQ1, V1⟩ := arg_plan (hval 1 32 v1 rfl rfl) h1
  refine (law_calls (texts_ok Q0 Q1 hQ0 hQ1) hL hS (Vl.cons V0 (Vl.one V1))).mono fun e W' ⟨he, hF⟩ => ?_
  exact ⟨_, he, law_done rfl rfl rfl (by rw [Tryz.params4]; intro t ht; simp at ht; subst ht; exact ⟨by kernel_rfl, of_decide_eq_true (by kernel_rfl)⟩) hW' rfl hF⟩
noncomputable def wargs : Array Value := #[.agg (#[.int .u8 0, .slice none 0 0, .bool false] ++ ((List.range 16).flatMap fun _ => [Value.int .i8 0, Value.int .u8 0]).toArray), .agg (#[.int .u8 0, .slice none 0 0, .bool false] ++ ((List.range 16).flatMap fun _ => [Value.int .i8 0, Value.int .u8 0]).toArray)]
set_option maxRecDepth 100000 in
theorem witness_row (os : Os) {H : Type} (enc : TypeId × Value → H) :
    (OpenSpec.ofChange Rows.tuningTextsSpec).preRow enc Tryz.prog Tryz.f4 Rows.tuningTextsRow.domain false Rows.tuningTextsRow.laid ((laidWorld os).forCall (fun _ _ => 0) ⟨#[], wargs, []⟩).memory wargs := by
  have hw : (DataW.whole enc Tryz.prog ((laidWorld os).forCall (fun _ _ => 0) ⟨#[], wargs, []⟩).memory Tryz.f4.params.toList Rows.tuningTextsSpec.vars false wargs.toList 16).isSome = true := by kernel_rfl
  obtain ⟨⟨x1, x2, x3⟩, hx⟩ := Option.isSome_iff_exists.1 hw
  exact OpenSpec.preRow_of_cond 16 hx (by kernel_rfl) (fun k hk => by cases hk) (by kernel_rfl) (laid_met os _)
set_option maxRecDepth 100000 in
set_option maxHeartbeats 2000000 in
theorem lifted (os : Os) (started : os.Started) (H : Type) (enc : TypeId × Value → H) (F : Stop.Interp) :
    ReturnsInHanded {} Tryz.checked os 4 .any ((OpenSpec.ofChange Rows.tuningTextsSpec).preRow enc Tryz.prog Tryz.f4 Rows.tuningTextsRow.domain false Rows.tuningTextsRow.laid) (((OpenSpec.ofChange Rows.tuningTextsSpec).at F).post enc Tryz.prog Tryz.f4 false true false false) := by
  refine returnsInHanded_of_row (C := Tryz.checked) (s := OpenSpec.ofChange Rows.tuningTextsSpec) ownK started (by kernel_rfl) Tryz.func4
    (witness_row_atRef (enc := enc) (C := Tryz.checked) false (laidWorld os) wargs rfl (by kernel_rfl) (by kernel_rfl) (by kernel_rfl) (witness_row os enc)) ?_
  intro W base args ds gs before hval hW _ _ _ hL hS _
  exact contract H enc W base args ds gs before hval hW hL hS
theorem named : Tryz.pinned.checked.prog.funcNamed "schisma/schismalaw24.TuningTexts" = some 4 := by kernel_rfl
theorem closed : joinedFacts Tryz.pinned.checked.prog 4 Tryz.f4 (OpenSpec.ofChange Rows.tuningTextsSpec).bare Rows.tuningTextsRow = true := by kernel_rfl
theorem noInst : Tryz.f4.isInstance Tryz.pinned.checked.prog Rows.tuningTextsRow.origin Rows.tuningTextsRow.targs := of_decide_eq_true (by kernel_rfl)
theorem noWrap : Tryz.f4.isWrapper Tryz.pinned.checked.prog Rows.tuningTextsRow.wrapper Rows.tuningTextsRow.mainSum := by
  unfold Func.isWrapper; rw [if_neg (of_decide_eq_false (by kernel_rfl))]; exact ⟨rfl, rfl⟩
theorem given (os : Os) (started : os.Started) (H : Type) (enc : TypeId × Value → H) (F : Stop.Interp) : ReturnsInHanded Rows.tuningTextsRow.assume Tryz.pinned.checked os 4 .any (Rows.tuningTextsRow.pre enc Tryz.pinned.checked.prog Tryz.f4 (OpenSpec.ofChange Rows.tuningTextsSpec)) (((OpenSpec.ofChange Rows.tuningTextsSpec).at F).post enc Tryz.pinned.checked.prog Tryz.f4 Rows.tuningTextsRow.apart Rows.tuningTextsRow.fresh Rows.tuningTextsRow.handsOn Rows.tuningTextsRow.again) := by
  rw [OpenClaim.pre_eq_preRow]
  exact lifted os started H enc F
theorem said : Rows.TuningTextsSaid :=
  OpenClaim.holds_of_cond 4 Tryz.f4 rfl rfl rfl rfl rfl rfl rfl ⟨rfl, rfl, rfl, rfl, rfl⟩ rfl rfl rfl rfl rfl named Tryz.func4 closed noInst noWrap (fun os started H enc _ F => given os started H enc F)
theorem plain (f : FuncId) (fn : Func) (hf : Tryz.pinned.checked.prog.funcNamed "schisma/schismalaw24.TuningTexts" = some f) (hfn : Tryz.pinned.checked.prog.funcs[f]? = some fn) :
    true = Tryz.pinned.checked.prog.looks [] ∧ ∀ (j : Nat) t, fn.params[j]? = some t → Tryz.pinned.checked.prog.wantsStandIn t = false := by
  obtain rfl : f = 4 := Option.some.inj ((show Tryz.prog.funcNamed "schisma/schismalaw24.TuningTexts" = some 4 by kernel_rfl).symm.trans hf) |>.symm
  obtain rfl : fn = Tryz.f4 := (Option.some.inj (Tryz.func4.symm.trans hfn)).symm
  refine ⟨by kernel_rfl, fun j t ht => ?_⟩
  rw [Tryz.params4] at ht
  have hm := Array.mem_of_getElem? ht
  simp at hm
  subst hm
  exact (show Tryz.prog.wantsStandIn 32 = false by kernel_rfl)
end textsLaw
/-- For every two plans of tunings the law schismalaw24.TuningTexts returns true and leaves its arguments as they were: tuning.Text returns the text of the generators' sizes, and tuning.Equal compares tunings. -/
theorem tuningTexts_card : Rows.TuningTextsCardSaid :=
  Claim7.holds_tied_plain_at .later [] _ _ _ _ textsLaw.said (fun _ h => by cases h) (by kernel_rfl) (fun _ h => by cases h) tuningTexts_row_tie rfl ⟨rfl, rfl⟩ (by kernel_rfl) rfl textsLaw.plain (by kernel_rfl)
#print axioms tuningTexts_card
end Go.Proofs.YtlbhgejbfhhipaaGreatDoor
