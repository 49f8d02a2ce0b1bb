/-
For every plan of a tuning and every row the law schismalaw24.TuningSizes returns true and leaves its arguments as they were: tuning.Size returns the size of a tempered interval, or the first error. The listed variables of strconv and math/bits hold what the program's text lays.
-/
import Derived.Test.YtlbhgejbfhhipaaGreatDoorB06
namespace Go.Proofs.YtlbhgejbfhhipaaGreatDoor
open Go Go.Am Go.Lib Go.Sp Z1 Z2 Z3 Z4 Z5 Z6
open Go.ChangeShapes Go.WideShapes Go.ChangeAt Go.RowKit
namespace sizesLaw
set_option maxRecDepth 100000 in
theorem contract (H : Type) (enc : TypeId × Value → H) (W : World) (base : Nat) (args : Array Value) (ds gs : List (DataW H)) (before : List MemPlace)
    (hval : ∀ (j : Nat) t v, Tryz.f5.params[j]? = some t → args[j]? = some v → Value.okWide Tryz.prog W .any base t v)
    (hW : DataW.Whole enc Tryz.prog Tryz.f5.params.toList Rows.tuningSizesSpec.vars false W args.toList ds gs before) (hL : laidMetH Tryz.prog laidL W) (hS : W.ShapedOpen Tryz.prog) :
    Calls Tryz.prog 5 args W fun e W' => ∃ v, e = .returned v ∧ Rows.tuningSizesSpec.post enc Tryz.prog Tryz.f5 false true false false W args v W' := by
  have hW' := hW
  obtain ⟨p, q, hA0, hV, rfl, _, _⟩ := hW
  have hA : DataW.TrodAll enc Tryz.prog W 0 (fun _ => true) true Tryz.f5.params.toList args.toList ds p := hA0
  rw [Tryz.params5] at hA hval
  obtain ⟨v0, v1, d0, d1, p0, p1, rfl, rfl, rfl, h0, h1⟩ := trodAll_two hA
  obtain ⟨Q0, hQ0, V0⟩ := arg_plan (hval 0 32 v0 rfl rfl) h0
  obtain ⟨X1, ⟨hX1, hY1⟩, V1⟩ := arg_row (hval 1 34 v1 rfl rfl) h1
  refine (law_calls (sizes_ok Q0 hQ0 X1 hX1 hY1) hL hS (Vl.cons V0 (Vl.one V1))).mono fun e W' ⟨he, hF⟩ => ?_
  exact ⟨_, he, law_done rfl rfl rfl (by rw [Tryz.params5]; intro t ht; simp at ht; rcases ht with rfl | rfl <;> exact ⟨by kernel_rfl, of_decide_eq_true (by kernel_rfl)⟩) hW' rfl hF⟩
noncomputable def wargs : Array Value := #[.agg (#[.int .u8 0, .slice none 0 0, .bool false] ++ ((List.range 16).flatMap fun _ => [Value.int .i8 0, Value.int .u8 0]).toArray), .slice none 0 0]
set_option maxRecDepth 100000 in
theorem witness_row (os : Os) {H : Type} (enc : TypeId × Value → H) :
    (OpenSpec.ofChange Rows.tuningSizesSpec).preRow enc Tryz.prog Tryz.f5 Rows.tuningSizesRow.domain false Rows.tuningSizesRow.laid ((laidWorld os).forCall (fun _ _ => 0) ⟨#[], wargs, []⟩).memory wargs := by
  have hw : (DataW.whole enc Tryz.prog ((laidWorld os).forCall (fun _ _ => 0) ⟨#[], wargs, []⟩).memory Tryz.f5.params.toList Rows.tuningSizesSpec.vars false wargs.toList 16).isSome = true := by kernel_rfl
  obtain ⟨⟨x1, x2, x3⟩, hx⟩ := Option.isSome_iff_exists.1 hw
  exact OpenSpec.preRow_of_cond 16 hx (by kernel_rfl) (fun k hk => by cases hk) (by kernel_rfl) (laid_met os _)
set_option maxRecDepth 100000 in
set_option maxHeartbeats 2000000 in
theorem lifted (os : Os) (started : os.Started) (H : Type) (enc : TypeId × Value → H) (F : Stop.Interp) :
    ReturnsInHanded {} Tryz.checked os 5 .any ((OpenSpec.ofChange Rows.tuningSizesSpec).preRow enc Tryz.prog Tryz.f5 Rows.tuningSizesRow.domain false Rows.tuningSizesRow.laid) (((OpenSpec.ofChange Rows.tuningSizesSpec).at F).post enc Tryz.prog Tryz.f5 false true false false) := by
  refine returnsInHanded_of_row (C := Tryz.checked) (s := OpenSpec.ofChange Rows.tuningSizesSpec) ownK started (by kernel_rfl) Tryz.func5
    (witness_row_atRef (enc := enc) (C := Tryz.checked) false (laidWorld os) wargs rfl (by kernel_rfl) (by kernel_rfl) (by kernel_rfl) (witness_row os enc)) ?_
  intro W base args ds gs before hval hW _ _ _ hL hS _
  exact contract H enc W base args ds gs before hval hW hL hS
theorem named : Tryz.pinned.checked.prog.funcNamed "schisma/schismalaw24.TuningSizes" = some 5 := by kernel_rfl
theorem closed : joinedFacts Tryz.pinned.checked.prog 5 Tryz.f5 (OpenSpec.ofChange Rows.tuningSizesSpec).bare Rows.tuningSizesRow = true := by kernel_rfl
theorem noInst : Tryz.f5.isInstance Tryz.pinned.checked.prog Rows.tuningSizesRow.origin Rows.tuningSizesRow.targs := of_decide_eq_true (by kernel_rfl)
theorem noWrap : Tryz.f5.isWrapper Tryz.pinned.checked.prog Rows.tuningSizesRow.wrapper Rows.tuningSizesRow.mainSum := by
  unfold Func.isWrapper; rw [if_neg (of_decide_eq_false (by kernel_rfl))]; exact ⟨rfl, rfl⟩
theorem given (os : Os) (started : os.Started) (H : Type) (enc : TypeId × Value → H) (F : Stop.Interp) : ReturnsInHanded Rows.tuningSizesRow.assume Tryz.pinned.checked os 5 .any (Rows.tuningSizesRow.pre enc Tryz.pinned.checked.prog Tryz.f5 (OpenSpec.ofChange Rows.tuningSizesSpec)) (((OpenSpec.ofChange Rows.tuningSizesSpec).at F).post enc Tryz.pinned.checked.prog Tryz.f5 Rows.tuningSizesRow.apart Rows.tuningSizesRow.fresh Rows.tuningSizesRow.handsOn Rows.tuningSizesRow.again) := by
  rw [OpenClaim.pre_eq_preRow]
  exact lifted os started H enc F
theorem said : Rows.TuningSizesSaid :=
  OpenClaim.holds_of_cond 5 Tryz.f5 rfl rfl rfl rfl rfl rfl rfl ⟨rfl, rfl, rfl, rfl, rfl⟩ rfl rfl rfl rfl rfl named Tryz.func5 closed noInst noWrap (fun os started H enc _ F => given os started H enc F)
theorem plain (f : FuncId) (fn : Func) (hf : Tryz.pinned.checked.prog.funcNamed "schisma/schismalaw24.TuningSizes" = some f) (hfn : Tryz.pinned.checked.prog.funcs[f]? = some fn) :
    true = Tryz.pinned.checked.prog.looks [] ∧ ∀ (j : Nat) t, fn.params[j]? = some t → Tryz.pinned.checked.prog.wantsStandIn t = false := by
  obtain rfl : f = 5 := Option.some.inj ((show Tryz.prog.funcNamed "schisma/schismalaw24.TuningSizes" = some 5 by kernel_rfl).symm.trans hf) |>.symm
  obtain rfl : fn = Tryz.f5 := (Option.some.inj (Tryz.func5.symm.trans hfn)).symm
  refine ⟨by kernel_rfl, fun j t ht => ?_⟩
  rw [Tryz.params5] at ht
  have hm := Array.mem_of_getElem? ht
  simp at hm
  rcases hm with rfl | rfl
  · exact (show Tryz.prog.wantsStandIn 32 = false by kernel_rfl)
  · exact (show Tryz.prog.wantsStandIn 34 = false by kernel_rfl)
end sizesLaw
/-- For every plan of a tuning and every row the law schismalaw24.TuningSizes returns true and leaves its arguments as they were: tuning.Size returns the size of a tempered interval, or the first error. -/
theorem tuningSizes_card : Rows.TuningSizesCardSaid :=
  Claim7.holds_tied_plain_at .later [] _ _ _ _ sizesLaw.said (fun _ h => by cases h) (by kernel_rfl) (fun _ h => by cases h) tuningSizes_row_tie rfl ⟨rfl, rfl⟩ (by kernel_rfl) rfl sizesLaw.plain (by kernel_rfl)
#print axioms tuningSizes_card
end Go.Proofs.YtlbhgejbfhhipaaGreatDoor
