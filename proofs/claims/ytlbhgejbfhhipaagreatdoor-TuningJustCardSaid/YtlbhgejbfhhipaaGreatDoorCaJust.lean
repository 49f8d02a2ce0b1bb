/-
For every list of primes and every eight exponents the law schismalaw24.TuningJust returns true and leaves its arguments as they were: tuning.Just returns the just tuning, in which no interval has an error, or the error of the list. The listed variables of strconv and math/bits hold what the program's text lays.
-/
import Derived.Test.YtlbhgejbfhhipaaGreatDoorB05
namespace Go.Proofs.YtlbhgejbfhhipaaGreatDoor
open Go Go.Am Go.Lib Go.Sp Z1 Z2 Z3 Z4 Z5 Z6
open Go.ChangeShapes Go.WideShapes Go.ChangeAt Go.RowKit
namespace justLaw
set_option maxRecDepth 100000 in
theorem contract (H : Type) (enc : TypeId × Value → H) (W : World) (base : Nat) (args : Array Value) (ds gs : List (DataW H)) (before : List MemPlace)
    (hval : ∀ (j : Nat) t v, Tryz.f11.params[j]? = some t → args[j]? = some v → Value.okWide Tryz.prog W .any base t v)
    (hW : DataW.Whole enc Tryz.prog Tryz.f11.params.toList Rows.tuningJustSpec.vars false W args.toList ds gs before) (hL : laidMetH Tryz.prog laidL W) (hS : W.ShapedOpen Tryz.prog) :
    Calls Tryz.prog 11 args W fun e W' => ∃ v, e = .returned v ∧ Rows.tuningJustSpec.post enc Tryz.prog Tryz.f11 false true false false W args v W' := by
  have hW' := hW
  obtain ⟨p, q, hA0, hV, rfl, _, _⟩ := hW
  have hA : DataW.TrodAll enc Tryz.prog W 0 (fun _ => true) true Tryz.f11.params.toList args.toList ds p := hA0
  rw [Tryz.params11] at hA hval
  obtain ⟨v0, v1, d0, d1, p0, p1, rfl, rfl, rfl, h0, h1⟩ := trodAll_two hA
  obtain ⟨X0, ⟨hX0, hY0⟩, V0⟩ := arg_primes (hval 0 37 v0 rfl rfl) h0
  obtain ⟨L1, hL1, V1⟩ := arg_r8 (hval 1 105 v1 rfl rfl) h1
  refine (law_calls (justs_ok X0 L1 hX0 hY0 hL1) hL hS (Vl.cons V0 (Vl.one V1))).mono fun e W' ⟨he, hF⟩ => ?_
  exact ⟨_, he, law_done rfl rfl rfl (by rw [Tryz.params11]; intro t ht; simp at ht; rcases ht with rfl | rfl <;> exact ⟨by kernel_rfl, of_decide_eq_true (by kernel_rfl)⟩) hW' rfl hF⟩
noncomputable def wargs : Array Value := #[.slice none 0 0, .agg (List.replicate 8 (Value.int .i8 0)).toArray]
set_option maxRecDepth 100000 in
theorem witness_row (os : Os) {H : Type} (enc : TypeId × Value → H) :
    (OpenSpec.ofChange Rows.tuningJustSpec).preRow enc Tryz.prog Tryz.f11 Rows.tuningJustRow.domain false Rows.tuningJustRow.laid ((laidWorld os).forCall (fun _ _ => 0) ⟨#[], wargs, []⟩).memory wargs := by
  have hw : (DataW.whole enc Tryz.prog ((laidWorld os).forCall (fun _ _ => 0) ⟨#[], wargs, []⟩).memory Tryz.f11.params.toList Rows.tuningJustSpec.vars false wargs.toList 16).isSome = true := by kernel_rfl
  obtain ⟨⟨x1, x2, x3⟩, hx⟩ := Option.isSome_iff_exists.1 hw
  exact OpenSpec.preRow_of_cond 16 hx (by kernel_rfl) (fun k hk => by cases hk) (by kernel_rfl) (laid_met os _)
set_option maxRecDepth 100000 in
set_option maxHeartbeats 2000000 in
theorem lifted (os : Os) (started : os.Started) (H : Type) (enc : TypeId × Value → H) (F : Stop.Interp) :
    ReturnsInHanded {} Tryz.checked os 11 .any ((OpenSpec.ofChange Rows.tuningJustSpec).preRow enc Tryz.prog Tryz.f11 Rows.tuningJustRow.domain false Rows.tuningJustRow.laid) (((OpenSpec.ofChange Rows.tuningJustSpec).at F).post enc Tryz.prog Tryz.f11 false true false false) := by
  refine returnsInHanded_of_row (C := Tryz.checked) (s := OpenSpec.ofChange Rows.tuningJustSpec) ownK started (by kernel_rfl) Tryz.func11
    (witness_row_atRef (enc := enc) (C := Tryz.checked) false (laidWorld os) wargs rfl (by kernel_rfl) (by kernel_rfl) (by kernel_rfl) (witness_row os enc)) ?_
  intro W base args ds gs before hval hW _ _ _ hL hS _
  exact contract H enc W base args ds gs before hval hW hL hS
theorem named : Tryz.pinned.checked.prog.funcNamed "schisma/schismalaw24.TuningJust" = some 11 := by kernel_rfl
theorem closed : joinedFacts Tryz.pinned.checked.prog 11 Tryz.f11 (OpenSpec.ofChange Rows.tuningJustSpec).bare Rows.tuningJustRow = true := by kernel_rfl
theorem noInst : Tryz.f11.isInstance Tryz.pinned.checked.prog Rows.tuningJustRow.origin Rows.tuningJustRow.targs := of_decide_eq_true (by kernel_rfl)
theorem noWrap : Tryz.f11.isWrapper Tryz.pinned.checked.prog Rows.tuningJustRow.wrapper Rows.tuningJustRow.mainSum := by
  unfold Func.isWrapper; rw [if_neg (of_decide_eq_false (by kernel_rfl))]; exact ⟨rfl, rfl⟩
theorem given (os : Os) (started : os.Started) (H : Type) (enc : TypeId × Value → H) (F : Stop.Interp) : ReturnsInHanded Rows.tuningJustRow.assume Tryz.pinned.checked os 11 .any (Rows.tuningJustRow.pre enc Tryz.pinned.checked.prog Tryz.f11 (OpenSpec.ofChange Rows.tuningJustSpec)) (((OpenSpec.ofChange Rows.tuningJustSpec).at F).post enc Tryz.pinned.checked.prog Tryz.f11 Rows.tuningJustRow.apart Rows.tuningJustRow.fresh Rows.tuningJustRow.handsOn Rows.tuningJustRow.again) := by
  rw [OpenClaim.pre_eq_preRow]
  exact lifted os started H enc F
theorem said : Rows.TuningJustSaid :=
  OpenClaim.holds_of_cond 11 Tryz.f11 rfl rfl rfl rfl rfl rfl rfl ⟨rfl, rfl, rfl, rfl, rfl⟩ rfl rfl rfl rfl rfl named Tryz.func11 closed noInst noWrap (fun os started H enc _ F => given os started H enc F)
theorem plain (f : FuncId) (fn : Func) (hf : Tryz.pinned.checked.prog.funcNamed "schisma/schismalaw24.TuningJust" = some f) (hfn : Tryz.pinned.checked.prog.funcs[f]? = some fn) :
    true = Tryz.pinned.checked.prog.looks [] ∧ ∀ (j : Nat) t, fn.params[j]? = some t → Tryz.pinned.checked.prog.wantsStandIn t = false := by
  obtain rfl : f = 11 := Option.some.inj ((show Tryz.prog.funcNamed "schisma/schismalaw24.TuningJust" = some 11 by kernel_rfl).symm.trans hf) |>.symm
  obtain rfl : fn = Tryz.f11 := (Option.some.inj (Tryz.func11.symm.trans hfn)).symm
  refine ⟨by kernel_rfl, fun j t ht => ?_⟩
  rw [Tryz.params11] at ht
  have hm := Array.mem_of_getElem? ht
  simp at hm
  rcases hm with rfl | rfl
  · exact (show Tryz.prog.wantsStandIn 37 = false by kernel_rfl)
  · exact (show Tryz.prog.wantsStandIn 105 = false by kernel_rfl)
end justLaw
/-- For every list of primes and every eight exponents the law schismalaw24.TuningJust returns true and leaves its arguments as they were: tuning.Just returns the just tuning, in which no interval has an error, or the error of the list. -/
theorem tuningJust_card : Rows.TuningJustCardSaid :=
  Claim7.holds_tied_plain_at .later [] _ _ _ _ justLaw.said (fun _ h => by cases h) (by kernel_rfl) (fun _ h => by cases h) tuningJust_row_tie rfl ⟨rfl, rfl⟩ (by kernel_rfl) rfl justLaw.plain (by kernel_rfl)
#print axioms tuningJust_card
end Go.Proofs.YtlbhgejbfhhipaaGreatDoor
