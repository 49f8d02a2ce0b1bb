/- Own lemmas, part 6: an abstract machine for walks, plain facts on numbers and lattices, walks of the functions of the program: Ye Fa Fe Fb Fc Fd. -/
import Derived.Test.YtlbhgejbfhhipaaGreatDoorB05
/- How the arguments of the statements read; what a statement's call leaves. -/
namespace Go.Proofs.YtlbhgejbfhhipaaGreatDoor
open Go Go.Am Go.Lib Go.Sp Z1 Z2 Z3 Z4 Z5 Z6
open Go.ChangeShapes Go.WideShapes Go.ChangeAt Go.RowKit
section
variable {H : Type} {enc : TypeId × Value → H} {w : World}
theorem rds_to {α β : Type} {P : Program} {t : TypeId} {f : α → List AV} {Q : α → Prop} {g : β → List AV} {R : β → Prop} (h : Rds enc P w t f Q) (k : ∀ x, Q x → ∃ y, R y ∧ f x = g y) : Rds enc P w t g R := by
  intro fuel cs d hd
  obtain ⟨x, hq, hv⟩ := h fuel cs d hd
  obtain ⟨y, hr, e⟩ := k x hq
  exact ⟨y, hr, by rw [← e]; exact hv⟩
theorem flat_one {α : Type} (f : α → AV) : ∀ X : List α, (X.map fun x => [f x]).flatten = X.map f
  | [] => rfl
  | x :: X => by rw [List.map_cons, List.flatten_cons, flat_one f X]; rfl
theorem rd_row (t : TypeId) (ht : Tryz.prog.underlying t = some (.slice 3)) : Rds enc Tryz.prog w t (fun X : List Int => [rowS X]) (fun X => small64L X ∧ X.length ≤ 9223372036854775807) :=
  rds_to (rds_slice (sz := 1) ht (by kernel_rfl) (fun _ _ => rfl) (rds_int (k := .i64) Tryz.underlying3)) (fun X h => ⟨X, ⟨fun z hz => h.1 z hz, h.2⟩, by rw [flat_one]; rfl⟩)
theorem rd_rw : Rds enc Tryz.prog w 92 rwC okRw :=
  rds_to (rds_array (n := 4) (sz := 1) Tryz.underlying92 (by kernel_rfl) (by kernel_rfl) (rds_int (k := .i8) Tryz.underlying25)) (fun X h => ⟨X, ⟨h.1, fun z hz => h.2 z hz⟩, by rw [flat_one]; rfl⟩)
theorem rd_part : Rds enc Tryz.prog w 27 partC okPart :=
  rds_to (rds_struct2 Tryz.underlying27 rfl rfl (by kernel_rfl) (by kernel_rfl) (rds_int (k := .i8) Tryz.underlying25) (rds_int (k := .u8) Tryz.underlying5)) (fun x h => ⟨x, ⟨h.1, h.2⟩, rfl⟩)
theorem flat_pts : ∀ X : List (Int × Int), (X.map partC).flatten = ptsC X
  | [] => rfl
  | x :: X => by rw [List.map_cons, List.flatten_cons, flat_pts X]; rfl
theorem rd_pts : Rds enc Tryz.prog w 29 ptsC okPts :=
  rds_to (rds_array (n := 4) (sz := 2) Tryz.underlying29 (by kernel_rfl) (by kernel_rfl) rd_part) (fun X h => ⟨X, h, flat_pts X⟩)
theorem rd_gns : Rds enc Tryz.prog w 30 gnsC okGns :=
  rds_to (rds_array (n := 4) (sz := 8) Tryz.underlying30 (by kernel_rfl) (by kernel_rfl) rd_pts) (fun X h => ⟨X, h, rfl⟩)
theorem rd_pln : Rds enc Tryz.prog w 24 (fun x : Int × List (List Int) × Bool => plnC x.1 x.2.1 x.2.2) (fun x => (0 ≤ x.1 ∧ x.1 ≤ 255) ∧ ∀ r ∈ x.2.1, okRw r) :=
  rds_to (rds_struct3 Tryz.underlying24 rfl rfl (by kernel_rfl) (by kernel_rfl) (by kernel_rfl) (rds_int (k := .u8) Tryz.underlying5)
    (rds_slice (sz := 4) Tryz.underlying22 (by kernel_rfl) (fun x h => by show (rwC x).length = 4; unfold rwC; rw [List.length_map]; exact h.1) rd_rw) (rds_bool Tryz.underlying4)) (fun x h => ⟨x, ⟨h.1, h.2.1.1⟩, rfl⟩)
theorem rd_plan : Rds enc Tryz.prog w 32 Plan.av Plan.In :=
  rds_to (rds_struct2 Tryz.underlying32 rfl rfl (by kernel_rfl) (by kernel_rfl) rd_pln rd_gns) (fun x h => ⟨⟨x.1.1, x.1.2.1, x.1.2.2, x.2⟩, ⟨h.1.1, h.1.2, h.2⟩, rfl⟩)
set_option maxRecDepth 100000 in
theorem arg_plan {v : Value} {d : DataW H} {ps : List MemPlace} {base : Nat} (hv : Value.okWide Tryz.prog w .any base 32 v) (h : DataW.Trod enc Tryz.prog w 0 (fun _ => true) true 32 v d ps) : ∃ q : Plan, q.In ∧ V w (fun b => b < w.heap.size) [] (.agg q.av) v :=
  arg_agg rd_plan Tryz.underlying32 rfl hv h
set_option maxRecDepth 100000 in
theorem arg_row {v : Value} {d : DataW H} {ps : List MemPlace} {base : Nat} (hv : Value.okWide Tryz.prog w .any base 34 v) (h : DataW.Trod enc Tryz.prog w 0 (fun _ => true) true 34 v d ps) : ∃ x : List Int, (small64L x ∧ x.length ≤ 9223372036854775807) ∧ V w (fun b => b < w.heap.size) [] (rowS x) v :=
  arg_one (rd_row 34 Tryz.underlying34) Tryz.underlying34 rfl hv h
theorem trods_stay {base : Nat} {W W' : World} {sp : Nat → Bool} (hsame : ∀ p : MemPlace, p.block < W.heap.size → W.sameAt W' p) : ∀ {ts : List TypeId} {vs : List Value} {ds : List (DataW H)} {ps : List MemPlace}, (∀ t ∈ ts, Tryz.prog.readableRec t = true ∧ t < Tryz.prog.types.size) →
    DataW.TrodAll enc Tryz.prog W base (fun _ => true) true ts vs ds ps → (∀ p ∈ ps, p.block < W.heap.size) → (∀ p ∈ ps, sp p.block = true) → DataW.TrodAll enc Tryz.prog W' base sp true ts vs ds ps
  | [], _, _, _, _, h, _, _ => by
    obtain ⟨rfl, rfl, rfl⟩ := trodAll_nil h
    exact rfl
  | t :: ts, _, _, _, ht, h, h1, h2 => by
    obtain ⟨v, vs, d, ds, a, b, rfl, rfl, rfl, g1, g2⟩ := trodAll_cons h
    exact ⟨a, b, WideElems.Trod_stays laidO (ht t (by simp)).1 (ht t (by simp)).2 g1 (fun p hp => hsame p (h1 p (by simp [hp]))) (fun p hp => h2 p (by simp [hp])), trods_stay hsame (fun t ht' => ht t (by simp [ht'])) g2 (fun p hp => h1 p (by simp [hp])) (fun p hp => h2 p (by simp [hp])), rfl⟩
/-- A statement's call: true came back, and nothing that was there is turned. -/
theorem law_done {f : Func} {s : ChangeSpec} {W W' : World} {args : Array Value} {v : Value} {ds gs : List (DataW H)} {before : List MemPlace} (hs : s.vars = []) (hrt : f.resultTypes = #[4]) (hfn : s.fn H (ds ++ []) = { results := [.lit (.bool true)], args := ds })
    (hpar : ∀ t ∈ f.params.toList, Tryz.prog.readableRec t = true ∧ t < Tryz.prog.types.size) (hW : DataW.Whole enc Tryz.prog f.params.toList s.vars false W args.toList ds gs before) (hv : v = .bool true) (hF : Frm (fun _ => False) W W') : s.post enc Tryz.prog f false true false false W args v W' := by
  have hlt := hW.lt
  have hW' := hW
  obtain ⟨p, q, hA, hV, rfl, _, _⟩ := hW
  rw [hs] at hV
  obtain ⟨rfl, rfl⟩ := trodVars_none hV
  have hB : Below W.heap.size W W' := ⟨hF.os, hF.tape, hF.output, hF.size, fun k hk => hF.block k hk id⟩
  subst hv
  refine ⟨ds, [], _, [], p, [], hW', ?_, ?_, ?_, hB.frame _, fun h => by cases h⟩
  · rw [hfn, hrt]; exact trodAll_mk1 (shut_bool Tryz.underlying4 _)
  · rw [hfn]
    simp only [List.append_nil] at hlt
    exact trods_stay (fun p hp => hB.same hp) hpar hA hlt (fun p hp => by simpa using hlt p hp)
  · rw [hfn, hs]; rfl
end
/-- What a contract of a statement's function gives. -/
theorem law_calls {f : Nat} {args : List AV} {us : List Value} {W : World} (h : OkP (laiOf Tryz.prog) Tryz.prog f args (.v (.bool true))) (hL : laidMetH Tryz.prog laidL W) (hS : W.ShapedOpen Tryz.prog) (hv : Vl W (fun b => b < W.heap.size) [] args us) :
    Calls Tryz.prog f us.toArray W fun e W' => e = .returned (.bool true) ∧ Frm (fun _ => False) W W' := by
  refine (h.call W (fun b => b < W.heap.size) us (lai_of hL) (size_of hS) (fun _ h => h) hv).mono fun e W' he => ?_
  obtain ⟨v, rfl, hV, hF⟩ := he
  simp only [V] at hV
  exact ⟨by rw [hV], hF⟩
end Go.Proofs.YtlbhgejbfhhipaaGreatDoor

/- Walks: temperaments and tunings compared. -/
namespace Go.Proofs.YtlbhgejbfhhipaaGreatDoor
open Go Go.Am Go.Lib Go.Sp Z1 Z2 Z3 Z4 Z5 Z6
set_option maxRecDepth 10000 in
theorem eqpr_ok {Λ : Lai} (a b : List Int) (ha : a.length ≤ 1000000000000) (hb : b.length ≤ 1000000000000) : OkP Λ Tryz.prog 113 [rowS a, rowS b] (.v (.bool (decide (a = b)))) := by
  refine okp_intro hT 26 Tryz.func113 rfl rfl rfl (Nat.le_of_ble_eq_true rfl) trivial ?_
  intro w0 F0 I
  unfold rowS
  repeat (first|refine z2 ?_|refine z1 ?_|refine z3 ?_|refine z4 ?_|refine z5 ?_)
  refine awp_cond rfl (fun h => ?_) (fun h => ?_)
  · have h : (a.length : Int) ≠ (b.length : Int) := by simpa using h
    repeat (first|refine z2 ?_|refine z1 ?_|refine z3 ?_|refine z4 ?_|refine z5 ?_)
    refine awp_ret ⟨.inl rfl, ret_one rfl ?_⟩
    rw [decide_eq_false (show ¬ a = b from fun e => h (by rw [e]))]
    exact .refl trivial
  have h : (a.length : Int) = (b.length : Int) := by simpa using h
  repeat (first|refine z2 ?_|refine z1 ?_|refine z3 ?_|refine z4 ?_|refine z5 ?_)
  refine awp_loop (fun x : { x : Nat // x ≤ a.length ∧ a.take x = b.take x } => ⟨[(0, .sl 1 a.length (i64s a)), (1, .sl 1 b.length (i64s b)), (12, .v (.int .i64 a.length)), (13, .v (.int .i64 x.1))], [], 0⟩) (fun x => a.length - x.1) ⟨0, Nat.zero_le _, by simp⟩ (le_sub ⟨rfl, rfl, rfl, rfl, trivial⟩ rfl rfl) ?_
  rintro ⟨j, hj, he⟩
  simp only at hj he ⊢
  repeat (first|refine z2 ?_|refine z1 ?_|refine z3 ?_|refine z4 ?_|refine z5 ?_)
  refine awp_cond rfl (fun h2 => ?_) (fun h2 => ?_)
  · have hja : j < a.length := by have := of_decide_eq_true h2; omega
    have hjb : j < b.length := by omega
    repeat (first|refine z2 ?_|refine z1 ?_|refine z3 ?_|refine z4 ?_|refine z5 ?_)
    refine awp_region_draw [] hmix (by kernel_rfl) ?_
    repeat (first|refine z2 ?_|refine z1 ?_|refine z3 ?_|refine z4 ?_|refine z5 ?_)
    refine al_pure hT rfl (pure_load_pt rfl rfl rfl (i64s_drop (j := j) (by omega) hja)) rfl rfl True.intro ?_
    repeat (first|refine z2 ?_|refine z1 ?_|refine z3 ?_|refine z4 ?_|refine z5 ?_)
    refine al_pure hT rfl (pure_load_pt rfl rfl rfl (i64s_drop (j := j) (by omega) hjb)) rfl rfl True.intro ?_
    repeat (first|refine z2 ?_|refine z1 ?_|refine z3 ?_|refine z4 ?_|refine z5 ?_)
    refine awp_cond rfl (fun h3 => ?_) (fun h3 => ?_)
    · have h3 : a[j] ≠ b[j] := by simpa using h3
      repeat (first|refine z2 ?_|refine z1 ?_|refine z3 ?_|refine z4 ?_|refine z5 ?_)
      refine awp_ret ⟨.inl rfl, ret_one rfl ?_⟩
      rw [decide_eq_false (show ¬ a = b from fun e => h3 (by subst e; rfl))]
      exact .refl trivial
    · have h3 : a[j] = b[j] := by simpa using h3
      repeat (first|refine z2 ?_|refine z1 ?_|refine z3 ?_|refine z4 ?_|refine z5 ?_)
      exact ⟨⟨j + 1, hja, take_eq_succ hja hjb he h3⟩, le_sub ⟨rfl, rfl, rfl, rfl, trivial⟩ rfl rfl, by show a.length - (j + 1) < a.length - j; omega⟩
  · have hja : j = a.length := by have := of_decide_eq_false h2; omega
    rw [hja, List.take_length, List.take_of_length_le (by omega)] at he
    repeat (first|refine z2 ?_|refine z1 ?_|refine z3 ?_|refine z4 ?_|refine z5 ?_)
    refine awp_ret ⟨.inl rfl, ret_one rfl ?_⟩
    rw [decide_eq_true he]
    exact .refl trivial
set_option maxRecDepth 10000 in
theorem leqrow_ok {Λ : Lai} (a b : List Int) (ha : a.length ≤ 1000000000000) (hb : b.length ≤ 1000000000000) : OkP Λ Tryz.prog 131 [rowS a, rowS b] (.v (.bool (decide (a = b)))) := by
  refine okp_intro hT 26 Tryz.func131 rfl rfl rfl (Nat.le_of_ble_eq_true rfl) trivial ?_
  intro w0 F0 I
  unfold rowS
  repeat (first|refine z2 ?_|refine z1 ?_|refine z3 ?_|refine z4 ?_|refine z5 ?_)
  refine awp_cond rfl (fun h => ?_) (fun h => ?_)
  · have h : (a.length : Int) ≠ (b.length : Int) := by simpa using h
    repeat (first|refine z2 ?_|refine z1 ?_|refine z3 ?_|refine z4 ?_|refine z5 ?_)
    refine awp_ret ⟨.inl rfl, ret_one rfl ?_⟩
    rw [decide_eq_false (show ¬ a = b from fun e => h (by rw [e]))]
    exact .refl trivial
  have h : (a.length : Int) = (b.length : Int) := by simpa using h
  repeat (first|refine z2 ?_|refine z1 ?_|refine z3 ?_|refine z4 ?_|refine z5 ?_)
  refine awp_loop (fun x : { x : Nat // x ≤ a.length ∧ a.take x = b.take x } => ⟨[(0, .sl 1 a.length (i64s a)), (1, .sl 1 b.length (i64s b)), (5, .v (.int .i64 x.1))], [], 0⟩) (fun x => a.length - x.1) ⟨0, Nat.zero_le _, by simp⟩ (le_sub ⟨rfl, rfl, rfl, trivial⟩ rfl rfl) ?_
  rintro ⟨j, hj, he⟩
  simp only at hj he ⊢
  repeat (first|refine z2 ?_|refine z1 ?_|refine z3 ?_|refine z4 ?_|refine z5 ?_)
  refine awp_cond rfl (fun h2 => ?_) (fun h2 => ?_)
  · have hja : j < a.length := by have := of_decide_eq_true h2; omega
    have hjb : j < b.length := by omega
    (repeat (first | refine awp_seq ?_ | refine awp_block ?_ | refine awp_skip ?_))
    refine awp_region_draw [] hmix (by kernel_rfl) ?_
    repeat (first|refine z2 ?_|refine z1 ?_|refine z3 ?_|refine z4 ?_|refine z5 ?_)
    refine al_pure hT rfl (pure_load_pt rfl rfl rfl (i64s_drop (j := j) (by omega) hja)) rfl rfl True.intro ?_
    repeat (first|refine z2 ?_|refine z1 ?_|refine z3 ?_|refine z4 ?_|refine z5 ?_)
    refine al_pure hT rfl (pure_load_pt rfl rfl rfl (i64s_drop (j := j) (by omega) hjb)) rfl rfl True.intro ?_
    repeat (first|refine z2 ?_|refine z1 ?_|refine z3 ?_|refine z4 ?_|refine z5 ?_)
    refine awp_cond rfl (fun h3 => ?_) (fun h3 => ?_)
    · have h3 : a[j] ≠ b[j] := by simpa using h3
      repeat (first|refine z2 ?_|refine z1 ?_|refine z3 ?_|refine z4 ?_|refine z5 ?_)
      refine awp_ret ⟨.inl rfl, ret_one rfl ?_⟩
      rw [decide_eq_false (show ¬ a = b from fun e => h3 (by subst e; rfl))]
      exact .refl trivial
    · have h3 : a[j] = b[j] := by simpa using h3
      repeat (first|refine z2 ?_|refine z1 ?_|refine z3 ?_|refine z4 ?_|refine z5 ?_)
      exact ⟨⟨j + 1, hja, take_eq_succ hja hjb he h3⟩, le_sub ⟨rfl, rfl, rfl, trivial⟩ rfl rfl, by show a.length - (j + 1) < a.length - j; omega⟩
  · have hja : j = a.length := by have := of_decide_eq_false h2; omega
    rw [hja, List.take_length, List.take_of_length_le (by omega)] at he
    repeat (first|refine z2 ?_|refine z1 ?_|refine z3 ?_|refine z4 ?_|refine z5 ?_)
    refine awp_ret ⟨.inl rfl, ret_one rfl ?_⟩
    rw [decide_eq_true he]
    exact .refl trivial
set_option maxRecDepth 10000 in
theorem leqmat_ok {Λ : Lai} (a b : List (List Int)) (ha : shortM a) (hb : shortM b) : OkP Λ Tryz.prog 132 [matS a, matS b] (.v (.bool (decide (a = b)))) := by
  obtain ⟨ha1, ha2⟩ := ha
  obtain ⟨hb1, hb2⟩ := hb
  refine okp_intro hT 27 Tryz.func132 rfl rfl rfl (Nat.le_of_ble_eq_true rfl) trivial ?_
  intro w0 F0 I
  unfold matS
  repeat (first|refine z2 ?_|refine z1 ?_|refine z3 ?_|refine z4 ?_|refine z5 ?_)
  refine awp_cond rfl (fun h => ?_) (fun h => ?_)
  · have h : (a.length : Int) ≠ (b.length : Int) := by simpa using h
    repeat (first|refine z2 ?_|refine z1 ?_|refine z3 ?_|refine z4 ?_|refine z5 ?_)
    refine awp_ret ⟨.inl rfl, ret_one rfl ?_⟩
    rw [decide_eq_false (show ¬ a = b from fun e => h (by rw [e]))]
    exact .refl trivial
  have h : (a.length : Int) = (b.length : Int) := by simpa using h
  repeat (first|refine z2 ?_|refine z1 ?_|refine z3 ?_|refine z4 ?_|refine z5 ?_)
  refine awp_loop (fun x : { x : Nat // x ≤ a.length ∧ a.take x = b.take x } => ⟨[(0, .sl 1 a.length (rowsC a)), (1, .sl 1 b.length (rowsC b)), (5, .v (.int .i64 x.1))], [], 0⟩) (fun x => a.length - x.1) ⟨0, Nat.zero_le _, by simp⟩ (le_sub ⟨rfl, rfl, rfl, trivial⟩ rfl rfl) ?_
  rintro ⟨j, hj, he⟩
  simp only at hj he ⊢
  repeat (first|refine z2 ?_|refine z1 ?_|refine z3 ?_|refine z4 ?_|refine z5 ?_)
  refine awp_cond rfl (fun h2 => ?_) (fun h2 => ?_)
  · have hja : j < a.length := by have := of_decide_eq_true h2; omega
    have hjb : j < b.length := by omega
    have hc := leqrow_ok (Λ := Λ) a[j] b[j] (ha2 _ (List.getElem_mem hja)) (hb2 _ (List.getElem_mem hjb))
    (repeat (first | refine awp_seq ?_ | refine awp_block ?_ | refine awp_skip ?_))
    refine awp_region_draw [] hmix (by kernel_rfl) ?_
    repeat (first|refine z2 ?_|refine z1 ?_|refine z3 ?_|refine z4 ?_|refine z5 ?_)
    refine al_pure hT rfl (pure_load_pt rfl rfl rfl (rowsC_drop (j := j) (by omega) hja)) rfl rfl True.intro ?_
    repeat (first|refine z2 ?_|refine z1 ?_|refine z3 ?_|refine z4 ?_|refine z5 ?_)
    refine al_pure hT rfl (pure_load_pt rfl rfl rfl (rowsC_drop (j := j) (by omega) hjb)) rfl rfl True.intro ?_
    repeat (first|refine z2 ?_|refine z1 ?_|refine z3 ?_|refine z4 ?_|refine z5 ?_)
    refine zc (hc) ?_
    repeat (first|refine z2 ?_|refine z1 ?_|refine z3 ?_|refine z4 ?_|refine z5 ?_)
    refine awp_cond rfl (fun h3 => ?_) (fun h3 => ?_)
    · have h3 : a[j] ≠ b[j] := by
        have h3 : (!decide (a[j] = b[j])) = true := h3
        simpa using h3
      repeat (first|refine z2 ?_|refine z1 ?_|refine z3 ?_|refine z4 ?_|refine z5 ?_)
      refine awp_ret ⟨.inl rfl, ret_one rfl ?_⟩
      rw [decide_eq_false (show ¬ a = b from fun e => h3 (by subst e; rfl))]
      exact .refl trivial
    · have h3 : a[j] = b[j] := by
        have h3 : (!decide (a[j] = b[j])) = false := h3
        simpa using h3
      repeat (first|refine z2 ?_|refine z1 ?_|refine z3 ?_|refine z4 ?_|refine z5 ?_)
      exact ⟨⟨j + 1, hja, take_eq_succ hja hjb he h3⟩, le_sub ⟨rfl, rfl, rfl, trivial⟩ rfl rfl, by show a.length - (j + 1) < a.length - j; omega⟩
  · have hja : j = a.length := by have := of_decide_eq_false h2; omega
    rw [hja, List.take_length, List.take_of_length_le (by omega)] at he
    repeat (first|refine z2 ?_|refine z1 ?_|refine z3 ?_|refine z4 ?_|refine z5 ?_)
    refine awp_ret ⟨.inl rfl, ret_one rfl ?_⟩
    rw [decide_eq_true he]
    exact .refl trivial
/-- Three parts compared, each only if those before are the same. -/
structure Eq3 (Λ : Lai) (f g : Nat) (p p' : List Int) (C C' Mp Mp' : List (List Int)) : Prop where
  one : OkP Λ Tryz.prog f [rowS p, rowS p'] (.v (.bool (decide (p = p'))))
  two : OkP Λ Tryz.prog g [matS C, matS C'] (.v (.bool (decide (C = C'))))
  three : OkP Λ Tryz.prog g [matS Mp, matS Mp'] (.v (.bool (decide (Mp = Mp'))))
set_option maxRecDepth 10000 in
theorem tmpeq_ok {Λ : Lai} {p p' : List Int} {C C' Mp Mp' : List (List Int)} (h : Eq3 Λ 113 114 p p' C C' Mp Mp') : OkP Λ Tryz.prog 73 [tmpS p C Mp, tmpS p' C' Mp'] (.v (.bool (decide (p = p' ∧ C = C' ∧ Mp = Mp')))) := by
  obtain ⟨h1, h2, h3⟩ := h
  have n1 := nr_rowS p
  have n1' := nr_rowS p'
  have n2 := nr_matS C
  have n2' := nr_matS C'
  have n3 := nr_matS Mp
  have n3' := nr_matS Mp'
  refine okp_intro hT 24 Tryz.func73 rfl rfl rfl (Nat.le_of_ble_eq_true rfl) trivial ?_
  intro w0 F0 I
  have hdA : true = true := rfl
  by_cases e1 : p = p'
  · rw [decide_eq_true e1] at h1
    repeat (first|refine z2 ?_|refine z1 ?_|refine z3 ?_|refine z4 ?_|refine z5 ?_)
    refine zc h1 ?_ (hs := by exact .cons (.refl (x := rowS p) n1) (.cons (.refl (x := rowS p') n1') .nil))
    by_cases e2 : C = C'
    · rw [decide_eq_true e2] at h2
      repeat (first|refine z2 ?_|refine z1 ?_|refine z3 ?_|refine z4 ?_|refine z5 ?_|refine z8 ?_|refine z9 ?_)
      refine zo h2 ?_ (hs := by exact .cons (.refl (x := matS C) n2) (.cons (.refl (x := matS C') n2') .nil))
      repeat (first|refine z2 ?_|refine z1 ?_|refine z3 ?_|refine z4 ?_|refine z5 ?_|refine z8 ?_|refine z9 ?_)
      refine zo h3 ?_ (hs := by exact .cons (.refl (x := matS Mp) n3) (.cons (.refl (x := matS Mp') n3') .nil))
      repeat (first|refine z2 ?_|refine z1 ?_|refine z3 ?_|refine z4 ?_|refine z5 ?_|refine z8 ?_|refine z9 ?_)
      refine awp_ret ⟨.inl rfl, ret_one rfl ?_⟩
      show Sub _ (.v (.bool (decide (Mp = Mp')))) _
      rw [show decide (p = p' ∧ C = C' ∧ Mp = Mp') = decide (Mp = Mp') by simp [e1, e2]]
      exact .refl trivial
    · rw [decide_eq_false e2] at h2
      repeat (first|refine z2 ?_|refine z1 ?_|refine z3 ?_|refine z4 ?_|refine z5 ?_|refine z8 ?_|refine z9 ?_)
      refine zo h2 ?_ (hs := by exact .cons (.refl (x := matS C) n2) (.cons (.refl (x := matS C') n2') .nil))
      repeat (first|refine z2 ?_|refine z1 ?_|refine z3 ?_|refine z4 ?_|refine z5 ?_|refine z8 ?_|refine z9 ?_)
      refine al_pick rfl rfl rfl (r := .v (.bool false)) rfl rfl rfl ?_
      repeat (first|refine z2 ?_|refine z1 ?_|refine z3 ?_|refine z4 ?_|refine z5 ?_)
      refine awp_ret ⟨.inl rfl, ret_one rfl ?_⟩
      rw [decide_eq_false (fun e : p = p' ∧ C = C' ∧ Mp = Mp' => e2 e.2.1)]
      exact .refl trivial
  · rw [decide_eq_false e1] at h1
    repeat (first|refine z2 ?_|refine z1 ?_|refine z3 ?_|refine z4 ?_|refine z5 ?_)
    refine zc h1 ?_ (hs := by exact .cons (.refl (x := rowS p) n1) (.cons (.refl (x := rowS p') n1') .nil))
    repeat (first|refine z2 ?_|refine z1 ?_|refine z3 ?_|refine z4 ?_|refine z5 ?_|refine z8 ?_|refine z9 ?_)
    refine al_pick rfl rfl rfl (r := .v (.bool false)) rfl rfl rfl ?_
    repeat (first|refine z2 ?_|refine z1 ?_|refine z3 ?_|refine z4 ?_|refine z5 ?_|refine z8 ?_|refine z9 ?_)
    refine al_pick rfl rfl rfl (r := .v (.bool false)) rfl rfl rfl ?_
    repeat (first|refine z2 ?_|refine z1 ?_|refine z3 ?_|refine z4 ?_|refine z5 ?_)
    refine awp_ret ⟨.inl rfl, ret_one rfl ?_⟩
    rw [decide_eq_false (fun e : p = p' ∧ C = C' ∧ Mp = Mp' => e1 e.1)]
    exact .refl trivial
set_option maxRecDepth 10000 in
theorem ltmpeq_ok {Λ : Lai} {p p' : List Int} {C C' Mp Mp' : List (List Int)} (h : Eq3 Λ 131 132 p p' C C' Mp Mp') : OkP Λ Tryz.prog 86 [tmpS p C Mp, tmpS p' C' Mp'] (.v (.bool (decide (p = p' ∧ C = C' ∧ Mp = Mp')))) := by
  obtain ⟨h1, h2, h3⟩ := h
  have n1 := nr_rowS p
  have n1' := nr_rowS p'
  have n2 := nr_matS C
  have n2' := nr_matS C'
  have n3 := nr_matS Mp
  have n3' := nr_matS Mp'
  refine okp_intro hT 24 Tryz.func86 rfl rfl rfl (Nat.le_of_ble_eq_true rfl) trivial ?_
  intro w0 F0 I
  have hdA : true = true := rfl
  by_cases e1 : p = p'
  · rw [decide_eq_true e1] at h1
    repeat (first|refine z2 ?_|refine z1 ?_|refine z3 ?_|refine z4 ?_|refine z5 ?_)
    refine zc h1 ?_ (hs := by exact .cons (.refl (x := rowS p) n1) (.cons (.refl (x := rowS p') n1') .nil))
    by_cases e2 : C = C'
    · rw [decide_eq_true e2] at h2
      repeat (first|refine z2 ?_|refine z1 ?_|refine z3 ?_|refine z4 ?_|refine z5 ?_|refine z8 ?_|refine z9 ?_)
      refine zo h2 ?_ (hs := by exact .cons (.refl (x := matS C) n2) (.cons (.refl (x := matS C') n2') .nil))
      repeat (first|refine z2 ?_|refine z1 ?_|refine z3 ?_|refine z4 ?_|refine z5 ?_|refine z8 ?_|refine z9 ?_)
      refine zo h3 ?_ (hs := by exact .cons (.refl (x := matS Mp) n3) (.cons (.refl (x := matS Mp') n3') .nil))
      repeat (first|refine z2 ?_|refine z1 ?_|refine z3 ?_|refine z4 ?_|refine z5 ?_|refine z8 ?_|refine z9 ?_)
      refine awp_ret ⟨.inl rfl, ret_one rfl ?_⟩
      show Sub _ (.v (.bool (decide (Mp = Mp')))) _
      rw [show decide (p = p' ∧ C = C' ∧ Mp = Mp') = decide (Mp = Mp') by simp [e1, e2]]
      exact .refl trivial
    · rw [decide_eq_false e2] at h2
      repeat (first|refine z2 ?_|refine z1 ?_|refine z3 ?_|refine z4 ?_|refine z5 ?_|refine z8 ?_|refine z9 ?_)
      refine zo h2 ?_ (hs := by exact .cons (.refl (x := matS C) n2) (.cons (.refl (x := matS C') n2') .nil))
      repeat (first|refine z2 ?_|refine z1 ?_|refine z3 ?_|refine z4 ?_|refine z5 ?_|refine z8 ?_|refine z9 ?_)
      refine al_pick rfl rfl rfl (r := .v (.bool false)) rfl rfl rfl ?_
      repeat (first|refine z2 ?_|refine z1 ?_|refine z3 ?_|refine z4 ?_|refine z5 ?_)
      refine awp_ret ⟨.inl rfl, ret_one rfl ?_⟩
      rw [decide_eq_false (fun e : p = p' ∧ C = C' ∧ Mp = Mp' => e2 e.2.1)]
      exact .refl trivial
  · rw [decide_eq_false e1] at h1
    repeat (first|refine z2 ?_|refine z1 ?_|refine z3 ?_|refine z4 ?_|refine z5 ?_)
    refine zc h1 ?_ (hs := by exact .cons (.refl (x := rowS p) n1) (.cons (.refl (x := rowS p') n1') .nil))
    repeat (first|refine z2 ?_|refine z1 ?_|refine z3 ?_|refine z4 ?_|refine z5 ?_|refine z8 ?_|refine z9 ?_)
    refine al_pick rfl rfl rfl (r := .v (.bool false)) rfl rfl rfl ?_
    repeat (first|refine z2 ?_|refine z1 ?_|refine z3 ?_|refine z4 ?_|refine z5 ?_|refine z8 ?_|refine z9 ?_)
    refine al_pick rfl rfl rfl (r := .v (.bool false)) rfl rfl rfl ?_
    repeat (first|refine z2 ?_|refine z1 ?_|refine z3 ?_|refine z4 ?_|refine z5 ?_)
    refine awp_ret ⟨.inl rfl, ret_one rfl ?_⟩
    rw [decide_eq_false (fun e : p = p' ∧ C = C' ∧ Mp = Mp' => e1 e.1)]
    exact .refl trivial
theorem lsame18_ok {Λ : Lai} {p p' : List Int} {C C' Mp Mp' : List (List Int)} (h : Eq3 Λ 131 132 p p' C C' Mp Mp') : OkP Λ Tryz.prog 40 [tmpS p C Mp, tmpS p' C' Mp'] (.v (.bool (decide (p = p' ∧ C = C' ∧ Mp = Mp')))) := by
  have hc := ltmpeq_ok h
  have n1 := nr_tmpS p C Mp
  have n2 := nr_tmpS p' C' Mp'
  refine okp_intro hT 8 Tryz.func40 rfl rfl rfl (Nat.le_of_ble_eq_true rfl) trivial ?_
  intro w0 F0 I
  repeat (first|refine z2 ?_|refine z1 ?_|refine z3 ?_|refine z4 ?_|refine z5 ?_)
  refine zc hc ?_ (hs := by exact .cons (.refl (x := tmpS p C Mp) n1) (.cons (.refl (x := tmpS p' C' Mp') n2) .nil))
  repeat (first|refine z2 ?_|refine z1 ?_|refine z3 ?_|refine z4 ?_|refine z5 ?_)
  (exact awp_ret ⟨.inl rfl, ret_one rfl (.refl (by first | trivial | exact nrl_u64s _))⟩)
theorem szeq_ok {Λ : Lai} (a b : List Rat) (ha : a.length ≤ 1000000000) (hb : b.length ≤ 1000000000) : OkP Λ Tryz.prog 50 [szS a, szS b] (.v (.bool (decide (a = b)))) := by
  have hc := eqsz_ok (Λ := Λ) a b ha hb
  have n1 := nr_szS a
  have n2 := nr_szS b
  refine okp_intro hT 8 Tryz.func50 rfl rfl rfl (Nat.le_of_ble_eq_true rfl) trivial ?_
  intro w0 F0 I
  repeat (first|refine z2 ?_|refine z1 ?_|refine z3 ?_|refine z4 ?_|refine z5 ?_)
  refine zc hc ?_ (hs := by exact .cons (.refl (x := szS a) n1) (.cons (.refl (x := szS b) n2) .nil))
  repeat (first|refine z2 ?_|refine z1 ?_|refine z3 ?_|refine z4 ?_|refine z5 ?_)
  (exact awp_ret ⟨.inl rfl, ret_one rfl (.refl (by first | trivial | exact nrl_u64s _))⟩)
def shortG (G : List (List Rat)) : Prop := G.length ≤ 1000000000 ∧ ∀ l ∈ G, l.length ≤ 1000000000
set_option maxRecDepth 10000 in
theorem eqgen_ok {Λ : Lai} (a b : List (List Rat)) (ha : shortG a) (hb : shortG b) : OkP Λ Tryz.prog 74 [genS a, genS b, .fn 50 []] (.v (.bool (decide (a = b)))) := by
  obtain ⟨ha1, ha2⟩ := ha
  obtain ⟨hb1, hb2⟩ := hb
  refine okp_intro hT 32 Tryz.func74 rfl rfl rfl (Nat.le_of_ble_eq_true rfl) trivial ?_
  intro w0 F0 I
  unfold genS
  repeat (first|refine z2 ?_|refine z1 ?_|refine z3 ?_|refine z4 ?_|refine z5 ?_)
  refine awp_cond rfl (fun h => ?_) (fun h => ?_)
  · have h : (a.length : Int) ≠ (b.length : Int) := by simpa using h
    repeat (first|refine z2 ?_|refine z1 ?_|refine z3 ?_|refine z4 ?_|refine z5 ?_)
    refine awp_ret ⟨.inl rfl, ret_one rfl ?_⟩
    rw [decide_eq_false (show ¬ a = b from fun e => h (by rw [e]))]
    exact .refl trivial
  have h : (a.length : Int) = (b.length : Int) := by simpa using h
  repeat (first|refine z2 ?_|refine z1 ?_|refine z3 ?_|refine z4 ?_|refine z5 ?_)
  refine awp_loop (fun x : { x : Nat // x ≤ a.length ∧ a.take x = b.take x } => ⟨[(1, .sl 1 b.length (b.map szS)), (2, .fn 50 []), (15, .sl 1 a.length (a.map szS)), (16, .v (.int .i64 a.length)), (17, .v (.int .i64 x.1))], [], 0⟩) (fun x => a.length - x.1) ⟨0, Nat.zero_le _, by simp⟩ (le_sub ⟨rfl, rfl, rfl, rfl, rfl, trivial⟩ rfl rfl) ?_
  rintro ⟨j, hj, he⟩
  simp only at hj he ⊢
  repeat (first|refine z2 ?_|refine z1 ?_|refine z3 ?_|refine z4 ?_|refine z5 ?_)
  refine awp_cond rfl (fun h2 => ?_) (fun h2 => ?_)
  · have hja : j < a.length := by have := of_decide_eq_true h2; omega
    have hjb : j < b.length := by omega
    have hc := szeq_ok (Λ := Λ) a[j] b[j] (ha2 _ (List.getElem_mem hja)) (hb2 _ (List.getElem_mem hjb))
    have n1 := nr_szS a[j]
    have n2 := nr_szS b[j]
    repeat (first|refine z2 ?_|refine z1 ?_|refine z3 ?_|refine z4 ?_|refine z5 ?_)
    refine al_pure hT rfl (pure_load_pt rfl rfl rfl (genS_drop (j := j) (by omega) hja)) rfl rfl True.intro ?_
    repeat (first|refine z2 ?_|refine z1 ?_|refine z3 ?_|refine z4 ?_|refine z5 ?_)
    refine al_pure hT rfl (pure_load_pt rfl rfl rfl (genS_drop (j := j) (by omega) hjb)) rfl rfl True.intro ?_
    repeat (first|refine z2 ?_|refine z1 ?_|refine z3 ?_|refine z4 ?_|refine z5 ?_)
    refine zc hc ?_ (hs := by exact .cons (.refl n1) (.cons (.refl n2) .nil))
    repeat (first|refine z2 ?_|refine z1 ?_|refine z3 ?_|refine z4 ?_|refine z5 ?_)
    refine awp_cond rfl (fun h3 => ?_) (fun h3 => ?_)
    · have h3 : a[j] ≠ b[j] := by
        have h3 : (!decide (a[j] = b[j])) = true := h3
        simpa using h3
      repeat (first|refine z2 ?_|refine z1 ?_|refine z3 ?_|refine z4 ?_|refine z5 ?_)
      refine awp_ret ⟨.inl rfl, ret_one rfl ?_⟩
      rw [decide_eq_false (show ¬ a = b from fun e => h3 (by subst e; rfl))]
      exact .refl trivial
    · have h3 : a[j] = b[j] := by
        have h3 : (!decide (a[j] = b[j])) = false := h3
        simpa using h3
      repeat (first|refine z2 ?_|refine z1 ?_|refine z3 ?_|refine z4 ?_|refine z5 ?_)
      exact ⟨⟨j + 1, hja, take_eq_succ hja hjb he h3⟩, le_sub ⟨rfl, rfl, rfl, rfl, rfl, trivial⟩ rfl rfl, by show a.length - (j + 1) < a.length - j; omega⟩
  · have hja : j = a.length := by have := of_decide_eq_false h2; omega
    rw [hja, List.take_length, List.take_of_length_le (by omega)] at he
    repeat (first|refine z2 ?_|refine z1 ?_|refine z3 ?_|refine z4 ?_|refine z5 ?_)
    refine awp_ret ⟨.inl rfl, ret_one rfl ?_⟩
    rw [decide_eq_true he]
    exact .refl trivial
set_option maxRecDepth 10000 in
theorem tuneq_ok {Λ : Lai} {p p' : List Int} {C C' Mp Mp' : List (List Int)} {G G' : List (List Rat)} (h : Eq3 Λ 113 114 p p' C C' Mp Mp') (hG : shortG G) (hG' : shortG G') : OkP Λ Tryz.prog 26 [tunS p C Mp G, tunS p' C' Mp' G'] (.v (.bool (decide ((p = p' ∧ C = C' ∧ Mp = Mp') ∧ G = G')))) := by
  have h1 := tmpeq_ok h
  have h2 := eqgen_ok (Λ := Λ) G G' hG hG'
  have n1 := nr_tmpS p C Mp
  have n1' := nr_tmpS p' C' Mp'
  have n2 := nr_genS G
  have n2' := nr_genS G'
  refine okp_intro hT 17 Tryz.func26 rfl rfl rfl (Nat.le_of_ble_eq_true rfl) trivial ?_
  intro w0 F0 I
  have hdA : true = true := rfl
  by_cases e1 : p = p' ∧ C = C' ∧ Mp = Mp'
  · rw [decide_eq_true e1] at h1
    repeat (first|refine z2 ?_|refine z1 ?_|refine z3 ?_|refine z4 ?_|refine z5 ?_)
    refine zc h1 ?_ (hs := by exact .cons (.refl (x := tmpS p C Mp) n1) (.cons (.refl (x := tmpS p' C' Mp') n1') .nil))
    repeat (first|refine z2 ?_|refine z1 ?_|refine z3 ?_|refine z4 ?_|refine z5 ?_|refine z8 ?_|refine z9 ?_)
    refine zo h2 ?_ (hs := by exact .cons (.refl (x := genS G) n2) (.cons (.refl (x := genS G') n2') (.cons (.refl (x := .fn 50 []) trivial) .nil)))
    repeat (first|refine z2 ?_|refine z1 ?_|refine z3 ?_|refine z4 ?_|refine z5 ?_|refine z8 ?_|refine z9 ?_)
    refine awp_ret ⟨.inl rfl, ret_one rfl ?_⟩
    show Sub _ (.v (.bool (decide (G = G')))) _
    rw [show decide ((p = p' ∧ C = C' ∧ Mp = Mp') ∧ G = G') = decide (G = G') by simp [e1]]
    exact .refl trivial
  · rw [decide_eq_false e1] at h1
    repeat (first|refine z2 ?_|refine z1 ?_|refine z3 ?_|refine z4 ?_|refine z5 ?_)
    refine zc h1 ?_ (hs := by exact .cons (.refl (x := tmpS p C Mp) n1) (.cons (.refl (x := tmpS p' C' Mp') n1') .nil))
    repeat (first|refine z2 ?_|refine z1 ?_|refine z3 ?_|refine z4 ?_|refine z5 ?_|refine z8 ?_|refine z9 ?_)
    refine al_pick rfl rfl rfl (r := .v (.bool false)) rfl rfl rfl ?_
    repeat (first|refine z2 ?_|refine z1 ?_|refine z3 ?_|refine z4 ?_|refine z5 ?_)
    refine awp_ret ⟨.inl rfl, ret_one rfl ?_⟩
    rw [decide_eq_false (fun e : (p = p' ∧ C = C' ∧ Mp = Mp') ∧ G = G' => e1 e.1)]
    exact .refl trivial
end Go.Proofs.YtlbhgejbfhhipaaGreatDoor

/- Regions drawn in any order where memory is made: every order, state by state. -/
namespace Go.Proofs.YtlbhgejbfhhipaaGreatDoor
open Go Go.Am Go.Lib Go.Sp Z1 Z2 Z3 Z4 Z5 Z6
/-- From a state, with some operations listed, every order that is left is fine. -/
def NR (P : Program) (κ : Cx) (ops : Array Oper) (Q : Exit → AS → Prop) (fuel : Nat) (listed : Array Bool) (st : AS) : Prop := ∀ a w, Rel κ st a w → wpAny P .any ops (fun e a' w' => ∃ st', Rel κ st' a' w' ∧ Q e st') fuel listed a w
def NRs (P : Program) (κ : Cx) (ops : Array Oper) (Q : Exit → AS → Prop) (fuel : Nat) (listed : Array Bool) (st : AS) : List Nat → Prop
  | [] => True
  | i :: l => (∃ st', Does P κ ops i st st' ∧ NR P κ ops Q fuel (listed.setIfInBounds i true) st') ∧ NRs P κ ops Q fuel listed st l
section
variable {P : Program} {κ : Cx} {ops : Array Oper} {Q : Exit → AS → Prop} {fuel : Nat} {listed : Array Bool} {st st2 : AS}
theorem NRs.get : ∀ {rs : List Nat}, NRs P κ ops Q fuel listed st rs → ∀ i ∈ rs, ∃ st', Does P κ ops i st st' ∧ NR P κ ops Q fuel (listed.setIfInBounds i true) st'
  | [], _, _, h => by cases h
  | j :: rs, h, i, hi => by
    rcases List.mem_cons.1 hi with rfl | hi
    · exact h.1
    · exact NRs.get h.2 i hi
theorem NR.step {rs : List Nat} (hr : Region.ready .any ops listed = rs) (hne : rs.isEmpty = false) (h : NRs P κ ops Q fuel listed st rs) : NR P κ ops Q (fuel + 1) listed st := by
  intro a w R
  refine ⟨fun e => ?_, fun i hi => ?_⟩
  · rw [hr] at e; subst e; cases hne
  · obtain ⟨st', hd, hk⟩ := h.get i (hr ▸ hi)
    exact wpOp_mono (fun a' w' R' => hk a' w' R') (hd a w R _)
theorem NR.le (k : NR P κ ops Q fuel listed st2) (h : Le κ st st2) : NR P κ ops Q fuel listed st := fun a w R => k a w (h a w R)
theorem NR.tail {k : Nat} (own : List Nat) (hn : k + fuel = ops.size) (hB : lexD (clsOf own ops) ops fuel k listed = true) (h : AL P κ ops own (Q .normal) k (ops.toList.drop k) st) : NR P κ ops Q fuel listed st := by
  intro a w R
  have h' := h rfl
  rw [List.length_drop, Array.length_toList, show ops.size - k = fuel by omega] at h'
  have h2 := AText.mono (Q2 := fun s => ∃ s2, Same s s2 ∧ Q .normal s2) (fun s hs => ⟨s, Same.refl s, hs⟩) _ _ h'
  have h3 := anyA.lexD (fun s s' hs ⟨s2, h1, h2⟩ => ⟨s2, hs.symm.trans h1, h2⟩) fuel k listed st hn hB h2
  refine anyA.sound (Q' := fun e a' w' => ∃ st', Rel κ st' a' w' ∧ Q e st') (fun s a w R hq => ?_) _ _ _ h3 a _ R
  obtain ⟨s2, hs, hq⟩ := hq
  exact ⟨s2, R.same κ hs, hq⟩
theorem awp_region_nr {id m : Nat} {ar : Array Bool} (hm : P.follows .mixedOrders = true) (hz : ops.size = m) (har : Array.replicate m false = ar) (h : ∀ ops' Q', ops' = ops → Q' = Q → NR P κ ops' Q' m ar st) : Awp P κ (.region id ops true) st Q := by
  subst hz har
  intro a w R
  obtain ⟨F, β, R⟩ := R
  refine wp_region_any hm ?_
  exact h ops Q rfl rfl a _ ⟨F, β, R.drew⟩
end
section
variable {κ : Cx} {ops olit : Array Oper} {Q : Exit → AS → Prop} {fuel : Nat} {listed : Array Bool} {st : AS} {i d : Nat} {o : Oper}
theorem ns_pure {C : Prop} {r : AV} (hops : ops = olit) (hk : NR Tryz.prog κ ops Q fuel (listed.setIfInBounds i true) (st.put (some d) r)) (ho : olit[i]? = some o) (hg : o.guard = none) (hp : pureOp T st o.op = some (C, r)) (hd : o.dst = some d) (hN : Nat.blt d κ.N = true) (hC : C) : ∃ st', Does Tryz.prog κ ops i st st' ∧ NR Tryz.prog κ ops Q fuel (listed.setIfInBounds i true) st' := by
  subst hops
  refine ⟨_, yields_pure hT ho hg hp hd hN hC st ⟨fun _ _ _ _ => rfl, rfl⟩, ?_⟩
  rw [ho, Option.bind_some, hd]
  exact hk
theorem ns_call {c : Call} {f : Nat} {cs xs args : List AV} {res : AV} (hops : ops = olit) (H : OkP κ.Λ Tryz.prog f args res) (hk : NR Tryz.prog κ ops Q fuel (listed.setIfInBounds i true) (st.put (some d) res)) (ho : olit[i]? = some o) (hg : o.guard = none) (hop : o.op = .call c) (hc : calleeOf st c = some (f, cs)) (hx : evAll st c.args.toList = some xs)
    (hs : SubL st (xs ++ cs) args) (hr : hf res ∨ (nrl (xs ++ cs) ∧ args = xs ++ cs)) (hd : o.dst = some d) (hN : Nat.blt d κ.N = true) : ∃ st', Does Tryz.prog κ ops i st st' ∧ NR Tryz.prog κ ops Q fuel (listed.setIfInBounds i true) st' := by
  subst hops
  refine ⟨_, yields_call ho hg hop hc hx H hs hr hd hN st ⟨fun _ _ _ _ => rfl, rfl⟩, ?_⟩
  rw [ho, Option.bind_some, hd]
  exact hk
theorem ns_alloc {t : TypeId} {d' : TD} (hops : ops = olit) (hk : NR Tryz.prog κ ops Q fuel (listed.setIfInBounds i true) ((st.new ⟨d'.zero.length, d'.zero.map .v⟩).put (some d) (.adr st.nx 0 0))) (ho : olit[i]? = some o) (hg : o.guard = none) (hop : o.op = .alloc t) (ht : T t = some d') (hd : o.dst = some d) (hN : Nat.blt d κ.N = true) : ∃ st', Does Tryz.prog κ ops i st st' ∧ NR Tryz.prog κ ops Q fuel (listed.setIfInBounds i true) st' := by
  subst hops
  exact ⟨_, does_alloc hT ho hg hop ht hd hN, hk⟩
end
/-- A row of a tuning's cells, made new. -/
def zTun : Row := ⟨4, [.v (.slice none 0 0), .v (.slice none 0 0), .v (.slice none 0 0), .v (.slice none 0 0)]⟩
theorem nrl_zTun : nrl zTun.cells := ⟨trivial, trivial, trivial, trivial, trivial⟩
/-- The last two groups exchanged. -/
def sw23 : Rho := fun g t => cond (Nat.beq g 2) (some (3, t)) (cond (Nat.beq g 3) (some (2, t)) (some (g, t)))
theorem lt4 (g : Nat) (h : Nat.blt g 4 = true) : g < 4 := Nat.le_of_ble_eq_true h
end Go.Proofs.YtlbhgejbfhhipaaGreatDoor

/- Walks: the statement on texts of tunings. -/
namespace Go.Proofs.YtlbhgejbfhhipaaGreatDoor
open Go Go.Am Go.Lib Go.Sp Z1 Z2 Z3 Z4 Z5 Z6
set_option maxRecDepth 10000 in
theorem lequal_ok {Λ : Lai} {p p' : List Int} {C C' Mp Mp' : List (List Int)} {G G' : List (List Rat)} (h : Eq3 Λ 131 132 p p' C C' Mp Mp') (hG : shortG G) (hG' : shortG G') : OkP Λ Tryz.prog 27 [tunS p C Mp G, tunS p' C' Mp' G'] (.v (.bool (decide ((p = p' ∧ C = C' ∧ Mp = Mp') ∧ G = G')))) := by
  have h1 := lsame18_ok h
  obtain ⟨ha1, ha2⟩ := hG
  obtain ⟨hb1, hb2⟩ := hG'
  have n1 := nr_tmpS p C Mp
  have n1' := nr_tmpS p' C' Mp'
  have np := nr_rowS p
  have np' := nr_rowS p'
  have nC := nr_matS C
  have nC' := nr_matS C'
  have nM := nr_matS Mp
  have nM' := nr_matS Mp'
  have n2 := nr_genS G
  have n2' := nr_genS G'
  refine okp_intro hT 40 Tryz.func27 rfl rfl rfl (Nat.le_of_ble_eq_true rfl) trivial ?_
  intro w0 F0 I
  have hdA : true = true := rfl
  by_cases e1 : p = p' ∧ C = C' ∧ Mp = Mp'
  · rw [decide_eq_true e1] at h1
    have eD : decide ((p = p' ∧ C = C' ∧ Mp = Mp') ∧ G = G') = decide (G = G') := by simp [e1]
    rw [eD]
    repeat (first|refine z2 ?_|refine z1 ?_|refine z3 ?_|refine z4 ?_|refine z5 ?_)
    refine zc h1 ?_ (hs := by exact .cons (.refl (x := tmpS p C Mp) n1) (.cons (.refl (x := tmpS p' C' Mp') n1') .nil))
    repeat (first|refine z2 ?_|refine z1 ?_|refine z3 ?_|refine z4 ?_|refine z5 ?_|refine z8 ?_|refine z9 ?_)
    refine awp_cond rfl (fun h2 => ?_) (fun h2 => ?_)
    · have h2 : ((G.length : Int) != (G'.length : Int)) = true := h2
      have h2 : (G.length : Int) ≠ (G'.length : Int) := by simpa using h2
      repeat (first|refine z2 ?_|refine z1 ?_|refine z3 ?_|refine z4 ?_|refine z5 ?_)
      refine awp_ret ⟨.inl rfl, ret_one rfl ?_⟩
      rw [decide_eq_false (show ¬ G = G' from fun e => h2 (by rw [e]))]
      exact .refl trivial
    have h2 : ((G.length : Int) != (G'.length : Int)) = false := h2
    have h2 : (G.length : Int) = (G'.length : Int) := by simpa using h2
    repeat (first|refine z2 ?_|refine z1 ?_|refine z3 ?_|refine z4 ?_|refine z5 ?_)
    refine awp_loop (fun x : { x : Nat // x ≤ G.length ∧ G.take x = G'.take x } => ⟨[(2, .adr 0 0 0), (3, .adr 1 0 0), (5, .v (.int .i64 x.1))], [(0, [⟨4, [rowS p, matS C, matS Mp, genS G]⟩]), (1, [⟨4, [rowS p', matS C', matS Mp', genS G']⟩])], 2⟩) (fun x => G.length - x.1) ⟨0, Nat.zero_le _, by simp⟩ ?_ ?_
    · exact le_ren (fun g t => some (g, t)) ⟨⟨_, rfl, .adr rfl (by show 0 < 2; omega)⟩, ⟨_, rfl, .adr rfl (by show 1 < 2; omega)⟩, ⟨_, rfl, .refl trivial⟩, trivial⟩ ⟨⟨⟨by show 0 < 2; omega, .inr ⟨0, 0, _, rfl, rfl, rfl, WkL.refl ⟨np, nC, nM, n2, trivial⟩⟩⟩, trivial⟩, ⟨⟨by show 1 < 2; omega, .inr ⟨1, 0, _, rfl, rfl, rfl, WkL.refl ⟨np', nC', nM', n2', trivial⟩⟩⟩, trivial⟩, trivial⟩ rfl (base_nil _ _)
    rintro ⟨j, hj, he⟩
    simp only at hj he ⊢
    unfold genS
    repeat (first|refine z2 ?_|refine z1 ?_|refine z3 ?_|refine z4 ?_|refine z5 ?_)
    refine awp_cond rfl (fun h3 => ?_) (fun h3 => ?_)
    · have hja : j < G.length := by have := of_decide_eq_true h3; omega
      have hjb : j < G'.length := by omega
      clear h3
      have hc := lsame_ok (Λ := Λ) G[j] G'[j] (ha2 _ (List.getElem_mem hja)) (hb2 _ (List.getElem_mem hjb))
      have m1 := nr_szS G[j]
      have m2 := nr_szS G'[j]
      (repeat (first | refine awp_seq ?_ | refine awp_block ?_ | refine awp_skip ?_))
      refine awp_region_draw [] hmix (by kernel_rfl) ?_
      repeat (first|refine z2 ?_|refine z1 ?_|refine z3 ?_|refine z4 ?_|refine z5 ?_)
      refine al_pure hT rfl (pure_load_pt rfl rfl rfl (genS_drop (j := j) (by omega) hja)) rfl rfl True.intro ?_
      repeat (first|refine z2 ?_|refine z1 ?_|refine z3 ?_|refine z4 ?_|refine z5 ?_)
      refine al_pure hT rfl (pure_load_pt rfl rfl rfl (genS_drop (j := j) (by omega) hjb)) rfl rfl True.intro ?_
      refine zc hc ?_ (hs := by exact .cons (.refl m1) (.cons (.refl m2) .nil))
      repeat (first|refine z2 ?_|refine z1 ?_|refine z3 ?_|refine z4 ?_|refine z5 ?_)
      refine awp_cond rfl (fun h3 => ?_) (fun h3 => ?_)
      · have h3 : G[j] ≠ G'[j] := by
          have h3 : (!decide (G[j] = G'[j])) = true := h3
          simpa using h3
        repeat (first|refine z2 ?_|refine z1 ?_|refine z3 ?_|refine z4 ?_|refine z5 ?_)
        refine awp_ret ⟨.inl rfl, ret_one rfl ?_⟩
        rw [decide_eq_false (show ¬ G = G' from fun e => h3 (by subst e; rfl))]
        exact .refl trivial
      · have h3 : G[j] = G'[j] := by
          have h3 : (!decide (G[j] = G'[j])) = false := h3
          simpa using h3
        repeat (first|refine z2 ?_|refine z1 ?_|refine z3 ?_|refine z4 ?_|refine z5 ?_)
        exact ⟨⟨j + 1, hja, take_eq_succ hja hjb he h3⟩, le_sub ⟨rfl, rfl, rfl, trivial⟩ rfl rfl, by show G.length - (j + 1) < G.length - j; omega⟩
    · have hja : j = G.length := by have := of_decide_eq_false h3; omega
      rw [hja, List.take_length, List.take_of_length_le (by omega)] at he
      repeat (first|refine z2 ?_|refine z1 ?_|refine z3 ?_|refine z4 ?_|refine z5 ?_)
      refine awp_ret ⟨.inl rfl, ret_one rfl ?_⟩
      rw [decide_eq_true he]
      exact .refl trivial
  · rw [decide_eq_false e1] at h1
    rw [decide_eq_false (fun e : (p = p' ∧ C = C' ∧ Mp = Mp') ∧ G = G' => e1 e.1)]
    repeat (first|refine z2 ?_|refine z1 ?_|refine z3 ?_|refine z4 ?_|refine z5 ?_)
    refine zc h1 ?_ (hs := by exact .cons (.refl (x := tmpS p C Mp) n1) (.cons (.refl (x := tmpS p' C' Mp') n1') .nil))
    repeat (first|refine z2 ?_|refine z1 ?_|refine z3 ?_|refine z4 ?_|refine z5 ?_|refine z8 ?_|refine z9 ?_)
    refine al_pick rfl rfl rfl (r := .v (.bool true)) rfl rfl rfl ?_
    repeat (first|refine z2 ?_|refine z1 ?_|refine z3 ?_|refine z4 ?_|refine z5 ?_)
    refine awp_cond rfl (fun _ => ?_) (fun h => absurd h (by decide))
    repeat (first|refine z2 ?_|refine z1 ?_|refine z3 ?_|refine z4 ?_|refine z5 ?_)
    (exact awp_ret ⟨.inl rfl, ret_one rfl (.refl (by first | trivial | exact nrl_u64s _))⟩)
theorem tail_snoc (sep y : List UInt8) : ∀ r : List (List UInt8), Lib.joinTail sep (r ++ [y]) = Lib.joinTail sep r ++ (sep ++ y)
  | [] => by simp [Lib.joinTail]
  | x :: r => by
    have e : ∀ (z : List UInt8) (q : List (List UInt8)), Lib.joinTail sep (z :: q) = (sep ++ z) ++ Lib.joinTail sep q := fun _ _ => rfl
    rw [List.cons_append, e, e, tail_snoc sep y r]
    simp only [List.append_assoc]
theorem ba_ext {x y : ByteArray} (h : x.data.toList = y.data.toList) : x = y := by
  cases x; cases y
  simp only at h
  congr 1
  exact Array.toList_inj.1 h
theorem ba_app (x y : ByteArray) : (x ++ y).data.toList = x.data.toList ++ y.data.toList := by
  rw [ByteArray.data_append, Array.toList_append]
theorem joinS_snoc {X : List ByteArray} (hX : X ≠ []) (sep y : ByteArray) : joinS (X ++ [y]) sep = (joinS X sep ++ sep) ++ y := by
  cases X with
  | nil => exact absurd rfl hX
  | cons x r =>
    refine ba_ext ?_
    rw [ba_app, ba_app]
    show Lib.join (((x :: r) ++ [y]).map (·.data.toList)) sep.data.toList = Lib.join ((x :: r).map (·.data.toList)) sep.data.toList ++ sep.data.toList ++ y.data.toList
    rw [List.cons_append, List.map_cons, List.map_cons, List.map_append, Lib.join_cons, Lib.join_cons]
    show x.data.toList ++ Lib.joinTail sep.data.toList (r.map (·.data.toList) ++ [y.data.toList]) = _
    rw [tail_snoc]
    simp only [List.append_assoc]
theorem joinS_one (sep y : ByteArray) : joinS [y] sep = (⟨#[]⟩ : ByteArray) ++ y := by
  refine ba_ext ?_
  rw [ba_app]
  show Lib.join [y.data.toList] sep.data.toList = _
  rw [Lib.join_one]; rfl
theorem joinS_size {B : Nat} {X : List ByteArray} {sep : ByteArray} (h : ∀ x ∈ X, x.size ≤ B) : (joinS X sep).size ≤ X.length * (sep.size + B) := by
  have := joinS_len sep X h
  rw [← bsz]
  exact this
theorem plan_shortG {q : Plan} (h : q.Ok) : shortG q.G := by
  have hN := h.nice
  refine ⟨by have := hN.len; have := hN.four; omega, fun l hl => by have := (hN.rows l hl).1; have := hN.plen; omega⟩
theorem plan_eq3 {Λ : Lai} {q r : Plan} (hq : q.Ok) (hr : r.Ok) : Eq3 Λ 113 114 q.p r.p q.C r.C q.Mp r.Mp ∧ Eq3 Λ 131 132 q.p r.p q.C r.C q.Mp r.Mp := by
  have l1 := hq.nice.plen
  have l2 := hr.nice.plen
  have c1 := few_short hq.tmp.1.few
  have c2 := few_short hr.tmp.1.few
  have m1 := few_short (hq.tiny.map q.b)
  have m2 := few_short (hr.tiny.map r.b)
  exact ⟨⟨eqpr_ok _ _ (by omega) (by omega), same_ok _ _ c1 c2, same_ok _ _ m1 m2⟩, ⟨leqrow_ok _ _ (by omega) (by omega), leqmat_ok _ _ c1 c2, leqmat_ok _ _ m1 m2⟩⟩
def wantS (X : List ByteArray) : Nat → ByteArray
  | 0 => ⟨#[]⟩
  | 1 => (⟨#[]⟩ : ByteArray) ++ X.getD 0 ⟨#[]⟩
  | j + 2 => (wantS X (j + 1) ++ (⟨#[44, 32]⟩ : ByteArray)) ++ X.getD (j + 1) ⟨#[]⟩
theorem wantS_take (X : List ByteArray) : ∀ j, j ≤ X.length → wantS X j = joinS (X.take j) ⟨#[44, 32]⟩
  | 0, _ => by rw [List.take_zero]; rfl
  | 1, h => by
    rw [show X.take 1 = [X.getD 0 ⟨#[]⟩] by
      cases X with
      | nil => simp at h
      | cons x X => rfl, joinS_one]; rfl
  | j + 2, h => by
    have ih := wantS_take X (j + 1) (by omega)
    have e : X.take (j + 2) = X.take (j + 1) ++ [X.getD (j + 1) ⟨#[]⟩] := by
      rw [List.take_add_one, List.getElem?_eq_getElem (by omega), List.getD_eq_getElem?_getD, List.getElem?_eq_getElem (by omega)]; rfl
    rw [wantS, ih, e, joinS_snoc (fun h0 => by have := congrArg List.length h0; rw [List.length_take] at this; have h5 : min (j + 1) X.length = 0 := this; omega)]
set_option maxRecDepth 100000 in
set_option maxHeartbeats 4000000 in
theorem texts_ok (q r : Plan) (hq : q.In) (hr : r.In) : OkP (laiOf Tryz.prog) Tryz.prog 4 [.agg q.av, .agg r.av] (.v (.bool true)) := by
  have fq := q.fits (Λ := laiOf Tryz.prog)
  have fr := r.fits (Λ := laiOf Tryz.prog)
  have hkn := known_ok
  have haq : PLift (q.av.length = 35) := ⟨pln24_len hq.gens⟩
  have har : PLift (r.av.length = 35) := ⟨pln24_len hr.gens⟩
  have hnq : nrl q.av := nrl_pln24 _ _ _ _
  have hnr : nrl r.av := nrl_pln24 _ _ _ _
  have htq : (q.av.drop 0).take 35 = q.av := by rw [List.drop_zero, List.take_of_length_le (by have := haq.down; omega)]
  have htr : (r.av.drop 0).take 35 = r.av := by rw [List.drop_zero, List.take_of_length_le (by have := har.down; omega)]
  by_cases hR : (q.R.length : Int) ≤ 3 ∧ (r.R.length : Int) ≤ 3
  · obtain ⟨hR1, hR2⟩ := hR
    have okq : q.Ok := ⟨hq.pr, ⟨by omega, hq.rows⟩, hq.gens⟩
    have okr : r.Ok := ⟨hr.pr, ⟨by omega, hr.rows⟩, hr.gens⟩
    rw [decide_eq_true hR1] at fq
    rw [decide_eq_true hR2] at fr
    have mq := okq.make
    have mr := okr.make
    have hN := okq.nice
    have hte := ttext_ok hN.K hN.tun
    have hch := tunR_sizes hN.tun
    have hsz : ∀ l ∈ q.G, OkP (laiOf Tryz.prog) Tryz.prog 25 [rowS q.p, szS l] (.tup [.v (.string (sizeS q.p l)), .v (.int .i64 0)]) := fun l hl => sztext_ok q.p l hN.K.small hN.K.plen (hch l hl)
    have hle : ∀ x ∈ q.G.map (sizeS q.p), x.size ≤ 101001 := fun x hx => by
      obtain ⟨l, hl, rfl⟩ := List.mem_map.1 hx
      exact sizeS_len hN.K.small hN.K.plen (hch l hl)
    have hwt := wantS_take (q.G.map (sizeS q.p))
    have hgl : q.G.length ≤ 4 := by have := hN.len; have := hN.four; omega
    have eq1 := tuneq_ok (plan_eq3 okq okr (Λ := laiOf Tryz.prog)).1 (plan_shortG okq) (plan_shortG okr)
    have eq2 := lequal_ok (plan_eq3 okq okr (Λ := laiOf Tryz.prog)).2 (plan_shortG okq) (plan_shortG okr)
    have eq3 := tuneq_ok (plan_eq3 okq okq (Λ := laiOf Tryz.prog)).1 (plan_shortG okq) (plan_shortG okq)
    rw [decide_eq_true ⟨⟨rfl, rfl, rfl⟩, rfl⟩] at eq3
    have n1 := nr_tunS q.p q.C q.Mp q.G
    have n2 := nr_tunS r.p r.C r.Mp r.G
    have np := nr_rowS q.p
    have np' := nr_rowS r.p
    have nC := nr_matS q.C
    have nC' := nr_matS r.C
    have nM := nr_matS q.Mp
    have nM' := nr_matS r.Mp
    have nG := nr_genS q.G
    have nG' := nr_genS r.G
    unfold tunT at hte
    generalize decide ((q.p = r.p ∧ q.C = r.C ∧ q.Mp = r.Mp) ∧ q.G = r.G) = B at eq1 eq2
    generalize q.p = p at mq hte hsz hle hwt eq1 eq2 eq3 n1 np
    generalize q.C = C at mq hte eq1 eq2 eq3 n1 nC
    generalize q.Mp = Mp at mq hte eq1 eq2 eq3 n1 nM
    generalize q.G = G at mq hte hsz hle hwt hgl eq1 eq2 eq3 n1 nG
    generalize r.p = p' at mr eq1 eq2 n2 np'
    generalize r.C = C' at mr eq1 eq2 n2 nC'
    generalize r.Mp = Mp' at mr eq1 eq2 n2 nM'
    generalize r.G = G' at mr eq1 eq2 n2 nG'
    generalize q.av = A at fq haq hnq htq mq ⊢
    generalize r.av = A' at fr har hnr htr mr ⊢
    refine okp_intro hT 84 Tryz.func4 rfl rfl rfl (Nat.le_of_ble_eq_true rfl) trivial ?_
    intro w0 F0 I
    (repeat (first | refine awp_seq ?_ | refine awp_block ?_ | refine awp_skip ?_))
    refine awp_at ⟨[(2, .adr 0 0 0), (3, .adr 1 0 0)], [(0, [⟨35, A⟩]), (1, [⟨35, A'⟩])], 2⟩ ?_ ?_
    · repeat (first|refine z2 ?_|refine z1 ?_|refine z3 ?_|refine z4 ?_|refine z5 ?_)
      exact le_ren (fun g t => some (g, t)) ⟨⟨_, rfl, .adr rfl (by show 0 < 2; omega)⟩, ⟨_, rfl, .adr rfl (by show 1 < 2; omega)⟩, trivial⟩ ⟨⟨⟨by show 0 < 2; omega, .inr ⟨0, 0, _, rfl, rfl, haq.down, WkL.refl hnq⟩⟩, trivial⟩, ⟨⟨by show 1 < 2; omega, .inr ⟨1, 0, _, rfl, rfl, har.down, WkL.refl hnr⟩⟩, trivial⟩, trivial⟩ rfl (base_nil _ _)
    (repeat (first | refine awp_seq ?_ | refine awp_block ?_ | refine awp_skip ?_))
    refine awp_at ⟨[(2, .adr 0 0 0), (3, .adr 1 0 0), (24, .v (.bool false))], [(0, [⟨35, A⟩]), (1, [⟨35, A'⟩])], 2⟩ ?_ ?_
    · refine awp_region ?_
      refine zc (hkn) ?_
      repeat (first|refine z2 ?_|refine z1 ?_|refine z3 ?_|refine z4 ?_|refine z5 ?_)
      have hdA : (!true) = false := rfl
      refine al_on hT rfl rfl rfl rfl (pure_load_aa rfl rfl rfl rfl htq) rfl rfl (by show 0 + 35 ≤ A.length; have := haq.down; omega) ?_
      refine zo fq ?_ (hs := by exact .cons (.refl (x := .agg A) hnq) .nil)
      repeat (first|refine z2 ?_|refine z1 ?_|refine z3 ?_|refine z4 ?_|refine z5 ?_|refine z8 ?_|refine z9 ?_)
      refine al_on hT rfl rfl rfl rfl (pure_load_aa rfl rfl rfl rfl htr) rfl rfl (by show 0 + 35 ≤ A'.length; have := har.down; omega) ?_
      refine zo fr ?_ (hgt := by exact rfl) (hs := by exact .cons (.refl (x := .agg A') hnr) .nil)
      repeat (first|refine z2 ?_|refine z1 ?_|refine z3 ?_|refine z4 ?_|refine z5 ?_|refine z8 ?_|refine z9 ?_)
      exact le_sub ⟨rfl, rfl, rfl, trivial⟩ rfl rfl
    refine awp_cond rfl (fun h => absurd h (by decide)) (fun _ => ?_)
    (repeat (first | refine awp_seq ?_ | refine awp_block ?_ | refine awp_skip ?_))
    refine awp_at ⟨[(5, .adr 0 0 0), (6, .adr 1 0 0)], [(0, [⟨4, [rowS p, matS C, matS Mp, genS G]⟩]), (1, [⟨4, [rowS p', matS C', matS Mp', genS G']⟩])], 2⟩ ?_ ?_
    · have hAq : 0 + 35 ≤ A.length := by have := haq.down; omega
      have hAr : 0 + 35 ≤ A'.length := by have := har.down; omega
      have hrows4 : ∀ {env : List (Nat × AV)}, objsLe ⟨env, [(3, [zTun]), (2, [zTun]), (0, [⟨35, A⟩]), (1, [⟨35, A'⟩])], 4⟩ sw23 4 [(3, [zTun]), (2, [zTun]), (0, [⟨35, A⟩]), (1, [⟨35, A'⟩])] := ⟨⟨⟨by show 3 < 4; omega, .inr ⟨2, 0, _, rfl, rfl, rfl, WkL.refl nrl_zTun⟩⟩, trivial⟩, ⟨⟨by show 2 < 4; omega, .inr ⟨3, 0, _, rfl, rfl, rfl, WkL.refl nrl_zTun⟩⟩, trivial⟩, ⟨⟨by show 0 < 4; omega, .inr ⟨0, 0, _, rfl, rfl, rfl, WkL.refl hnq⟩⟩, trivial⟩, ⟨⟨by show 1 < 4; omega, .inr ⟨1, 0, _, rfl, rfl, rfl, WkL.refl hnr⟩⟩, trivial⟩, trivial⟩
      refine awp_region_nr (m := 8) (ar := #[false, false, false, false, false, false, false, false]) hmix rfl rfl (fun ops Q hops hQ => ?_)
      have n012345 : NR Tryz.prog ⟨w0, F0, I, 84, [], laiOf Tryz.prog⟩ ops Q 2 #[true, true, true, true, true, true, false, false] ⟨[(27, tunS p C Mp G), (29, tunS p' C' Mp' G'), (5, .adr 2 0 0), (6, .adr 3 0 0)], [(3, [zTun]), (2, [zTun]), (0, [⟨35, A⟩]), (1, [⟨35, A'⟩])], 4⟩ := by
        subst hops hQ
        refine NR.tail (k := 6) [] rfl (by kernel_rfl) ?_
        repeat (first|refine z2 ?_|refine z1 ?_|refine z3 ?_|refine z4 ?_|refine z5 ?_)
        exact le_ren (fun g t => some (g + 2, t)) ⟨⟨_, rfl, .adr rfl (by show 0 < 2; omega)⟩, ⟨_, rfl, .adr rfl (by show 1 < 2; omega)⟩, trivial⟩ ⟨⟨⟨by show 0 < 2; omega, .inr ⟨2, 0, _, rfl, rfl, rfl, WkL.refl ⟨np, nC, nM, nG, trivial⟩⟩⟩, trivial⟩, ⟨⟨by show 1 < 2; omega, .inr ⟨3, 0, _, rfl, rfl, rfl, WkL.refl ⟨np', nC', nM', nG', trivial⟩⟩⟩, trivial⟩, trivial⟩ rfl (base_nil _ _)
      have n01234 : NR Tryz.prog ⟨w0, F0, I, 84, [], laiOf Tryz.prog⟩ ops Q 3 #[true, true, true, true, true, false, false, false] ⟨[(27, tunS p C Mp G), (29, tunS p' C' Mp' G'), (5, .adr 2 0 0)], [(2, [zTun]), (0, [⟨35, A⟩]), (1, [⟨35, A'⟩])], 3⟩ := .step (rs := [5]) (by rw [hops]; kernel_rfl) rfl ⟨ns_alloc hops (n012345.le (le_sub ⟨rfl, rfl, rfl, rfl, trivial⟩ rfl rfl)) rfl rfl rfl rfl rfl rfl, trivial⟩
      have n01235 : NR Tryz.prog ⟨w0, F0, I, 84, [], laiOf Tryz.prog⟩ ops Q 3 #[true, true, true, true, false, true, false, false] ⟨[(27, tunS p C Mp G), (29, tunS p' C' Mp' G'), (6, .adr 2 0 0)], [(2, [zTun]), (0, [⟨35, A⟩]), (1, [⟨35, A'⟩])], 3⟩ := .step (rs := [4]) (by rw [hops]; kernel_rfl) rfl ⟨ns_alloc hops (n012345.le (le_ren sw23 ⟨⟨_, rfl, .refl (x := tunS p C Mp G) n1⟩, ⟨_, rfl, .refl (x := tunS p' C' Mp' G') n2⟩, ⟨_, rfl, .adr rfl (lt4 2 rfl)⟩, ⟨_, rfl, .adr rfl (lt4 3 rfl)⟩, trivial⟩ hrows4 rfl (base_nil _ _))) rfl rfl rfl rfl rfl rfl, trivial⟩
      have n01245 : NR Tryz.prog ⟨w0, F0, I, 84, [], laiOf Tryz.prog⟩ ops Q 3 #[true, true, true, false, true, true, false, false] ⟨[(27, tunS p C Mp G), (28, .agg A'), (5, .adr 2 0 0), (6, .adr 3 0 0)], [(3, [zTun]), (2, [zTun]), (0, [⟨35, A⟩]), (1, [⟨35, A'⟩])], 4⟩ := .step (rs := [3]) (by rw [hops]; kernel_rfl) rfl ⟨ns_call hops mr (n012345.le (le_sub ⟨rfl, rfl, rfl, rfl, trivial⟩ rfl rfl)) rfl rfl rfl rfl rfl (.cons (.refl (x := .agg A') hnr) .nil) (.inr ⟨⟨hnr, trivial⟩, rfl⟩) rfl rfl, trivial⟩
      have n0123 : NR Tryz.prog ⟨w0, F0, I, 84, [], laiOf Tryz.prog⟩ ops Q 4 #[true, true, true, true, false, false, false, false] ⟨[(27, tunS p C Mp G), (29, tunS p' C' Mp' G')], [(0, [⟨35, A⟩]), (1, [⟨35, A'⟩])], 2⟩ := .step (rs := [4, 5]) (by rw [hops]; kernel_rfl) rfl ⟨ns_alloc hops (n01234.le (le_sub ⟨rfl, rfl, rfl, trivial⟩ rfl rfl)) rfl rfl rfl rfl rfl rfl, ns_alloc hops (n01235.le (le_sub ⟨rfl, rfl, rfl, trivial⟩ rfl rfl)) rfl rfl rfl rfl rfl rfl, trivial⟩
      have n0124 : NR Tryz.prog ⟨w0, F0, I, 84, [], laiOf Tryz.prog⟩ ops Q 4 #[true, true, true, false, true, false, false, false] ⟨[(27, tunS p C Mp G), (28, .agg A'), (5, .adr 2 0 0)], [(2, [zTun]), (0, [⟨35, A⟩]), (1, [⟨35, A'⟩])], 3⟩ := .step (rs := [3, 5]) (by rw [hops]; kernel_rfl) rfl ⟨ns_call hops mr (n01234.le (le_sub ⟨rfl, rfl, rfl, trivial⟩ rfl rfl)) rfl rfl rfl rfl rfl (.cons (.refl (x := .agg A') hnr) .nil) (.inr ⟨⟨hnr, trivial⟩, rfl⟩) rfl rfl, ns_alloc hops (n01245.le (le_sub ⟨rfl, rfl, rfl, rfl, trivial⟩ rfl rfl)) rfl rfl rfl rfl rfl rfl, trivial⟩
      have n0125 : NR Tryz.prog ⟨w0, F0, I, 84, [], laiOf Tryz.prog⟩ ops Q 4 #[true, true, true, false, false, true, false, false] ⟨[(27, tunS p C Mp G), (28, .agg A'), (6, .adr 2 0 0)], [(2, [zTun]), (0, [⟨35, A⟩]), (1, [⟨35, A'⟩])], 3⟩ := .step (rs := [3, 4]) (by rw [hops]; kernel_rfl) rfl ⟨ns_call hops mr (n01235.le (le_sub ⟨rfl, rfl, rfl, trivial⟩ rfl rfl)) rfl rfl rfl rfl rfl (.cons (.refl (x := .agg A') hnr) .nil) (.inr ⟨⟨hnr, trivial⟩, rfl⟩) rfl rfl, ns_alloc hops (n01245.le (le_ren sw23 ⟨⟨_, rfl, .refl (x := tunS p C Mp G) n1⟩, ⟨_, rfl, .refl (x := .agg A') hnr⟩, ⟨_, rfl, .adr rfl (lt4 2 rfl)⟩, ⟨_, rfl, .adr rfl (lt4 3 rfl)⟩, trivial⟩ hrows4 rfl (base_nil _ _))) rfl rfl rfl rfl rfl rfl, trivial⟩
      have n0145 : NR Tryz.prog ⟨w0, F0, I, 84, [], laiOf Tryz.prog⟩ ops Q 4 #[true, true, false, false, true, true, false, false] ⟨[(27, tunS p C Mp G), (5, .adr 2 0 0), (6, .adr 3 0 0), (3, .adr 1 0 0)], [(3, [zTun]), (2, [zTun]), (0, [⟨35, A⟩]), (1, [⟨35, A'⟩])], 4⟩ := .step (rs := [2]) (by rw [hops]; kernel_rfl) rfl ⟨ns_pure hops (n01245.le (le_sub ⟨rfl, rfl, rfl, rfl, trivial⟩ rfl rfl)) rfl rfl (pure_load_aa rfl rfl rfl rfl htr) rfl rfl hAr, trivial⟩
      have n0245 : NR Tryz.prog ⟨w0, F0, I, 84, [], laiOf Tryz.prog⟩ ops Q 4 #[true, false, true, false, true, true, false, false] ⟨[(26, .agg A), (28, .agg A'), (5, .adr 2 0 0), (6, .adr 3 0 0)], [(3, [zTun]), (2, [zTun]), (0, [⟨35, A⟩]), (1, [⟨35, A'⟩])], 4⟩ := .step (rs := [1]) (by rw [hops]; kernel_rfl) rfl ⟨ns_call hops mq (n01245.le (le_sub ⟨rfl, rfl, rfl, rfl, trivial⟩ rfl rfl)) rfl rfl rfl rfl rfl (.cons (.refl (x := .agg A) hnq) .nil) (.inr ⟨⟨hnq, trivial⟩, rfl⟩) rfl rfl, trivial⟩
      have n012 : NR Tryz.prog ⟨w0, F0, I, 84, [], laiOf Tryz.prog⟩ ops Q 5 #[true, true, true, false, false, false, false, false] ⟨[(27, tunS p C Mp G), (28, .agg A')], [(0, [⟨35, A⟩]), (1, [⟨35, A'⟩])], 2⟩ := .step (rs := [3, 4, 5]) (by rw [hops]; kernel_rfl) rfl ⟨ns_call hops mr (n0123.le (le_sub ⟨rfl, rfl, trivial⟩ rfl rfl)) rfl rfl rfl rfl rfl (.cons (.refl (x := .agg A') hnr) .nil) (.inr ⟨⟨hnr, trivial⟩, rfl⟩) rfl rfl, ns_alloc hops (n0124.le (le_sub ⟨rfl, rfl, rfl, trivial⟩ rfl rfl)) rfl rfl rfl rfl rfl rfl, ns_alloc hops (n0125.le (le_sub ⟨rfl, rfl, rfl, trivial⟩ rfl rfl)) rfl rfl rfl rfl rfl rfl, trivial⟩
      have n014 : NR Tryz.prog ⟨w0, F0, I, 84, [], laiOf Tryz.prog⟩ ops Q 5 #[true, true, false, false, true, false, false, false] ⟨[(27, tunS p C Mp G), (5, .adr 2 0 0), (3, .adr 1 0 0)], [(2, [zTun]), (0, [⟨35, A⟩]), (1, [⟨35, A'⟩])], 3⟩ := .step (rs := [2, 5]) (by rw [hops]; kernel_rfl) rfl ⟨ns_pure hops (n0124.le (le_sub ⟨rfl, rfl, rfl, trivial⟩ rfl rfl)) rfl rfl (pure_load_aa rfl rfl rfl rfl htr) rfl rfl hAr, ns_alloc hops (n0145.le (le_sub ⟨rfl, rfl, rfl, rfl, trivial⟩ rfl rfl)) rfl rfl rfl rfl rfl rfl, trivial⟩
      have n015 : NR Tryz.prog ⟨w0, F0, I, 84, [], laiOf Tryz.prog⟩ ops Q 5 #[true, true, false, false, false, true, false, false] ⟨[(27, tunS p C Mp G), (6, .adr 2 0 0), (3, .adr 1 0 0)], [(2, [zTun]), (0, [⟨35, A⟩]), (1, [⟨35, A'⟩])], 3⟩ := .step (rs := [2, 4]) (by rw [hops]; kernel_rfl) rfl ⟨ns_pure hops (n0125.le (le_sub ⟨rfl, rfl, rfl, trivial⟩ rfl rfl)) rfl rfl (pure_load_aa rfl rfl rfl rfl htr) rfl rfl hAr, ns_alloc hops (n0145.le (le_ren sw23 ⟨⟨_, rfl, .refl (x := tunS p C Mp G) n1⟩, ⟨_, rfl, .adr rfl (lt4 2 rfl)⟩, ⟨_, rfl, .adr rfl (lt4 3 rfl)⟩, ⟨_, rfl, .adr rfl (lt4 1 rfl)⟩, trivial⟩ hrows4 rfl (base_nil _ _))) rfl rfl rfl rfl rfl rfl, trivial⟩
      have n024 : NR Tryz.prog ⟨w0, F0, I, 84, [], laiOf Tryz.prog⟩ ops Q 5 #[true, false, true, false, true, false, false, false] ⟨[(26, .agg A), (28, .agg A'), (5, .adr 2 0 0)], [(2, [zTun]), (0, [⟨35, A⟩]), (1, [⟨35, A'⟩])], 3⟩ := .step (rs := [1, 5]) (by rw [hops]; kernel_rfl) rfl ⟨ns_call hops mq (n0124.le (le_sub ⟨rfl, rfl, rfl, trivial⟩ rfl rfl)) rfl rfl rfl rfl rfl (.cons (.refl (x := .agg A) hnq) .nil) (.inr ⟨⟨hnq, trivial⟩, rfl⟩) rfl rfl, ns_alloc hops (n0245.le (le_sub ⟨rfl, rfl, rfl, rfl, trivial⟩ rfl rfl)) rfl rfl rfl rfl rfl rfl, trivial⟩
      have n025 : NR Tryz.prog ⟨w0, F0, I, 84, [], laiOf Tryz.prog⟩ ops Q 5 #[true, false, true, false, false, true, false, false] ⟨[(26, .agg A), (28, .agg A'), (6, .adr 2 0 0)], [(2, [zTun]), (0, [⟨35, A⟩]), (1, [⟨35, A'⟩])], 3⟩ := .step (rs := [1, 4]) (by rw [hops]; kernel_rfl) rfl ⟨ns_call hops mq (n0125.le (le_sub ⟨rfl, rfl, rfl, trivial⟩ rfl rfl)) rfl rfl rfl rfl rfl (.cons (.refl (x := .agg A) hnq) .nil) (.inr ⟨⟨hnq, trivial⟩, rfl⟩) rfl rfl, ns_alloc hops (n0245.le (le_ren sw23 ⟨⟨_, rfl, .refl (x := .agg A) hnq⟩, ⟨_, rfl, .refl (x := .agg A') hnr⟩, ⟨_, rfl, .adr rfl (lt4 2 rfl)⟩, ⟨_, rfl, .adr rfl (lt4 3 rfl)⟩, trivial⟩ hrows4 rfl (base_nil _ _))) rfl rfl rfl rfl rfl rfl, trivial⟩
      have n045 : NR Tryz.prog ⟨w0, F0, I, 84, [], laiOf Tryz.prog⟩ ops Q 5 #[true, false, false, false, true, true, false, false] ⟨[(26, .agg A), (5, .adr 2 0 0), (6, .adr 3 0 0), (3, .adr 1 0 0)], [(3, [zTun]), (2, [zTun]), (0, [⟨35, A⟩]), (1, [⟨35, A'⟩])], 4⟩ := .step (rs := [1, 2]) (by rw [hops]; kernel_rfl) rfl ⟨ns_call hops mq (n0145.le (le_sub ⟨rfl, rfl, rfl, rfl, trivial⟩ rfl rfl)) rfl rfl rfl rfl rfl (.cons (.refl (x := .agg A) hnq) .nil) (.inr ⟨⟨hnq, trivial⟩, rfl⟩) rfl rfl, ns_pure hops (n0245.le (le_sub ⟨rfl, rfl, rfl, rfl, trivial⟩ rfl rfl)) rfl rfl (pure_load_aa rfl rfl rfl rfl htr) rfl rfl hAr, trivial⟩
      have n245 : NR Tryz.prog ⟨w0, F0, I, 84, [], laiOf Tryz.prog⟩ ops Q 5 #[false, false, true, false, true, true, false, false] ⟨[(28, .agg A'), (5, .adr 2 0 0), (6, .adr 3 0 0), (2, .adr 0 0 0)], [(3, [zTun]), (2, [zTun]), (0, [⟨35, A⟩]), (1, [⟨35, A'⟩])], 4⟩ := .step (rs := [0]) (by rw [hops]; kernel_rfl) rfl ⟨ns_pure hops (n0245.le (le_sub ⟨rfl, rfl, rfl, rfl, trivial⟩ rfl rfl)) rfl rfl (pure_load_aa rfl rfl rfl rfl htq) rfl rfl hAq, trivial⟩
      have n01 : NR Tryz.prog ⟨w0, F0, I, 84, [], laiOf Tryz.prog⟩ ops Q 6 #[true, true, false, false, false, false, false, false] ⟨[(27, tunS p C Mp G), (3, .adr 1 0 0)], [(0, [⟨35, A⟩]), (1, [⟨35, A'⟩])], 2⟩ := .step (rs := [2, 4, 5]) (by rw [hops]; kernel_rfl) rfl ⟨ns_pure hops (n012.le (le_sub ⟨rfl, rfl, trivial⟩ rfl rfl)) rfl rfl (pure_load_aa rfl rfl rfl rfl htr) rfl rfl hAr, ns_alloc hops (n014.le (le_sub ⟨rfl, rfl, rfl, trivial⟩ rfl rfl)) rfl rfl rfl rfl rfl rfl, ns_alloc hops (n015.le (le_sub ⟨rfl, rfl, rfl, trivial⟩ rfl rfl)) rfl rfl rfl rfl rfl rfl, trivial⟩
      have n02 : NR Tryz.prog ⟨w0, F0, I, 84, [], laiOf Tryz.prog⟩ ops Q 6 #[true, false, true, false, false, false, false, false] ⟨[(26, .agg A), (28, .agg A')], [(0, [⟨35, A⟩]), (1, [⟨35, A'⟩])], 2⟩ := .step (rs := [1, 4, 5]) (by rw [hops]; kernel_rfl) rfl ⟨ns_call hops mq (n012.le (le_sub ⟨rfl, rfl, trivial⟩ rfl rfl)) rfl rfl rfl rfl rfl (.cons (.refl (x := .agg A) hnq) .nil) (.inr ⟨⟨hnq, trivial⟩, rfl⟩) rfl rfl, ns_alloc hops (n024.le (le_sub ⟨rfl, rfl, rfl, trivial⟩ rfl rfl)) rfl rfl rfl rfl rfl rfl, ns_alloc hops (n025.le (le_sub ⟨rfl, rfl, rfl, trivial⟩ rfl rfl)) rfl rfl rfl rfl rfl rfl, trivial⟩
      have n04 : NR Tryz.prog ⟨w0, F0, I, 84, [], laiOf Tryz.prog⟩ ops Q 6 #[true, false, false, false, true, false, false, false] ⟨[(26, .agg A), (5, .adr 2 0 0), (3, .adr 1 0 0)], [(2, [zTun]), (0, [⟨35, A⟩]), (1, [⟨35, A'⟩])], 3⟩ := .step (rs := [1, 2, 5]) (by rw [hops]; kernel_rfl) rfl ⟨ns_call hops mq (n014.le (le_sub ⟨rfl, rfl, rfl, trivial⟩ rfl rfl)) rfl rfl rfl rfl rfl (.cons (.refl (x := .agg A) hnq) .nil) (.inr ⟨⟨hnq, trivial⟩, rfl⟩) rfl rfl, ns_pure hops (n024.le (le_sub ⟨rfl, rfl, rfl, trivial⟩ rfl rfl)) rfl rfl (pure_load_aa rfl rfl rfl rfl htr) rfl rfl hAr, ns_alloc hops (n045.le (le_sub ⟨rfl, rfl, rfl, rfl, trivial⟩ rfl rfl)) rfl rfl rfl rfl rfl rfl, trivial⟩
      have n05 : NR Tryz.prog ⟨w0, F0, I, 84, [], laiOf Tryz.prog⟩ ops Q 6 #[true, false, false, false, false, true, false, false] ⟨[(26, .agg A), (6, .adr 2 0 0), (3, .adr 1 0 0)], [(2, [zTun]), (0, [⟨35, A⟩]), (1, [⟨35, A'⟩])], 3⟩ := .step (rs := [1, 2, 4]) (by rw [hops]; kernel_rfl) rfl ⟨ns_call hops mq (n015.le (le_sub ⟨rfl, rfl, rfl, trivial⟩ rfl rfl)) rfl rfl rfl rfl rfl (.cons (.refl (x := .agg A) hnq) .nil) (.inr ⟨⟨hnq, trivial⟩, rfl⟩) rfl rfl, ns_pure hops (n025.le (le_sub ⟨rfl, rfl, rfl, trivial⟩ rfl rfl)) rfl rfl (pure_load_aa rfl rfl rfl rfl htr) rfl rfl hAr, ns_alloc hops (n045.le (le_ren sw23 ⟨⟨_, rfl, .refl (x := .agg A) hnq⟩, ⟨_, rfl, .adr rfl (lt4 2 rfl)⟩, ⟨_, rfl, .adr rfl (lt4 3 rfl)⟩, ⟨_, rfl, .adr rfl (lt4 1 rfl)⟩, trivial⟩ hrows4 rfl (base_nil _ _))) rfl rfl rfl rfl rfl rfl, trivial⟩
      have n24 : NR Tryz.prog ⟨w0, F0, I, 84, [], laiOf Tryz.prog⟩ ops Q 6 #[false, false, true, false, true, false, false, false] ⟨[(28, .agg A'), (5, .adr 2 0 0), (2, .adr 0 0 0)], [(2, [zTun]), (0, [⟨35, A⟩]), (1, [⟨35, A'⟩])], 3⟩ := .step (rs := [0, 5]) (by rw [hops]; kernel_rfl) rfl ⟨ns_pure hops (n024.le (le_sub ⟨rfl, rfl, rfl, trivial⟩ rfl rfl)) rfl rfl (pure_load_aa rfl rfl rfl rfl htq) rfl rfl hAq, ns_alloc hops (n245.le (le_sub ⟨rfl, rfl, rfl, rfl, trivial⟩ rfl rfl)) rfl rfl rfl rfl rfl rfl, trivial⟩
      have n25 : NR Tryz.prog ⟨w0, F0, I, 84, [], laiOf Tryz.prog⟩ ops Q 6 #[false, false, true, false, false, true, false, false] ⟨[(28, .agg A'), (6, .adr 2 0 0), (2, .adr 0 0 0)], [(2, [zTun]), (0, [⟨35, A⟩]), (1, [⟨35, A'⟩])], 3⟩ := .step (rs := [0, 4]) (by rw [hops]; kernel_rfl) rfl ⟨ns_pure hops (n025.le (le_sub ⟨rfl, rfl, rfl, trivial⟩ rfl rfl)) rfl rfl (pure_load_aa rfl rfl rfl rfl htq) rfl rfl hAq, ns_alloc hops (n245.le (le_ren sw23 ⟨⟨_, rfl, .refl (x := .agg A') hnr⟩, ⟨_, rfl, .adr rfl (lt4 2 rfl)⟩, ⟨_, rfl, .adr rfl (lt4 3 rfl)⟩, ⟨_, rfl, .adr rfl (lt4 0 rfl)⟩, trivial⟩ hrows4 rfl (base_nil _ _))) rfl rfl rfl rfl rfl rfl, trivial⟩
      have n45 : NR Tryz.prog ⟨w0, F0, I, 84, [], laiOf Tryz.prog⟩ ops Q 6 #[false, false, false, false, true, true, false, false] ⟨[(5, .adr 2 0 0), (6, .adr 3 0 0), (2, .adr 0 0 0), (3, .adr 1 0 0)], [(3, [zTun]), (2, [zTun]), (0, [⟨35, A⟩]), (1, [⟨35, A'⟩])], 4⟩ := .step (rs := [0, 2]) (by rw [hops]; kernel_rfl) rfl ⟨ns_pure hops (n045.le (le_sub ⟨rfl, rfl, rfl, rfl, trivial⟩ rfl rfl)) rfl rfl (pure_load_aa rfl rfl rfl rfl htq) rfl rfl hAq, ns_pure hops (n245.le (le_sub ⟨rfl, rfl, rfl, rfl, trivial⟩ rfl rfl)) rfl rfl (pure_load_aa rfl rfl rfl rfl htr) rfl rfl hAr, trivial⟩
      have n0 : NR Tryz.prog ⟨w0, F0, I, 84, [], laiOf Tryz.prog⟩ ops Q 7 #[true, false, false, false, false, false, false, false] ⟨[(26, .agg A), (3, .adr 1 0 0)], [(0, [⟨35, A⟩]), (1, [⟨35, A'⟩])], 2⟩ := .step (rs := [1, 2, 4, 5]) (by rw [hops]; kernel_rfl) rfl ⟨ns_call hops mq (n01.le (le_sub ⟨rfl, rfl, trivial⟩ rfl rfl)) rfl rfl rfl rfl rfl (.cons (.refl (x := .agg A) hnq) .nil) (.inr ⟨⟨hnq, trivial⟩, rfl⟩) rfl rfl, ns_pure hops (n02.le (le_sub ⟨rfl, rfl, trivial⟩ rfl rfl)) rfl rfl (pure_load_aa rfl rfl rfl rfl htr) rfl rfl hAr, ns_alloc hops (n04.le (le_sub ⟨rfl, rfl, rfl, trivial⟩ rfl rfl)) rfl rfl rfl rfl rfl rfl, ns_alloc hops (n05.le (le_sub ⟨rfl, rfl, rfl, trivial⟩ rfl rfl)) rfl rfl rfl rfl rfl rfl, trivial⟩
      have n2 : NR Tryz.prog ⟨w0, F0, I, 84, [], laiOf Tryz.prog⟩ ops Q 7 #[false, false, true, false, false, false, false, false] ⟨[(28, .agg A'), (2, .adr 0 0 0)], [(0, [⟨35, A⟩]), (1, [⟨35, A'⟩])], 2⟩ := .step (rs := [0, 4, 5]) (by rw [hops]; kernel_rfl) rfl ⟨ns_pure hops (n02.le (le_sub ⟨rfl, rfl, trivial⟩ rfl rfl)) rfl rfl (pure_load_aa rfl rfl rfl rfl htq) rfl rfl hAq, ns_alloc hops (n24.le (le_sub ⟨rfl, rfl, rfl, trivial⟩ rfl rfl)) rfl rfl rfl rfl rfl rfl, ns_alloc hops (n25.le (le_sub ⟨rfl, rfl, rfl, trivial⟩ rfl rfl)) rfl rfl rfl rfl rfl rfl, trivial⟩
      have n4 : NR Tryz.prog ⟨w0, F0, I, 84, [], laiOf Tryz.prog⟩ ops Q 7 #[false, false, false, false, true, false, false, false] ⟨[(5, .adr 2 0 0), (2, .adr 0 0 0), (3, .adr 1 0 0)], [(2, [zTun]), (0, [⟨35, A⟩]), (1, [⟨35, A'⟩])], 3⟩ := .step (rs := [0, 2, 5]) (by rw [hops]; kernel_rfl) rfl ⟨ns_pure hops (n04.le (le_sub ⟨rfl, rfl, rfl, trivial⟩ rfl rfl)) rfl rfl (pure_load_aa rfl rfl rfl rfl htq) rfl rfl hAq, ns_pure hops (n24.le (le_sub ⟨rfl, rfl, rfl, trivial⟩ rfl rfl)) rfl rfl (pure_load_aa rfl rfl rfl rfl htr) rfl rfl hAr, ns_alloc hops (n45.le (le_sub ⟨rfl, rfl, rfl, rfl, trivial⟩ rfl rfl)) rfl rfl rfl rfl rfl rfl, trivial⟩
      have n5 : NR Tryz.prog ⟨w0, F0, I, 84, [], laiOf Tryz.prog⟩ ops Q 7 #[false, false, false, false, false, true, false, false] ⟨[(6, .adr 2 0 0), (2, .adr 0 0 0), (3, .adr 1 0 0)], [(2, [zTun]), (0, [⟨35, A⟩]), (1, [⟨35, A'⟩])], 3⟩ := .step (rs := [0, 2, 4]) (by rw [hops]; kernel_rfl) rfl ⟨ns_pure hops (n05.le (le_sub ⟨rfl, rfl, rfl, trivial⟩ rfl rfl)) rfl rfl (pure_load_aa rfl rfl rfl rfl htq) rfl rfl hAq, ns_pure hops (n25.le (le_sub ⟨rfl, rfl, rfl, trivial⟩ rfl rfl)) rfl rfl (pure_load_aa rfl rfl rfl rfl htr) rfl rfl hAr, ns_alloc hops (n45.le (le_ren sw23 ⟨⟨_, rfl, .adr rfl (lt4 2 rfl)⟩, ⟨_, rfl, .adr rfl (lt4 3 rfl)⟩, ⟨_, rfl, .adr rfl (lt4 0 rfl)⟩, ⟨_, rfl, .adr rfl (lt4 1 rfl)⟩, trivial⟩ hrows4 rfl (base_nil _ _))) rfl rfl rfl rfl rfl rfl, trivial⟩
      have n : NR Tryz.prog ⟨w0, F0, I, 84, [], laiOf Tryz.prog⟩ ops Q 8 #[false, false, false, false, false, false, false, false] ⟨[(2, .adr 0 0 0), (3, .adr 1 0 0)], [(0, [⟨35, A⟩]), (1, [⟨35, A'⟩])], 2⟩ := .step (rs := [0, 2, 4, 5]) (by rw [hops]; kernel_rfl) rfl ⟨ns_pure hops (n0.le (le_sub ⟨rfl, rfl, trivial⟩ rfl rfl)) rfl rfl (pure_load_aa rfl rfl rfl rfl htq) rfl rfl hAq, ns_pure hops (n2.le (le_sub ⟨rfl, rfl, trivial⟩ rfl rfl)) rfl rfl (pure_load_aa rfl rfl rfl rfl htr) rfl rfl hAr, ns_alloc hops (n4.le (le_sub ⟨rfl, rfl, rfl, trivial⟩ rfl rfl)) rfl rfl rfl rfl rfl rfl, ns_alloc hops (n5.le (le_sub ⟨rfl, rfl, rfl, trivial⟩ rfl rfl)) rfl rfl rfl rfl rfl rfl, trivial⟩
      exact n.le (le_sub ⟨rfl, rfl, trivial⟩ rfl rfl)
    repeat (first|refine z2 ?_|refine z1 ?_|refine z3 ?_|refine z4 ?_|refine z5 ?_)
    refine zc hte ?_ (hs := by exact .cons (.refl (x := tunS p C Mp G) n1) .nil) (hr := by exact .inl ⟨trivial, trivial, trivial⟩)
    repeat (first|refine z2 ?_|refine z1 ?_|refine z3 ?_|refine z4 ?_|refine z5 ?_)
    generalize hX : G.map (sizeS p) = X at hte hle hwt
    have hXl : X.length = G.length := by rw [← hX, List.length_map]
    refine awp_loop (fun x : { x : Nat // x ≤ G.length } => ⟨[(5, .adr 0 0 0), (6, .adr 1 0 0), (7, .v (.string (joinS X ⟨#[44, 32]⟩))), (8, .v (.int .i64 0)), (9, .v (.string (wantS X x.1))), (10, .v (.int .i64 x.1))], [(0, [⟨4, [rowS p, matS C, matS Mp, genS G]⟩]), (1, [⟨4, [rowS p', matS C', matS Mp', genS G']⟩])], 2⟩) (fun x => G.length - x.1) ⟨0, Nat.zero_le _⟩ (le_sub ⟨rfl, rfl, rfl, rfl, rfl, rfl, trivial⟩ rfl rfl) ?_
    rintro ⟨j, hj⟩
    simp only at hj ⊢
    repeat (first|refine z2 ?_|refine z1 ?_|refine z3 ?_|refine z4 ?_|refine z5 ?_)
    refine awp_cond rfl (fun h2 => ?_) (fun h2 => ?_)
    · have hjl : j < G.length := by have := of_decide_eq_true h2; omega
      clear h2
      have hat := genS_drop (G := G) (i := (j : Int).toNat * 1) (j := j) (by omega) hjl
      have hst := hsz _ (List.getElem_mem hjl)
      have hxj : X.getD j ⟨#[]⟩ = sizeS p G[j] := by rw [← hX, List.getD_eq_getElem?_getD, List.getElem?_map, List.getElem?_eq_getElem hjl]; rfl
      have hsj := hle (sizeS p G[j]) (by rw [← hX]; exact List.mem_map.2 ⟨_, List.getElem_mem hjl, rfl⟩)
      have hwj : (wantS X j).size ≤ 1000000 := by
        rw [hwt j (by omega)]
        refine Nat.le_trans (joinS_size (B := 101001) (fun x hx => hle x (List.mem_of_mem_take hx))) ?_
        rw [List.length_take]
        have e2 : (⟨#[44, 32]⟩ : ByteArray).size = 2 := rfl
        rw [e2]
        have := Nat.mul_le_mul_right (2 + 101001) (show min j X.length ≤ 4 by omega)
        omega
      generalize G[j] = l at hat hst hxj hsj
      have hnl := nr_szS l
      generalize sizeS p l = s at hst hxj hsj
      (repeat (first | refine awp_seq ?_ | refine awp_block ?_ | refine awp_skip ?_))
      refine awp_region_draw [] hmix (by kernel_rfl) ?_
      unfold genS
      repeat (first|refine z2 ?_|refine z1 ?_|refine z3 ?_|refine z4 ?_|refine z5 ?_)
      refine al_pure hT rfl (pure_load_pt rfl rfl rfl hat) rfl rfl True.intro ?_
      refine zc hst ?_ (hs := by exact .cons (.refl (x := rowS p) np) (.cons (.refl (x := szS l) hnl) .nil)) (hr := by exact .inl ⟨trivial, trivial, trivial⟩)
      repeat (first|refine z2 ?_|refine z1 ?_|refine z3 ?_|refine z4 ?_|refine z5 ?_)
      refine awp_cond rfl (fun h => absurd h (by decide)) (fun _ => ?_)
      repeat (first|refine z2 ?_|refine z1 ?_|refine z3 ?_|refine z4 ?_|refine z5 ?_)
      refine awp_cond rfl (fun h2 => ?_) (fun h2 => ?_)
      · obtain ⟨i, rfl⟩ : ∃ i, j = i + 1 := ⟨j - 1, by have := of_decide_eq_true h2; omega⟩
        repeat (first|refine z2 ?_|refine z1 ?_|refine z3 ?_|refine z4 ?_|refine z5 ?_)
        refine al_pure hT rfl rfl rfl rfl (by show (wantS X (i + 1)).size + 2 ≤ 9223372036854775807; omega) ?_
        repeat (first|refine z2 ?_|refine z1 ?_|refine z3 ?_|refine z4 ?_|refine z5 ?_)
        refine al_pure hT rfl rfl rfl rfl (by show (wantS X (i + 1) ++ (⟨#[44, 32]⟩ : ByteArray)).size + s.size ≤ 9223372036854775807; rw [ByteArray.size_append]; show _ + 2 + _ ≤ _; omega) ?_
        repeat (first|refine z2 ?_|refine z1 ?_|refine z3 ?_|refine z4 ?_|refine z5 ?_)
        refine ⟨⟨i + 2, hjl⟩, le_sub ⟨rfl, rfl, rfl, rfl, ?_, rfl, trivial⟩ rfl rfl, by show G.length - (i + 2) < G.length - (i + 1); omega⟩
        rw [wantS, hxj]; rfl
      · obtain rfl : j = 0 := by have := of_decide_eq_false h2; omega
        repeat (first|refine z2 ?_|refine z1 ?_|refine z3 ?_|refine z4 ?_|refine z5 ?_)
        refine ⟨⟨1, hjl⟩, le_sub ⟨rfl, rfl, rfl, rfl, ?_, rfl, trivial⟩ rfl rfl, by show G.length - 1 < G.length - 0; omega⟩
        rw [show wantS X 1 = (⟨#[]⟩ : ByteArray) ++ X.getD 0 ⟨#[]⟩ from rfl, hxj]; rfl
    · have hjl : j = G.length := by have := of_decide_eq_false h2; omega
      have hwf : wantS X j = joinS X ⟨#[44, 32]⟩ := by rw [hwt j (by omega), List.take_of_length_le (by omega)]
      rw [hwf]
      repeat (first | refine awp_exit ?_ | refine awp_seq ?_)
      refine awp_region_draw [] hmix (by kernel_rfl) ?_
      refine z2 ?_
      refine z2 ?_
      refine al_pure (C := True) (r := .v (.bool true)) hT rfl (by show some (True, AV.v (.bool ((joinS X ⟨#[44, 32]⟩).toList == (joinS X ⟨#[44, 32]⟩).toList))) = _; rw [beq_self_eq_true]) rfl rfl trivial ?_
      have hdA : true = true := rfl
      repeat (first|refine z2 ?_|refine z1 ?_|refine z3 ?_|refine z4 ?_|refine z5 ?_|refine z8 ?_|refine z9 ?_)
      refine zo eq1 ?_ (hgt := by exact rfl) (hs := by exact .cons (.refl (x := tunS p C Mp G) n1) (.cons (.refl (x := tunS p' C' Mp' G') n2) .nil))
      repeat (first|refine z2 ?_|refine z1 ?_|refine z3 ?_|refine z4 ?_|refine z5 ?_|refine z8 ?_|refine z9 ?_)
      refine zo eq2 ?_ (hgt := by exact rfl) (hs := by exact .cons (.refl (x := tunS p C Mp G) n1) (.cons (.refl (x := tunS p' C' Mp' G') n2) .nil))
      refine zk (beq_self_eq_true B) ?_
      repeat (first|refine z2 ?_|refine z1 ?_|refine z3 ?_|refine z4 ?_|refine z5 ?_|refine z8 ?_|refine z9 ?_)
      refine zo eq3 ?_ (hgt := by exact rfl) (hs := by exact .cons (.refl (x := tunS p C Mp G) n1) (.cons (.refl (x := tunS p C Mp G) n1) .nil))
      repeat (first|refine z2 ?_|refine z1 ?_|refine z3 ?_|refine z4 ?_|refine z5 ?_|refine z8 ?_|refine z9 ?_)
      repeat (first|refine z2 ?_|refine z1 ?_|refine z3 ?_|refine z4 ?_|refine z5 ?_)
      (exact awp_ret ⟨.inl rfl, ret_one rfl (.refl (by first | trivial | exact nrl_u64s _))⟩)
  · generalize hfq : decide ((q.R.length : Int) ≤ 3) = bq at fq
    generalize hfr : decide ((r.R.length : Int) ≤ 3) = br at fr
    have hb : bq = false ∨ (bq = true ∧ br = false) := by
      rw [← hfq, ← hfr]
      by_cases e1 : (q.R.length : Int) ≤ 3
      · exact .inr ⟨decide_eq_true e1, decide_eq_false (fun e2 => hR ⟨e1, e2⟩)⟩
      · exact .inl (decide_eq_false e1)
    generalize q.av = A at fq haq hnq htq ⊢
    generalize r.av = A' at fr har hnr htr ⊢
    refine okp_intro hT 84 Tryz.func4 rfl rfl rfl (Nat.le_of_ble_eq_true rfl) trivial ?_
    intro w0 F0 I
    (repeat (first | refine awp_seq ?_ | refine awp_block ?_ | refine awp_skip ?_))
    refine awp_at ⟨[(2, .adr 0 0 0), (3, .adr 1 0 0)], [(0, [⟨35, A⟩]), (1, [⟨35, A'⟩])], 2⟩ ?_ ?_
    · repeat (first|refine z2 ?_|refine z1 ?_|refine z3 ?_|refine z4 ?_|refine z5 ?_)
      exact le_ren (fun g t => some (g, t)) ⟨⟨_, rfl, .adr rfl (by show 0 < 2; omega)⟩, ⟨_, rfl, .adr rfl (by show 1 < 2; omega)⟩, trivial⟩ ⟨⟨⟨by show 0 < 2; omega, .inr ⟨0, 0, _, rfl, rfl, haq.down, WkL.refl hnq⟩⟩, trivial⟩, ⟨⟨by show 1 < 2; omega, .inr ⟨1, 0, _, rfl, rfl, har.down, WkL.refl hnr⟩⟩, trivial⟩, trivial⟩ rfl (base_nil _ _)
    (repeat (first | refine awp_seq ?_ | refine awp_block ?_ | refine awp_skip ?_))
    refine awp_at ⟨[(24, .v (.bool true))], [(0, [⟨35, A⟩]), (1, [⟨35, A'⟩])], 2⟩ ?_ ?_
    · refine awp_region ?_
      refine zc (hkn) ?_
      repeat (first|refine z2 ?_|refine z1 ?_|refine z3 ?_|refine z4 ?_|refine z5 ?_)
      have hdA : (!true) = false := rfl
      refine al_on hT rfl rfl rfl rfl (pure_load_aa rfl rfl rfl rfl htq) rfl rfl (by show 0 + 35 ≤ A.length; have := haq.down; omega) ?_
      refine zo fq ?_ (hs := by exact .cons (.refl (x := .agg A) hnq) .nil)
      rcases hb with rfl | ⟨rfl, rfl⟩
      · repeat (first|refine z2 ?_|refine z1 ?_|refine z3 ?_|refine z4 ?_|refine z5 ?_|refine z8 ?_|refine z9 ?_)
        refine al_pick rfl rfl rfl (r := .v (.bool true)) rfl rfl rfl ?_
        repeat (first|refine z2 ?_|refine z1 ?_|refine z3 ?_|refine z4 ?_|refine z5 ?_)
        exact le_sub ⟨rfl, trivial⟩ rfl rfl
      · repeat (first|refine z2 ?_|refine z1 ?_|refine z3 ?_|refine z4 ?_|refine z5 ?_|refine z8 ?_|refine z9 ?_)
        refine al_on hT rfl rfl rfl rfl (pure_load_aa rfl rfl rfl rfl htr) rfl rfl (by show 0 + 35 ≤ A'.length; have := har.down; omega) ?_
        refine zo fr ?_ (hgt := by exact rfl) (hs := by exact .cons (.refl (x := .agg A') hnr) .nil)
        repeat (first|refine z2 ?_|refine z1 ?_|refine z3 ?_|refine z4 ?_|refine z5 ?_|refine z8 ?_|refine z9 ?_)
        exact le_sub ⟨rfl, trivial⟩ rfl rfl
    refine awp_cond rfl (fun _ => ?_) (fun h => absurd h (by decide))
    repeat (first|refine z2 ?_|refine z1 ?_|refine z3 ?_|refine z4 ?_|refine z5 ?_)
    refine zc (hkn) ?_
    repeat (first|refine z2 ?_|refine z1 ?_|refine z3 ?_|refine z4 ?_|refine z5 ?_)
    (exact awp_ret ⟨.inl rfl, ret_one rfl (.refl (by first | trivial | exact nrl_u64s _))⟩)
end Go.Proofs.YtlbhgejbfhhipaaGreatDoor

/- Walks: the size of a tempered interval of a small tuning; the statement on it. -/
namespace Go.Proofs.YtlbhgejbfhhipaaGreatDoor
open Go Go.Am Go.Lib Go.Sp Z1 Z2 Z3 Z4 Z5 Z6
section
variable {κ : Cx} {st : AS} {ops : Array Oper} {own : List Nat} {K : AS → Prop} {k d : Nat} {o : Oper} {l : List Oper}
theorem zm {v w : Bool} {C : Prop} (hv2 : v = w) (h : AL Tryz.prog κ ops own K (k + 1) l (st.put (some d) (.v (.bool w)))) (hg : o.guard = none := by exact rfl) (hp : pureOp T st o.op = some (C, .v (.bool v)) := by exact rfl) (hC : C := by first | exact True.intro | exact rfl) (hd : o.dst = some d := by exact rfl) (hN : Nat.blt d κ.N = true := by exact rfl) : AL Tryz.prog κ ops own K k (o :: l) st :=
  al_pure hT hg (by rw [hp, hv2]) hd hN hC h
end
def tszR (p x : List Int) (G : List (List Rat)) : AV :=
  if rowChk x ≠ 0 then .tup [.v (.slice none 0 0), .v (.int .i64 (rowChk x))] else if (x.length : Int) ≠ G.length then .tup [.v (.slice none 0 0), .v (.int .i64 5)] else .tup [szS (combL G (ratsL x) p.length G.length), .v (.int .i64 0)]
theorem rowChk_fits {x : List Int} (h : rowChk x = 0) : x.all fitsB = true := by
  unfold rowChk at h
  by_cases c : 64 < x.length ∨ x.any (fun n => !(fitsB n)) = true
  · rw [if_pos c] at h; omega
  · rw [List.all_eq_true]
    intro z hz
    cases hb : fitsB z with
    | true => rfl
    | false => exact absurd (.inr (List.any_eq_true.2 ⟨z, hz, by rw [hb]; rfl⟩)) c
theorem row_bnd {x : List Int} (h : rowChk x = 0) : bndL 1000000000 x := fun z hz => by
  have := of_decide_eq_true (List.all_eq_true.1 (rowChk_fits h) z hz)
  omega
theorem row_cr {x : List Int} (h : rowChk x = 0) : crL 10 (ratsL x) := fun q hq => by
  obtain ⟨z, hz, rfl⟩ := List.mem_map.1 hq
  have := row_bnd h z hz
  exact Cr.int (by omega) (by omega)
set_option maxRecDepth 10000 in
theorem tsize_ok {p x : List Int} {C Mp : List (List Int)} {G : List (List Rat)} (h : Nice Tryz.prog p C Mp G) (hx : x.length ≤ 1000000) (hsx : small64L x) : OkP (laiOf Tryz.prog) Tryz.prog 28 [tunS p C Mp G, rowS x] (tszR p x G) := by
  unfold tszR
  refine okp_intro hT 38 Tryz.func28 rfl rfl rfl (Nat.le_of_ble_eq_true rfl) (by split; exact ⟨trivial, trivial, trivial⟩; split; exact ⟨trivial, trivial, trivial⟩; exact ⟨nr_szS _, trivial, trivial⟩) ?_
  intro w0 F0 I
  have hnt := nr_tunS p C Mp G
  have hnp := nr_rowS p
  have hnx := nr_rowS x
  have hng := nr_genS G
  have hpl := h.plen
  have hgl : G.length ≤ 4 := by have := h.len; have := h.four; omega
  have htu := tunchk_ok h.K.chk h.K.small (by omega) h.K.gok (by omega)
  rw [h.tun] at htu
  have hrc := rowchk_ok (Λ := laiOf Tryz.prog) x (by omega)
  repeat (first|refine z2 ?_|refine z1 ?_|refine z3 ?_|refine z4 ?_|refine z5 ?_)
  refine zc htu ?_ (hs := by exact .cons (.refl (x := tunS p C Mp G) hnt) .nil)
  repeat (first|refine z2 ?_|refine z1 ?_|refine z3 ?_|refine z4 ?_|refine z5 ?_)
  refine awp_cond rfl (fun h => absurd h (by decide)) (fun _ => ?_)
  repeat (first|refine z2 ?_|refine z1 ?_|refine z3 ?_|refine z4 ?_|refine z5 ?_)
  refine zc hrc ?_ (hs := by exact .cons (.refl hnx) .nil)
  repeat (first|refine z2 ?_|refine z1 ?_|refine z3 ?_|refine z4 ?_|refine z5 ?_)
  refine awp_cond rfl (fun h1 => ?_) (fun h1 => ?_)
  · have h1 : rowChk x ≠ 0 := by simpa using h1
    rw [if_pos h1]
    repeat (first|refine z2 ?_|refine z1 ?_|refine z3 ?_|refine z4 ?_|refine z5 ?_)
    exact awp_ret ⟨.inl rfl, ret_tup rfl (.cons (.refl trivial) (.cons (.refl trivial) .nil))⟩
  have h1 : rowChk x = 0 := by simpa using h1
  rw [if_neg (fun e => e h1)]
  unfold rowS genS
  repeat (first|refine z2 ?_|refine z1 ?_|refine z3 ?_|refine z4 ?_|refine z5 ?_)
  refine awp_cond rfl (fun h2 => ?_) (fun h2 => ?_)
  · have h2 : (x.length : Int) ≠ G.length := by simpa using h2
    rw [if_pos h2]
    repeat (first|refine z2 ?_|refine z1 ?_|refine z3 ?_|refine z4 ?_|refine z5 ?_)
    exact awp_ret ⟨.inl rfl, ret_tup rfl (.cons (.refl trivial) (.cons (.refl trivial) .nil))⟩
  have h2 : (x.length : Int) = G.length := by simpa using h2
  rw [if_neg (fun e => e h2)]
  have hnu := numbers_ok x hsx hx
  have hco := combine_ok p G (ratsL x) (e := 5) (f := 10) (prime_some h.prime) (by omega) (by omega) (fun l hl => ⟨(h.rows l hl).1, h.K.gens rfl l hl⟩) (row_cr h1) (by rw [ratsL_len]; omega) (by rw [ratsL_len]; omega) (by omega) (by omega) (by omega) (by omega)
  have hsl : (combL G (ratsL x) p.length G.length).length = p.length := combL_len _ _ _ _
  have htw : ∀ q ∈ combL G (ratsL x) p.length G.length, Tw 1920000000000 q := fun q hq => by
    obtain ⟨c, _, rfl⟩ := List.mem_map.1 hq
    refine (accR_tw (fun l hl => (h.rows l hl).2) (row_bnd h1) c G.length).mono ?_
    have := Nat.mul_le_mul_right (480 * 1000000000) hgl
    omega
  have hsc : sizChk p (combL G (ratsL x) p.length G.length) = 0 := short_sizChk h.prime hsl (fun q hq => tw_short ((htw q hq).mono (by omega)))
  have hre := result_ok p (combL G (ratsL x) p.length G.length) h.K.small (by omega) (fun q hq => cr_okQ (tw_cr13 (htw q hq) (by omega)) (by omega) (by omega)) (by omega)
  unfold resR at hre
  rw [if_neg (fun e => e hsc)] at hre
  have hnr := nr_szS (combL G (ratsL x) p.length G.length)
  have hnn := nr_szS (ratsL x)
  generalize combL G (ratsL x) p.length G.length = s at hco hre hnr hsl ⊢
  change OkP (laiOf Tryz.prog) Tryz.prog 63 [rowS x] (szS (ratsL x)) at hnu
  repeat (first|refine z2 ?_|refine z1 ?_|refine z3 ?_|refine z4 ?_|refine z5 ?_)
  refine awp_region_drawD [6, 7] hmix (by kernel_rfl) ?_
  repeat (first|refine z2 ?_|refine z1 ?_|refine z3 ?_|refine z4 ?_|refine z5 ?_)
  refine zs hnu ?_ (hs := by exact .cons (.refl hnx) .nil) (hr := by exact ⟨⟨hnx, trivial⟩, rfl⟩)
  refine al_callw (fun _ _ => none) [(1, [⟨2, szC s⟩])] 2 (.ref 1 0 2 0 p.length) hco rfl rfl rfl rfl rfl (.cons (.refl (x := rowS p) hnp) (.cons (.refl hng) (.cons (.refl hnn) .nil))) (hand_ren trivial rfl (fun g' _ _ _ h => absurd h (Nat.not_lt_zero _))) rfl rfl rfl (back_ren ⟨⟨.inl ⟨0, 0, _, rfl, rfl, Nat.one_lt_two, rfl, RnL.refl (hfl_szC _)⟩, trivial⟩, trivial⟩) (.ref rfl Nat.one_lt_two) ?_
  repeat (first|refine z2 ?_|refine z1 ?_|refine z3 ?_|refine z4 ?_|refine z5 ?_)
  refine al_callz (fun _ => false) hre rfl rfl rfl rfl rfl (.cons (.refl (x := rowS p) hnp) (.cons (sub_szC rfl hsl.symm) .nil)) rfl rfl ?_
  repeat (first|refine z2 ?_|refine z1 ?_|refine z3 ?_|refine z4 ?_|refine z5 ?_)
  exact awp_ret ⟨.inl rfl, ret_tup rfl (.cons (.refl hnr) (.cons (.refl trivial) .nil))⟩
end Go.Proofs.YtlbhgejbfhhipaaGreatDoor

/- Walks: the statement on sizes of tempered intervals. -/
namespace Go.Proofs.YtlbhgejbfhhipaaGreatDoor
open Go Go.Am Go.Lib Go.Sp Z1 Z2 Z3 Z4 Z5 Z6
set_option maxRecDepth 100000 in
set_option maxHeartbeats 2000000 in
theorem sizes_ok (q : Plan) (h : q.In) (x : List Int) (hx : small64L x) (hxl : x.length ≤ 9223372036854775807) : OkP (laiOf Tryz.prog) Tryz.prog 5 [.agg q.av, rowS x] (.v (.bool true)) := by
  have hfi := q.fits (Λ := laiOf Tryz.prog)
  have hkn := known_ok
  have hal : PLift (q.av.length = 35) := ⟨pln24_len h.gens⟩
  have hna : nrl q.av := nrl_pln24 _ _ _ _
  have hnx := nr_rowS x
  have htk : (q.av.drop 0).take 35 = q.av := by rw [List.drop_zero, List.take_of_length_le (by have := hal.down; omega)]
  by_cases hR : (q.R.length : Int) ≤ 3
  · have hok : q.Ok := ⟨h.pr, ⟨by omega, h.rows⟩, h.gens⟩
    rw [decide_eq_true hR] at hfi
    have hmk := hok.make
    have hN := hok.nice
    generalize q.av = A at hfi hal hna htk hmk ⊢
    generalize q.p = p at hmk hN
    generalize q.C = C at hmk hN
    generalize q.Mp = Mp at hmk hN
    generalize q.G = G at hmk hN
    refine okp_intro hT 67 Tryz.func5 rfl rfl rfl (Nat.le_of_ble_eq_true rfl) trivial ?_
    intro w0 F0 I
    (repeat (first | refine awp_seq ?_ | refine awp_block ?_ | refine awp_skip ?_))
    refine awp_at ⟨[(1, rowS x), (2, .adr 0 0 0)], [(0, [⟨35, A⟩])], 1⟩ ?_ ?_
    · repeat (first|refine z2 ?_|refine z1 ?_|refine z3 ?_|refine z4 ?_|refine z5 ?_)
      exact le_ren (fun g t => some (g, t)) ⟨⟨_, rfl, .refl hnx⟩, ⟨_, rfl, .adr rfl (by show 0 < 1; omega)⟩, trivial⟩ ⟨⟨⟨by show 0 < 1; omega, .inr ⟨0, 0, _, rfl, rfl, hal.down, WkL.refl hna⟩⟩, trivial⟩, trivial⟩ rfl (base_nil _ _)
    (repeat (first | refine awp_seq ?_ | refine awp_block ?_ | refine awp_skip ?_))
    refine awp_at ⟨[(1, rowS x), (2, .adr 0 0 0), (20, .v (.bool (decide (x.length > 8))))], [(0, [⟨35, A⟩])], 1⟩ ?_ ?_
    · refine awp_region ?_
      refine zc (hkn) ?_
      repeat (first|refine z2 ?_|refine z1 ?_|refine z3 ?_|refine z4 ?_|refine z5 ?_)
      have hdA : (!true) = false := rfl
      refine al_on hT rfl rfl rfl rfl (pure_load_aa rfl rfl rfl rfl htk) rfl rfl (by show 0 + 35 ≤ A.length; have := hal.down; omega) ?_
      refine zo hfi ?_ (hs := by exact .cons (.refl (x := .agg A) hna) .nil)
      repeat (first|refine z2 ?_|refine z1 ?_|refine z3 ?_|refine z4 ?_|refine z5 ?_|refine z8 ?_|refine z9 ?_)
      refine le_sub ⟨rfl, rfl, ?_, trivial⟩ rfl rfl
      show some (AV.v (.bool (cond (cond (!true) true (!true)) true (decide ((x.length : Int) > 8))))) = _
      show some (AV.v (.bool (decide ((x.length : Int) > 8)))) = some (.v (.bool (decide (x.length > 8))))
      by_cases h8 : x.length > 8
      · rw [decide_eq_true h8, decide_eq_true (by omega)]
      · rw [decide_eq_false h8, decide_eq_false (by omega)]
    refine awp_cond rfl (fun h8 => ?_) (fun h8 => ?_)
    · repeat (first|refine z2 ?_|refine z1 ?_|refine z3 ?_|refine z4 ?_|refine z5 ?_)
      refine zc (hkn) ?_
      repeat (first|refine z2 ?_|refine z1 ?_|refine z3 ?_|refine z4 ?_|refine z5 ?_)
      (exact awp_ret ⟨.inl rfl, ret_one rfl (.refl (by first | trivial | exact nrl_u64s _))⟩)
    have h8 : x.length ≤ 8 := by have := of_decide_eq_false h8; omega
    have hts := tsize_ok (x := x) hN (by omega) hx
    have hrc := rowchk_ok (Λ := laiOf Tryz.prog) x (by omega)
    have hnt := nr_tunS p C Mp G
    have hnp := nr_rowS p
    have hng := nr_genS G
    have hpl := hN.plen
    have hgl : G.length ≤ 4 := by have := hN.len; have := hN.four; omega
    repeat (first|refine z2 ?_|refine z1 ?_|refine z3 ?_|refine z4 ?_|refine z5 ?_)
    refine al_pure hT rfl (pure_load_aa rfl rfl rfl rfl htk) rfl rfl (by show 0 + 35 ≤ A.length; have := hal.down; omega) ?_
    refine zs hmk ?_ (hs := by exact .cons (.refl (x := .agg A) hna) .nil) (hr := by exact ⟨⟨hna, trivial⟩, rfl⟩)
    repeat (first|refine z2 ?_|refine z1 ?_|refine z3 ?_|refine z4 ?_|refine z5 ?_)
    unfold tszR at hts
    by_cases hm : rowChk x = 0
    · rw [if_neg (fun e => e hm)] at hts
      rw [hm] at hrc
      by_cases hg : (x.length : Int) = G.length
      · rw [if_neg (fun e => e hg)] at hts
        have hco := lcomb_ok p.length G (ratsL x) (e := 5) (f := 10) (by omega) (by omega) (fun l hl => ⟨by rw [(hN.rows l hl).1]; exact Nat.le_refl _, hN.K.gens rfl l hl⟩) (row_cr hm) (by rw [ratsL_len]; omega) (by omega) (by omega) (by omega) (by omega)
        have hfa := lfactors_ok x hx (by omega)
        have hsl : (combL G (ratsL x) p.length G.length).length = p.length := combL_len _ _ _ _
        have hns := nr_szS (combL G (ratsL x) p.length G.length)
        have hnf := nr_szS (ratsL x)
        generalize combL G (ratsL x) p.length G.length = s at hts hco hsl hns
        have hsm := lsame_ok (Λ := laiOf Tryz.prog) s s (by omega) (by omega)
        rw [decide_eq_true rfl] at hsm
        refine zs hts ?_ (hs := by exact .cons (.refl (x := tunS p C Mp G) hnt) (.cons (.refl hnx) .nil)) (hr := by exact ⟨⟨hnt, hnx, trivial⟩, rfl⟩)
        repeat (first|refine z2 ?_|refine z1 ?_|refine z3 ?_|refine z4 ?_|refine z5 ?_)
        refine zc hrc ?_ (hs := by exact .cons (.refl hnx) .nil)
        repeat (first|refine z2 ?_|refine z1 ?_|refine z3 ?_|refine z4 ?_|refine z5 ?_)
        have hdA : true = true := rfl
        unfold rowS tunS genS
        repeat (first|refine z2 ?_|refine z1 ?_|refine z3 ?_|refine z4 ?_|refine z5 ?_|refine z8 ?_|refine z9 ?_)
        refine awp_cond rfl (fun h => ?_) (fun _ => ?_)
        · exact absurd hg (by simpa using h)
        repeat (first|refine z2 ?_|refine z1 ?_|refine z3 ?_|refine z4 ?_|refine z5 ?_)
        refine awp_cond rfl (fun h => absurd h (by decide)) (fun _ => ?_)
        repeat (first|refine z2 ?_|refine z1 ?_|refine z3 ?_|refine z4 ?_|refine z5 ?_)
        refine awp_region_drawD [] hmix (by kernel_rfl) ?_
        repeat (first|refine z2 ?_|refine z1 ?_|refine z3 ?_|refine z4 ?_|refine z5 ?_)
        refine zs hfa ?_ (hs := by exact .cons (.refl hnx) .nil) (hr := by exact ⟨⟨hnx, trivial⟩, rfl⟩)
        repeat (first|refine z2 ?_|refine z1 ?_|refine z3 ?_|refine z4 ?_|refine z5 ?_)
        refine zs hco ?_ (hs := by exact .cons (.refl hng) (.cons (.refl hnf) (.cons (.refl trivial) .nil))) (hr := by exact ⟨⟨hng, hnf, trivial, trivial⟩, rfl⟩)
        refine zc hsm ?_ (hs := by exact .cons (.refl hns) (.cons (.refl hns) .nil))
        repeat (first|refine z2 ?_|refine z1 ?_|refine z3 ?_|refine z4 ?_|refine z5 ?_|refine z8 ?_|refine z9 ?_)
        (exact awp_ret ⟨.inl rfl, ret_one rfl (.refl (by first | trivial | exact nrl_u64s _))⟩)
      · rw [if_pos hg] at hts
        refine zc hts ?_ (hs := by exact .cons (.refl (x := tunS p C Mp G) hnt) (.cons (.refl hnx) .nil)) (hr := by exact .inl ⟨trivial, trivial, trivial⟩)
        repeat (first|refine z2 ?_|refine z1 ?_|refine z3 ?_|refine z4 ?_|refine z5 ?_)
        refine zc hrc ?_ (hs := by exact .cons (.refl hnx) .nil)
        repeat (first|refine z2 ?_|refine z1 ?_|refine z3 ?_|refine z4 ?_|refine z5 ?_)
        have hdA : true = true := rfl
        unfold rowS tunS genS
        repeat (first|refine z2 ?_|refine z1 ?_|refine z3 ?_|refine z4 ?_|refine z5 ?_|refine z8 ?_|refine z9 ?_)
        refine awp_cond rfl (fun _ => ?_) (fun h => absurd h (by simpa using hg))
        repeat (first|refine z2 ?_|refine z1 ?_|refine z3 ?_|refine z4 ?_|refine z5 ?_)
        refine awp_cond rfl (fun _ => ?_) (fun h => absurd h (by decide))
        repeat (first|refine z2 ?_|refine z1 ?_|refine z3 ?_|refine z4 ?_|refine z5 ?_|refine z8 ?_|refine z9 ?_)
        (exact awp_ret ⟨.inl rfl, ret_one rfl (.refl (by first | trivial | exact nrl_u64s _))⟩)
    · rw [if_pos hm] at hts
      generalize rowChk x = m at hts hrc hm
      refine zc hts ?_ (hs := by exact .cons (.refl (x := tunS p C Mp G) hnt) (.cons (.refl hnx) .nil)) (hr := by exact .inl ⟨trivial, trivial, trivial⟩)
      repeat (first|refine z2 ?_|refine z1 ?_|refine z3 ?_|refine z4 ?_|refine z5 ?_)
      refine zc hrc ?_ (hs := by exact .cons (.refl hnx) .nil)
      refine z2 ?_
      refine z1 ?_
      (repeat (first | refine awp_seq ?_ | refine awp_block ?_ | refine awp_skip ?_))
      refine awp_region ?_
      refine z2 ?_
      refine zm (show (m == 0) = false by simpa using hm) ?_
      have hdA : true = true := rfl
      repeat (first|refine z2 ?_|refine z1 ?_|refine z3 ?_|refine z4 ?_|refine z5 ?_|refine z8 ?_|refine z9 ?_)
      refine al_pick rfl rfl rfl (r := .v (.bool false)) rfl rfl rfl ?_
      repeat (first|refine z2 ?_|refine z1 ?_|refine z3 ?_|refine z4 ?_|refine z5 ?_)
      refine awp_cond rfl (fun h => absurd h (by decide)) (fun _ => ?_)
      repeat (first|refine z2 ?_|refine z1 ?_|refine z3 ?_|refine z4 ?_|refine z5 ?_)
      refine awp_cond rfl (fun _ => ?_) (fun h => absurd (show (m != 0) = false from h) (by simpa using hm))
      (repeat (first | refine awp_seq ?_ | refine awp_block ?_ | refine awp_skip ?_))
      refine awp_region ?_
      repeat refine z2 ?_
      refine z8 ?_
      refine z8 ?_
      refine zk (beq_self_eq_true m) ?_
      repeat (first|refine z2 ?_|refine z1 ?_|refine z3 ?_|refine z4 ?_|refine z5 ?_)
      (exact awp_ret ⟨.inl rfl, ret_one rfl (.refl (by first | trivial | exact nrl_u64s _))⟩)
  · rw [decide_eq_false hR] at hfi
    generalize q.av = A at hfi hal hna htk ⊢
    refine okp_intro hT 67 Tryz.func5 rfl rfl rfl (Nat.le_of_ble_eq_true rfl) trivial ?_
    intro w0 F0 I
    (repeat (first | refine awp_seq ?_ | refine awp_block ?_ | refine awp_skip ?_))
    refine awp_at ⟨[(1, rowS x), (2, .adr 0 0 0)], [(0, [⟨35, A⟩])], 1⟩ ?_ ?_
    · repeat (first|refine z2 ?_|refine z1 ?_|refine z3 ?_|refine z4 ?_|refine z5 ?_)
      exact le_ren (fun g t => some (g, t)) ⟨⟨_, rfl, .refl hnx⟩, ⟨_, rfl, .adr rfl (by show 0 < 1; omega)⟩, trivial⟩ ⟨⟨⟨by show 0 < 1; omega, .inr ⟨0, 0, _, rfl, rfl, hal.down, WkL.refl hna⟩⟩, trivial⟩, trivial⟩ rfl (base_nil _ _)
    (repeat (first | refine awp_seq ?_ | refine awp_block ?_ | refine awp_skip ?_))
    refine awp_at ⟨[(20, .v (.bool true))], [(0, [⟨35, A⟩])], 1⟩ ?_ ?_
    · refine awp_region ?_
      refine zc (hkn) ?_
      repeat (first|refine z2 ?_|refine z1 ?_|refine z3 ?_|refine z4 ?_|refine z5 ?_)
      have hdA : (!true) = false := rfl
      refine al_on hT rfl rfl rfl rfl (pure_load_aa rfl rfl rfl rfl htk) rfl rfl (by show 0 + 35 ≤ A.length; have := hal.down; omega) ?_
      refine zo hfi ?_ (hs := by exact .cons (.refl (x := .agg A) hna) .nil)
      repeat (first|refine z2 ?_|refine z1 ?_|refine z3 ?_|refine z4 ?_|refine z5 ?_|refine z8 ?_|refine z9 ?_)
      refine al_pick rfl rfl rfl (r := .v (.bool true)) rfl rfl rfl ?_
      repeat (first|refine z2 ?_|refine z1 ?_|refine z3 ?_|refine z4 ?_|refine z5 ?_)
      exact le_sub ⟨rfl, trivial⟩ rfl rfl
    refine awp_cond rfl (fun _ => ?_) (fun h => absurd h (by decide))
    repeat (first|refine z2 ?_|refine z1 ?_|refine z3 ?_|refine z4 ?_|refine z5 ?_)
    refine zc (hkn) ?_
    repeat (first|refine z2 ?_|refine z1 ?_|refine z3 ?_|refine z4 ?_|refine z5 ?_)
    (exact awp_ret ⟨.inl rfl, ret_one rfl (.refl (by first | trivial | exact nrl_u64s _))⟩)
end Go.Proofs.YtlbhgejbfhhipaaGreatDoor
