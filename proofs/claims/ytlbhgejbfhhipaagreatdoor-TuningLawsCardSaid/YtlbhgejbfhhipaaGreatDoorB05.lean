/- Own lemmas, part 5: an abstract machine for walks, plain facts on numbers and lattices, walks of the functions of the program: Ke Kf Kg Kh Ki Kj Kk Kl Km Kn Ko Kp Kq Kr Ks Kt Ku Kv Kw Kx Ky Kz Ya Yb Yc Yd Ye Fc Ff Fg Fh Fi Fj Fk Fl Fm Fa Fn Fo Fp Fq SpP. -/
import Derived.Test.YtlbhgejbfhhipaaGreatDoorB04
import Derived.Test.YtlbhgejbfhhipaaGreatDoorTie
import Derived.Test.YtlbhgejbfhhipaaGreatDoorCards
import Derived.ProofKit
import Derived.OpenShut
import Derived.Deep.DeepHandedRow
import Derived.Deep.DeepWitnessRowRef
import Derived.Lib.LaidTab
import Derived.Lib.LaidIn
import Derived.Scope
/- Walks: intervals tempered. -/
namespace Go.Proofs.YtlbhgejbfhhipaaGreatDoor
open Go Go.Am Go.Lib Go.Sp Z1 Z2 Z3 Z4 Z5 Z6
def begR (k : Int) (p : List Int) (l : List (List Int)) : Int := if k ≠ 0 then k else rowsChk p.length l
theorem begin_ok {Λ : Lai} {p : List Int} {C Mp : List (List Int)} {k : Int} (hk : OkP Λ Tryz.prog 88 [tmpS p C Mp] (.v (.int .i64 k))) (l : List (List Int)) (hM : l.length ≤ 1000000000000) (hlen : ∀ r ∈ l, r.length ≤ 1000000000000) : OkP Λ Tryz.prog 65 [tmpS p C Mp, matS l] (.v (.int .i64 (begR k p l))) := by
  refine okp_intro hT 32 Tryz.func65 rfl rfl rfl (Nat.le_of_ble_eq_true rfl) trivial ?_
  intro w0 F0 I
  have hnt := nr_tmpS p C Mp
  unfold begR
  repeat (first|refine z2 ?_|refine z1 ?_|refine z3 ?_|refine z4 ?_|refine z5 ?_)
  refine al_call hk rfl rfl rfl rfl (.cons (.refl (x := tmpS p C Mp) hnt) .nil) (.inl trivial) rfl rfl ?_
  repeat (first|refine z2 ?_|refine z1 ?_|refine z3 ?_|refine z4 ?_|refine z5 ?_)
  refine awp_cond rfl (fun h => ?_) (fun h => ?_)
  · have h : k ≠ 0 := by simpa using h
    rw [if_pos h]
    repeat (first|refine z2 ?_|refine z1 ?_|refine z3 ?_|refine z4 ?_|refine z5 ?_)
    (exact awp_ret ⟨.inl rfl, ret_one rfl (.refl (by first | trivial | exact nrl_u64s _))⟩)
  have h : k = 0 := by simpa using h
  rw [if_neg (fun e => e h)]
  unfold matS
  repeat (first|refine z2 ?_|refine z1 ?_|refine z3 ?_|refine z4 ?_|refine z5 ?_)
  refine awp_loop (fun x : { x : Nat // x ≤ l.length ∧ rowsChk p.length l = rowsChk p.length (l.drop x) } => ⟨[(2, .adr 0 0 0), (14, .sl 1 l.length (rowsC l)), (15, .v (.int .i64 l.length)), (16, .v (.int .i64 x.1))], [(0, [⟨3, [rowS p, matS C, matS Mp]⟩])], 1⟩) (fun x => l.length - x.1) ⟨0, Nat.zero_le _, rfl⟩ (le_sub ⟨rfl, rfl, rfl, rfl, trivial⟩ rfl rfl) ?_
  rintro ⟨j, hj, he⟩
  simp only at hj he ⊢
  repeat (first|refine z2 ?_|refine z1 ?_|refine z3 ?_|refine z4 ?_|refine z5 ?_)
  refine awp_cond rfl (fun h2 => ?_) (fun h2 => ?_)
  · have hjl : j < l.length := by have := of_decide_eq_true h2; omega
    rw [List.drop_eq_getElem_cons hjl, rowsChk] at he
    have hrl := hlen l[j] (List.getElem_mem hjl)
    repeat (first|refine z2 ?_|refine z1 ?_|refine z3 ?_|refine z4 ?_|refine z5 ?_)
    refine al_pure hT rfl (pure_load_pt rfl rfl rfl (rowsC_drop (j := j) (by omega) hjl)) rfl rfl True.intro ?_
    repeat (first|refine z2 ?_|refine z1 ?_|refine z3 ?_|refine z4 ?_|refine z5 ?_)
    refine zc (rowchk_ok l[j] hrl) ?_
    repeat (first|refine z2 ?_|refine z1 ?_|refine z3 ?_|refine z4 ?_|refine z5 ?_)
    refine awp_cond rfl (fun h3 => ?_) (fun h3 => ?_)
    · have h3 : rowChk l[j] ≠ 0 := by simpa using h3
      rw [if_pos h3] at he
      repeat (first|refine z2 ?_|refine z1 ?_|refine z3 ?_|refine z4 ?_|refine z5 ?_)
      refine awp_ret ⟨.inl rfl, ret_one rfl ?_⟩
      rw [he]
      exact .refl trivial
    · have h3 : rowChk l[j] = 0 := by simpa using h3
      rw [if_neg (fun e => e h3)] at he
      unfold rowS
      repeat (first|refine z2 ?_|refine z1 ?_|refine z3 ?_|refine z4 ?_|refine z5 ?_)
      refine awp_cond rfl (fun h4 => ?_) (fun h4 => ?_)
      · have h4 : (l[j].length : Int) ≠ p.length := by simpa using h4
        rw [if_pos h4] at he
        repeat (first|refine z2 ?_|refine z1 ?_|refine z3 ?_|refine z4 ?_|refine z5 ?_)
        refine awp_ret ⟨.inl rfl, ret_one rfl ?_⟩
        rw [he]
        exact .refl trivial
      · have h4 : (l[j].length : Int) = p.length := by simpa using h4
        rw [if_neg (fun e => e h4)] at he
        repeat (first|refine z2 ?_|refine z1 ?_|refine z3 ?_|refine z4 ?_|refine z5 ?_)
        exact ⟨⟨j + 1, hjl, he⟩, le_sub ⟨rfl, rfl, rfl, rfl, trivial⟩ rfl rfl, by show l.length - (j + 1) < l.length - j; omega⟩
  · have hjl : j = l.length := by have := of_decide_eq_false h2; omega
    subst hjl
    rw [List.drop_length, rowsChk] at he
    repeat (first|refine z2 ?_|refine z1 ?_|refine z3 ?_|refine z4 ?_|refine z5 ?_)
    refine awp_ret ⟨.inl rfl, ret_one rfl ?_⟩
    rw [he]
    exact .refl trivial
/-- The sum of the first k products. -/
def dotK (x r : List Int) : Nat → Int
  | 0 => 0
  | k + 1 => dotK x r k + x.getD k 0 * r.getD k 0
def bndL (B : Nat) (l : List Int) : Prop := ∀ z ∈ l, z.natAbs ≤ B
theorem bndL_at {B : Nat} {l : List Int} (h : bndL B l) {i : Nat} (hi : i < l.length) : l[i].natAbs ≤ B := h _ (List.getElem_mem hi)
theorem getD_at {l : List Int} {i : Nat} (hi : i < l.length) : l.getD i 0 = l[i] := by rw [List.getD_eq_getElem?_getD, List.getElem?_eq_getElem hi, Option.getD_some]
theorem dotK_bnd {x r : List Int} {A B : Nat} (hx : bndL A x) (hr : bndL B r) : ∀ k, k ≤ x.length → k ≤ r.length → (dotK x r k).natAbs ≤ k * (A * B)
  | 0, _, _ => by simp [dotK]
  | k + 1, h1, h2 => by
    have ih := dotK_bnd hx hr k (by omega) (by omega)
    rw [dotK, getD_at (by omega), getD_at (by omega)]
    have := Nat.mul_le_mul (bndL_at hx (i := k) (by omega)) (bndL_at hr (i := k) (by omega))
    rw [← Int.natAbs_mul] at this
    have h3 := Int.natAbs_add_le (dotK x r k) (x[k] * r[k])
    rw [Nat.add_mul, Nat.one_mul]
    omega
def dots (x : List Int) (Mp : List (List Int)) : List Int := Mp.map fun r => dotK x r x.length
theorem dots_len (x : List Int) (Mp : List (List Int)) : (dots x Mp).length = Mp.length := List.length_map _
theorem sub_zsC {st : AS} {g n : Nat} {l : List Int} (h : st.row g 0 = some ⟨1, zsC l⟩) (hn : n = l.length) : Sub st (.ref g 0 1 0 n) (zRow l) := by
  subst hn
  refine .own h rfl (by show (0 + l.length) * 1 ≤ (zsC l).length; rw [zsC_len]; omega) ?_
  show SubL st (((zsC l).drop (0 * 1)).take (l.length * 1)) (zsC l)
  rw [Nat.zero_mul, List.drop_zero, Nat.mul_one, List.take_of_length_le (by rw [zsC_len]; exact Nat.le_refl _)]
  exact SubL.refl (nrl_zsC l)
set_option maxRecDepth 10000 in
theorem temper0_ok {p x : List Int} {C Mp : List (List Int)} (hM : Rect x.length Mp) (hx : x.length ≤ 64) (hm : Mp.length ≤ 1000000) (bx : bndL 1000000000 x) (bM : ∀ r ∈ Mp, bndL 1000000000 r) : OkP (laiOf Tryz.prog) Tryz.prog 66 [tmpS p C Mp, rowS x] (zRow (dots x Mp)) := by
  refine okp_intro hT 42 Tryz.func66 rfl rfl rfl (Nat.le_of_ble_eq_true rfl) (nrl_zsC _) ?_
  intro w0 F0 I
  unfold tmpS
  obtain ⟨AA, hAA⟩ : ∃ a, a = matS C := ⟨_, rfl⟩
  rw [← hAA]
  unfold matS rowS
  repeat (first|refine z2 ?_|refine z1 ?_|refine z3 ?_|refine z4 ?_|refine z5 ?_)
  refine awp_loop (fun y : { y : Nat // y ≤ Mp.length } => ⟨[(1, .sl 1 x.length (i64s x)), (5, .ref 0 0 1 0 y.1), (12, .sl 1 Mp.length (rowsC Mp)), (13, .v (.int .i64 Mp.length)), (14, .v (.int .i64 y.1))], [(0, [⟨1, zsC (dots x (Mp.take y.1))⟩])], 1⟩) (fun y => Mp.length - y.1) ⟨0, Nat.zero_le _⟩ ?_ ?_
  · exact le_ren (fun _ _ => none) ⟨⟨_, rfl, .refl (nrl_i64s x)⟩, ⟨_, rfl, .nilref 1 rfl (by show 0 < 1; omega)⟩, ⟨_, rfl, .refl (nrl_rowsC Mp)⟩, ⟨_, rfl, .refl trivial⟩, ⟨_, rfl, .refl trivial⟩, trivial⟩ ⟨⟨⟨by show 0 < 1; omega, .inl ⟨rfl, rfl⟩⟩, trivial⟩, trivial⟩ rfl (base_nil _ _)
  rintro ⟨j, hj⟩
  simp only at hj ⊢
  repeat (first|refine z2 ?_|refine z1 ?_|refine z3 ?_|refine z4 ?_|refine z5 ?_)
  refine awp_cond rfl (fun h => ?_) (fun h => ?_)
  · have hjl : j < Mp.length := by have := of_decide_eq_true h; omega
    clear h
    have hrl := hM _ (List.getElem_mem hjl)
    have br := bM _ (List.getElem_mem hjl)
    repeat (first|refine z2 ?_|refine z1 ?_|refine z3 ?_|refine z4 ?_|refine z5 ?_)
    refine al_pure hT rfl (pure_load_pt rfl rfl rfl (rowsC_drop (j := j) (by omega) hjl)) rfl rfl True.intro ?_
    have hdn : dots x (Mp.take (j + 1)) = dots x (Mp.take j) ++ [dotK x Mp[j] x.length] := by
      unfold dots
      rw [List.take_add_one, List.getElem?_eq_getElem hjl, List.map_append]
      rfl
    obtain ⟨r, hr⟩ : ∃ r, r = Mp[j] := ⟨_, rfl⟩
    rw [← hr] at hrl br hdn ⊢
    unfold rowS
    repeat (first|refine z2 ?_|refine z1 ?_|refine z3 ?_|refine z4 ?_|refine z5 ?_)
    refine awp_loop (fun y : { y : Nat // y ≤ x.length } => ⟨[(1, .sl 1 x.length (i64s x)), (5, .ref 0 0 1 0 j), (7, .sl 1 r.length (i64s r)), (8, .v (.string (zS (dotK x r y.1)))), (12, .sl 1 Mp.length (rowsC Mp)), (13, .v (.int .i64 Mp.length)), (14, .v (.int .i64 j)), (18, .sl 1 x.length (i64s x)), (19, .v (.int .i64 x.length)), (20, .v (.int .i64 y.1))], [(0, [⟨1, zsC (dots x (Mp.take j))⟩])], 1⟩) (fun y => x.length - y.1) ⟨0, Nat.zero_le _⟩ (le_sub ⟨rfl, rfl, rfl, ?_, rfl, rfl, rfl, rfl, rfl, rfl, trivial⟩ rfl rfl) ?_
    · show _ = some (AV.v (.string (zS 0)))
      rw [zS_zero]; rfl
    rintro ⟨k, hk⟩
    simp only at hk ⊢
    repeat (first|refine z2 ?_|refine z1 ?_|refine z3 ?_|refine z4 ?_|refine z5 ?_)
    refine awp_cond rfl (fun h => ?_) (fun h => ?_)
    · have hkl : k < x.length := by have := of_decide_eq_true h; omega
      clear h
      have b1 := bndL_at bx hkl
      have b2 := bndL_at br (i := k) (by omega)
      have b3 := dotK_bnd bx br k (by omega) (by omega)
      have b4 : k * (1000000000 * 1000000000) ≤ 64 * (1000000000 * 1000000000) := Nat.mul_le_mul_right _ (by omega)
      have b5 := Nat.mul_le_mul b1 b2
      repeat (first|refine z2 ?_|refine z1 ?_|refine z3 ?_|refine z4 ?_|refine z5 ?_)
      refine al_pure hT rfl (pure_load_pt rfl rfl rfl (i64s_drop (j := k) (by omega) hkl)) rfl rfl True.intro ?_
      repeat (refine z2 ?_)
      refine al_nil ?_
      refine awp_region_draw [] hmix (by kernel_rfl) ?_
      repeat (first|refine z2 ?_|refine z1 ?_|refine z3 ?_|refine z4 ?_|refine z5 ?_)
      refine zc (zof_ok x[k] (by omega) (by omega)) ?_
      repeat (first|refine z2 ?_|refine z1 ?_|refine z3 ?_|refine z4 ?_|refine z5 ?_)
      refine al_pure hT rfl (pure_load_pt rfl rfl rfl (i64s_drop (j := k) (by omega) (by omega))) rfl rfl True.intro ?_
      repeat (first|refine z2 ?_|refine z1 ?_|refine z3 ?_|refine z4 ?_|refine z5 ?_)
      refine zc (zof_ok r[k] (by omega) (by omega)) ?_
      repeat (first|refine z2 ?_|refine z1 ?_|refine z3 ?_|refine z4 ?_|refine z5 ?_)
      refine zc (zmul_ok x[k] r[k] (okN_small (by omega)) (okN_small (by omega)) (okN_small (by omega))) ?_
      repeat (first|refine z2 ?_|refine z1 ?_|refine z3 ?_|refine z4 ?_|refine z5 ?_)
      refine zc (zadd_ok (dotK x r k) (x[k] * r[k]) (okN_small (by rw [Int.natAbs_mul]; omega))) ?_
      repeat (first|refine z2 ?_|refine z1 ?_|refine z3 ?_|refine z4 ?_|refine z5 ?_)
      refine ⟨⟨k + 1, hkl⟩, le_sub ⟨rfl, rfl, rfl, ?_, rfl, rfl, rfl, rfl, rfl, rfl, trivial⟩ rfl rfl, by show x.length - (k + 1) < x.length - k; omega⟩
      show _ = some (AV.v (.string (zS (dotK x r (k + 1)))))
      rw [dotK, getD_at hkl, getD_at (by omega)]
      rfl
    · have hkl : k = x.length := by have := of_decide_eq_false h; omega
      subst hkl
      repeat (first|refine z2 ?_|refine z1 ?_|refine z3 ?_|refine z4 ?_|refine z5 ?_)
      refine al_litF hT rfl rfl rfl rfl rfl rfl rfl rfl rfl ?_
      refine al_append hT rfl rfl rfl rfl rfl rfl rfl rfl rfl rfl rfl rfl rfl (by show (zsC _).length = _ * 1; rw [zsC_len, dots_len, List.length_take]; omega) (fun g r h e => by cases e; cases h; rfl) (by intro x hx; simp only [List.append_nil, List.mem_singleton] at hx; subst hx; rfl) (by show (_ + 1) * 16 ≤ _; omega) (by omega) ?_
      repeat (first|refine z2 ?_|refine z1 ?_|refine z3 ?_|refine z4 ?_|refine z5 ?_)
      refine ⟨⟨j + 1, hjl⟩, ?_, by show Mp.length - (j + 1) < Mp.length - j; omega⟩
      refine le_ren (fun g t => some (1, t)) ⟨⟨_, rfl, .refl (nrl_i64s x)⟩, ⟨_, rfl, .ref rfl (by show 0 < 1; omega)⟩, ⟨_, rfl, .refl (nrl_rowsC Mp)⟩, ⟨_, rfl, .refl trivial⟩, ⟨_, rfl, .refl trivial⟩, trivial⟩ ⟨⟨⟨by show 0 < 1; omega, .inr ⟨1, 0, _, rfl, rfl, rfl, ?_⟩⟩, trivial⟩, trivial⟩ rfl (base_nil _ _)
      refine wkl_eq ?_ (nrl_zsC _)
      rw [hdn]
      exact zsC_snoc _ _
  · have hjl : j = Mp.length := by have := of_decide_eq_false h; omega
    subst hjl
    rw [List.take_length]
    repeat (first|refine z2 ?_|refine z1 ?_|refine z3 ?_|refine z4 ?_|refine z5 ?_)
    have hdl := dots_len x Mp
    exact awp_ret ⟨.inl rfl, ret_one rfl (sub_zsC rfl hdl.symm)⟩
end Go.Proofs.YtlbhgejbfhhipaaGreatDoor

/- Walks: intervals tempered, with small numbers. -/
namespace Go.Proofs.YtlbhgejbfhhipaaGreatDoor
open Go Go.Am Go.Lib Go.Sp Z1 Z2 Z3 Z4 Z5 Z6
theorem rowChk_zero {x : List Int} (h : rowChk x = 0) : x.length ≤ 64 ∧ bndL 1000000000 x := by
  unfold rowChk at h
  by_cases hc : 64 < x.length ∨ x.any (fun n => !(fitsB n)) = true
  · rw [if_pos hc] at h; omega
  · refine ⟨by rcases Nat.lt_or_ge 64 x.length with h | h; exact absurd (.inl h) hc; exact h, fun z hz => ?_⟩
    have h2 : x.any (fun n => !(fitsB n)) = false := by
      cases h3 : x.any (fun n => !(fitsB n)) with
      | false => rfl
      | true => exact absurd (.inr h3) hc
    have h4 := List.any_eq_false.1 h2 z hz
    have h5 : fitsB z = true := by
      cases h6 : fitsB z with
      | true => rfl
      | false => rw [h6] at h4; exact absurd rfl h4
    have := of_decide_eq_true h5
    omega
theorem beg_zero {k : Int} {p x : List Int} (h : begR k p [x] = 0) : k = 0 ∧ rowChk x = 0 ∧ x.length = p.length := by
  unfold begR at h
  by_cases hk : k = 0
  · rw [if_neg (fun e => e hk), rowsChk] at h
    refine ⟨hk, ?_⟩
    by_cases h1 : rowChk x = 0
    · refine ⟨h1, ?_⟩
      rw [if_neg (fun e => e h1)] at h
      by_cases h2 : (x.length : Int) = p.length
      · omega
      · rw [if_pos h2] at h; omega
    · rw [if_pos h1] at h; exact absurd h h1
  · rw [if_pos hk] at h; exact absurd h hk
def temR (k : Int) (p x : List Int) (Mp : List (List Int)) : AV := if begR k p [x] ≠ 0 then .tup [.v (.slice none 0 0), .v (.int .i64 (begR k p [x]))] else if (dots x Mp).all fitsB = true then .tup [rowS (dots x Mp), .v (.int .i64 0)] else .tup [.v (.slice none 0 0), .v (.int .i64 4)]
set_option maxRecDepth 10000 in
theorem temper_ok {p x : List Int} {C Mp : List (List Int)} {k : Int} (hk : OkP (laiOf Tryz.prog) Tryz.prog 88 [tmpS p C Mp] (.v (.int .i64 k))) (hx : x.length ≤ 1000000000) (hM : k = 0 → Rect p.length Mp ∧ Mp.length ≤ 1000000 ∧ ∀ r ∈ Mp, bndL 1000000000 r) :
    OkP (laiOf Tryz.prog) Tryz.prog 19 [tmpS p C Mp, rowS x] (temR k p x Mp) := by
  unfold temR
  refine okp_intro hT 48 Tryz.func19 rfl rfl rfl (Nat.le_of_ble_eq_true rfl) (by split; exact ⟨trivial, trivial, trivial⟩; split <;> first | exact ⟨nrl_i64s _, trivial, trivial⟩ | exact ⟨trivial, trivial, trivial⟩) ?_
  intro w0 F0 I
  have hb := begin_ok hk [x] (by simp) (fun r hr => by simp at hr; rw [hr]; omega)
  have hnt := nr_tmpS p C Mp
  have hnx := nr_rowS x
  obtain ⟨b, hbe⟩ : ∃ b, b = begR k p [x] := ⟨_, rfl⟩
  rw [← hbe] at hb ⊢
  repeat (first|refine z2 ?_|refine z1 ?_|refine z3 ?_|refine z4 ?_|refine z5 ?_)
  refine al_litF hT rfl rfl rfl rfl rfl rfl rfl rfl rfl ?_
  refine al_call hb rfl rfl rfl rfl (.cons (.refl (x := tmpS p C Mp) hnt) (.cons (.refl (x := matS [x]) ⟨hnx, trivial⟩) .nil)) (.inl trivial) rfl rfl ?_
  repeat (first|refine z2 ?_|refine z1 ?_|refine z3 ?_|refine z4 ?_|refine z5 ?_)
  refine awp_cond rfl (fun h => ?_) (fun h => ?_)
  · have h : b ≠ 0 := by simpa using h
    rw [if_pos h]
    repeat (first|refine z2 ?_|refine z1 ?_|refine z3 ?_|refine z4 ?_|refine z5 ?_)
    exact awp_ret ⟨.inl rfl, ret_tup rfl (.cons (.refl trivial) (.cons (.refl trivial) .nil))⟩
  have h : b = 0 := by simpa using h
  rw [if_neg (fun e => e h)]
  obtain ⟨b1, b2, b3⟩ := beg_zero (hbe.symm.trans h)
  obtain ⟨m1, m2, m3⟩ := hM b1
  obtain ⟨x1, x2⟩ := rowChk_zero b2
  rw [← b3] at m1
  have htm := temper0_ok (p := p) (C := C) m1 x1 m2 x2 m3
  have hdl := dots_len x Mp
  have hdz : ∀ z ∈ dots x Mp, okZ z := fun z hz => by
    unfold dots at hz
    obtain ⟨r, hr, rfl⟩ := List.mem_map.1 hz
    have h1 := dotK_bnd x2 (m3 r hr) x.length (Nat.le_refl _) (by rw [m1 r hr]; exact Nat.le_refl _)
    have b4 : x.length * (1000000000 * 1000000000) ≤ 64 * (1000000000 * 1000000000) := Nat.mul_le_mul_right _ x1
    exact okN_small (by omega)
  generalize dots x Mp = l at htm hdl hdz ⊢
  repeat (first|refine z2 ?_|refine z1 ?_|refine z3 ?_|refine z4 ?_|refine z5 ?_)
  refine al_call htm rfl rfl rfl rfl (.cons (.refl (x := tmpS p C Mp) hnt) (.cons (.refl hnx) .nil)) (.inr ⟨⟨hnt, hnx, trivial⟩, rfl⟩) rfl rfl ?_
  unfold zRow
  repeat (first|refine z2 ?_|refine z1 ?_|refine z3 ?_|refine z4 ?_|refine z5 ?_)
  refine awp_loop (fun x : { x : Nat // x ≤ l.length ∧ (l.take x).all fitsB = true } => ⟨[(7, .ref 0 0 1 0 x.1), (21, .sl 1 l.length (zsC l)), (22, .v (.int .i64 l.length)), (23, .v (.int .i64 x.1))], [(0, [⟨1, i64s (l.take x.1)⟩])], 1⟩) (fun x => l.length - x.1) ⟨0, Nat.zero_le _, by simp⟩ ?_ ?_
  · exact le_ren (fun _ _ => none) ⟨⟨_, rfl, .nilref 1 rfl (by show 0 < 1; omega)⟩, ⟨_, rfl, .refl (nrl_zsC l)⟩, ⟨_, rfl, .refl trivial⟩, ⟨_, rfl, .refl trivial⟩, trivial⟩ ⟨⟨⟨by show 0 < 1; omega, .inl ⟨rfl, rfl⟩⟩, trivial⟩, trivial⟩ rfl (base_nil _ _)
  rintro ⟨j, hj, hall⟩
  simp only at hj hall ⊢
  repeat (first|refine z2 ?_|refine z1 ?_|refine z3 ?_|refine z4 ?_|refine z5 ?_)
  refine awp_cond rfl (fun h => ?_) (fun h => ?_)
  · have hjl : j < l.length := by have := of_decide_eq_true h; omega
    clear h
    have hok := hdz _ (List.getElem_mem hjl)
    have hnext : (l.take (j + 1)).all fitsB = fitsB l[j] := by
      rw [List.take_add_one, List.getElem?_eq_getElem hjl, Option.toList_some, List.all_append, hall]
      simp
    have hbad : fitsB l[j] = false → l.all fitsB = false := fun e => by
      rw [List.all_eq_false]
      exact ⟨l[j], List.getElem_mem hjl, by rw [e]; simp⟩
    repeat (first|refine z2 ?_|refine z1 ?_|refine z3 ?_|refine z4 ?_|refine z5 ?_)
    refine al_pure hT rfl (pure_load_pt rfl rfl rfl (zsC_drop (j := j) (by omega) hjl)) rfl rfl True.intro ?_
    obtain ⟨z, hze⟩ : ∃ z, z = l[j] := ⟨_, rfl⟩
    rw [← hze] at hok hnext hbad ⊢
    repeat (first|refine z2 ?_|refine z1 ?_|refine z3 ?_|refine z4 ?_|refine z5 ?_)
    refine zc (zsmall_ok z hok) ?_
    repeat (refine z2 ?_)
    refine al_nil ?_
    (repeat (first | refine awp_seq ?_ | refine awp_block ?_ | refine awp_skip ?_))
    refine awp_at ⟨[(7, .ref 0 0 1 0 j), (10, .v (.int .i64 (if in64 z then z else 0))), (21, .sl 1 l.length (zsC l)), (22, .v (.int .i64 l.length)), (23, .v (.int .i64 j)), (41, .v (.bool (!(fitsB z))))], [(0, [⟨1, i64s (l.take j)⟩])], 1⟩ ?_ ?_
    · refine awp_region ?_
      by_cases hin : in64 z
      · have hin' : -9223372036854775808 ≤ z ∧ z ≤ 9223372036854775807 := hin
        rw [if_pos hin', decide_eq_true hin', if_pos hin]
        by_cases hgt : z > 1000000000
        · have hdB : decide (z > 1000000000) = true := decide_eq_true hgt
          have hf : fitsB z = false := by unfold fitsB; exact decide_eq_false (by omega)
          have hdA : (!true) = false := rfl
          repeat (first|refine z2 ?_|refine z1 ?_|refine z3 ?_|refine z4 ?_|refine z5 ?_|refine z8 ?_|refine z9 ?_)
          refine al_pick rfl rfl rfl (v := cond (!true) true (decide (z > 1000000000))) (r := .v (.bool true)) (by rw [hdB]; rfl) rfl rfl ?_
          repeat (first|refine z2 ?_|refine z1 ?_|refine z3 ?_|refine z4 ?_|refine z5 ?_)
          refine le_sub ⟨rfl, rfl, rfl, rfl, rfl, ?_, trivial⟩ rfl rfl
          rw [hf]; rfl
        · have hdB : decide (z > 1000000000) = false := decide_eq_false hgt
          have hdA : (!true) = false := rfl
          repeat (first|refine z2 ?_|refine z1 ?_|refine z3 ?_|refine z4 ?_|refine z5 ?_|refine z8 ?_|refine z9 ?_)
          refine le_sub ⟨rfl, rfl, rfl, rfl, rfl, ?_, trivial⟩ rfl rfl
          show some (AV.v (.bool (cond (cond (!true) true (decide (z > 1000000000))) true (decide (z < -1000000000))))) = _
          rw [hdB]
          show some (AV.v (.bool (decide (z < -1000000000)))) = _
          congr 3
          unfold fitsB
          by_cases h3 : z < -1000000000
          · rw [decide_eq_true h3, decide_eq_false (show ¬ (-1000000000 ≤ z ∧ z ≤ 1000000000) by omega)]; rfl
          · rw [decide_eq_false h3, decide_eq_true (show -1000000000 ≤ z ∧ z ≤ 1000000000 by omega)]; rfl
      · have hin' : ¬ (-9223372036854775808 ≤ z ∧ z ≤ 9223372036854775807) := hin
        rw [if_neg hin', decide_eq_false hin', if_neg hin]
        have hf : fitsB z = false := by unfold fitsB; exact decide_eq_false (by omega)
        repeat (first|refine z2 ?_|refine z1 ?_|refine z3 ?_|refine z4 ?_|refine z5 ?_|refine z6 ?_|refine z7 ?_)
        refine al_pick rfl rfl rfl (v := true) (r := .v (.bool true)) rfl rfl rfl ?_
        repeat (first|refine z2 ?_|refine z1 ?_|refine z3 ?_|refine z4 ?_|refine z5 ?_|refine z6 ?_|refine z7 ?_)
        refine al_pick rfl rfl rfl (v := true) (r := .v (.bool true)) rfl rfl rfl ?_
        repeat (first|refine z2 ?_|refine z1 ?_|refine z3 ?_|refine z4 ?_|refine z5 ?_)
        refine le_sub ⟨rfl, rfl, rfl, rfl, rfl, ?_, trivial⟩ rfl rfl
        rw [hf]; rfl
    · refine awp_cond rfl (fun h => ?_) (fun h => ?_)
      · have h : fitsB z = false := by simpa using h
        rw [hbad h]
        repeat (first|refine z2 ?_|refine z1 ?_|refine z3 ?_|refine z4 ?_|refine z5 ?_)
        exact awp_ret ⟨.inl rfl, ret_tup rfl (.cons (.refl trivial) (.cons (.refl trivial) .nil))⟩
      · have h : fitsB z = true := by simpa using h
        have hin : in64 z := by unfold fitsB at h; have := of_decide_eq_true h; unfold in64; omega
        rw [if_pos hin]
        repeat (first|refine z2 ?_|refine z1 ?_|refine z3 ?_|refine z4 ?_|refine z5 ?_)
        refine al_litF hT rfl rfl rfl rfl rfl rfl rfl rfl rfl ?_
        refine al_append hT rfl rfl rfl rfl rfl rfl rfl rfl rfl rfl rfl rfl rfl (by show (i64s _).length = _ * 1; rw [i64s_len, List.length_take]; omega) (fun g r h e => by cases e; cases h; rfl) (by intro x hx; simp only [List.append_nil, List.mem_singleton] at hx; subst hx; rfl) (by show (_ + 1) * 8 ≤ _; omega) (by omega) ?_
        repeat (first|refine z2 ?_|refine z1 ?_|refine z3 ?_|refine z4 ?_|refine z5 ?_)
        refine ⟨⟨j + 1, hjl, by rw [hnext, h]⟩, ?_, by show l.length - (j + 1) < l.length - j; omega⟩
        refine le_ren (fun g t => some (1, t)) ⟨⟨_, rfl, .ref rfl Nat.zero_lt_one⟩, ⟨_, rfl, .refl (nrl_zsC l)⟩, ⟨_, rfl, .refl trivial⟩, ⟨_, rfl, .refl trivial⟩, trivial⟩ ⟨⟨⟨Nat.zero_lt_one, .inr ⟨1, 0, _, rfl, rfl, rfl, ?_⟩⟩, trivial⟩, trivial⟩ rfl (base_nil _ _)
        exact wkl_eq (by show i64s (l.take j) ++ ([AV.v (.int .i64 z)] ++ []) = i64s (l.take (j + 1)); rw [i64s_snoc, List.take_add_one, List.getElem?_eq_getElem hjl, Option.toList_some, hze]) (nrl_i64s _)
  · have hjl : j = l.length := by have := of_decide_eq_false h; omega
    subst hjl
    rw [List.take_length] at hall
    rw [List.take_length, if_pos hall]
    repeat (first|refine z2 ?_|refine z1 ?_|refine z3 ?_|refine z4 ?_|refine z5 ?_)
    exact awp_ret ⟨.inl rfl, ret_tup rfl (.cons (sub_i64 rfl) (.cons (.refl trivial) .nil))⟩
end Go.Proofs.YtlbhgejbfhhipaaGreatDoor

/- Walks: sizes checked. -/
namespace Go.Proofs.YtlbhgejbfhhipaaGreatDoor
open Go Go.Am Go.Lib Go.Sp Z1 Z2 Z3 Z4 Z5 Z6
def rC (q : Rat) : List AV := [.v (.string (zS q.num)), .v (.string (zS (q.den : Int)))]
def szC : List Rat → List AV
  | [] => []
  | q :: l => rC q ++ szC l
def szS (l : List Rat) : AV := .sl 2 l.length (szC l)
def genS (G : List (List Rat)) : AV := .sl 1 G.length (G.map szS)
def tunS (p : List Int) (C Mp : List (List Int)) (G : List (List Rat)) : AV := .agg [rowS p, matS C, matS Mp, genS G]
theorem nrl_szC : ∀ l : List Rat, nrl (szC l)
  | [] => trivial
  | _ :: l => ⟨trivial, trivial, nrl_szC l⟩
theorem hfl_szC : ∀ l : List Rat, hfl (szC l)
  | [] => trivial
  | _ :: l => ⟨trivial, trivial, hfl_szC l⟩
theorem nr_szS (l : List Rat) : nr (szS l) := nrl_szC l
theorem nrl_genS : ∀ G : List (List Rat), nrl (G.map szS)
  | [] => trivial
  | l :: G => ⟨nr_szS l, nrl_genS G⟩
theorem nr_genS (G : List (List Rat)) : nr (genS G) := nrl_genS G
theorem nr_tunS (p : List Int) (C Mp : List (List Int)) (G : List (List Rat)) : nr (tunS p C Mp G) := ⟨nr_rowS p, nr_matS C, nr_matS Mp, nr_genS G, trivial⟩
theorem szC_len : ∀ l : List Rat, (szC l).length = l.length * 2
  | [] => rfl
  | _ :: l => by simp only [szC, rC, List.cons_append, List.nil_append, List.length_cons, szC_len l]; omega
theorem szC_append : ∀ l m : List Rat, szC (l ++ m) = szC l ++ szC m
  | [], _ => rfl
  | q :: l, m => by simp only [List.cons_append, szC, szC_append l m, List.append_assoc]
theorem szC_drop : ∀ (l : List Rat) (j : Nat), (szC l).drop (j * 2) = szC (l.drop j)
  | l, 0 => rfl
  | [], j + 1 => by simp [szC]
  | q :: l, j + 1 => by rw [Nat.succ_mul, List.drop_succ_cons, ← szC_drop l j]; rfl
theorem szC_at {l : List Rat} {i j : Nat} (h : i = j * 2) (hj : j < l.length) : ((szC l).drop i).take 2 = rC l[j] := by
  subst h
  rw [szC_drop, List.drop_eq_getElem_cons hj]; rfl
theorem szC_set : ∀ (l : List Rat) (j : Nat) (q : Rat), j < l.length → setAll (szC l) (j * 2) (rC q) = szC (l.set j q)
  | [], _, _, h => by simp at h
  | x :: l, 0, q, _ => rfl
  | x :: l, j + 1, q, h => by
    rw [List.set_cons_succ]
    simp only [szC]
    rw [← szC_set l j q (by simpa using h), Nat.succ_mul]
    rfl
theorem szC_one (l : List Rat) : ∀ x ∈ szC l, x.one = true := by
  induction l with
  | nil => intro x hx; simp [szC] at hx
  | cons q l ih =>
    intro x hx
    simp only [szC, rC, List.cons_append, List.nil_append, List.mem_cons] at hx
    rcases hx with rfl | rfl | hx
    · rfl
    · rfl
    · exact ih x hx
/-- A struct of several cells, as it is loaded from what is only read. -/
theorem pure_load_ag {T : TT} {st : AS} {ty : TypeId} {x : Operand} {d : TD} {cs cs' : List AV} (ht : T ty = some d) (hag : isAggD d.und = true) (hx : ev st x = some (.pt cs)) (hc : cs.take d.size = cs') : pureOp T st (.load ty x) = some (d.size ≤ cs.length, .agg cs') := by
  subst hc
  unfold pureOp pureOp0
  simp only [ht, hx, hag, cond_true]
theorem rC_drop_len {l : List Rat} {i j : Nat} (h : i = j * 2) (hj : j < l.length) : 2 ≤ ((szC l).drop i).length := by
  rw [List.length_drop, szC_len]; omega
def okQ (q : Rat) : Prop := okZ q.num ∧ okN q.den
def long400 (q : Rat) : Prop := (numS q.num.natAbs).size ≤ 400 ∧ (numS q.den).size ≤ 400
def short30 (q : Rat) : Prop := (numS q.num.natAbs).size ≤ 30 ∧ (numS q.den).size ≤ 30
instance (q : Rat) : Decidable (long400 q) := by unfold long400; infer_instance
instance (q : Rat) : Decidable (short30 q) := by unfold short30; infer_instance
def sizL : List Rat → Int
  | [] => 0
  | q :: l => if long400 q then (if short30 q then sizL l else 4) else 2
def sizR (n : Int) (l : List Rat) : Int := if (l.length : Int) ≠ n then 5 else sizL l
set_option maxRecDepth 10000 in
theorem sizchk0_ok (p : List Int) (l : List Rat) (hq : ∀ q ∈ l, okQ q) (hl : l.length ≤ 1000000000) : OkP (laiOf Tryz.prog) Tryz.prog 82 [rowS p, szS l] (.v (.int .i64 (sizR p.length l))) := by
  refine okp_intro hT 25 Tryz.func82 rfl rfl rfl (Nat.le_of_ble_eq_true rfl) trivial ?_
  intro w0 F0 I
  unfold sizR rowS szS
  repeat (first|refine z2 ?_|refine z1 ?_|refine z3 ?_|refine z4 ?_|refine z5 ?_)
  refine awp_cond rfl (fun h => ?_) (fun h => ?_)
  · have h : (l.length : Int) ≠ p.length := by simpa using h
    rw [if_pos h]
    repeat (first|refine z2 ?_|refine z1 ?_|refine z3 ?_|refine z4 ?_|refine z5 ?_)
    (exact awp_ret ⟨.inl rfl, ret_one rfl (.refl (by first | trivial | exact nrl_u64s _))⟩)
  have h : (l.length : Int) = p.length := by simpa using h
  rw [if_neg (fun e => e h)]
  repeat (first|refine z2 ?_|refine z1 ?_|refine z3 ?_|refine z4 ?_|refine z5 ?_)
  refine awp_loop (fun x : { x : Nat // x ≤ l.length ∧ sizL l = sizL (l.drop x) } => ⟨[(12, .sl 2 l.length (szC l)), (13, .v (.int .i64 l.length)), (14, .v (.int .i64 x.1))], [], 0⟩) (fun x => l.length - x.1) ⟨0, Nat.zero_le _, rfl⟩ (le_sub ⟨rfl, rfl, rfl, trivial⟩ rfl rfl) ?_
  rintro ⟨j, hj, he⟩
  simp only at hj he ⊢
  repeat (first|refine z2 ?_|refine z1 ?_|refine z3 ?_|refine z4 ?_|refine z5 ?_)
  refine awp_cond rfl (fun h2 => ?_) (fun h2 => ?_)
  · have hjl : j < l.length := by have := of_decide_eq_true h2; omega
    clear h2
    rw [List.drop_eq_getElem_cons hjl, sizL] at he
    obtain ⟨q1, q2⟩ := hq _ (List.getElem_mem hjl)
    have hat := szC_at (l := l) (i := (j : Int).toNat * 2) (by omega) hjl
    obtain ⟨q, hqe⟩ : ∃ q, q = l[j] := ⟨_, rfl⟩
    rw [← hqe] at he q1 q2 hat
    repeat (first|refine z2 ?_|refine z1 ?_|refine z3 ?_|refine z4 ?_|refine z5 ?_)
    refine al_pure hT rfl (pure_load_ag rfl rfl rfl hat) rfl rfl (rC_drop_len (by omega) hjl) ?_
    unfold rC
    repeat (first|refine z2 ?_|refine z1 ?_|refine z3 ?_|refine z4 ?_|refine z5 ?_)
    refine al_call (rchk_ok q q1 q2) rfl rfl rfl rfl (.cons (.refl (x := rS q) ⟨trivial, trivial, trivial⟩) .nil) (.inl trivial) rfl rfl ?_
    repeat (first|refine z2 ?_|refine z1 ?_|refine z3 ?_|refine z4 ?_|refine z5 ?_)
    refine awp_cond rfl (fun h3 => ?_) (fun h3 => ?_)
    · have h3 : ¬ long400 q := fun e => by
        have e' : (numS q.num.natAbs).size ≤ 400 ∧ (numS q.den).size ≤ 400 := e
        rw [if_pos e'] at h3
        exact absurd h3 (by decide)
      rw [if_neg h3] at he
      repeat (first|refine z2 ?_|refine z1 ?_|refine z3 ?_|refine z4 ?_|refine z5 ?_)
      refine awp_ret ⟨.inl rfl, ret_one rfl ?_⟩
      rw [he]
      exact .refl trivial
    · have h3 : long400 q := by
        rcases Decidable.em (long400 q) with h | h
        · exact h
        · rw [if_neg (show ¬ ((numS q.num.natAbs).size ≤ 400 ∧ (numS q.den).size ≤ 400) from h)] at h3
          exact absurd h3 (by decide)
      rw [if_pos h3] at he
      repeat (first|refine z2 ?_|refine z1 ?_|refine z3 ?_|refine z4 ?_|refine z5 ?_)
      refine al_call (rshort_ok q q1 q2) rfl rfl rfl rfl (.cons (.refl (x := rS q) ⟨trivial, trivial, trivial⟩) .nil) (.inl trivial) rfl rfl ?_
      repeat (first|refine z2 ?_|refine z1 ?_|refine z3 ?_|refine z4 ?_|refine z5 ?_)
      refine awp_cond rfl (fun h4 => ?_) (fun h4 => ?_)
      · have h4 : ¬ short30 q := by
          have h4 : (!(decide (short30 q))) = true := h4
          simpa using h4
        rw [if_neg h4] at he
        repeat (first|refine z2 ?_|refine z1 ?_|refine z3 ?_|refine z4 ?_|refine z5 ?_)
        refine awp_ret ⟨.inl rfl, ret_one rfl ?_⟩
        rw [he]
        exact .refl trivial
      · have h4 : short30 q := by
          have h4 : (!(decide (short30 q))) = false := h4
          simpa using h4
        rw [if_pos h4] at he
        repeat (first|refine z2 ?_|refine z1 ?_|refine z3 ?_|refine z4 ?_|refine z5 ?_)
        exact ⟨⟨j + 1, hjl, he⟩, le_clear ⟨rfl, rfl, rfl, trivial⟩ ⟨nrl_szC l, trivial, trivial, trivial⟩, by show l.length - (j + 1) < l.length - j; omega⟩
  · have hjl : j = l.length := by have := of_decide_eq_false h2; omega
    subst hjl
    rw [List.drop_length, sizL] at he
    repeat (first|refine z2 ?_|refine z1 ?_|refine z3 ?_|refine z4 ?_|refine z5 ?_)
    refine awp_ret ⟨.inl rfl, ret_one rfl ?_⟩
    rw [he]
    exact .refl trivial
end Go.Proofs.YtlbhgejbfhhipaaGreatDoor

/- Walks: tunings checked. -/
namespace Go.Proofs.YtlbhgejbfhhipaaGreatDoor
open Go Go.Am Go.Lib Go.Sp Z1 Z2 Z3 Z4 Z5 Z6
theorem genS_drop {G : List (List Rat)} {i j : Nat} (h : i = j) (hj : j < G.length) : ((G.map szS).drop i)[0]? = some (szS G[j]) := by
  subst h
  rw [List.getElem?_drop, Nat.add_zero, List.getElem?_map, List.getElem?_eq_getElem hj]; rfl
def okG (G : List (List Rat)) : Prop := ∀ l ∈ G, (∀ q ∈ l, okQ q) ∧ l.length ≤ 1000000000
def sizG (n : Int) : List (List Rat) → Int
  | [] => 0
  | l :: G => if sizR n l ≠ 0 then sizR n l else sizG n G
def sizAll (p : List Int) (G : List (List Rat)) : Int := if primeChk p ≠ 0 then primeChk p else sizG p.length G
set_option maxRecDepth 10000 in
theorem sizall_ok (p : List Int) (G : List (List Rat)) (hp : small64L p) (hl : p.length ≤ 1000000000) (hG : okG G) (hg : G.length ≤ 1000000000) : OkP (laiOf Tryz.prog) Tryz.prog 89 [rowS p, genS G] (.v (.int .i64 (sizAll p G))) := by
  refine okp_intro hT 27 Tryz.func89 rfl rfl rfl (Nat.le_of_ble_eq_true rfl) trivial ?_
  intro w0 F0 I
  have hc := primechk_ok (Λ := laiOf Tryz.prog) p hp hl
  have hnp := nr_rowS p
  unfold sizAll
  repeat (first|refine z2 ?_|refine z1 ?_|refine z3 ?_|refine z4 ?_|refine z5 ?_)
  refine al_call hc rfl rfl rfl rfl (.cons (.refl hnp) .nil) (.inl trivial) rfl rfl ?_
  repeat (first|refine z2 ?_|refine z1 ?_|refine z3 ?_|refine z4 ?_|refine z5 ?_)
  refine awp_cond rfl (fun h => ?_) (fun h => ?_)
  · have h : primeChk p ≠ 0 := by simpa using h
    rw [if_pos h]
    repeat (first|refine z2 ?_|refine z1 ?_|refine z3 ?_|refine z4 ?_|refine z5 ?_)
    (exact awp_ret ⟨.inl rfl, ret_one rfl (.refl (by first | trivial | exact nrl_u64s _))⟩)
  have h : primeChk p = 0 := by simpa using h
  rw [if_neg (fun e => e h)]
  unfold genS
  repeat (first|refine z2 ?_|refine z1 ?_|refine z3 ?_|refine z4 ?_|refine z5 ?_)
  refine awp_loop (fun x : { x : Nat // x ≤ G.length ∧ sizG p.length G = sizG p.length (G.drop x) } => ⟨[(0, rowS p), (14, .sl 1 G.length (G.map szS)), (15, .v (.int .i64 G.length)), (16, .v (.int .i64 x.1))], [], 0⟩) (fun x => G.length - x.1) ⟨0, Nat.zero_le _, rfl⟩ (le_sub ⟨rfl, rfl, rfl, rfl, trivial⟩ rfl rfl) ?_
  rintro ⟨j, hj, he⟩
  simp only at hj he ⊢
  repeat (first|refine z2 ?_|refine z1 ?_|refine z3 ?_|refine z4 ?_|refine z5 ?_)
  refine awp_cond rfl (fun h2 => ?_) (fun h2 => ?_)
  · have hjl : j < G.length := by have := of_decide_eq_true h2; omega
    rw [List.drop_eq_getElem_cons hjl, sizG] at he
    obtain ⟨g1, g2⟩ := hG _ (List.getElem_mem hjl)
    have hk := sizchk0_ok p G[j] g1 g2
    have hns := nr_szS G[j]
    repeat (first|refine z2 ?_|refine z1 ?_|refine z3 ?_|refine z4 ?_|refine z5 ?_)
    refine al_pure hT rfl (pure_load_pt rfl rfl rfl (genS_drop (j := j) (by omega) hjl)) rfl rfl True.intro ?_
    repeat (first|refine z2 ?_|refine z1 ?_|refine z3 ?_|refine z4 ?_|refine z5 ?_)
    refine al_call hk rfl rfl rfl rfl (.cons (.refl hnp) (.cons (.refl hns) .nil)) (.inl trivial) rfl rfl ?_
    repeat (first|refine z2 ?_|refine z1 ?_|refine z3 ?_|refine z4 ?_|refine z5 ?_)
    refine awp_cond rfl (fun h3 => ?_) (fun h3 => ?_)
    · have h3 : sizR p.length G[j] ≠ 0 := by simpa using h3
      rw [if_pos h3] at he
      repeat (first|refine z2 ?_|refine z1 ?_|refine z3 ?_|refine z4 ?_|refine z5 ?_)
      refine awp_ret ⟨.inl rfl, ret_one rfl ?_⟩
      rw [he]
      exact .refl trivial
    · have h3 : sizR p.length G[j] = 0 := by simpa using h3
      rw [if_neg (fun e => e h3)] at he
      repeat (first|refine z2 ?_|refine z1 ?_|refine z3 ?_|refine z4 ?_|refine z5 ?_)
      exact ⟨⟨j + 1, hjl, he⟩, le_sub ⟨rfl, rfl, rfl, rfl, trivial⟩ rfl rfl, by show G.length - (j + 1) < G.length - j; omega⟩
  · have hjl : j = G.length := by have := of_decide_eq_false h2; omega
    subst hjl
    rw [List.drop_length, sizG] at he
    repeat (first|refine z2 ?_|refine z1 ?_|refine z3 ?_|refine z4 ?_|refine z5 ?_)
    refine awp_ret ⟨.inl rfl, ret_one rfl ?_⟩
    rw [he]
    exact .refl trivial
def sizChk (p : List Int) (l : List Rat) : Int := if primeChk p ≠ 0 then primeChk p else sizR p.length l
theorem sizchk_ok (p : List Int) (l : List Rat) (hp : small64L p) (hl : p.length ≤ 1000000000) (hq : ∀ q ∈ l, okQ q) (hg : l.length ≤ 1000000000) : OkP (laiOf Tryz.prog) Tryz.prog 34 [rowS p, szS l] (.v (.int .i64 (sizChk p l))) := by
  refine okp_intro hT 14 Tryz.func34 rfl rfl rfl (Nat.le_of_ble_eq_true rfl) trivial ?_
  intro w0 F0 I
  have hc := primechk_ok (Λ := laiOf Tryz.prog) p hp hl
  have hk := sizchk0_ok p l hq hg
  have hnp := nr_rowS p
  have hns := nr_szS l
  unfold sizChk
  repeat (first|refine z2 ?_|refine z1 ?_|refine z3 ?_|refine z4 ?_|refine z5 ?_)
  refine al_call hc rfl rfl rfl rfl (.cons (.refl hnp) .nil) (.inl trivial) rfl rfl ?_
  repeat (first|refine z2 ?_|refine z1 ?_|refine z3 ?_|refine z4 ?_|refine z5 ?_)
  refine awp_cond rfl (fun h => ?_) (fun h => ?_)
  · have h : primeChk p ≠ 0 := by simpa using h
    rw [if_pos h]
    repeat (first|refine z2 ?_|refine z1 ?_|refine z3 ?_|refine z4 ?_|refine z5 ?_)
    (exact awp_ret ⟨.inl rfl, ret_one rfl (.refl (by first | trivial | exact nrl_u64s _))⟩)
  have h : primeChk p = 0 := by simpa using h
  rw [if_neg (fun e => e h)]
  repeat (first|refine z2 ?_|refine z1 ?_|refine z3 ?_|refine z4 ?_|refine z5 ?_)
  refine al_call hk rfl rfl rfl rfl (.cons (.refl hnp) (.cons (.refl hns) .nil)) (.inl trivial) rfl rfl ?_
  repeat (first|refine z2 ?_|refine z1 ?_|refine z3 ?_|refine z4 ?_|refine z5 ?_)
  (exact awp_ret ⟨.inl rfl, ret_one rfl (.refl (by first | trivial | exact nrl_u64s _))⟩)
def tunR (k : Int) (p : List Int) (Mp : List (List Int)) (G : List (List Rat)) : Int := if k ≠ 0 then k else if (G.length : Int) ≠ Mp.length then 5 else sizAll p G
theorem tunchk_ok {p : List Int} {C Mp : List (List Int)} {G : List (List Rat)} {k : Int} (hk : OkP (laiOf Tryz.prog) Tryz.prog 88 [tmpS p C Mp] (.v (.int .i64 k))) (hp : small64L p) (hl : p.length ≤ 1000000000) (hG : okG G) (hg : G.length ≤ 1000000000) : OkP (laiOf Tryz.prog) Tryz.prog 44 [tunS p C Mp G] (.v (.int .i64 (tunR k p Mp G))) := by
  refine okp_intro hT 24 Tryz.func44 rfl rfl rfl (Nat.le_of_ble_eq_true rfl) trivial ?_
  intro w0 F0 I
  have hs := sizall_ok p G hp hl hG hg
  have hnt := nr_tmpS p C Mp
  have hnp := nr_rowS p
  have hng := nr_genS G
  unfold tunR
  repeat (first|refine z2 ?_|refine z1 ?_|refine z3 ?_|refine z4 ?_|refine z5 ?_)
  refine al_call hk rfl rfl rfl rfl (.cons (.refl (x := tmpS p C Mp) hnt) .nil) (.inl trivial) rfl rfl ?_
  repeat (first|refine z2 ?_|refine z1 ?_|refine z3 ?_|refine z4 ?_|refine z5 ?_)
  refine awp_cond rfl (fun h => ?_) (fun h => ?_)
  · have h : k ≠ 0 := by simpa using h
    rw [if_pos h]
    repeat (first|refine z2 ?_|refine z1 ?_|refine z3 ?_|refine z4 ?_|refine z5 ?_)
    (exact awp_ret ⟨.inl rfl, ret_one rfl (.refl (by first | trivial | exact nrl_u64s _))⟩)
  have h : k = 0 := by simpa using h
  rw [if_neg (fun e => e h)]
  unfold genS matS at *
  repeat (first|refine z2 ?_|refine z1 ?_|refine z3 ?_|refine z4 ?_|refine z5 ?_)
  refine awp_cond rfl (fun h => ?_) (fun h => ?_)
  · have h : (G.length : Int) ≠ Mp.length := by simpa using h
    rw [if_pos h]
    repeat (first|refine z2 ?_|refine z1 ?_|refine z3 ?_|refine z4 ?_|refine z5 ?_)
    (exact awp_ret ⟨.inl rfl, ret_one rfl (.refl (by first | trivial | exact nrl_u64s _))⟩)
  have h : (G.length : Int) = Mp.length := by simpa using h
  rw [if_neg (fun e => e h)]
  repeat (first|refine z2 ?_|refine z1 ?_|refine z3 ?_|refine z4 ?_|refine z5 ?_)
  refine al_call hs rfl rfl rfl rfl (.cons (.refl (x := rowS p) hnp) (.cons (.refl hng) .nil)) (.inl trivial) rfl rfl ?_
  repeat (first|refine z2 ?_|refine z1 ?_|refine z3 ?_|refine z4 ?_|refine z5 ?_)
  (exact awp_ret ⟨.inl rfl, ret_one rfl (.refl (by first | trivial | exact nrl_u64s _))⟩)
end Go.Proofs.YtlbhgejbfhhipaaGreatDoor

/- Walks: ints as fractions. -/
namespace Go.Proofs.YtlbhgejbfhhipaaGreatDoor
open Go Go.Am Go.Lib Go.Sp Z1 Z2 Z3 Z4 Z5 Z6
theorem sub_szC {st : AS} {g n : Nat} {l : List Rat} (h : st.row g 0 = some ⟨2, szC l⟩) (hn : n = l.length) : Sub st (.ref g 0 2 0 n) (szS l) := by
  subst hn
  refine .own h rfl (by show (0 + l.length) * 2 ≤ (szC l).length; rw [szC_len]; omega) ?_
  show SubL st (((szC l).drop (0 * 2)).take (l.length * 2)) (szC l)
  rw [Nat.zero_mul, List.drop_zero, List.take_of_length_le (by rw [szC_len]; exact Nat.le_refl _)]
  exact SubL.refl (nrl_szC l)
def ratsL (l : List Int) : List Rat := l.map fun (z : Int) => (z : Rat)
theorem ratsL_len (l : List Int) : (ratsL l).length = l.length := List.length_map _
theorem ratsL_snoc {l : List Int} {j : Nat} (h : j < l.length) : szC (ratsL (l.take j)) ++ (rC (l[j] : Rat) ++ []) = szC (ratsL (l.take (j + 1))) := by
  unfold ratsL
  rw [List.take_add_one, List.getElem?_eq_getElem h, List.map_append, szC_append]
  rfl
set_option maxRecDepth 10000 in
theorem numbers_ok (l : List Int) (hs : small64L l) (hl : l.length ≤ 1000000) : OkP (laiOf Tryz.prog) Tryz.prog 63 [rowS l] (szS (ratsL l)) := by
  refine okp_intro hT 25 Tryz.func63 rfl rfl rfl (Nat.le_of_ble_eq_true rfl) (nr_szS _) ?_
  intro w0 F0 I
  unfold rowS
  repeat (first|refine z2 ?_|refine z1 ?_|refine z3 ?_|refine z4 ?_|refine z5 ?_)
  refine awp_loop (fun x : { x : Nat // x ≤ l.length } => ⟨[(3, .ref 0 0 2 0 x.1), (8, .sl 1 l.length (i64s l)), (9, .v (.int .i64 l.length)), (10, .v (.int .i64 x.1))], [(0, [⟨2, szC (ratsL (l.take x.1))⟩])], 1⟩) (fun x => l.length - x.1) ⟨0, Nat.zero_le _⟩ ?_ ?_
  · exact le_ren (fun _ _ => none) ⟨⟨_, rfl, .nilref 2 rfl (by show 0 < 1; omega)⟩, ⟨_, rfl, .refl (nrl_i64s l)⟩, ⟨_, rfl, .refl trivial⟩, ⟨_, rfl, .refl trivial⟩, trivial⟩ ⟨⟨⟨by show 0 < 1; omega, .inl ⟨rfl, rfl⟩⟩, trivial⟩, trivial⟩ rfl (base_nil _ _)
  rintro ⟨j, hj⟩
  simp only at hj ⊢
  repeat (first|refine z2 ?_|refine z1 ?_|refine z3 ?_|refine z4 ?_|refine z5 ?_)
  refine awp_cond rfl (fun h => ?_) (fun h => ?_)
  · have hjl : j < l.length := by have := of_decide_eq_true h; omega
    clear h
    have hz := hs _ (List.getElem_mem hjl)
    have hof := rof_ok l[j] 1 (by decide) hz (by omega)
    rw [rS_int] at hof
    have hsn := ratsL_snoc hjl
    obtain ⟨z, hze⟩ : ∃ z, z = l[j] := ⟨_, rfl⟩
    repeat (first|refine z2 ?_|refine z1 ?_|refine z3 ?_|refine z4 ?_|refine z5 ?_)
    refine al_pure hT rfl (pure_load_pt rfl rfl rfl (i64s_drop (j := j) (by omega) hjl)) rfl rfl True.intro ?_
    rw [← hze] at hof hsn ⊢
    repeat (first|refine z2 ?_|refine z1 ?_|refine z3 ?_|refine z4 ?_|refine z5 ?_)
    refine al_call hof rfl rfl rfl rfl (.cons (.refl trivial) (.cons (.refl trivial) .nil)) (.inl ⟨⟨trivial, trivial, trivial⟩, trivial, trivial⟩) rfl rfl ?_
    repeat (first|refine z2 ?_|refine z1 ?_|refine z3 ?_|refine z4 ?_|refine z5 ?_)
    refine al_litF hT rfl rfl rfl rfl rfl rfl rfl rfl rfl ?_
    refine al_append hT rfl rfl rfl rfl rfl rfl rfl rfl rfl rfl rfl rfl rfl (by show (szC _).length = _ * 2; rw [szC_len, ratsL_len, List.length_take]; omega) (fun g r h e => by cases e; cases h; rfl) (fun x hx => szC_one [(z : Rat)] x hx) (by show (_ + 1) * 32 ≤ _; omega) (by omega) ?_
    repeat (first|refine z2 ?_|refine z1 ?_|refine z3 ?_|refine z4 ?_|refine z5 ?_)
    refine ⟨⟨j + 1, hjl⟩, ?_, by show l.length - (j + 1) < l.length - j; omega⟩
    refine le_ren (fun g t => some (2, t)) ⟨⟨_, rfl, .ref rfl (by show 0 < 1; omega)⟩, ⟨_, rfl, .refl (nrl_i64s l)⟩, ⟨_, rfl, .refl trivial⟩, ⟨_, rfl, .refl trivial⟩, trivial⟩ ⟨⟨⟨by show 0 < 1; omega, .inr ⟨2, 0, _, rfl, rfl, rfl, ?_⟩⟩, trivial⟩, trivial⟩ rfl (base_nil _ _)
    exact wkl_eq hsn (nrl_szC _)
  · have hjl : j = l.length := by have := of_decide_eq_false h; omega
    subst hjl
    rw [List.take_length]
    repeat (first|refine z2 ?_|refine z1 ?_|refine z3 ?_|refine z4 ?_|refine z5 ?_)
    exact awp_ret ⟨.inl rfl, ret_one rfl (sub_szC rfl (ratsL_len l).symm)⟩
end Go.Proofs.YtlbhgejbfhhipaaGreatDoor

/- Walks: a list of one fraction, again and again. -/
namespace Go.Proofs.YtlbhgejbfhhipaaGreatDoor
open Go Go.Am Go.Lib Go.Sp Z1 Z2 Z3 Z4 Z5 Z6
theorem bitsmul_ok (x y : Nat) (hx : x < 18446744073709551616) (hy : y < 18446744073709551616) (h : x * y < 18446744073709551616) : OkP (laiOf Tryz.prog) Tryz.prog 167 [.v (.int .u64 x), .v (.int .u64 y)] (.tup [.v (.int .u64 0), .v (.int .u64 ((x * y : Nat) : Int))]) := by
  refine okp_plain (args := [.int .u64 x, .int .u64 y]) (enters_mk Tryz.func167 rfl rfl) ⟨trivial, trivial, trivial⟩ ⟨trivial, trivial, trivial⟩ (fun w hL _ => ?_)
  refine (Tryz.bits_Mul x y hx hy w).mono (fun e w' h' => ?_)
  obtain ⟨rfl, rfl⟩ := h'
  rw [Nat.div_eq_of_lt h, Nat.mod_eq_of_lt h]
  exact ⟨_, rfl, V_two _ _, Frm.refl _ _⟩
theorem setAll_append : ∀ (A D E : List AV), E.length ≤ D.length → setAll (A ++ D) A.length E = A ++ (E ++ D.drop E.length)
  | A, D, [], _ => by simp [setAll]
  | A, [], e :: E, h => by simp at h
  | A, d :: D, e :: E, h => by
    have ih := setAll_append (A ++ [e]) D E (by simpa using h)
    simp only [setAll, List.length_cons, List.drop_succ_cons]
    rw [List.set_append_right _ _ (Nat.le_refl _), Nat.sub_self, List.set_cons_zero]
    rw [List.append_assoc, List.length_append] at ih
    exact ih.trans (by simp)
theorem szC_rep (q : Rat) (a b : Nat) : szC (List.replicate (a + b) q) = szC (List.replicate a q) ++ szC (List.replicate b q) := by rw [← szC_append, List.replicate_append_replicate]
theorem szC_rep_take (q : Rat) {a b : Nat} (h : b ≤ a) : (szC (List.replicate a q)).take (b * 2) = szC (List.replicate b q) := by
  obtain ⟨c, rfl⟩ : ∃ c, a = b + c := ⟨a - b, by omega⟩
  rw [szC_rep, List.take_append_of_le_length (by rw [szC_len, List.length_replicate]; exact Nat.le_refl _), List.take_of_length_le (by rw [szC_len, List.length_replicate]; exact Nat.le_refl _)]
def repC (q : Rat) (Z : List AV) (x : Nat) : List AV := szC (List.replicate x q) ++ Z.drop (x * 2)
theorem repC_len {q : Rat} {Z : List AV} {n x : Nat} (hZ : Z.length = n * 2) (hx : x ≤ n) : (repC q Z x).length = n * 2 := by
  unfold repC
  rw [List.length_append, szC_len, List.length_replicate, List.length_drop, hZ]
  omega
theorem repC_set {q : Rat} {Z : List AV} {n x k i : Nat} (hZ : Z.length = n * 2) (hx : x + k ≤ n) (hi : i = x * 2) : setAll (repC q Z x) i (szC (List.replicate k q)) = repC q Z (x + k) := by
  subst hi
  have h1 : (szC (List.replicate x q)).length = x * 2 := by rw [szC_len, List.length_replicate]
  have h2 : (szC (List.replicate k q)).length = k * 2 := by rw [szC_len, List.length_replicate]
  have := setAll_append (szC (List.replicate x q)) (Z.drop (x * 2)) (szC (List.replicate k q)) (by rw [h2, List.length_drop, hZ]; omega)
  rw [h1] at this
  unfold repC
  rw [this, szC_rep, List.append_assoc, h2, List.drop_drop, Nat.add_mul]
theorem repC_take {q : Rat} {Z : List AV} {x : Nat} : (repC q Z x).take (x * 2) = szC (List.replicate x q) := by
  unfold repC
  rw [List.take_append_of_le_length (by rw [szC_len, List.length_replicate]; exact Nat.le_refl _), List.take_of_length_le (by rw [szC_len, List.length_replicate]; exact Nat.le_refl _)]
theorem nrl_repC {q : Rat} {Z : List AV} {x : Nat} (h : nrl Z) : nrl (repC q Z x) := by
  rw [nrl_iff] at h ⊢
  intro c hc
  rcases List.mem_append.1 hc with hc | hc
  · exact nrl_iff.1 (nrl_szC _) c hc
  · exact h c (List.mem_of_mem_drop hc)
theorem nrl_zeroRep (z : List Value) (n : Nat) : nrl (zeroRep z n) := by
  rw [nrl_iff]
  intro c hc
  unfold zeroRep at hc
  obtain ⟨l, hl, hcl⟩ := List.mem_flatten.1 hc
  rw [List.eq_of_mem_replicate hl] at hcl
  obtain ⟨v, _, rfl⟩ := List.mem_map.1 hcl
  trivial
set_option maxRecDepth 10000 in
theorem repeat_ok (q : Rat) (n : Nat) (h1 : 1 ≤ n) (hn : n ≤ 1000000) : OkW (laiOf Tryz.prog) Tryz.prog 115 [.sl 2 1 (rC q), .v (.int .i64 n)] ⟨[], [], 0⟩ (.ref 0 0 2 0 n) ⟨[], [(0, [⟨2, szC (List.replicate n q)⟩])], 1⟩ := by
  refine okw_intro hT 48 Tryz.func115 rfl rfl rfl (Nat.le_of_ble_eq_true rfl) (Nat.zero_le _) ?_
  intro w0 F0 I β0 hβ
  have hβ0 : β0 = [] := List.eq_nil_of_length_eq_zero hβ
  subst hβ0
  have hbm := bitsmul_ok 1 n (by omega) (by omega) (by omega)
  rw [Nat.one_mul] at hbm
  repeat (first|refine z2 ?_|refine z1 ?_|refine z3 ?_|refine z4 ?_|refine z5 ?_)
  refine awp_cond rfl (fun h => ?_) (fun _ => ?_)
  · have := of_decide_eq_true h
    omega
  repeat (first|refine z2 ?_|refine z1 ?_|refine z3 ?_|refine z4 ?_|refine z5 ?_)
  refine zc (hbm) ?_
  repeat (first|refine z2 ?_|refine z1 ?_|refine z3 ?_|refine z4 ?_|refine z5 ?_|refine z6 ?_|refine z7 ?_)
  have hbig : decide ((n : Int) > 9223372036854775807) = false := decide_eq_false (by omega)
  refine awp_cond rfl (fun h => ?_) (fun _ => ?_)
  · have h : decide ((n : Int) > 9223372036854775807) = true := h
    rw [hbig] at h
    cases h
  repeat (first|refine z2 ?_|refine z1 ?_|refine z3 ?_|refine z4 ?_|refine z5 ?_)
  refine al_make hT rfl rfl rfl rfl rfl rfl rfl rfl rfl rfl (by omega) (by omega) (by show (32 : Int) * _ ≤ _; omega) (by omega) ?_
  obtain ⟨Z, hZ⟩ : ∃ Z, Z = zeroRep [Value.string ⟨#[]⟩, Value.string ⟨#[]⟩] n := ⟨_, rfl⟩
  have hZl : Z.length = n * 2 := by rw [hZ]; unfold zeroRep; simp
  have hZn : nrl Z := by rw [hZ]; exact nrl_zeroRep _ _
  have e0 : ((n : Int)).toNat = n := by omega
  repeat (first|refine z2 ?_|refine z1 ?_|refine z3 ?_|refine z4 ?_|refine z5 ?_)
  refine al_copy hT rfl rfl rfl rfl rfl rfl rfl rfl rfl rfl rfl (by intro x hx; exact szC_one [q] x hx) (by omega) (by show (0 + (n : Int).toNat) * 2 ≤ (zeroRep [Value.string ⟨#[]⟩, Value.string ⟨#[]⟩] (n : Int).toNat).length; rw [e0, ← hZ, hZl]; omega) ?_
  repeat (first|refine z2 ?_|refine z1 ?_|refine z3 ?_|refine z4 ?_|refine z5 ?_)
  refine awp_loop (fun x : { x : Nat // 1 ≤ x ∧ x ≤ n } => ⟨[(7, .ref 0 0 2 0 n), (8, .v (.int .i64 x.1))], [(0, [⟨2, repC q Z x.1⟩])], 1⟩) (fun x => n - x.1) ⟨1, Nat.le_refl _, h1⟩ ?_ ?_
  · have e1 : min 1 n = 1 := Nat.min_eq_left h1
    refine le_ren (fun g t => some (g, t)) ⟨⟨.ref 0 0 2 0 (n : Int).toNat, rfl, ?_⟩, ⟨.v (.int .i64 ((min 1 (n : Int).toNat : Nat) : Int)), rfl, ?_⟩, trivial⟩ ⟨⟨⟨by show 0 < 1; omega, .inr ⟨0, 0, _, rfl, rfl, rfl, wkl_eq ?_ ?_⟩⟩, trivial⟩, trivial⟩ rfl (base_nil _ _)
    · rw [e0]; exact .ref rfl (by show 0 < 1; omega)
    · rw [e0, e1]; exact .refl trivial
    · show setAll (zeroRep [Value.string ⟨#[]⟩, Value.string ⟨#[]⟩] (n : Int).toNat) (0 * 2) ((rC q).take (min 1 (n : Int).toNat * 2)) = repC q Z 1
      rw [e0, e1, ← hZ]
      exact repC_set (q := q) (x := 0) (k := 1) hZl (by omega) rfl
    · exact nrl_repC hZn
  rintro ⟨x, hx1, hxn⟩
  simp only at hx1 hxn ⊢
  repeat (first|refine z2 ?_|refine z1 ?_|refine z3 ?_|refine z4 ?_|refine z5 ?_)
  refine awp_cond rfl (fun h => ?_) (fun h => ?_)
  · have hlt : x < n := by have := of_decide_eq_true h; omega
    clear h
    (repeat (first | refine awp_seq ?_ | refine awp_block ?_ | refine awp_skip ?_))
    refine awp_region_draw [] hmix (by kernel_rfl) ?_
    repeat (first|refine z2 ?_|refine z1 ?_|refine z3 ?_|refine z4 ?_|refine z5 ?_)
    have hl := repC_len (q := q) hZl hxn
    have ex : ((x : Int)).toNat = x := by omega
    have ex2 : ((x : Int) - 0).toNat = x := by omega
    have ey : ((n : Int) - (x : Int)).toNat = n - x := by omega
    refine al_copy hT rfl rfl rfl rfl rfl rfl rfl rfl rfl rfl ⟨rfl, by show (0 + (0 : Int).toNat + ((x : Int) - 0).toNat) * 2 ≤ (repC q Z x).length; rw [hl, ex2]; show (0 + 0 + x) * 2 ≤ _; omega⟩ (fun y hy => ?_) (by show 0 < ((n : Int) - (x : Int)).toNat; omega) (by show (0 + (x : Int).toNat + ((n : Int) - (x : Int)).toNat) * 2 ≤ (repC q Z x).length; rw [hl]; omega) ?_
    · have hy : y ∈ ((repC q Z x).drop ((0 + (0 : Int).toNat) * 2)).take (((x : Int) - 0).toNat * 2) := hy
      rw [ex2] at hy
      have hy : y ∈ (repC q Z x).take (x * 2) := hy
      rw [repC_take] at hy
      exact szC_one _ y hy
    repeat (first|refine z2 ?_|refine z1 ?_|refine z3 ?_|refine z4 ?_|refine z5 ?_)
    refine ⟨⟨x + min x (n - x), by omega, by omega⟩, ?_, by show n - (x + min x (n - x)) < n - x; omega⟩
    refine le_ren (fun g t => some (g, t)) ⟨⟨_, rfl, .ref rfl (by show 0 < 1; omega)⟩, ⟨.v (.int .i64 ((x : Int) + ((min ((x : Int) - 0).toNat ((n : Int) - (x : Int)).toNat : Nat) : Int))), rfl, ?_⟩, trivial⟩ ⟨⟨⟨by show 0 < 1; omega, .inr ⟨0, 0, _, rfl, rfl, rfl, wkl_eq ?_ (nrl_repC hZn)⟩⟩, trivial⟩, trivial⟩ rfl (base_nil _ _)
    · rw [ex2, ey, ← Int.natCast_add]
      exact .refl trivial
    · show setAll (repC q Z x) ((0 + (x : Int).toNat) * 2) ((((repC q Z x).drop ((0 + (0 : Int).toNat) * 2)).take (((x : Int) - 0).toNat * 2)).take (min ((x : Int) - 0).toNat ((n : Int) - (x : Int)).toNat * 2)) = _
      rw [ex2, ey, ex]
      show setAll (repC q Z x) ((0 + x) * 2) (((repC q Z x).take (x * 2)).take (min x (n - x) * 2)) = _
      rw [repC_take, szC_rep_take q (Nat.min_le_left _ _)]
      exact repC_set hZl (by omega) (by omega)
  · have hlt : x = n := by have := of_decide_eq_false h; omega
    repeat (first|refine z2 ?_|refine z1 ?_|refine z3 ?_|refine z4 ?_|refine z5 ?_)
    refine awp_ret ⟨.inl rfl, ⟨[(4, .ref 0 0 2 0 n)], [(0, [⟨2, szC (List.replicate n q)⟩])], 1⟩, ?_, rfl, rfl, rfl⟩
    refine le_ren (fun g t => some (g, t)) ⟨⟨_, rfl, .ref rfl (by show 0 < 1; omega)⟩, trivial⟩ ⟨⟨⟨by show 0 < 1; omega, .inr ⟨0, 0, _, rfl, rfl, rfl, wkl_eq ?_ (nrl_szC _)⟩⟩, trivial⟩, trivial⟩ rfl (base_nil _ _)
    show repC q Z x = szC (List.replicate n q)
    unfold repC
    rw [hlt, List.drop_of_length_le (by omega), List.append_nil]
end Go.Proofs.YtlbhgejbfhhipaaGreatDoor

/- Walks: sizes combined. -/
namespace Go.Proofs.YtlbhgejbfhhipaaGreatDoor
open Go Go.Am Go.Lib Go.Sp Z1 Z2 Z3 Z4 Z5 Z6
theorem okN_ten {n e : Nat} (h : n < 10 ^ e) (h1 : 1 ≤ e) (he : e ≤ 3500000000000) : okN n := Nat.le_trans ((numS_le h1).2 h) he
theorem cr_okQ {e : Nat} {q : Rat} (h : Cr e q) (h1 : 1 ≤ e) (he : e ≤ 3500000000000) : okQ q := ⟨okN_ten h.1 h1 he, okN_ten h.2 h1 he⟩
theorem pure_load_aa {T : TT} {st : AS} {ty : TypeId} {x : Operand} {d : TD} {g u i : Nat} {r : Row} {cs' : List AV} (ht : T ty = some d) (hag : isAggD d.und = true) (hx : ev st x = some (.adr g u i)) (hr : st.row g u = some r) (hc : (r.cells.drop i).take d.size = cs') : pureOp T st (.load ty x) = some (i + d.size ≤ r.cells.length, .agg cs') := by
  subst hc
  unfold pureOp pureOp0
  simp only [ht, hx, hr, hag, cond_true, Option.bind_some]
theorem rC_zero : rC 0 = [.v (.string ⟨#[48]⟩), .v (.string ⟨#[49]⟩)] := by
  show [AV.v (.string (zS 0)), AV.v (.string (zS 1))] = _
  rw [zS_zero, zS_one]
theorem rC_one (q : Rat) : ∀ x ∈ rC q, x.one = true := by
  intro x hx
  simp only [rC, List.mem_cons, List.not_mem_nil, or_false] at hx
  rcases hx with rfl | rfl <;> rfl
set_option maxRecDepth 10000 in
theorem combine_ok (p : List Int) (G : List (List Rat)) (ks : List Rat) {e f : Nat} (h1 : 1 ≤ p.length) (hp : p.length ≤ 1000) (hgl : G.length ≤ 1000) (hG : ∀ l ∈ G, l.length = p.length ∧ crL e l) (hk : crL f ks) (hkl : G.length ≤ ks.length) (hks : ks.length ≤ 1000000) (he : 1 ≤ e) (hf : 1 ≤ f) (he2 : e ≤ 1000000) (hf2 : f ≤ 1000000) :
    OkW (laiOf Tryz.prog) Tryz.prog 75 [rowS p, genS G, szS ks] ⟨[], [], 0⟩ (.ref 0 0 2 0 p.length) ⟨[], [(0, [⟨2, szC (combL G ks p.length G.length)⟩])], 1⟩ := by
  refine okw_intro hT 48 Tryz.func75 rfl rfl rfl (Nat.le_of_ble_eq_true rfl) (Nat.zero_le _) ?_
  intro w0 F0 I β0 hβ
  have hβ0 : β0 = [] := List.eq_nil_of_length_eq_zero hβ
  subst hβ0
  have hre := repeat_ok 0 p.length h1 (by omega)
  rw [rC_zero] at hre
  have hc0 := combL_zero G ks p.length
  obtain ⟨n, hn⟩ : ∃ n, n = p.length := ⟨_, rfl⟩
  unfold rowS genS szS
  rw [← hn] at hre hc0 h1 hp hG ⊢
  repeat (first|refine z2 ?_|refine z1 ?_|refine z3 ?_|refine z4 ?_|refine z5 ?_)
  refine al_litF hT rfl rfl rfl rfl rfl rfl rfl rfl rfl ?_
  repeat (first|refine z2 ?_|refine z1 ?_|refine z3 ?_|refine z4 ?_|refine z5 ?_)
  refine al_callw (fun _ _ => none) [(0, [⟨2, szC (List.replicate n 0)⟩])] 1 (.ref 0 0 2 0 n) hre rfl rfl rfl rfl rfl (.cons (.refl ⟨trivial, trivial, trivial⟩) (.cons (.refl trivial) .nil)) (hand_ren trivial rfl (fun g' _ _ _ h => absurd h (Nat.not_lt_zero _))) rfl rfl rfl (back_ren ⟨⟨.inl ⟨0, 0, _, rfl, rfl, Nat.zero_lt_one, rfl, RnL.refl (hfl_szC _)⟩, trivial⟩, trivial⟩) (.ref rfl Nat.zero_lt_one) ?_
  repeat (first|refine z2 ?_|refine z1 ?_|refine z3 ?_|refine z4 ?_|refine z5 ?_)
  refine awp_loop (fun x : { x : Nat // x ≤ G.length } => ⟨[(2, .sl 2 ks.length (szC ks)), (7, .ref 0 0 2 0 n), (16, .sl 1 G.length (G.map szS)), (17, .v (.int .i64 G.length)), (18, .v (.int .i64 x.1))], [(0, [⟨2, szC (combL G ks n x.1)⟩])], 1⟩) (fun x => G.length - x.1) ⟨0, Nat.zero_le _⟩ (le_sub ⟨rfl, rfl, rfl, rfl, rfl, trivial⟩ (by rw [hc0]; rfl) rfl) ?_
  rintro ⟨i, hi⟩
  simp only at hi ⊢
  repeat (first|refine z2 ?_|refine z1 ?_|refine z3 ?_|refine z4 ?_|refine z5 ?_)
  refine awp_cond rfl (fun h => ?_) (fun h => ?_)
  · have hil : i < G.length := by have := of_decide_eq_true h; omega
    clear h
    obtain ⟨g1, g2⟩ := hG _ (List.getElem_mem hil)
    have hgd : G.getD i [] = G[i] := by rw [List.getD_eq_getElem?_getD, List.getElem?_eq_getElem hil, Option.getD_some]
    have hkd : ks.getD i 0 = ks[i]'(by omega) := by rw [List.getD_eq_getElem?_getD, List.getElem?_eq_getElem (by omega), Option.getD_some]
    repeat (first|refine z2 ?_|refine z1 ?_|refine z3 ?_|refine z4 ?_|refine z5 ?_)
    refine al_pure hT rfl (pure_load_pt rfl rfl rfl (genS_drop (j := i) (by omega) hil)) rfl rfl True.intro ?_
    obtain ⟨s, hs⟩ : ∃ s, s = G[i] := ⟨_, rfl⟩
    obtain ⟨k, hke⟩ : ∃ k, k = ks[i]'(by omega) := ⟨_, rfl⟩
    rw [← hs] at g1 g2 hgd ⊢
    rw [← hke] at hkd
    unfold szS
    rw [g1]
    repeat (first|refine z2 ?_|refine z1 ?_|refine z3 ?_|refine z4 ?_|refine z5 ?_)
    refine awp_loop (fun x : { x : Nat // x ≤ n } => ⟨[(2, .sl 2 ks.length (szC ks)), (7, .ref 0 0 2 0 n), (8, .v (.int .i64 i)), (9, .sl 2 n (szC s)), (16, .sl 1 G.length (G.map szS)), (17, .v (.int .i64 G.length)), (18, .v (.int .i64 i)), (24, .v (.int .i64 n)), (25, .v (.int .i64 x.1))], [(0, [⟨2, szC (mixC G ks n i x.1)⟩])], 1⟩) (fun x => n - x.1) ⟨0, Nat.zero_le _⟩ (le_sub ⟨rfl, rfl, rfl, rfl, rfl, rfl, rfl, rfl, rfl, trivial⟩ (by rw [mixC_zero]; rfl) rfl) ?_
    rintro ⟨c, hc⟩
    simp only at hc ⊢
    repeat (first|refine z2 ?_|refine z1 ?_|refine z3 ?_|refine z4 ?_|refine z5 ?_)
    refine awp_cond rfl (fun h => ?_) (fun h => ?_)
    · have hcn : c < n := by have := of_decide_eq_true h; omega
      clear h
      have ml := mixC_len G ks n i c
      have ma := mixC_at (G := G) (ks := ks) (i := i) hcn
      have hacc := accR_cr (fun l hl => (hG l hl).2) hk he hf c i
      have hsd : s.getD c 0 = s[c]'(by omega) := by rw [List.getD_eq_getElem?_getD, List.getElem?_eq_getElem (by omega), Option.getD_some]
      have hsc := g2 _ (List.getElem_mem (show c < s.length by omega))
      have hkc := hk _ (List.getElem_mem (show i < ks.length by omega))
      rw [← hke] at hkc
      have hset := mixC_set (G := G) (ks := ks) (i := i) hcn
      rw [accR, hgd, hkd, hsd] at hset
      obtain ⟨a, hae⟩ : ∃ a, a = accR G ks c i := ⟨_, rfl⟩
      obtain ⟨z, hze⟩ : ∃ z, z = s[c]'(by omega) := ⟨_, rfl⟩
      rw [← hae] at hacc hset ma
      rw [← hze] at hsc hset
      have hb : i * (e + f + 2) ≤ 1000 * (e + f + 2) := Nat.mul_le_mul_right _ (by omega)
      obtain ⟨x1, x2, x3⟩ := hsc.cross hkc
      have hzk := hsc.mul hkc
      obtain ⟨y1, y2, _⟩ := hacc.cross hzk
      have hmul := rmul_ok z k (cr_okQ hsc he (by omega)).1 (cr_okQ hkc hf (by omega)).1 (okN_ten x3 (by omega) (by omega)) (okN_ten x2 (by omega) (by omega))
      have hadd := radd_ok a (z * k) (okN_ten y1 (by omega) (by omega)) (okN_ten y2 (by omega) (by omega))
      have hszl : ((szC (mixC G ks n i c)).drop (0 * 2 + (c : Int).toNat * 2)).take 2 = rC a := by rw [szC_at (j := c) (by omega) (by omega), ma]
      have hszs : ((szC s).drop ((c : Int).toNat * 2)).take 2 = rC z := by rw [szC_at (j := c) (by omega) (by omega), hze]
      have hszk : ((szC ks).drop ((i : Int).toNat * 2)).take 2 = rC k := by rw [szC_at (j := i) (by omega) (by omega), hke]
      repeat (first|refine z2 ?_|refine z1 ?_|refine z3 ?_|refine z4 ?_|refine z5 ?_)
      refine awp_region_draw [] hmix (by kernel_rfl) ?_
      repeat (first|refine z2 ?_|refine z1 ?_|refine z3 ?_|refine z4 ?_|refine z5 ?_)
      refine al_pure hT rfl (pure_load_aa rfl rfl rfl rfl hszl) rfl rfl (by show (0 * 2 + (c : Int).toNat * 2) + 2 ≤ (szC _).length; rw [szC_len]; omega) ?_
      repeat (first|refine z2 ?_|refine z1 ?_|refine z3 ?_|refine z4 ?_|refine z5 ?_)
      refine al_pure hT rfl (pure_load_ag rfl rfl rfl hszs) rfl rfl (rC_drop_len (j := c) (by omega) (by omega)) ?_
      repeat (first|refine z2 ?_|refine z1 ?_|refine z3 ?_|refine z4 ?_|refine z5 ?_)
      refine al_pure hT rfl (pure_load_ag rfl rfl rfl hszk) rfl rfl (rC_drop_len (j := i) (by omega) (by omega)) ?_
      repeat (first|refine z2 ?_|refine z1 ?_|refine z3 ?_|refine z4 ?_|refine z5 ?_)
      refine al_call hmul rfl rfl rfl rfl (.cons (.refl (x := rS z) ⟨trivial, trivial, trivial⟩) (.cons (.refl (x := rS k) ⟨trivial, trivial, trivial⟩) .nil)) (.inl ⟨trivial, trivial, trivial⟩) rfl rfl ?_
      refine al_call hadd rfl rfl rfl rfl (.cons (.refl (x := rS a) ⟨trivial, trivial, trivial⟩) (.cons (.refl (x := rS (z * k)) ⟨trivial, trivial, trivial⟩) .nil)) (.inl ⟨trivial, trivial, trivial⟩) rfl rfl ?_
      repeat (first|refine z2 ?_|refine z1 ?_|refine z3 ?_|refine z4 ?_|refine z5 ?_)
      refine al_store hT rfl rfl rfl rfl rfl rfl rfl rfl rfl (by show (0 * 2 + (c : Int).toNat * 2) + 2 ≤ (szC _).length; rw [szC_len]; omega) (rC_one _) ?_
      repeat (first|refine z2 ?_|refine z1 ?_|refine z3 ?_|refine z4 ?_|refine z5 ?_)
      refine ⟨⟨c + 1, hcn⟩, ?_, by show n - (c + 1) < n - c; omega⟩
      refine le_sub ⟨rfl, rfl, rfl, rfl, rfl, rfl, rfl, rfl, rfl, trivial⟩ ?_ rfl
      show _ = [(0, [Row.mk 2 (setAll (szC (mixC G ks n i c)) (0 * 2 + (c : Int).toNat * 2) (rC (a + z * k)))])]
      rw [show 0 * 2 + (c : Int).toNat * 2 = c * 2 by omega, szC_set _ _ _ (by omega), hset]
    · have hcn : c = n := by have := of_decide_eq_false h; omega
      rw [hcn, mixC_all]
      repeat (first|refine z2 ?_|refine z1 ?_|refine z3 ?_|refine z4 ?_|refine z5 ?_)
      exact ⟨⟨i + 1, hil⟩, le_sub ⟨rfl, rfl, rfl, rfl, rfl, trivial⟩ rfl rfl, by show G.length - (i + 1) < G.length - i; omega⟩
  · have hil : i = G.length := by have := of_decide_eq_false h; omega
    rw [hil]
    repeat (first|refine z2 ?_|refine z1 ?_|refine z3 ?_|refine z4 ?_|refine z5 ?_)
    exact awp_ret ⟨.inl rfl, ⟨[(6, .ref 0 0 2 0 n)], [(0, [⟨2, szC (combL G ks n G.length)⟩])], 1⟩, le_sub ⟨rfl, trivial⟩ rfl rfl, rfl, rfl, rfl⟩
end Go.Proofs.YtlbhgejbfhhipaaGreatDoor

/- Walks: intervals tempered by a tuning. -/
namespace Go.Proofs.YtlbhgejbfhhipaaGreatDoor
open Go Go.Am Go.Lib Go.Sp Z1 Z2 Z3 Z4 Z5 Z6
theorem back_addS {st : AS} {e : List (Nat × AV)} {objs : List (Nat × List Row)} {k sz : Nat} {c : List AV} (ho : st.objs = objs) (hn : st.nx = k) (hc : hfl c) :
    Back st (fun _ _ => none) ⟨[], [], 0⟩ ⟨[], [(0, [⟨sz, c⟩])], 1⟩ ⟨e, (k, [⟨sz, c⟩]) :: objs, k + 1⟩ := by
  intro g t r hr
  rcases row_cons hr with ⟨rfl, hq⟩ | ⟨_, hq⟩
  · cases t with
    | zero =>
      simp only [List.getElem?_cons_zero, Option.some.injEq] at hq
      subst hq
      refine .inl ⟨0, 0, ⟨sz, c⟩, rfl, ?_, Nat.lt_succ_self _, rfl, RnL.refl hc⟩
      rw [hn]; rfl
    | succ t => simp at hq
  · refine .inr ⟨by unfold AS.row; rw [ho]; exact hq, fun g' t' r' _ h => by cases h⟩
/-- What is known of a tuning that is asked: what its check answers, and how great its numbers are. -/
structure TunK (P : Program) (p : List Int) (C Mp : List (List Int)) (G : List (List Rat)) (k : Int) (e : Nat) : Prop where
  chk : OkP (laiOf P) P 88 [tmpS p C Mp] (.v (.int .i64 k))
  small : small64L p
  plen : p.length ≤ 1000
  gok : okG G
  glen : G.length ≤ 1000
  rect : k = 0 → Rect p.length Mp ∧ Mp.length ≤ 1000 ∧ ∀ r ∈ Mp, bndL 1000000000 r
  gens : k = 0 → ∀ l ∈ G, crL e l
  one : 1 ≤ e
  few : e ≤ 100000
def temErr (k : Int) (p x : List Int) (Mp : List (List Int)) (G : List (List Rat)) : Int :=
  if tunR k p Mp G ≠ 0 then tunR k p Mp G else if monChk p x ≠ 0 then monChk p x else if begR k p [x] ≠ 0 then begR k p [x] else if (dots x Mp).all fitsB = true then 0 else 4
theorem sizG_len {n : Int} : ∀ {G : List (List Rat)}, sizG n G = 0 → ∀ l ∈ G, (l.length : Int) = n
  | [], _, l, h => by cases h
  | l :: G, h, m, hm => by
    rw [sizG] at h
    by_cases h1 : sizR n l = 0
    · rw [if_neg (fun e => e h1)] at h
      rcases List.mem_cons.1 hm with rfl | hm
      · unfold sizR at h1
        by_cases h2 : (m.length : Int) = n
        · exact h2
        · rw [if_pos h2] at h1; omega
      · exact sizG_len h m hm
    · rw [if_pos h1] at h; exact absurd h h1
theorem tunR_zero {k : Int} {p : List Int} {Mp : List (List Int)} {G : List (List Rat)} (h : tunR k p Mp G = 0) : k = 0 ∧ G.length = Mp.length ∧ primeChk p = 0 ∧ ∀ l ∈ G, l.length = p.length := by
  unfold tunR at h
  by_cases hk : k = 0
  · rw [if_neg (fun e => e hk)] at h
    by_cases hl : (G.length : Int) = Mp.length
    · rw [if_neg (fun e => e hl)] at h
      unfold sizAll at h
      by_cases hp : primeChk p = 0
      · rw [if_neg (fun e => e hp)] at h
        exact ⟨hk, by omega, hp, fun l hl => by have := sizG_len h l hl; omega⟩
      · rw [if_pos hp] at h; exact absurd h hp
    · rw [if_pos hl] at h; omega
  · rw [if_pos hk] at h; exact absurd h hk
theorem prime_some {p : List Int} (h : primeChk p = 0) : 1 ≤ p.length := by
  cases p with
  | nil => exact absurd h (by decide)
  | cons a p => simp
theorem temErr_zero {k : Int} {p x : List Int} {Mp : List (List Int)} {G : List (List Rat)} (h : temErr k p x Mp G = 0) : tunR k p Mp G = 0 ∧ monChk p x = 0 ∧ begR k p [x] = 0 ∧ (dots x Mp).all fitsB = true := by
  unfold temErr at h
  by_cases h1 : tunR k p Mp G = 0
  · rw [if_neg (fun e => e h1)] at h
    by_cases h2 : monChk p x = 0
    · rw [if_neg (fun e => e h2)] at h
      by_cases h3 : begR k p [x] = 0
      · rw [if_neg (fun e => e h3)] at h
        by_cases h4 : (dots x Mp).all fitsB = true
        · exact ⟨h1, h2, h3, h4⟩
        · rw [if_neg h4] at h; omega
      · rw [if_pos h3] at h; exact absurd h h3
    · rw [if_pos h2] at h; exact absurd h h2
  · rw [if_pos h1] at h; exact absurd h h1
set_option maxRecDepth 10000 in
theorem tempered_bad {p x : List Int} {C Mp : List (List Int)} {G : List (List Rat)} {k : Int} {e : Nat} (K : TunK Tryz.prog p C Mp G k e) (hx : x.length ≤ 1000000000) (h : temErr k p x Mp G ≠ 0) : OkP (laiOf Tryz.prog) Tryz.prog 61 [tunS p C Mp G, rowS x] (.tup [.v (.slice none 0 0), .v (.int .i64 (temErr k p x Mp G))]) := by
  refine okp_intro hT 41 Tryz.func61 rfl rfl rfl (Nat.le_of_ble_eq_true rfl) ⟨trivial, trivial, trivial⟩ ?_
  intro w0 F0 I
  have htu := tunchk_ok K.chk K.small (by have := K.plen; omega) K.gok (by have := K.glen; omega)
  have hmo := monchk_ok (Λ := laiOf Tryz.prog) p x K.small (by have := K.plen; omega) (by omega)
  have hte := temper_ok K.chk hx (fun hk => ⟨(K.rect hk).1, by have := (K.rect hk).2.1; omega, (K.rect hk).2.2⟩)
  have hnt := nr_tunS p C Mp G
  have hnm := nr_tmpS p C Mp
  have hnp := nr_rowS p
  have hnx := nr_rowS x
  unfold temErr at h ⊢
  repeat (first|refine z2 ?_|refine z1 ?_|refine z3 ?_|refine z4 ?_|refine z5 ?_)
  refine al_call htu rfl rfl rfl rfl (.cons (.refl (x := tunS p C Mp G) hnt) .nil) (.inl trivial) rfl rfl ?_
  repeat (first|refine z2 ?_|refine z1 ?_|refine z3 ?_|refine z4 ?_|refine z5 ?_)
  refine awp_cond rfl (fun h1 => ?_) (fun h1 => ?_)
  · have h1 : tunR k p Mp G ≠ 0 := by simpa using h1
    rw [if_pos h1]
    repeat (first|refine z2 ?_|refine z1 ?_|refine z3 ?_|refine z4 ?_|refine z5 ?_)
    exact awp_ret ⟨.inl rfl, ret_tup rfl (.cons (.refl trivial) (.cons (.refl trivial) .nil))⟩
  have h1 : tunR k p Mp G = 0 := by simpa using h1
  rw [if_neg (fun e => e h1)] at h ⊢
  repeat (first|refine z2 ?_|refine z1 ?_|refine z3 ?_|refine z4 ?_|refine z5 ?_)
  refine al_call hmo rfl rfl rfl rfl (.cons (.refl (x := rowS p) hnp) (.cons (.refl hnx) .nil)) (.inl trivial) rfl rfl ?_
  repeat (first|refine z2 ?_|refine z1 ?_|refine z3 ?_|refine z4 ?_|refine z5 ?_)
  refine awp_cond rfl (fun h2 => ?_) (fun h2 => ?_)
  · have h2 : monChk p x ≠ 0 := by simpa using h2
    rw [if_pos h2]
    repeat (first|refine z2 ?_|refine z1 ?_|refine z3 ?_|refine z4 ?_|refine z5 ?_)
    exact awp_ret ⟨.inl rfl, ret_tup rfl (.cons (.refl trivial) (.cons (.refl trivial) .nil))⟩
  have h2 : monChk p x = 0 := by simpa using h2
  rw [if_neg (fun e => e h2)] at h ⊢
  unfold temR at hte
  repeat (first|refine z2 ?_|refine z1 ?_|refine z3 ?_|refine z4 ?_|refine z5 ?_)
  by_cases h3 : begR k p [x] = 0
  · rw [if_neg (fun e => e h3)] at h hte ⊢
    have h4 : ¬ (dots x Mp).all fitsB = true := fun e => by rw [if_pos e] at h; exact h rfl
    rw [if_neg h4] at hte ⊢
    refine al_call hte rfl rfl rfl rfl (.cons (.refl (x := tmpS p C Mp) hnm) (.cons (.refl hnx) .nil)) (.inr ⟨⟨hnm, hnx, trivial⟩, rfl⟩) rfl rfl ?_
    repeat (first|refine z2 ?_|refine z1 ?_|refine z3 ?_|refine z4 ?_|refine z5 ?_)
    refine awp_cond rfl (fun _ => ?_) (fun h => absurd h (by decide))
    repeat (first|refine z2 ?_|refine z1 ?_|refine z3 ?_|refine z4 ?_|refine z5 ?_)
    exact awp_ret ⟨.inl rfl, ret_tup rfl (.cons (.refl trivial) (.cons (.refl trivial) .nil))⟩
  · rw [if_pos h3] at hte ⊢
    refine al_call hte rfl rfl rfl rfl (.cons (.refl (x := tmpS p C Mp) hnm) (.cons (.refl hnx) .nil)) (.inr ⟨⟨hnm, hnx, trivial⟩, rfl⟩) rfl rfl ?_
    repeat (first|refine z2 ?_|refine z1 ?_|refine z3 ?_|refine z4 ?_|refine z5 ?_)
    refine awp_cond rfl (fun _ => ?_) (fun h => absurd (show (begR k p [x] != 0) = false from h) (by simpa using h3))
    repeat (first|refine z2 ?_|refine z1 ?_|refine z3 ?_|refine z4 ?_|refine z5 ?_)
    exact awp_ret ⟨.inl rfl, ret_tup rfl (.cons (.refl trivial) (.cons (.refl trivial) .nil))⟩
set_option maxRecDepth 10000 in
theorem tempered_ok {p x : List Int} {C Mp : List (List Int)} {G : List (List Rat)} {k : Int} {e : Nat} (K : TunK Tryz.prog p C Mp G k e) (hx : x.length ≤ 1000000000) (h : temErr k p x Mp G = 0) : OkW (laiOf Tryz.prog) Tryz.prog 61 [tunS p C Mp G, rowS x] ⟨[], [], 0⟩ (.tup [.ref 0 0 2 0 p.length, .v (.int .i64 0)]) ⟨[], [(0, [⟨2, szC (combL G (ratsL (dots x Mp)) p.length G.length)⟩])], 1⟩ := by
  refine okw_intro hT 41 Tryz.func61 rfl rfl rfl (Nat.le_of_ble_eq_true rfl) (Nat.zero_le _) ?_
  intro w0 F0 I β0 hβ
  have hβ0 : β0 = [] := List.eq_nil_of_length_eq_zero hβ
  subst hβ0
  have htu := tunchk_ok K.chk K.small (by have := K.plen; omega) K.gok (by have := K.glen; omega)
  have hmo := monchk_ok (Λ := laiOf Tryz.prog) p x K.small (by have := K.plen; omega) (by omega)
  have hte := temper_ok K.chk hx (fun hk => ⟨(K.rect hk).1, by have := (K.rect hk).2.1; omega, (K.rect hk).2.2⟩)
  obtain ⟨h1, h2, h3, h4⟩ := temErr_zero h
  unfold temR at hte
  rw [if_neg (fun e => e h3), if_pos h4] at hte
  rw [h1] at htu
  rw [h2] at hmo
  obtain ⟨k0, hgl, hp0, hll⟩ := tunR_zero h1
  obtain ⟨m1, m2, m3⟩ := K.rect k0
  have hdl := dots_len x Mp
  have hds : small64L (dots x Mp) := fun z hz => by
    have := of_decide_eq_true (List.all_eq_true.1 h4 z hz)
    omega
  have hdc : crL 10 (ratsL (dots x Mp)) := fun q hq => by
    obtain ⟨z, hz, rfl⟩ := List.mem_map.1 hq
    have := of_decide_eq_true (List.all_eq_true.1 h4 z hz)
    exact Cr.int (by omega) (by omega)
  have hnu := numbers_ok (dots x Mp) hds (by rw [hdl]; omega)
  have hco := combine_ok p G (ratsL (dots x Mp)) (e := e) (f := 10) (prime_some hp0) K.plen K.glen (fun l hl => ⟨hll l hl, K.gens k0 l hl⟩) hdc (by rw [ratsL_len, hdl]; omega) (by rw [ratsL_len, hdl]; omega) K.one (by omega) (by have := K.few; omega) (by omega)
  have hnt := nr_tunS p C Mp G
  have hnm := nr_tmpS p C Mp
  have hnp := nr_rowS p
  have hnx := nr_rowS x
  have hny := nr_rowS (dots x Mp)
  have hng := nr_genS G
  have hnn := nr_szS (ratsL (dots x Mp))
  repeat (first|refine z2 ?_|refine z1 ?_|refine z3 ?_|refine z4 ?_|refine z5 ?_)
  refine al_call htu rfl rfl rfl rfl (.cons (.refl (x := tunS p C Mp G) hnt) .nil) (.inl trivial) rfl rfl ?_
  repeat (first|refine z2 ?_|refine z1 ?_|refine z3 ?_|refine z4 ?_|refine z5 ?_)
  refine awp_cond rfl (fun h => absurd h (by decide)) (fun _ => ?_)
  repeat (first|refine z2 ?_|refine z1 ?_|refine z3 ?_|refine z4 ?_|refine z5 ?_)
  refine al_call hmo rfl rfl rfl rfl (.cons (.refl (x := rowS p) hnp) (.cons (.refl hnx) .nil)) (.inl trivial) rfl rfl ?_
  repeat (first|refine z2 ?_|refine z1 ?_|refine z3 ?_|refine z4 ?_|refine z5 ?_)
  refine awp_cond rfl (fun h => absurd h (by decide)) (fun _ => ?_)
  repeat (first|refine z2 ?_|refine z1 ?_|refine z3 ?_|refine z4 ?_|refine z5 ?_)
  refine al_call hte rfl rfl rfl rfl (.cons (.refl (x := tmpS p C Mp) hnm) (.cons (.refl hnx) .nil)) (.inr ⟨⟨hnm, hnx, trivial⟩, rfl⟩) rfl rfl ?_
  repeat (first|refine z2 ?_|refine z1 ?_|refine z3 ?_|refine z4 ?_|refine z5 ?_)
  refine awp_cond rfl (fun h => absurd h (by decide)) (fun _ => ?_)
  (repeat (first | refine awp_seq ?_ | refine awp_block ?_ | refine awp_skip ?_))
  refine awp_region_draw [5] hmix (by kernel_rfl) ?_
  repeat (first|refine z2 ?_|refine z1 ?_|refine z3 ?_|refine z4 ?_|refine z5 ?_)
  refine al_call hnu rfl rfl rfl rfl (.cons (.refl hny) .nil) (.inr ⟨⟨hny, trivial⟩, rfl⟩) rfl rfl ?_
  refine al_callw (fun _ _ => none) [(1, [⟨2, szC (combL G (ratsL (dots x Mp)) p.length G.length)⟩])] 2 (.ref 1 0 2 0 p.length) hco rfl rfl rfl rfl rfl (.cons (.refl (x := rowS p) hnp) (.cons (.refl hng) (.cons (.refl hnn) .nil))) (hand_ren trivial rfl (fun g' _ _ _ h => absurd h (Nat.not_lt_zero _))) rfl rfl rfl (back_ren ⟨⟨.inl ⟨0, 0, _, rfl, rfl, Nat.one_lt_two, rfl, RnL.refl (hfl_szC _)⟩, trivial⟩, trivial⟩) (.ref rfl Nat.one_lt_two) ?_
  repeat (first|refine z2 ?_|refine z1 ?_|refine z3 ?_|refine z4 ?_|refine z5 ?_)
  refine awp_ret ⟨.inl rfl, ⟨[(4, .ref 0 0 2 0 p.length), (5, .v (.int .i64 0))], [(0, [⟨2, szC (combL G (ratsL (dots x Mp)) p.length G.length)⟩])], 1⟩, ?_, rfl, rfl, rfl⟩
  exact le_ren (fun g t => some (1, t)) ⟨⟨_, rfl, .ref rfl (by show 0 < 1; omega)⟩, ⟨_, rfl, .refl trivial⟩, trivial⟩ ⟨⟨⟨by show 0 < 1; omega, .inr ⟨1, 0, _, rfl, rfl, rfl, WkL.refl (nrl_szC _)⟩⟩, trivial⟩, trivial⟩ rfl (base_nil _ _)
def resR (p : List Int) (s : List Rat) : AV := if sizChk p s ≠ 0 then .tup [.v (.slice none 0 0), .v (.int .i64 4)] else .tup [szS s, .v (.int .i64 0)]
theorem nr_resR (p : List Int) (s : List Rat) : nr (resR p s) := by unfold resR; split; exact ⟨trivial, trivial, trivial⟩; exact ⟨nr_szS s, trivial, trivial⟩
theorem result_ok (p : List Int) (s : List Rat) (hp : small64L p) (hl : p.length ≤ 1000000000) (hq : ∀ q ∈ s, okQ q) (hg : s.length ≤ 1000000000) : OkP (laiOf Tryz.prog) Tryz.prog 62 [rowS p, szS s] (resR p s) := by
  refine okp_intro hT 11 Tryz.func62 rfl rfl rfl (Nat.le_of_ble_eq_true rfl) (nr_resR p s) ?_
  intro w0 F0 I
  have hc := sizchk_ok p s hp hl hq hg
  have hnp := nr_rowS p
  have hns := nr_szS s
  unfold resR
  repeat (first|refine z2 ?_|refine z1 ?_|refine z3 ?_|refine z4 ?_|refine z5 ?_)
  refine al_call hc rfl rfl rfl rfl (.cons (.refl hnp) (.cons (.refl hns) .nil)) (.inl trivial) rfl rfl ?_
  repeat (first|refine z2 ?_|refine z1 ?_|refine z3 ?_|refine z4 ?_|refine z5 ?_)
  refine awp_cond rfl (fun h => ?_) (fun h => ?_)
  · have h : sizChk p s ≠ 0 := by simpa using h
    rw [if_pos h]
    repeat (first|refine z2 ?_|refine z1 ?_|refine z3 ?_|refine z4 ?_|refine z5 ?_)
    exact awp_ret ⟨.inl rfl, ret_tup rfl (.cons (.refl trivial) (.cons (.refl trivial) .nil))⟩
  · have h : sizChk p s = 0 := by simpa using h
    rw [if_neg (fun e => e h)]
    repeat (first|refine z2 ?_|refine z1 ?_|refine z3 ?_|refine z4 ?_|refine z5 ?_)
    exact awp_ret ⟨.inl rfl, ret_tup rfl (.cons (.refl hns) (.cons (.refl trivial) .nil))⟩
end Go.Proofs.YtlbhgejbfhhipaaGreatDoor

/- Walks: the tempered size of an interval, and its error. -/
namespace Go.Proofs.YtlbhgejbfhhipaaGreatDoor
open Go Go.Am Go.Lib Go.Sp Z1 Z2 Z3 Z4 Z5 Z6
def temS (p x : List Int) (Mp : List (List Int)) (G : List (List Rat)) : List Rat := combL G (ratsL (dots x Mp)) p.length G.length
theorem temS_len (p x : List Int) (Mp : List (List Int)) (G : List (List Rat)) : (temS p x Mp G).length = p.length := combL_len _ _ _ _
def tcE (e : Nat) : Nat := 1 + 1000 * (e + 12)
theorem temS_cr {p x : List Int} {C Mp : List (List Int)} {G : List (List Rat)} {k : Int} {e : Nat} (K : TunK Tryz.prog p C Mp G k e) (h : temErr k p x Mp G = 0) : crL (tcE e) (temS p x Mp G) := by
  obtain ⟨h1, h2, h3, h4⟩ := temErr_zero h
  obtain ⟨k0, _, _, _⟩ := tunR_zero h1
  have hdc : crL 10 (ratsL (dots x Mp)) := fun q hq => by
    obtain ⟨z, hz, rfl⟩ := List.mem_map.1 hq
    have := of_decide_eq_true (List.all_eq_true.1 h4 z hz)
    exact Cr.int (by omega) (by omega)
  intro q hq
  obtain ⟨c, _, rfl⟩ := List.mem_map.1 hq
  refine (accR_cr (K.gens k0) hdc K.one (by omega) c G.length).mono ?_
  unfold tcE
  have := Nat.mul_le_mul_right (e + 10 + 2) K.glen
  omega
def ofR (k : Int) (p x : List Int) (Mp : List (List Int)) (G : List (List Rat)) : AV := if temErr k p x Mp G ≠ 0 then .tup [.v (.slice none 0 0), .v (.int .i64 (temErr k p x Mp G))] else resR p (temS p x Mp G)
set_option maxRecDepth 10000 in
theorem tof_ok {p x : List Int} {C Mp : List (List Int)} {G : List (List Rat)} {k : Int} {e : Nat} (K : TunK Tryz.prog p C Mp G k e) (hx : x.length ≤ 1000000000) : OkP (laiOf Tryz.prog) Tryz.prog 16 [tunS p C Mp G, rowS x] (ofR k p x Mp G) := by
  unfold ofR
  refine okp_intro hT 24 Tryz.func16 rfl rfl rfl (Nat.le_of_ble_eq_true rfl) (by split; exact ⟨trivial, trivial, trivial⟩; exact nr_resR _ _) ?_
  intro w0 F0 I
  have hnt := nr_tunS p C Mp G
  have hnp := nr_rowS p
  have hnx := nr_rowS x
  by_cases h : temErr k p x Mp G = 0
  · rw [if_neg (fun e => e h)]
    have hte := tempered_ok K hx h
    have hcr := temS_cr K h
    have hre := result_ok p (temS p x Mp G) K.small (by have := K.plen; omega) (fun q hq => cr_okQ (hcr q hq) (by unfold tcE; omega) (by have := K.few; unfold tcE; omega)) (by rw [temS_len]; have := K.plen; omega)
    have hsl := temS_len p x Mp G
    have hnr := nr_szS (temS p x Mp G)
    unfold resR at hre ⊢
    have hte : OkW (laiOf Tryz.prog) Tryz.prog 61 [tunS p C Mp G, rowS x] ⟨[], [], 0⟩ (.tup [.ref 0 0 2 0 p.length, .v (.int .i64 0)]) ⟨[], [(0, [⟨2, szC (temS p x Mp G)⟩])], 1⟩ := hte
    generalize temS p x Mp G = s at hte hcr hre hsl hnr ⊢
    repeat (first|refine z2 ?_|refine z1 ?_|refine z3 ?_|refine z4 ?_|refine z5 ?_)
    refine al_callw (fun _ _ => none) [(1, [⟨2, szC s⟩]), (0, [⟨4, [rowS p, matS C, matS Mp, genS G]⟩])] 2 (.tup [.ref 1 0 2 0 p.length, .v (.int .i64 0)]) hte rfl rfl rfl rfl rfl (.cons (.refl (x := tunS p C Mp G) hnt) (.cons (.refl hnx) .nil)) (hand_ren trivial rfl (fun g' _ _ _ h => absurd h (Nat.not_lt_zero _))) rfl rfl rfl (back_addS rfl rfl (hfl_szC _)) (.tup (.cons (.ref rfl Nat.one_lt_two) (.cons (.same trivial) .nil))) ?_
    repeat (first|refine z2 ?_|refine z1 ?_|refine z3 ?_|refine z4 ?_|refine z5 ?_)
    refine awp_cond rfl (fun h => absurd h (by decide)) (fun _ => ?_)
    repeat (first|refine z2 ?_|refine z1 ?_|refine z3 ?_|refine z4 ?_|refine z5 ?_)
    by_cases h2 : sizChk p s = 0
    · rw [if_neg (fun e => e h2)] at hre ⊢
      refine al_callz (fun g => Nat.beq g 0) hre rfl rfl rfl rfl rfl (.cons (.refl (x := rowS p) hnp) (.cons (sub_szC rfl hsl.symm) .nil)) rfl rfl ?_
      repeat (first|refine z2 ?_|refine z1 ?_|refine z3 ?_|refine z4 ?_|refine z5 ?_)
      exact awp_ret ⟨.inl rfl, ret_tup rfl (.cons (.refl hnr) (.cons (.refl trivial) .nil))⟩
    · rw [if_pos h2] at hre ⊢
      refine al_callz (fun g => Nat.beq g 0) hre rfl rfl rfl rfl rfl (.cons (.refl (x := rowS p) hnp) (.cons (sub_szC rfl hsl.symm) .nil)) rfl rfl ?_
      repeat (first|refine z2 ?_|refine z1 ?_|refine z3 ?_|refine z4 ?_|refine z5 ?_)
      exact awp_ret ⟨.inl rfl, ret_tup rfl (.cons (.refl trivial) (.cons (.refl trivial) .nil))⟩
  · rw [if_pos h]
    have hte := tempered_bad K hx h
    repeat (first|refine z2 ?_|refine z1 ?_|refine z3 ?_|refine z4 ?_|refine z5 ?_)
    refine al_call hte rfl rfl rfl rfl (.cons (.refl (x := tunS p C Mp G) hnt) (.cons (.refl hnx) .nil)) (.inr ⟨⟨hnt, hnx, trivial⟩, rfl⟩) rfl rfl ?_
    repeat (first|refine z2 ?_|refine z1 ?_|refine z3 ?_|refine z4 ?_|refine z5 ?_)
    refine awp_cond rfl (fun _ => ?_) (fun h' => absurd (show (temErr k p x Mp G != 0) = false from h') (by simpa using h))
    repeat (first|refine z2 ?_|refine z1 ?_|refine z3 ?_|refine z4 ?_|refine z5 ?_)
    exact awp_ret ⟨.inl rfl, ret_tup rfl (.cons (.refl trivial) (.cons (.refl trivial) .nil))⟩
def subJ (s : List Rat) (x : List Int) (j : Nat) : List Rat := (List.range s.length).map fun i => if i < j then s.getD i 0 - (x.getD i 0 : Rat) else s.getD i 0
theorem subJ_len (s : List Rat) (x : List Int) (j : Nat) : (subJ s x j).length = s.length := by simp [subJ]
theorem subJ_zero (s : List Rat) (x : List Int) : subJ s x 0 = s := by
  apply List.ext_getElem (subJ_len s x 0)
  intro i h1 h2
  simp [subJ, h2]
theorem subJ_at {s : List Rat} {x : List Int} {j : Nat} (h : j < s.length) : (subJ s x j)[j]'(by rw [subJ_len]; exact h) = s[j] := by simp [subJ, h]
theorem subJ_set {s : List Rat} {x : List Int} {j : Nat} (h : j < s.length) (hx : j < x.length) : (subJ s x j).set j (s[j] - (x[j] : Rat)) = subJ s x (j + 1) := by
  apply List.ext_getElem (by simp [subJ])
  intro i h1 h2
  simp only [List.length_set, subJ_len] at h1
  rw [List.getElem_set]
  by_cases e : j = i
  · subst e; simp [subJ, h, hx]
  · rw [if_neg e]
    simp only [subJ, List.getElem_map, List.getElem_range]
    by_cases e2 : i < j
    · rw [if_pos e2, if_pos (by omega)]
    · rw [if_neg e2, if_neg (by omega)]
def subL (s : List Rat) (x : List Int) : List Rat := subJ s x s.length
def errR (k : Int) (p x : List Int) (Mp : List (List Int)) (G : List (List Rat)) : AV := if temErr k p x Mp G ≠ 0 then .tup [.v (.slice none 0 0), .v (.int .i64 (temErr k p x Mp G))] else resR p (subL (temS p x Mp G) x)
theorem mon_len {p x : List Int} (h : monChk p x = 0) : x.length = p.length ∧ ∀ z ∈ x, z.natAbs ≤ 1000 := by
  unfold monChk at h
  by_cases h1 : primeChk p = 0
  · rw [if_neg (fun e => e h1)] at h
    unfold monR at h
    by_cases h2 : (x.length : Int) = p.length
    · rw [if_neg (fun e => e h2)] at h
      by_cases h3 : x.any bigB = true
      · rw [if_pos h3] at h; omega
      · refine ⟨by omega, fun z hz => ?_⟩
        rcases Nat.lt_or_ge 1000 z.natAbs with hb | hb
        · exact absurd (List.any_eq_true.2 ⟨z, hz, decide_eq_true (by omega)⟩) h3
        · exact hb
    · rw [if_pos h2] at h; omega
  · rw [if_pos h1] at h; exact absurd h h1
end Go.Proofs.YtlbhgejbfhhipaaGreatDoor

/- Walks: the error of an interval in a tuning. -/
namespace Go.Proofs.YtlbhgejbfhhipaaGreatDoor
open Go Go.Am Go.Lib Go.Sp Z1 Z2 Z3 Z4 Z5 Z6
theorem subL_cr {s : List Rat} {x : List Int} {e : Nat} (hs : crL e s) (he : 4 ≤ e) (hx : ∀ z ∈ x, z.natAbs ≤ 1000) (j : Nat) : crL (2 * e + 1) (subJ s x j) := by
  intro q hq
  obtain ⟨i, hi, rfl⟩ := List.mem_map.1 hq
  have hil := List.mem_range.1 hi
  have h1 := crL_at hs (by omega) i
  show Cr (2 * e + 1) (if i < j then s.getD i 0 - (x.getD i 0 : Rat) else s.getD i 0)
  split
  · have h2 : Cr e ((x.getD i 0 : Int) : Rat) := by
      refine Cr.int ?_ (by omega)
      have h4 : 10 ^ 4 ≤ 10 ^ e := Nat.pow_le_pow_right (by omega) he
      rcases Nat.lt_or_ge i x.length with h | h
      · rw [getD_at h]; have := hx _ (List.getElem_mem h); omega
      · rw [List.getD_eq_getElem?_getD, List.getElem?_eq_none h]; show (0 : Int).natAbs < _; omega
    rw [Rat.sub_eq_add_neg]
    exact (h1.add h2.neg).mono (by omega)
  · exact h1.mono (by omega)
set_option maxRecDepth 10000 in
theorem terr_ok {p x : List Int} {C Mp : List (List Int)} {G : List (List Rat)} {k : Int} {e : Nat} (K : TunK Tryz.prog p C Mp G k e) (hx : x.length ≤ 1000000000) : OkP (laiOf Tryz.prog) Tryz.prog 17 [tunS p C Mp G, rowS x] (errR k p x Mp G) := by
  unfold errR
  refine okp_intro hT 44 Tryz.func17 rfl rfl rfl (Nat.le_of_ble_eq_true rfl) (by split; exact ⟨trivial, trivial, trivial⟩; exact nr_resR _ _) ?_
  intro w0 F0 I
  have hnt := nr_tunS p C Mp G
  have hnp := nr_rowS p
  have hnx := nr_rowS x
  by_cases h : temErr k p x Mp G = 0
  · rw [if_neg (fun e => e h)]
    have hte := tempered_ok K hx h
    have hcr := temS_cr K h
    obtain ⟨hxl, hxb⟩ := mon_len (temErr_zero h).2.1
    have hpl := K.plen
    have hef := K.few
    have hnu := numbers_ok x (fun z hz => by have := hxb z hz; omega) (by omega)
    have hsl := temS_len p x Mp G
    have hte : OkW (laiOf Tryz.prog) Tryz.prog 61 [tunS p C Mp G, rowS x] ⟨[], [], 0⟩ (.tup [.ref 0 0 2 0 p.length, .v (.int .i64 0)]) ⟨[], [(0, [⟨2, szC (temS p x Mp G)⟩])], 1⟩ := hte
    generalize temS p x Mp G = s at hte hcr hsl ⊢
    have hsc := subL_cr hcr (by unfold tcE; have := K.one; omega) hxb s.length
    have hre := result_ok p (subL s x) K.small (by omega) (fun q hq => cr_okQ (hsc q hq) (by omega) (by unfold tcE; omega)) (by unfold subL; rw [subJ_len, hsl]; omega)
    have hnr := nr_szS (subL s x)
    have hnn := nr_szS (ratsL x)
    have hrl := ratsL_len x
    unfold resR at hre ⊢
    obtain ⟨BX, hBX⟩ : ∃ b, b = [rowS p, matS C, matS Mp, genS G] := ⟨_, rfl⟩
    have hnb : nrl BX := by rw [hBX]; exact hnt
    repeat (first|refine z2 ?_|refine z1 ?_|refine z3 ?_|refine z4 ?_|refine z5 ?_)
    refine al_callw (fun _ _ => none) [(1, [⟨2, szC s⟩]), (0, [⟨4, [rowS p, matS C, matS Mp, genS G]⟩])] 2 (.tup [.ref 1 0 2 0 p.length, .v (.int .i64 0)]) hte rfl rfl rfl rfl rfl (.cons (.refl (x := tunS p C Mp G) hnt) (.cons (.refl hnx) .nil)) (hand_ren trivial rfl (fun g' _ _ _ h => absurd h (Nat.not_lt_zero _))) rfl rfl rfl (back_addS rfl rfl (hfl_szC _)) (.tup (.cons (.ref rfl Nat.one_lt_two) (.cons (.same trivial) .nil))) ?_
    repeat (first|refine z2 ?_|refine z1 ?_|refine z3 ?_|refine z4 ?_|refine z5 ?_)
    refine awp_cond rfl (fun h => absurd h (by decide)) (fun _ => ?_)
    repeat (first|refine z2 ?_|refine z1 ?_|refine z3 ?_|refine z4 ?_|refine z5 ?_)
    refine al_call hnu rfl rfl rfl rfl (.cons (.refl hnx) .nil) (.inr ⟨⟨hnx, trivial⟩, rfl⟩) rfl rfl ?_
    unfold szS
    rw [hrl]
    repeat (first|refine z2 ?_|refine z1 ?_|refine z3 ?_|refine z4 ?_|refine z5 ?_)
    refine awp_loop (fun y : { y : Nat // y ≤ x.length } => ⟨[(2, .adr 0 0 0), (6, .ref 1 0 2 0 p.length), (20, .sl 2 x.length (szC (ratsL x))), (21, .v (.int .i64 x.length)), (22, .v (.int .i64 y.1))], [(0, [⟨4, [rowS p, matS C, matS Mp, genS G]⟩]), (1, [⟨2, szC (subJ s x y.1)⟩])], 2⟩) (fun y => x.length - y.1) ⟨0, Nat.zero_le _⟩ ?_ ?_
    · refine le_ren (fun g t => some (g, t)) ⟨⟨_, rfl, .adr rfl (by show 0 < 2; omega)⟩, ⟨_, rfl, .ref rfl (by show 1 < 2; omega)⟩, ⟨_, rfl, .refl (nrl_szC _)⟩, ⟨_, rfl, .refl trivial⟩, ⟨_, rfl, .refl trivial⟩, trivial⟩ ⟨⟨⟨by show 0 < 2; omega, .inr ⟨0, 0, _, rfl, rfl, rfl, WkL.refl hnt⟩⟩, trivial⟩, ⟨⟨by show 1 < 2; omega, .inr ⟨1, 0, _, rfl, rfl, rfl, wkl_eq (by rw [subJ_zero]) (nrl_szC _)⟩⟩, trivial⟩, trivial⟩ rfl (base_nil _ _)
    rintro ⟨j, hj⟩
    simp only at hj ⊢
    repeat (first|refine z2 ?_|refine z1 ?_|refine z3 ?_|refine z4 ?_|refine z5 ?_)
    refine awp_cond rfl (fun h => ?_) (fun h => ?_)
    · have hjl : j < x.length := by have := of_decide_eq_true h; omega
      clear h
      have hjs : j < s.length := by omega
      have hc1 := hcr _ (List.getElem_mem hjs)
      have hz1 := hxb _ (List.getElem_mem hjl)
      have hset := subJ_set hjs hjl
      have hat := subJ_at (x := x) hjs
      have hc2 : Cr 4 ((x[j] : Int) : Rat) := Cr.int (by omega) (by omega)
      have hszx : ((szC (ratsL x)).drop ((j : Int).toNat * 2)).take 2 = rC ((x[j] : Int) : Rat) := by
        rw [szC_at (j := j) (by omega) (by omega)]
        simp [ratsL]
      have hszs : ((szC (subJ s x j)).drop (0 * 2 + (j : Int).toNat * 2)).take 2 = rC s[j] := by rw [szC_at (j := j) (by omega) (by rw [subJ_len]; omega), hat]
      obtain ⟨a, hae⟩ : ∃ a, a = s[j] := ⟨_, rfl⟩
      obtain ⟨z, hze⟩ : ∃ z, z = ((x[j] : Int) : Rat) := ⟨_, rfl⟩
      rw [← hae] at hc1 hset hszs
      rw [← hze] at hc2 hset hszx
      obtain ⟨y1, y2, _⟩ := hc1.cross hc2
      have hsub := rsub_ok a z (okN_ten y1 (by omega) (by unfold tcE; omega)) (okN_ten y2 (by omega) (by unfold tcE; omega))
      repeat (first|refine z2 ?_|refine z1 ?_|refine z3 ?_|refine z4 ?_|refine z5 ?_)
      refine al_pure hT rfl (pure_load_ag rfl rfl rfl hszx) rfl rfl (rC_drop_len (j := j) (by omega) (by omega)) ?_
      repeat (first|refine z2 ?_|refine z1 ?_|refine z3 ?_|refine z4 ?_|refine z5 ?_)
      refine awp_region_draw [] hmix (by kernel_rfl) ?_
      repeat (first|refine z2 ?_|refine z1 ?_|refine z3 ?_|refine z4 ?_|refine z5 ?_)
      refine al_pure hT rfl (pure_load_aa rfl rfl rfl rfl hszs) rfl rfl (by show (0 * 2 + (j : Int).toNat * 2) + 2 ≤ (szC _).length; rw [szC_len, subJ_len]; omega) ?_
      repeat (first|refine z2 ?_|refine z1 ?_|refine z3 ?_|refine z4 ?_|refine z5 ?_)
      refine al_call hsub rfl rfl rfl rfl (.cons (.refl (x := rS a) ⟨trivial, trivial, trivial⟩) (.cons (.refl (x := rS z) ⟨trivial, trivial, trivial⟩) .nil)) (.inl ⟨trivial, trivial, trivial⟩) rfl rfl ?_
      repeat (first|refine z2 ?_|refine z1 ?_|refine z3 ?_|refine z4 ?_|refine z5 ?_)
      refine al_store hT rfl rfl rfl rfl rfl rfl rfl rfl rfl (by show (0 * 2 + (j : Int).toNat * 2) + 2 ≤ (szC _).length; rw [szC_len, subJ_len]; omega) (rC_one _) ?_
      repeat (first|refine z2 ?_|refine z1 ?_|refine z3 ?_|refine z4 ?_|refine z5 ?_)
      refine ⟨⟨j + 1, hjl⟩, ?_, by show x.length - (j + 1) < x.length - j; omega⟩
      refine le_ren (fun g t => some (g, t)) ⟨⟨_, rfl, .adr rfl (by show 0 < 2; omega)⟩, ⟨_, rfl, .ref rfl (by show 1 < 2; omega)⟩, ⟨_, rfl, .refl (nrl_szC _)⟩, ⟨_, rfl, .refl trivial⟩, ⟨_, rfl, .refl trivial⟩, trivial⟩ ⟨⟨⟨by show 0 < 2; omega, .inr ⟨0, 0, _, rfl, rfl, rfl, WkL.refl hnt⟩⟩, trivial⟩, ⟨⟨by show 1 < 2; omega, .inr ⟨1, 0, _, rfl, rfl, rfl, wkl_eq ?_ (nrl_szC _)⟩⟩, trivial⟩, trivial⟩ rfl (base_nil _ _)
      show setAll (szC (subJ s x j)) (0 * 2 + (j : Int).toNat * 2) (rC (a - z)) = _
      rw [show 0 * 2 + (j : Int).toNat * 2 = j * 2 by omega, szC_set _ _ _ (by rw [subJ_len]; omega), hset]
    · have hjl : j = s.length := by have := of_decide_eq_false h; omega
      rw [hjl]
      have hss : szC (subJ s x s.length) = szC (subL s x) := rfl
      rw [hss]
      have hsl2 : p.length = (subL s x).length := by unfold subL; rw [subJ_len, hsl]
      repeat (first|refine z2 ?_|refine z1 ?_|refine z3 ?_|refine z4 ?_|refine z5 ?_)
      by_cases h2 : sizChk p (subL s x) = 0
      · rw [if_neg (fun e => e h2)] at hre ⊢
        refine al_callz (fun g => Nat.beq g 0) hre rfl rfl rfl rfl rfl (.cons (.refl (x := rowS p) hnp) (.cons (sub_szC rfl hsl2) .nil)) rfl rfl ?_
        repeat (first|refine z2 ?_|refine z1 ?_|refine z3 ?_|refine z4 ?_|refine z5 ?_)
        exact awp_ret ⟨.inl rfl, ret_tup rfl (.cons (.refl hnr) (.cons (.refl trivial) .nil))⟩
      · rw [if_pos h2] at hre ⊢
        refine al_callz (fun g => Nat.beq g 0) hre rfl rfl rfl rfl rfl (.cons (.refl (x := rowS p) hnp) (.cons (sub_szC rfl hsl2) .nil)) rfl rfl ?_
        repeat (first|refine z2 ?_|refine z1 ?_|refine z3 ?_|refine z4 ?_|refine z5 ?_)
        exact awp_ret ⟨.inl rfl, ret_tup rfl (.cons (.refl trivial) (.cons (.refl trivial) .nil))⟩
  · rw [if_pos h]
    have hte := tempered_bad K hx h
    repeat (first|refine z2 ?_|refine z1 ?_|refine z3 ?_|refine z4 ?_|refine z5 ?_)
    refine al_call hte rfl rfl rfl rfl (.cons (.refl (x := tunS p C Mp G) hnt) (.cons (.refl hnx) .nil)) (.inr ⟨⟨hnt, hnx, trivial⟩, rfl⟩) rfl rfl ?_
    repeat (first|refine z2 ?_|refine z1 ?_|refine z3 ?_|refine z4 ?_|refine z5 ?_)
    refine awp_cond rfl (fun _ => ?_) (fun h' => absurd (show (temErr k p x Mp G != 0) = false from h') (by simpa using h))
    repeat (first|refine z2 ?_|refine z1 ?_|refine z3 ?_|refine z4 ?_|refine z5 ?_)
    exact awp_ret ⟨.inl rfl, ret_tup rfl (.cons (.refl trivial) (.cons (.refl trivial) .nil))⟩
end Go.Proofs.YtlbhgejbfhhipaaGreatDoor

/- Walks: the world of the statements: fractions and sizes described by small numbers. -/
namespace Go.Proofs.YtlbhgejbfhhipaaGreatDoor
open Go Go.Am Go.Lib Go.Sp Z1 Z2 Z3 Z4 Z5 Z6
theorem lwhole_ok (n : Int) (hn : -9223372036854775808 ≤ n ∧ n ≤ 9223372036854775807) : OkP (laiOf Tryz.prog) Tryz.prog 36 [.v (.int .i64 n)] (rS (n : Rat)) := by
  refine okp_intro hT 11 Tryz.func36 rfl rfl rfl (Nat.le_of_ble_eq_true rfl) ⟨trivial, trivial, trivial⟩ ?_
  intro w0 F0 I
  have hof := rof_ok n 1 (by decide) hn (by omega)
  rw [rS_int] at hof
  repeat (first|refine z2 ?_|refine z1 ?_|refine z3 ?_|refine z4 ?_|refine z5 ?_)
  refine al_call hof rfl rfl rfl rfl (.cons (.refl trivial) (.cons (.refl trivial) .nil)) (.inl ⟨⟨trivial, trivial, trivial⟩, trivial, trivial⟩) rfl rfl ?_
  repeat (first|refine z2 ?_|refine z1 ?_|refine z3 ?_|refine z4 ?_|refine z5 ?_)
  exact awp_ret ⟨.inl rfl, ret_one rfl (.refl (x := rS (n : Rat)) ⟨trivial, trivial, trivial⟩)⟩
theorem lpart_ok (n : Int) (d : Nat) (h : d ≠ 0) (hn : -9223372036854775808 ≤ n ∧ n ≤ 9223372036854775807) (hd : d ≤ 9223372036854775807) : OkP (laiOf Tryz.prog) Tryz.prog 60 [.v (.int .i64 n), .v (.int .i64 d)] (rS (Rat.normalize n d h)) := by
  refine okp_intro hT 14 Tryz.func60 rfl rfl rfl (Nat.le_of_ble_eq_true rfl) ⟨trivial, trivial, trivial⟩ ?_
  intro w0 F0 I
  have hof := rof_ok n d h hn hd
  generalize Rat.normalize n d h = q at hof ⊢
  repeat (first|refine z2 ?_|refine z1 ?_|refine z3 ?_|refine z4 ?_|refine z5 ?_)
  refine al_call hof rfl rfl rfl rfl (.cons (.refl trivial) (.cons (.refl trivial) .nil)) (.inl ⟨⟨trivial, trivial, trivial⟩, trivial, trivial⟩) rfl rfl ?_
  repeat (first|refine z2 ?_|refine z1 ?_|refine z3 ?_|refine z4 ?_|refine z5 ?_)
  exact awp_ret ⟨.inl rfl, ret_one rfl (.refl (x := rS q) ⟨trivial, trivial, trivial⟩)⟩
theorem lpart13_ok (n : Int) (d : Nat) (h : d ≠ 0) (hn : -9223372036854775808 ≤ n ∧ n ≤ 9223372036854775807) (hd : d ≤ 9223372036854775807) : OkP (laiOf Tryz.prog) Tryz.prog 149 [.v (.int .i64 n), .v (.int .i64 d)] (rS (Rat.normalize n d h)) := by
  refine okp_intro hT 14 Tryz.func149 rfl rfl rfl (Nat.le_of_ble_eq_true rfl) ⟨trivial, trivial, trivial⟩ ?_
  intro w0 F0 I
  have hof := rof_ok n d h hn hd
  generalize Rat.normalize n d h = q at hof ⊢
  repeat (first|refine z2 ?_|refine z1 ?_|refine z3 ?_|refine z4 ?_|refine z5 ?_)
  refine al_call hof rfl rfl rfl rfl (.cons (.refl trivial) (.cons (.refl trivial) .nil)) (.inl ⟨⟨trivial, trivial, trivial⟩, trivial, trivial⟩) rfl rfl ?_
  repeat (first|refine z2 ?_|refine z1 ?_|refine z3 ?_|refine z4 ?_|refine z5 ?_)
  exact awp_ret ⟨.inl rfl, ret_one rfl (.refl (x := rS q) ⟨trivial, trivial, trivial⟩)⟩
def denL : List Nat := [1, 2, 3, 4, 6, 12]
def denP (d : Int) : Nat := denL.getD (Int.tmod d 6).toNat 1
theorem denP_pos (d : Int) : denP d ≠ 0 := by
  unfold denP denL
  match (Int.tmod d 6).toNat with
  | 0 => decide
  | 1 => decide
  | 2 => decide
  | 3 => decide
  | 4 => decide
  | 5 => decide
  | _ + 6 => simp
def fracP (x : Int × Int) : Rat := Rat.normalize (Int.tmod x.1 41) (denP x.2) (denP_pos x.2)
def okPart (x : Int × Int) : Prop := (-128 ≤ x.1 ∧ x.1 ≤ 127) ∧ 0 ≤ x.2 ∧ x.2 ≤ 255
def partC (x : Int × Int) : List AV := [.v (.int .i8 x.1), .v (.int .u8 x.2)]
theorem fraction_ok (x : Int × Int) (h : okPart x) : OkP (laiOf Tryz.prog) Tryz.prog 98 [.agg (partC x)] (rS (fracP x)) := by
  refine okp_intro hT 14 Tryz.func98 rfl rfl rfl (Nat.le_of_ble_eq_true rfl) ⟨trivial, trivial, trivial⟩ ?_
  intro w0 F0 I
  obtain ⟨n, d⟩ := x
  obtain ⟨⟨h1, h2⟩, h3, h4⟩ := h
  simp only at h1 h2 h3 h4
  have b1 := Int.tmod_lt_of_pos n (show (0 : Int) < 41 by decide)
  have b2 := Int.lt_tmod_of_pos n (show (0 : Int) < 41 by decide)
  have b3 := Int.tmod_lt_of_pos d (show (0 : Int) < 6 by decide)
  have b4 := Int.tmod_nonneg 6 h3
  have hden : denP d ≤ 12 := by
    unfold denP denL
    match (Int.tmod d 6).toNat with
    | 0 => decide
    | 1 => decide
    | 2 => decide
    | 3 => decide
    | 4 => decide
    | 5 => decide
    | _ + 6 => simp
  have hpa := lpart13_ok (Int.tmod n 41) (denP d) (denP_pos d) (by omega) (by omega)
  have hat : ([AV.v (.int .i64 1), .v (.int .i64 2), .v (.int .i64 3), .v (.int .i64 4), .v (.int .i64 6), .v (.int .i64 12)].drop ((Int.tmod d 6).toNat * 1))[0]? = some (AV.v (.int .i64 (denP d))) := by
    have h6 : (Int.tmod d 6).toNat < 6 := by omega
    unfold denP denL
    match (Int.tmod d 6).toNat, h6 with
    | 0, _ => rfl
    | 1, _ => rfl
    | 2, _ => rfl
    | 3, _ => rfl
    | 4, _ => rfl
    | 5, _ => rfl
  unfold fracP
  simp only
  generalize Rat.normalize (Int.tmod n 41) (denP d) (denP_pos d) = q at hpa ⊢
  repeat (first|refine z2 ?_|refine z1 ?_|refine z3 ?_|refine z4 ?_|refine z5 ?_)
  refine awp_region_draw [] hmix (by kernel_rfl) ?_
  repeat (first|refine z2 ?_|refine z1 ?_|refine z3 ?_|refine z4 ?_|refine z5 ?_)
  refine al_litF hT rfl rfl rfl rfl rfl rfl rfl rfl rfl ?_
  repeat (first|refine z2 ?_|refine z1 ?_|refine z3 ?_|refine z4 ?_|refine z5 ?_)
  refine al_pure hT rfl (pure_load_pt rfl rfl rfl hat) rfl rfl True.intro ?_
  refine al_call hpa rfl rfl rfl rfl (.cons (.refl trivial) (.cons (.refl trivial) .nil)) (.inl ⟨trivial, trivial, trivial⟩) rfl rfl ?_
  repeat (first|refine z2 ?_|refine z1 ?_|refine z3 ?_|refine z4 ?_|refine z5 ?_)
  exact awp_ret ⟨.inl rfl, ret_one rfl (.refl (x := rS q) ⟨trivial, trivial, trivial⟩)⟩
end Go.Proofs.YtlbhgejbfhhipaaGreatDoor

/- Walks: the world of the statements: sizes made. -/
namespace Go.Proofs.YtlbhgejbfhhipaaGreatDoor
open Go Go.Am Go.Lib Go.Sp Z1 Z2 Z3 Z4 Z5 Z6
def ptsC : List (Int × Int) → List AV
  | [] => []
  | x :: l => partC x ++ ptsC l
theorem ptsC_len : ∀ l : List (Int × Int), (ptsC l).length = l.length * 2
  | [] => rfl
  | _ :: l => by simp only [ptsC, partC, List.cons_append, List.nil_append, List.length_cons, ptsC_len l]; omega
theorem ptsC_drop : ∀ (l : List (Int × Int)) (j : Nat), (ptsC l).drop (j * 2) = ptsC (l.drop j)
  | l, 0 => rfl
  | [], j + 1 => by simp [ptsC]
  | q :: l, j + 1 => by rw [Nat.succ_mul, List.drop_succ_cons, ← ptsC_drop l j]; rfl
theorem ptsC_at {l : List (Int × Int)} {i j : Nat} (h : i = j * 2) (hj : j < l.length) : ((ptsC l).drop i).take 2 = partC l[j] := by
  subst h
  rw [ptsC_drop, List.drop_eq_getElem_cons hj]; rfl
theorem nrl_ptsC : ∀ l : List (Int × Int), nrl (ptsC l)
  | [] => trivial
  | _ :: l => ⟨trivial, trivial, nrl_ptsC l⟩
def okPts (l : List (Int × Int)) : Prop := l.length = 4 ∧ ∀ x ∈ l, okPart x
def sizeP (l : List (Int × Int)) (n : Nat) : List Rat := (List.range n).map fun i => fracP (l.getD (i % 4) (0, 0))
theorem sizeP_len (l : List (Int × Int)) (n : Nat) : (sizeP l n).length = n := by simp [sizeP]
theorem sizeP_succ (l : List (Int × Int)) (n : Nat) : szC (sizeP l n) ++ (rC (fracP (l.getD (n % 4) (0, 0))) ++ []) = szC (sizeP l (n + 1)) := by
  unfold sizeP
  rw [List.range_succ, List.map_append, szC_append]; rfl
theorem tmod4 (i : Nat) : (Int.tmod (i : Int) 4).toNat = i % 4 := by
  rw [Int.tmod_eq_emod_of_nonneg (by omega)]
  omega
set_option maxRecDepth 10000 in
theorem make13_ok (p : List Int) (l : List (Int × Int)) (hp : p.length ≤ 1000000) (h : okPts l) : OkP (laiOf Tryz.prog) Tryz.prog 54 [rowS p, .agg (ptsC l)] (szS (sizeP l p.length)) := by
  refine okp_intro hT 23 Tryz.func54 rfl rfl rfl (Nat.le_of_ble_eq_true rfl) (nr_szS _) ?_
  intro w0 F0 I
  obtain ⟨hl, hx⟩ := h
  unfold rowS
  obtain ⟨n, hn⟩ : ∃ n, n = p.length := ⟨_, rfl⟩
  rw [← hn] at hp ⊢
  repeat (first|refine z2 ?_|refine z1 ?_|refine z3 ?_|refine z4 ?_|refine z5 ?_)
  refine al_lit hT rfl rfl rfl rfl rfl rfl rfl rfl rfl rfl ?_
  repeat (first|refine z2 ?_|refine z1 ?_|refine z3 ?_|refine z4 ?_|refine z5 ?_)
  refine awp_loop (fun x : { x : Nat // x ≤ n } => ⟨[(0, .sl 1 n (i64s p)), (3, .adr 0 0 0), (5, .ref 1 0 2 0 x.1), (6, .v (.int .i64 x.1))], [(0, [⟨8, ptsC l⟩]), (1, [⟨2, szC (sizeP l x.1)⟩])], 2⟩) (fun x => n - x.1) ⟨0, Nat.zero_le _⟩ ?_ ?_
  · refine le_ren (fun g t => some (g, t)) ⟨⟨_, rfl, .refl (nrl_i64s p)⟩, ⟨_, rfl, .adr rfl (by show 0 < 2; omega)⟩, ⟨_, rfl, .ref rfl (by show 1 < 2; omega)⟩, ⟨_, rfl, .refl trivial⟩, trivial⟩ ⟨⟨⟨by show 0 < 2; omega, .inr ⟨0, 0, _, rfl, rfl, ?_, WkL.refl (nrl_ptsC l)⟩⟩, trivial⟩, ⟨⟨by show 1 < 2; omega, .inr ⟨1, 0, _, rfl, rfl, rfl, .nil⟩⟩, trivial⟩, trivial⟩ rfl (base_nil _ _)
    show (ptsC l).length = 8
    rw [ptsC_len, hl]
  rintro ⟨j, hj⟩
  simp only at hj ⊢
  repeat (first|refine z2 ?_|refine z1 ?_|refine z3 ?_|refine z4 ?_|refine z5 ?_)
  refine awp_cond rfl (fun h => ?_) (fun h => ?_)
  · have hjl : j < n := by have := of_decide_eq_true h; omega
    clear h
    have ht := tmod4 j
    have h4 : j % 4 < 4 := Nat.mod_lt _ (by omega)
    have b1 := Int.tmod_lt_of_pos (j : Int) (show (0 : Int) < 4 by decide)
    have b2 := Int.tmod_nonneg 4 (show (0 : Int) ≤ (j : Int) by omega)
    have hfr := fraction_ok (l[j % 4]'(by omega)) (hx _ (List.getElem_mem _))
    have hsc := sizeP_succ l j
    have hgd : l.getD (j % 4) (0, 0) = l[j % 4]'(by omega) := by rw [List.getD_eq_getElem?_getD, List.getElem?_eq_getElem (by omega), Option.getD_some]
    rw [hgd] at hsc
    have hat : ((ptsC l).drop (0 + (Int.tmod (j : Int) 4).toNat * 2)).take 2 = partC (l[j % 4]'(by omega)) := ptsC_at (by rw [ht]; omega) (by omega)
    generalize l[j % 4]'(by omega) = x at hfr hsc hat
    generalize fracP x = q at hfr hsc
    repeat (first|refine z2 ?_|refine z1 ?_|refine z3 ?_|refine z4 ?_|refine z5 ?_)
    refine al_pure hT rfl (pure_load_aa rfl rfl rfl rfl hat) rfl rfl (by show (0 + (Int.tmod (j : Int) 4).toNat * 2) + 2 ≤ (ptsC l).length; rw [ptsC_len, hl, ht]; omega) ?_
    refine al_call hfr rfl rfl rfl rfl (.cons (.refl (x := .agg (partC x)) ⟨trivial, trivial, trivial⟩) .nil) (.inl ⟨trivial, trivial, trivial⟩) rfl rfl ?_
    refine al_litF hT rfl rfl rfl rfl rfl rfl rfl rfl rfl ?_
    refine al_append hT rfl rfl rfl rfl rfl rfl rfl rfl rfl rfl rfl rfl rfl (by show (szC _).length = _ * 2; rw [szC_len, sizeP_len]) (fun g r h e => by cases e; cases h; rfl) (fun x hx => rC_one q x hx) (by show (_ + 1) * 32 ≤ _; omega) (by omega) ?_
    repeat (first|refine z2 ?_|refine z1 ?_|refine z3 ?_|refine z4 ?_|refine z5 ?_)
    refine ⟨⟨j + 1, hjl⟩, ?_, by show n - (j + 1) < n - j; omega⟩
    refine le_ren (fun g t => cond (Nat.beq g 1) (some (2, t)) (some (g, t))) ⟨⟨_, rfl, .refl (nrl_i64s p)⟩, ⟨_, rfl, .adr rfl (by show 0 < 2; omega)⟩, ⟨_, rfl, .ref rfl (by show 1 < 2; omega)⟩, ⟨_, rfl, .refl trivial⟩, trivial⟩ ⟨⟨⟨by show 0 < 2; omega, .inr ⟨0, 0, _, rfl, rfl, rfl, WkL.refl (nrl_ptsC l)⟩⟩, trivial⟩, ⟨⟨by show 1 < 2; omega, .inr ⟨2, 0, _, rfl, rfl, rfl, wkl_eq hsc (nrl_szC _)⟩⟩, trivial⟩, trivial⟩ rfl (base_nil _ _)
  · have hjl : j = n := by have := of_decide_eq_false h; omega
    rw [hjl]
    repeat (first|refine z2 ?_|refine z1 ?_|refine z3 ?_|refine z4 ?_|refine z5 ?_)
    exact awp_ret ⟨.inl rfl, ret_one rfl (sub_szC rfl (sizeP_len l n).symm)⟩
end Go.Proofs.YtlbhgejbfhhipaaGreatDoor

/- Walks: the world of the statements: primes, intervals, plans that fit. -/
namespace Go.Proofs.YtlbhgejbfhhipaaGreatDoor
open Go Go.Am Go.Lib Go.Sp Z1 Z2 Z3 Z4 Z5 Z6
def prT : List (List Int) := [[2, 3, 5], [2, 3, 5, 7], [2, 3], [2, 3, 7], [2, 5, 7], [3, 5, 7], [2, 3, 5, 11], [2], [2, 3, 7, 13], [3, 5, 7, 13]]
def prP (n : Int) : List Int := prT.getD (Int.tmod n 10).toNat []
theorem nr_prP (n : Int) : nr (rowS (prP n)) := nr_rowS _
set_option maxRecDepth 10000 in
theorem lprimes_ok {Λ : Lai} (n : Int) (h : 0 ≤ n ∧ n ≤ 255) : OkP Λ Tryz.prog 96 [.v (.int .u8 n)] (rowS (prP n)) := by
  refine okp_intro hT 23 Tryz.func96 rfl rfl rfl (Nat.le_of_ble_eq_true rfl) (nr_prP n) ?_
  intro w0 F0 I
  have b1 := Int.tmod_lt_of_pos n (show (0 : Int) < 10 by decide)
  have b2 := Int.tmod_nonneg 10 h.1
  have hat : ((prT.map rowS).drop ((Int.tmod n 10).toNat * 1))[0]? = some (rowS (prP n)) := by
    have h6 : (Int.tmod n 10).toNat < 10 := by omega
    unfold prP
    match (Int.tmod n 10).toNat, h6 with
    | 0, _ => rfl
    | 1, _ => rfl
    | 2, _ => rfl
    | 3, _ => rfl
    | 4, _ => rfl
    | 5, _ => rfl
    | 6, _ => rfl
    | 7, _ => rfl
    | 8, _ => rfl
    | 9, _ => rfl
  have hnr := nr_prP n
  generalize rowS (prP n) = R at hat hnr ⊢
  (repeat (first | refine awp_seq ?_ | refine awp_block ?_ | refine awp_skip ?_))
  refine awp_at ⟨[(0, .v (.int .u8 n))], [], 0⟩ ?_ ?_
  · repeat (first|refine z2 ?_|refine z1 ?_|refine z3 ?_|refine z4 ?_|refine z5 ?_)
    exact le_sub ⟨rfl, trivial⟩ rfl rfl
  (repeat (first | refine awp_seq ?_ | refine awp_block ?_ | refine awp_skip ?_))
  refine awp_at ⟨[(0, .v (.int .u8 n)), (3, .sl 1 10 (prT.map rowS))], [], 0⟩ ?_ ?_
  · refine awp_region ?_
    repeat (refine al_litF hT rfl rfl rfl rfl rfl rfl rfl rfl rfl ?_)
    repeat (first|refine z2 ?_|refine z1 ?_|refine z3 ?_|refine z4 ?_|refine z5 ?_)
    exact le_sub ⟨rfl, rfl, trivial⟩ rfl rfl
  repeat (first|refine z2 ?_|refine z1 ?_|refine z3 ?_|refine z4 ?_|refine z5 ?_)
  refine al_pure hT rfl (pure_load_pt rfl rfl rfl hat) rfl rfl True.intro ?_
  repeat (first|refine z2 ?_|refine z1 ?_|refine z3 ?_|refine z4 ?_|refine z5 ?_)
  exact awp_ret ⟨.inl rfl, ret_one rfl (.refl hnr)⟩
theorem sub_i64n {st : AS} {g n : Nat} {l : List Int} (h : st.row g 0 = some ⟨1, i64s l⟩) (hn : n = l.length) : Sub st (.ref g 0 1 0 n) (rowS l) := by
  subst hn; exact sub_i64 h
def rwC (r : List Int) : List AV := r.map fun n => .v (.int .i8 n)
def okRw (r : List Int) : Prop := r.length = 4 ∧ ∀ n ∈ r, -128 ≤ n ∧ n ≤ 127
def ivl (r : List Int) (n : Nat) : List Int := (List.range n).map fun i => Int.tmod (r.getD i 0) 10
theorem ivl_len (r : List Int) (n : Nat) : (ivl r n).length = n := by simp [ivl]
theorem ivl_succ (r : List Int) (n : Nat) : i64s (ivl r n) ++ ([AV.v (.int .i64 (Int.tmod (r.getD n 0) 10))] ++ []) = i64s (ivl r (n + 1)) := by
  unfold ivl i64s
  rw [List.range_succ, List.map_append, List.map_append]; rfl
theorem rwC_at {r : List Int} {i j : Nat} (h : i = j) (hj : j < r.length) : (rwC r)[i]? = some (.v (.int .i8 r[j])) := by
  subst h
  simp [rwC, hj]
theorem nrl_rwC (r : List Int) : nrl (rwC r) := nrl_v _ r
set_option maxRecDepth 10000 in
theorem interval_ok {Λ : Lai} (p r : List Int) (hp : p.length ≤ 4) (h : okRw r) : OkP Λ Tryz.prog 47 [rowS p, .agg (rwC r)] (rowS (ivl r p.length)) := by
  refine okp_intro hT 26 Tryz.func47 rfl rfl rfl (Nat.le_of_ble_eq_true rfl) (nr_rowS _) ?_
  intro w0 F0 I
  obtain ⟨hr, hx⟩ := h
  unfold rowS
  obtain ⟨n, hn⟩ : ∃ n, n = p.length := ⟨_, rfl⟩
  rw [← hn] at hp ⊢
  repeat (first|refine z2 ?_|refine z1 ?_|refine z3 ?_|refine z4 ?_|refine z5 ?_)
  refine awp_loop (fun x : { x : Nat // x ≤ n } => ⟨[(0, .sl 1 n (i64s p)), (3, .adr 0 0 0), (5, .ref 1 0 1 0 x.1), (6, .v (.int .i64 x.1))], [(0, [⟨4, rwC r⟩]), (1, [⟨1, i64s (ivl r x.1)⟩])], 2⟩) (fun x => n - x.1) ⟨0, Nat.zero_le _⟩ ?_ ?_
  · refine le_ren (fun g t => cond (Nat.beq g 1) none (some (g, t))) ⟨⟨_, rfl, .refl (nrl_i64s p)⟩, ⟨_, rfl, .adr rfl (by show 0 < 2; omega)⟩, ⟨_, rfl, .nilref 1 rfl (by show 1 < 2; omega)⟩, ⟨_, rfl, .refl trivial⟩, trivial⟩ ⟨⟨⟨by show 0 < 2; omega, .inr ⟨0, 0, _, rfl, rfl, ?_, WkL.refl (nrl_rwC r)⟩⟩, trivial⟩, ⟨⟨by show 1 < 2; omega, .inl ⟨rfl, rfl⟩⟩, trivial⟩, trivial⟩ rfl (base_nil _ _)
    show (rwC r).length = 4
    unfold rwC
    rw [List.length_map, hr]
  rintro ⟨j, hj⟩
  simp only at hj ⊢
  (repeat (first | refine awp_seq ?_ | refine awp_block ?_ | refine awp_skip ?_))
  refine awp_at ⟨[(0, .sl 1 n (i64s p)), (3, .adr 0 0 0), (5, .ref 1 0 1 0 j), (6, .v (.int .i64 j)), (14, .v (.bool (decide (j < n))))], [(0, [⟨4, rwC r⟩]), (1, [⟨1, i64s (ivl r j)⟩])], 2⟩ ?_ ?_
  · refine awp_region ?_
    by_cases hjn : j < n
    · have hdA : decide ((j : Int) < (n : Int)) = true := decide_eq_true (by omega)
      repeat (first|refine z2 ?_|refine z1 ?_|refine z3 ?_|refine z4 ?_|refine z5 ?_|refine z8 ?_|refine z9 ?_)
      refine le_sub ⟨rfl, rfl, rfl, rfl, ?_, trivial⟩ rfl rfl
      refine pick_tt _ _ _ hdA ?_
      rw [decide_eq_true hjn]
      exact decide_eq_true (by omega)
    · have hdA : decide ((j : Int) < (n : Int)) = false := decide_eq_false (by omega)
      repeat (first|refine z2 ?_|refine z1 ?_|refine z3 ?_|refine z4 ?_|refine z5 ?_|refine z8 ?_|refine z9 ?_)
      refine al_pick rfl rfl rfl (v := decide ((j : Int) < (n : Int))) (r := .v (.bool false)) (by rw [hdA]; rfl) rfl rfl ?_
      repeat (first|refine z2 ?_|refine z1 ?_|refine z3 ?_|refine z4 ?_|refine z5 ?_)
      refine le_sub ⟨rfl, rfl, rfl, rfl, ?_, trivial⟩ rfl rfl
      rw [decide_eq_false hjn]; rfl
  refine awp_cond rfl (fun h => ?_) (fun h => ?_)
  · have hjl : j < n := of_decide_eq_true h
    clear h
    have hb := hx _ (List.getElem_mem (show j < r.length by omega))
    have hiv := ivl_succ r j
    rw [getD_at (show j < r.length by omega)] at hiv
    have hat := rwC_at (r := r) (i := 0 + (j : Int).toNat * 1) (j := j) (by omega) (by omega)
    generalize r[j]'(by omega) = z at hb hiv hat
    have b1 := Int.tmod_lt_of_pos z (show (0 : Int) < 10 by decide)
    have b2 := Int.lt_tmod_of_pos z (show (0 : Int) < 10 by decide)
    repeat (first|refine z2 ?_|refine z1 ?_|refine z3 ?_|refine z4 ?_|refine z5 ?_)
    refine al_pure hT rfl (pure_load_adr rfl rfl rfl rfl hat) rfl rfl True.intro ?_
    repeat (first|refine z2 ?_|refine z1 ?_|refine z3 ?_|refine z4 ?_|refine z5 ?_)
    refine al_litF hT rfl rfl rfl rfl rfl rfl rfl rfl rfl ?_
    refine al_append hT rfl rfl rfl rfl rfl rfl rfl rfl rfl rfl rfl rfl rfl (by show (i64s _).length = _ * 1; rw [i64s_len, ivl_len, Nat.mul_one]) (fun g r h e => by cases e; cases h; rfl) (by intro x hx; simp only [List.append_nil, List.mem_singleton] at hx; subst hx; rfl) (by show (_ + 1) * 8 ≤ _; omega) (by omega) ?_
    repeat (first|refine z2 ?_|refine z1 ?_|refine z3 ?_|refine z4 ?_|refine z5 ?_)
    refine ⟨⟨j + 1, hjl⟩, ?_, by show n - (j + 1) < n - j; omega⟩
    refine le_ren (fun g t => cond (Nat.beq g 1) (some (2, t)) (some (g, t))) ⟨⟨_, rfl, .refl (nrl_i64s p)⟩, ⟨_, rfl, .adr rfl (by show 0 < 2; omega)⟩, ⟨_, rfl, .ref rfl (by show 1 < 2; omega)⟩, ⟨_, rfl, .refl trivial⟩, trivial⟩ ⟨⟨⟨by show 0 < 2; omega, .inr ⟨0, 0, _, rfl, rfl, rfl, WkL.refl (nrl_rwC r)⟩⟩, trivial⟩, ⟨⟨by show 1 < 2; omega, .inr ⟨2, 0, _, rfl, rfl, rfl, wkl_eq hiv (nrl_i64s _)⟩⟩, trivial⟩, trivial⟩ rfl (base_nil _ _)
  · have hjl : j = n := by have := of_decide_eq_false h; omega
    rw [hjl]
    have hil := ivl_len r n
    repeat (first|refine z2 ?_|refine z1 ?_|refine z3 ?_|refine z4 ?_|refine z5 ?_)
    exact awp_ret ⟨.inl rfl, ret_one rfl (sub_i64n rfl hil.symm)⟩
def rwsC (R : List (List Int)) : List AV := (R.map rwC).flatten
def plnC (pr : Int) (R : List (List Int)) (b : Bool) : List AV := [.v (.int .u8 pr), .sl 4 R.length (rwsC R), .v (.bool b)]
theorem nrl_rwsC : ∀ R : List (List Int), nrl (rwsC R)
  | [] => trivial
  | r :: R => by
    show nrl (rwC r ++ rwsC R)
    rw [nrl_iff]
    intro c hc
    rcases List.mem_append.1 hc with hc | hc
    · exact nrl_iff.1 (nrl_rwC r) c hc
    · exact nrl_iff.1 (nrl_rwsC R) c hc
theorem nrl_plnC (pr : Int) (R : List (List Int)) (b : Bool) : nrl (plnC pr R b) := ⟨trivial, nrl_rwsC R, trivial, trivial⟩
theorem fits18_ok {Λ : Lai} (pr : Int) (R : List (List Int)) (b : Bool) : OkP Λ Tryz.prog 52 [.agg (plnC pr R b)] (.v (.bool (decide ((R.length : Int) ≤ 3)))) := by
  refine okp_intro hT 7 Tryz.func52 rfl rfl rfl (Nat.le_of_ble_eq_true rfl) trivial ?_
  intro w0 F0 I
  unfold plnC
  repeat (first|refine z2 ?_|refine z1 ?_|refine z3 ?_|refine z4 ?_|refine z5 ?_)
  (exact awp_ret ⟨.inl rfl, ret_one rfl (.refl (by first | trivial | exact nrl_u64s _))⟩)
def gnsC (L : List (List (Int × Int))) : List AV := (L.map ptsC).flatten
def pln24 (pr : Int) (R : List (List Int)) (b : Bool) (L : List (List (Int × Int))) : List AV := plnC pr R b ++ gnsC L
theorem fits24_ok {Λ : Lai} (pr : Int) (R : List (List Int)) (b : Bool) (L : List (List (Int × Int))) : OkP Λ Tryz.prog 14 [.agg (pln24 pr R b L)] (.v (.bool (decide ((R.length : Int) ≤ 3)))) := by
  refine okp_intro hT 6 Tryz.func14 rfl rfl rfl (Nat.le_of_ble_eq_true rfl) trivial ?_
  intro w0 F0 I
  have hf := fits18_ok (Λ := Λ) pr R b
  have hnp := nrl_plnC pr R b
  repeat (first|refine z2 ?_|refine z1 ?_|refine z3 ?_|refine z4 ?_|refine z5 ?_)
  refine al_call hf rfl rfl rfl rfl (.cons (.refl (x := .agg (plnC pr R b)) hnp) .nil) (.inl trivial) rfl rfl ?_
  repeat (first|refine z2 ?_|refine z1 ?_|refine z3 ?_|refine z4 ?_|refine z5 ?_)
  (exact awp_ret ⟨.inl rfl, ret_one rfl (.refl (by first | trivial | exact nrl_u64s _))⟩)
end Go.Proofs.YtlbhgejbfhhipaaGreatDoor

/- Walks: the world of the statements: temperaments made of few small rows; they are right. -/
namespace Go.Proofs.YtlbhgejbfhhipaaGreatDoor
open Go Go.Am Go.Lib Go.Sp Z1 Z2 Z3 Z4 Z5 Z6
theorem fits_small9 {R : List (List Int)} (h : small9 R) : fitsM R = true := by
  refine List.all_eq_true.2 (fun r hr => List.all_eq_true.2 (fun z hz => decide_eq_true ?_))
  obtain ⟨j, hj, e⟩ := List.mem_iff_getElem.1 hz
  have := h r hr j
  rw [List.getD_eq_getElem?_getD, List.getElem?_eq_getElem hj, Option.getD_some, e] at this
  omega
/-- At most three rows of small numbers. -/
structure Tiny (n : Nat) (M : List (List Int)) : Prop where
  one : 1 ≤ n
  four : n ≤ 4
  rect : Rect n M
  three : M.length ≤ 3
  nine : ∀ r ∈ M, ∀ z ∈ r, z.natAbs ≤ 9
def comM (b : Bool) (n : Nat) (M : List (List Int)) : List (List Int) := cond b (kernM n (formM n M)) (kernM n (kernM n (formM n M)))
def mapM (b : Bool) (n : Nat) (M : List (List Int)) : List (List Int) := cond b (kernM n (kernM n (formM n M))) (kernM n (formM n M))
section
variable {n : Nat} {M : List (List Int)}
theorem Tiny.fits (h : Tiny n M) : fitsM M = true := List.all_eq_true.2 fun r hr => List.all_eq_true.2 fun z hz => decide_eq_true (by have := h.nine r hr z hz; omega)
theorem Tiny.fits1 (h : Tiny n M) : fitsM (formM n M) = true := fits_small9 (form_small h.rect h.three h.nine)
theorem Tiny.fits2 (h : Tiny n M) : fitsM (kernM n (formM n M)) = true := fits_small9 (kern_small h.one h.four h.rect h.three h.nine).1
theorem Tiny.fits3 (h : Tiny n M) : fitsM (kernM n (kernM n (formM n M))) = true := fits_small9 (kern_small h.one h.four h.rect h.three h.nine).2
theorem Tiny.few (h : Tiny n M) : Few n M := ⟨by have := h.four; omega, by have := h.three; omega, h.rect, fun r hr x hx => List.all_eq_true.1 (List.all_eq_true.1 h.fits r hr) x hx⟩
theorem Tiny.few1 (h : Tiny n M) : Few n (formM n M) := by
  obtain ⟨⟨P, hP⟩, hR, _⟩ := formM_ok h.rect
  have := hP.rows_le hR
  exact ⟨by have := h.four; omega, by have := h.four; omega, hR, fun r hr x hx => List.all_eq_true.1 (List.all_eq_true.1 h.fits1 r hr) x hx⟩
theorem Tiny.ok (h : Tiny n M) (b : Bool) {p : List Int} (hp : primeChk p = 0) (hs : small64L p) (hn : p.length = n) : TmpOK p (comM b n M) (mapM b n M) ∧ kernM n (comM b n M) = mapM b n M := by
  subst hn
  have e3 := kernM_three (n := p.length) (M := formM p.length M) h.few1.rect
  have e4 := kernM_three (n := p.length) (M := kernM p.length (formM p.length M)) (kern_rect _)
  have f2 := h.fits2
  have f3 := h.fits3
  have k2 := kern_few (n := p.length) (formM p.length M) h.four f2
  have k3 := kern_few (n := p.length) (kernM p.length (formM p.length M)) h.four f3
  cases b with
  | true => exact ⟨⟨hp, hs, h.four, kernM_ok.1, k2, f2, e3, f3, few_short k3⟩, rfl⟩
  | false =>
    refine ⟨⟨hp, hs, h.four, kernM_ok.1, k3, f3, e4, ?_, few_short k2⟩, e3⟩
    show fitsM (kernM p.length (kernM p.length (kernM p.length (formM p.length M)))) = true
    rw [e3]; exact f2
theorem Tiny.map (h : Tiny n M) (b : Bool) : Few n (mapM b n M) := by
  cases b with
  | true => exact kern_few _ h.four h.fits3
  | false => exact kern_few _ h.four h.fits2
theorem Tiny.map_len (h : Tiny n M) (b : Bool) : (mapM b n M).length ≤ 4 := by
  have f := h.four
  cases b with
  | true => have := kern_len (n := n) (kernM n (formM n M)); show (kernM n (kernM n (formM n M))).length ≤ 4; omega
  | false => have := kern_len (n := n) (formM n M); show (kernM n (formM n M)).length ≤ 4; omega
end
set_option maxRecDepth 10000 in
theorem build_ok {p : List Int} {M : List (List Int)} (b : Bool) (hp : primeChk p = 0) (hs : small64L p) (h : Tiny p.length M) : OkP (laiOf Tryz.prog) Tryz.prog 97 [rowS p, matS M, .v (.bool b)] (.tup [tmpS p (comM b p.length M) (mapM b p.length M), .v (.int .i64 0)]) := by
  have h4 := h.four
  have h3 := h.three
  have hc := primechk_ok (Λ := laiOf Tryz.prog) p hs (by omega)
  rw [hp] at hc
  have hlo := lof_ok M h.few.chk h.rect h.fits h4 (by omega)
  obtain ⟨⟨P, hP⟩, _, _⟩ := formM_ok h.rect
  have hsa := sat_ok h.few1 hP h4 h.fits1
  have han := ann_ok h.few1 hP h4 h.fits1
  unfold lshR at hlo hsa han
  rw [if_pos h.fits1] at hlo
  rw [if_pos h.fits3] at hsa
  rw [if_pos h.fits2] at han
  have hnp := nr_rowS p
  have hnM := nr_matS M
  have hn1 := nr_latS p.length (formM p.length M)
  have hn2 := nr_latS p.length (kernM p.length (formM p.length M))
  have hn3 := nr_latS p.length (kernM p.length (kernM p.length (formM p.length M)))
  unfold comM mapM
  generalize kernM p.length (kernM p.length (formM p.length M)) = K2 at hsa hn3 ⊢
  generalize kernM p.length (formM p.length M) = K1 at han hn2 ⊢
  generalize formM p.length M = F at hlo hsa han hn1
  refine okp_intro hT 57 Tryz.func97 rfl rfl rfl (Nat.le_of_ble_eq_true rfl) (by cases b <;> exact ⟨nr_tmpS p _ _, trivial, trivial⟩) ?_
  intro w0 F0 I
  repeat (first|refine z2 ?_|refine z1 ?_|refine z3 ?_|refine z4 ?_|refine z5 ?_)
  refine zc hc ?_ (hs := by exact .cons (.refl (x := rowS p) hnp) .nil)
  repeat (first|refine z2 ?_|refine z1 ?_|refine z3 ?_|refine z4 ?_|refine z5 ?_)
  refine awp_cond rfl (fun h => absurd h (by decide)) (fun _ => ?_)
  repeat (first|refine z2 ?_|refine z1 ?_|refine z3 ?_|refine z4 ?_|refine z5 ?_)
  refine zs hlo ?_ (hs := by exact .cons (.refl trivial) (.cons (.refl hnM) .nil)) (hr := by exact ⟨⟨trivial, hnM, trivial⟩, rfl⟩)
  repeat (first|refine z2 ?_|refine z1 ?_|refine z3 ?_|refine z4 ?_|refine z5 ?_)
  refine awp_cond rfl (fun h => absurd h (by decide)) (fun _ => ?_)
  repeat (first|refine z2 ?_|refine z1 ?_|refine z3 ?_|refine z4 ?_|refine z5 ?_)
  refine zs hsa ?_ (hs := by exact .cons (.refl (x := latS p.length F) hn1) .nil) (hr := by exact ⟨⟨hn1, trivial⟩, rfl⟩)
  repeat (first|refine z2 ?_|refine z1 ?_|refine z3 ?_|refine z4 ?_|refine z5 ?_)
  refine zs han ?_ (hs := by exact .cons (.refl (x := latS p.length F) hn1) .nil) (hr := by exact ⟨⟨hn1, trivial⟩, rfl⟩)
  repeat (first|refine z2 ?_|refine z1 ?_|refine z3 ?_|refine z4 ?_|refine z5 ?_|refine z6 ?_|refine z7 ?_)
  refine awp_cond rfl (fun h => absurd h (by decide)) (fun _ => ?_)
  repeat (first|refine z2 ?_|refine z1 ?_|refine z3 ?_|refine z4 ?_|refine z5 ?_)
  refine awp_cond rfl (fun e => ?_) (fun e => ?_)
  · subst e
    repeat (first|refine z2 ?_|refine z1 ?_|refine z3 ?_|refine z4 ?_|refine z5 ?_)
    exact awp_ret ⟨.inl rfl, ret_tup rfl (.cons (.refl (nr_tmpS p K1 K2)) (.cons (.refl trivial) .nil))⟩
  · subst e
    repeat (first|refine z2 ?_|refine z1 ?_|refine z3 ?_|refine z4 ?_|refine z5 ?_)
    exact awp_ret ⟨.inl rfl, ret_tup rfl (.cons (.refl (nr_tmpS p K2 K1)) (.cons (.refl trivial) .nil))⟩
end Go.Proofs.YtlbhgejbfhhipaaGreatDoor

/- Walks: the world of the statements: the temperament of a plan. -/
namespace Go.Proofs.YtlbhgejbfhhipaaGreatDoor
open Go Go.Am Go.Lib Go.Sp Z1 Z2 Z3 Z4 Z5 Z6
theorem prP_ok (n : Int) (h : 0 ≤ n) : primeChk (prP n) = 0 ∧ small64L (prP n) ∧ 1 ≤ (prP n).length ∧ (prP n).length ≤ 4 := by
  have b1 := Int.tmod_lt_of_pos n (show (0 : Int) < 10 by decide)
  have b2 := Int.tmod_nonneg 10 h
  have h6 : (Int.tmod n 10).toNat < 10 := by omega
  unfold prP
  have key : ∀ k, k < 10 → primeChk (prT.getD k []) = 0 ∧ (∀ x ∈ prT.getD k [], -9223372036854775808 ≤ x ∧ x ≤ 9223372036854775807) ∧ 1 ≤ (prT.getD k []).length ∧ (prT.getD k []).length ≤ 4 := by decide
  exact key _ h6
def okRws (R : List (List Int)) : Prop := R.length ≤ 3 ∧ ∀ r ∈ R, okRw r
def plM (n : Nat) (R : List (List Int)) : List (List Int) := R.map fun r => ivl r n
theorem plM_len (n : Nat) (R : List (List Int)) : (plM n R).length = R.length := List.length_map _
theorem plM_tiny {n : Nat} {R : List (List Int)} (h1 : 1 ≤ n) (h4 : n ≤ 4) (h : okRws R) : Tiny n (plM n R) := by
  refine ⟨h1, h4, fun r hr => ?_, by rw [plM_len]; exact h.1, fun r hr z hz => ?_⟩
  · obtain ⟨s, _, rfl⟩ := List.mem_map.1 hr
    exact ivl_len s n
  · obtain ⟨s, _, rfl⟩ := List.mem_map.1 hr
    obtain ⟨i, _, rfl⟩ := List.mem_map.1 hz
    have b1 := Int.tmod_lt_of_pos (s.getD i 0) (show (0 : Int) < 10 by decide)
    have b2 := Int.lt_tmod_of_pos (s.getD i 0) (show (0 : Int) < 10 by decide)
    omega
theorem rwsC_len : ∀ {R : List (List Int)}, (∀ r ∈ R, okRw r) → (rwsC R).length = R.length * 4
  | [], _ => rfl
  | r :: R, h => by
    have ih := rwsC_len (R := R) (fun s hs => h s (by simp [hs]))
    have h0 := (h r (by simp)).1
    show (rwC r ++ rwsC R).length = (R.length + 1) * 4
    rw [List.length_append, ih]
    unfold rwC
    rw [List.length_map, h0]; omega
theorem rwsC_at : ∀ {R : List (List Int)} {i j : Nat}, (∀ r ∈ R, okRw r) → i = j * 4 → (hj : j < R.length) → ((rwsC R).drop i).take 4 = rwC R[j]
  | r :: R, i, 0, h, hi, _ => by
    have h0 := (h r (by simp)).1
    rw [hi]
    show (rwC r ++ rwsC R).take 4 = rwC r
    have hl : (rwC r).length = 4 := by unfold rwC; rw [List.length_map, h0]
    rw [← hl, List.take_left']
    rfl
  | r :: R, i, j + 1, h, hi, hj => by
    have h0 := (h r (by simp)).1
    have ih := rwsC_at (R := R) (i := j * 4) (j := j) (fun s hs => h s (by simp [hs])) rfl (by simpa using hj)
    have hl : (rwC r).length = 4 := by unfold rwC; rw [List.length_map, h0]
    show ((rwC r ++ rwsC R).drop i).take 4 = _
    rw [hi, show (j + 1) * 4 = (rwC r).length + j * 4 by omega, List.drop_append, List.drop_eq_nil_of_le (by omega)]
    simpa using ih
theorem plM_snoc {n : Nat} {R : List (List Int)} {j : Nat} (h : j < R.length) : rowsC ((plM n R).take j) ++ ([rowS (ivl R[j] n)] ++ []) = rowsC ((plM n R).take (j + 1)) := by
  have := rowsC_snoc (M := plM n R) (j := j) (by rw [plM_len]; exact h)
  rw [← this]
  simp [plM]
theorem sub_matSn {st : AS} {g n : Nat} {M : List (List Int)} (h : st.row g 0 = some ⟨1, rowsC M⟩) (hn : n = M.length) : Sub st (.ref g 0 1 0 n) (matS M) := by
  subst hn; exact sub_matS h
set_option maxRecDepth 10000 in
theorem make18_ok (pr : Int) (R : List (List Int)) (b : Bool) (hpr : 0 ≤ pr ∧ pr ≤ 255) (h : okRws R) : OkP (laiOf Tryz.prog) Tryz.prog 53 [.agg (plnC pr R b)] (tmpS (prP pr) (comM b (prP pr).length (plM (prP pr).length R)) (mapM b (prP pr).length (plM (prP pr).length R))) := by
  obtain ⟨p0, p1, p2, p3⟩ := prP_ok pr hpr.1
  have hpm := lprimes_ok (Λ := laiOf Tryz.prog) pr hpr
  have hbu := build_ok b p0 p1 (plM_tiny p2 p3 h)
  have hml := plM_len (prP pr).length R
  have hiv : ∀ j (hj : j < R.length), OkP (laiOf Tryz.prog) Tryz.prog 47 [rowS (prP pr), .agg (rwC R[j])] (rowS (ivl R[j] (prP pr).length)) := fun j hj => interval_ok _ _ p3 (h.2 _ (List.getElem_mem hj))
  have hsn : ∀ j (hj : j < R.length), rowsC ((plM (prP pr).length R).take j) ++ ([rowS (ivl R[j] (prP pr).length)] ++ []) = rowsC ((plM (prP pr).length R).take (j + 1)) := fun j hj => plM_snoc hj
  have hnt := nr_tmpS (prP pr) (comM b (prP pr).length (plM (prP pr).length R)) (mapM b (prP pr).length (plM (prP pr).length R))
  have hnp := nr_rowS (prP pr)
  generalize comM b (prP pr).length (plM (prP pr).length R) = C at hbu hnt ⊢
  generalize mapM b (prP pr).length (plM (prP pr).length R) = Mp at hbu hnt ⊢
  generalize hn : (prP pr).length = n at hbu hml hiv hsn
  generalize hM : plM n R = M at hbu hml hsn
  generalize prP pr = p at hpm hbu hiv hnt hnp ⊢
  refine okp_intro hT 41 Tryz.func53 rfl rfl rfl (Nat.le_of_ble_eq_true rfl) hnt ?_
  intro w0 F0 I
  have hrl := h.1
  have hro := h.2
  obtain ⟨m, hm⟩ : ∃ m, m = R.length := ⟨_, rfl⟩
  unfold plnC
  rw [← hm] at hml hrl ⊢
  repeat (first|refine z2 ?_|refine z1 ?_|refine z3 ?_|refine z4 ?_|refine z5 ?_)
  refine zs hpm ?_ (hs := by exact .cons (.refl trivial) .nil) (hr := by exact ⟨⟨trivial, trivial⟩, rfl⟩)
  repeat (first|refine z2 ?_|refine z1 ?_|refine z3 ?_|refine z4 ?_|refine z5 ?_)
  refine awp_loop (fun x : { x : Nat // x ≤ m } => ⟨[(1, .adr 0 0 0), (2, .adr 1 0 0), (3, rowS p), (4, .ref 2 0 1 0 x.1), (5, .v (.int .i64 x.1))], [(0, [⟨3, [.v (.int .u8 pr), .sl 4 m (rwsC R), .v (.bool b)]⟩]), (1, [⟨3, [.v (.slice none 0 0), .v (.slice none 0 0), .v (.slice none 0 0)]⟩]), (2, [⟨1, rowsC (M.take x.1)⟩])], 3⟩) (fun x => m - x.1) ⟨0, Nat.zero_le _⟩ ?_ ?_
  · refine le_ren (fun g t => cond (Nat.beq g 2) none (some (g, t))) ⟨⟨_, rfl, .adr rfl (by show 0 < 3; omega)⟩, ⟨_, rfl, .adr rfl (by show 1 < 3; omega)⟩, ⟨_, rfl, .refl hnp⟩, ⟨_, rfl, .nilref 1 rfl (by show 2 < 3; omega)⟩, ⟨_, rfl, .refl trivial⟩, trivial⟩ ⟨⟨⟨by show 0 < 3; omega, .inr ⟨0, 0, _, rfl, rfl, rfl, WkL.refl ⟨trivial, nrl_rwsC R, trivial, trivial⟩⟩⟩, trivial⟩, ⟨⟨by show 1 < 3; omega, .inr ⟨1, 0, _, rfl, rfl, rfl, WkL.refl ⟨trivial, trivial, trivial, trivial⟩⟩⟩, trivial⟩, ⟨⟨by show 2 < 3; omega, .inl ⟨rfl, rfl⟩⟩, trivial⟩, trivial⟩ rfl (base_nil _ _)
  rintro ⟨j, hj⟩
  simp only at hj ⊢
  (repeat (first | refine awp_seq ?_ | refine awp_block ?_ | refine awp_skip ?_))
  refine awp_at ⟨[(1, .adr 0 0 0), (2, .adr 1 0 0), (3, rowS p), (4, .ref 2 0 1 0 j), (5, .v (.int .i64 j)), (19, .v (.bool (decide (j < m))))], [(0, [⟨3, [.v (.int .u8 pr), .sl 4 m (rwsC R), .v (.bool b)]⟩]), (1, [⟨3, [.v (.slice none 0 0), .v (.slice none 0 0), .v (.slice none 0 0)]⟩]), (2, [⟨1, rowsC (M.take j)⟩])], 3⟩ ?_ ?_
  · refine awp_region ?_
    by_cases hjn : j < m
    · have hdA : decide ((j : Int) < (m : Int)) = true := decide_eq_true (by omega)
      repeat (first|refine z2 ?_|refine z1 ?_|refine z3 ?_|refine z4 ?_|refine z5 ?_|refine z8 ?_|refine z9 ?_)
      refine le_sub ⟨rfl, rfl, rfl, rfl, rfl, ?_, trivial⟩ rfl rfl
      refine pick_tt _ _ _ hdA ?_
      rw [decide_eq_true hjn]
      exact decide_eq_true (by omega)
    · have hdA : decide ((j : Int) < (m : Int)) = false := decide_eq_false (by omega)
      repeat (first|refine z2 ?_|refine z1 ?_|refine z3 ?_|refine z4 ?_|refine z5 ?_|refine z8 ?_|refine z9 ?_)
      refine al_pick rfl rfl rfl (v := decide ((j : Int) < (m : Int))) (r := .v (.bool false)) (by rw [hdA]; rfl) rfl rfl ?_
      repeat (first|refine z2 ?_|refine z1 ?_|refine z3 ?_|refine z4 ?_|refine z5 ?_)
      refine le_sub ⟨rfl, rfl, rfl, rfl, rfl, ?_, trivial⟩ rfl rfl
      rw [decide_eq_false hjn]; rfl
  refine awp_cond rfl (fun e => ?_) (fun e => ?_)
  · have hjl : j < m := of_decide_eq_true e
    clear e
    have hf := hiv j (by omega)
    have hs := hsn j (by omega)
    have hat := rwsC_at (R := R) (i := (j : Int).toNat * 4) (j := j) hro (by omega) (by omega)
    have hrn := nrl_rwC (R[j]'(by omega))
    have hrw := rwsC_len hro
    generalize R[j]'(by omega) = r at hf hs hat hrn
    repeat (first|refine z2 ?_|refine z1 ?_|refine z3 ?_|refine z4 ?_|refine z5 ?_)
    refine al_pure hT rfl (pure_load_ag rfl rfl rfl hat) rfl rfl (by show 4 ≤ ((rwsC R).drop ((j : Int).toNat * 4)).length; rw [List.length_drop, hrw]; omega) ?_
    refine zs hf ?_ (hs := by exact .cons (.refl (x := rowS p) hnp) (.cons (.refl (x := .agg (rwC r)) hrn) .nil)) (hr := by exact ⟨⟨hnp, hrn, trivial⟩, rfl⟩)
    refine al_litF hT rfl rfl rfl rfl rfl rfl rfl rfl rfl ?_
    refine al_append hT rfl rfl rfl rfl rfl rfl rfl rfl rfl rfl rfl rfl rfl (by show (rowsC _).length = _ * 1; rw [rowsC_len, List.length_take, hml]; omega) (fun g r h e => by cases e; cases h; rfl) (by intro x hx; simp only [List.append_nil, List.mem_singleton] at hx; subst hx; rfl) (by show (_ + 1) * 24 ≤ _; omega) (by omega) ?_
    repeat (first|refine z2 ?_|refine z1 ?_|refine z3 ?_|refine z4 ?_|refine z5 ?_)
    refine ⟨⟨j + 1, hjl⟩, ?_, by show m - (j + 1) < m - j; omega⟩
    refine le_ren (fun g t => cond (Nat.beq g 2) (some (3, t)) (some (g, t))) ⟨⟨_, rfl, .adr rfl (by show 0 < 3; omega)⟩, ⟨_, rfl, .adr rfl (by show 1 < 3; omega)⟩, ⟨_, rfl, .refl hnp⟩, ⟨_, rfl, .ref rfl (by show 2 < 3; omega)⟩, ⟨_, rfl, .refl trivial⟩, trivial⟩ ⟨⟨⟨by show 0 < 3; omega, .inr ⟨0, 0, _, rfl, rfl, rfl, WkL.refl ⟨trivial, nrl_rwsC R, trivial, trivial⟩⟩⟩, trivial⟩, ⟨⟨by show 1 < 3; omega, .inr ⟨1, 0, _, rfl, rfl, rfl, WkL.refl ⟨trivial, trivial, trivial, trivial⟩⟩⟩, trivial⟩, ⟨⟨by show 2 < 3; omega, .inr ⟨3, 0, _, rfl, rfl, rfl, wkl_eq hs (nrl_rowsC _)⟩⟩, trivial⟩, trivial⟩ rfl (base_nil _ _)
  · have hjl : j = m := by have := of_decide_eq_false e; omega
    rw [hjl, List.take_of_length_le (by omega)]
    repeat (first|refine z2 ?_|refine z1 ?_|refine z3 ?_|refine z4 ?_|refine z5 ?_)
    refine al_callz (fun g => Nat.beq g 0 || Nat.beq g 1) hbu rfl rfl rfl rfl rfl (.cons (.refl (x := rowS p) hnp) (.cons (sub_matSn rfl hml.symm) (.cons (.refl trivial) .nil))) rfl rfl ?_
    repeat (first|refine z2 ?_|refine z1 ?_|refine z3 ?_|refine z4 ?_|refine z5 ?_)
    exact awp_ret ⟨.inl rfl, ret_one rfl (.refl hnt)⟩
end Go.Proofs.YtlbhgejbfhhipaaGreatDoor

/- Walks: the world of the statements: the tuning of a plan. -/
namespace Go.Proofs.YtlbhgejbfhhipaaGreatDoor
open Go Go.Am Go.Lib Go.Sp Z1 Z2 Z3 Z4 Z5 Z6
theorem genC_len (G : List (List Rat)) : (G.map szS).length = G.length := List.length_map _
theorem sub_genS {st : AS} {g n : Nat} {G : List (List Rat)} (h : st.row g 0 = some ⟨1, G.map szS⟩) (hn : n = G.length) : Sub st (.ref g 0 1 0 n) (genS G) := by
  subst hn
  exact .own h rfl (by show (0 + G.length) * 1 ≤ (G.map szS).length; rw [genC_len]; omega) (by
    show SubL st (((G.map szS).drop (0 * 1)).take (G.length * 1)) (G.map szS)
    rw [Nat.zero_mul, List.drop_zero, Nat.mul_one, List.take_of_length_le (by rw [genC_len]; exact Nat.le_refl _)]
    exact SubL.refl (nrl_genS G))
theorem gen_snoc {G : List (List Rat)} {j : Nat} (h : j < G.length) : (G.take j).map szS ++ ([szS G[j]] ++ []) = (G.take (j + 1)).map szS := by
  rw [List.take_add_one, List.getElem?_eq_getElem h, List.map_append]; rfl
def gensP (n m : Nat) (L : List (List (Int × Int))) : List (List Rat) := (List.range m).map fun i => sizeP (L.getD (i % 4) []) n
theorem gensP_len (n m : Nat) (L : List (List (Int × Int))) : (gensP n m L).length = m := by simp [gensP]
def okGns (L : List (List (Int × Int))) : Prop := L.length = 4 ∧ ∀ l ∈ L, okPts l
theorem gnsC_len : ∀ {L : List (List (Int × Int))}, (∀ l ∈ L, okPts l) → (gnsC L).length = L.length * 8
  | [], _ => rfl
  | l :: L, h => by
    have ih := gnsC_len (L := L) (fun s hs => h s (by simp [hs]))
    have h0 := (h l (by simp)).1
    show (ptsC l ++ gnsC L).length = (L.length + 1) * 8
    rw [List.length_append, ih, ptsC_len, h0]; omega
theorem gnsC_at : ∀ {L : List (List (Int × Int))} {i j : Nat}, (∀ l ∈ L, okPts l) → i = j * 8 → (hj : j < L.length) → ((gnsC L).drop i).take 8 = ptsC L[j]
  | l :: L, i, 0, h, hi, _ => by
    have h0 := (h l (by simp)).1
    rw [hi]
    show (ptsC l ++ gnsC L).take 8 = ptsC l
    have hl : (ptsC l).length = 8 := by rw [ptsC_len, h0]
    rw [← hl, List.take_left']
    rfl
  | l :: L, i, j + 1, h, hi, hj => by
    have h0 := (h l (by simp)).1
    have ih := gnsC_at (L := L) (i := j * 8) (j := j) (fun s hs => h s (by simp [hs])) rfl (by simpa using hj)
    have hl : (ptsC l).length = 8 := by rw [ptsC_len, h0]
    show ((ptsC l ++ gnsC L).drop i).take 8 = _
    rw [hi, show (j + 1) * 8 = (ptsC l).length + j * 8 by omega, List.drop_append, List.drop_eq_nil_of_le (by omega)]
    simpa using ih
theorem pln24_len {pr : Int} {R : List (List Int)} {b : Bool} {L : List (List (Int × Int))} (h : okGns L) : (pln24 pr R b L).length = 35 := by
  show (plnC pr R b ++ gnsC L).length = 35
  rw [List.length_append, gnsC_len h.2, h.1]; rfl
theorem nrl_gnsC : ∀ L : List (List (Int × Int)), nrl (gnsC L)
  | [] => trivial
  | l :: L => by
    show nrl (ptsC l ++ gnsC L)
    rw [nrl_iff]
    intro c hc
    rcases List.mem_append.1 hc with hc | hc
    · exact nrl_iff.1 (nrl_ptsC l) c hc
    · exact nrl_iff.1 (nrl_gnsC L) c hc
theorem nrl_pln24 (pr : Int) (R : List (List Int)) (b : Bool) (L : List (List (Int × Int))) : nrl (pln24 pr R b L) := ⟨trivial, nrl_rwsC R, trivial, nrl_gnsC L⟩
set_option maxRecDepth 10000 in
theorem make24_ok (pr : Int) (R : List (List Int)) (b : Bool) (L : List (List (Int × Int))) (hpr : 0 ≤ pr ∧ pr ≤ 255) (h : okRws R) (hL : okGns L) :
    OkP (laiOf Tryz.prog) Tryz.prog 15 [.agg (pln24 pr R b L)] (tunS (prP pr) (comM b (prP pr).length (plM (prP pr).length R)) (mapM b (prP pr).length (plM (prP pr).length R)) (gensP (prP pr).length (mapM b (prP pr).length (plM (prP pr).length R)).length L)) := by
  obtain ⟨p0, p1, p2, p3⟩ := prP_ok pr hpr.1
  have hmk := make18_ok pr R b hpr h
  have hmp := (plM_tiny p2 p3 h).map_len b
  have hsz : ∀ l ∈ L, OkP (laiOf Tryz.prog) Tryz.prog 54 [rowS (prP pr), .agg (ptsC l)] (szS (sizeP l (prP pr).length)) := fun l hl => make13_ok _ l (by omega) (hL.2 l hl)
  generalize comM b (prP pr).length (plM (prP pr).length R) = C at hmk ⊢
  generalize mapM b (prP pr).length (plM (prP pr).length R) = Mp at hmk hmp ⊢
  have hgl := gensP_len (prP pr).length Mp.length L
  have hge : ∀ j (hj : j < Mp.length), (gensP (prP pr).length Mp.length L)[j]'(by rw [hgl]; exact hj) = sizeP (L.getD (j % 4) []) (prP pr).length := fun j hj => by simp [gensP]
  generalize gensP (prP pr).length Mp.length L = G at hgl hge ⊢
  generalize prP pr = p at hmk hsz hge ⊢
  have hnt := nr_tunS p C Mp G
  have hnp := nr_rowS p
  have hnC := nr_matS C
  have hnM := nr_matS Mp
  have hnq := nrl_pln24 pr R b L
  have hlq := pln24_len (pr := pr) (R := R) (b := b) hL
  have hnc := nrl_plnC pr R b
  have hLl := hL.1
  refine okp_intro hT 32 Tryz.func15 rfl rfl rfl (Nat.le_of_ble_eq_true rfl) hnt ?_
  intro w0 F0 I
  obtain ⟨m, hm⟩ : ∃ m, m = Mp.length := ⟨_, rfl⟩
  repeat (first|refine z2 ?_|refine z1 ?_|refine z3 ?_|refine z4 ?_|refine z5 ?_)
  refine zs hmk ?_ (hs := by exact .cons (.refl (x := .agg (plnC pr R b)) hnc) .nil) (hr := by exact ⟨⟨hnc, trivial⟩, rfl⟩)
  repeat (first|refine z2 ?_|refine z1 ?_|refine z3 ?_|refine z4 ?_|refine z5 ?_)
  refine awp_loop (fun x : { x : Nat // x ≤ m } => ⟨[(1, .adr 0 0 0), (2, .adr 1 0 0), (3, .adr 2 0 0), (4, .adr 3 0 0), (5, .v (.int .i64 x.1))], [(0, [⟨35, pln24 pr R b L⟩]), (1, [⟨4, [.v (.slice none 0 0), .v (.slice none 0 0), .v (.slice none 0 0), .v (.slice none 0 0)]⟩]), (2, [⟨3, [rowS p, matS C, matS Mp]⟩]), (3, [⟨4, [rowS p, matS C, matS Mp, .ref 4 0 1 0 x.1]⟩]), (4, [⟨1, (G.take x.1).map szS⟩])], 5⟩) (fun x => m - x.1) ⟨0, Nat.zero_le _⟩ ?_ ?_
  · refine le_ren (fun g t => cond (Nat.beq g 4) none (some (g, t))) ⟨⟨_, rfl, .adr rfl (by show 0 < 5; omega)⟩, ⟨_, rfl, .adr rfl (by show 1 < 5; omega)⟩, ⟨_, rfl, .adr rfl (by show 2 < 5; omega)⟩, ⟨_, rfl, .adr rfl (by show 3 < 5; omega)⟩, ⟨_, rfl, .refl trivial⟩, trivial⟩
      ⟨⟨⟨by show 0 < 5; omega, .inr ⟨0, 0, _, rfl, rfl, hlq, WkL.refl hnq⟩⟩, trivial⟩, ⟨⟨by show 1 < 5; omega, .inr ⟨1, 0, _, rfl, rfl, rfl, WkL.refl ⟨trivial, trivial, trivial, trivial, trivial⟩⟩⟩, trivial⟩, ⟨⟨by show 2 < 5; omega, .inr ⟨2, 0, _, rfl, rfl, rfl, WkL.refl ⟨hnp, hnC, hnM, trivial⟩⟩⟩, trivial⟩, ⟨⟨by show 3 < 5; omega, .inr ⟨3, 0, _, rfl, rfl, rfl, .cons (.refl hnp) (.cons (.refl hnC) (.cons (.refl hnM) (.cons (.nilref 1 rfl (by show 4 < 5; omega)) .nil)))⟩⟩, trivial⟩, ⟨⟨by show 4 < 5; omega, .inl ⟨rfl, rfl⟩⟩, trivial⟩, trivial⟩ rfl (base_nil _ _)
  rintro ⟨j, hj⟩
  simp only at hj ⊢
  repeat (first|refine z2 ?_|refine z1 ?_|refine z3 ?_|refine z4 ?_|refine z5 ?_)
  refine awp_cond rfl (fun e => ?_) (fun e => ?_)
  · have hjl : j < m := by have e : decide ((j : Int) < (Mp.length : Int)) = true := e; have := of_decide_eq_true e; omega
    clear e
    have ht := tmod4 j
    have h4 : j % 4 < 4 := Nat.mod_lt _ (by omega)
    have b1 := Int.tmod_lt_of_pos (j : Int) (show (0 : Int) < 4 by decide)
    have b2 := Int.tmod_nonneg 4 (show (0 : Int) ≤ (j : Int) by omega)
    have hgj := hge j (by omega)
    have hgd : L.getD (j % 4) [] = L[j % 4]'(by omega) := by rw [List.getD_eq_getElem?_getD, List.getElem?_eq_getElem (by omega), Option.getD_some]
    rw [hgd] at hgj
    have hsn := gen_snoc (G := G) (j := j) (by omega)
    rw [hgj] at hsn
    have hsl := hsz _ (List.getElem_mem (show j % 4 < L.length by omega))
    have hat : ((pln24 pr R b L).drop (0 + 3 + (Int.tmod (j : Int) 4).toNat * 8)).take 8 = ptsC (L[j % 4]'(by omega)) := by
      rw [ht, show 0 + 3 + j % 4 * 8 = j % 4 * 8 + 1 + 1 + 1 by omega]
      exact gnsC_at hL.2 rfl (by omega)
    have hnl := nrl_ptsC (L[j % 4]'(by omega))
    generalize L[j % 4]'(by omega) = l at hsl hsn hat hnl
    have hnS := nr_szS (sizeP l p.length)
    generalize sizeP l p.length = s at hsl hsn hnS
    (repeat (first | refine awp_seq ?_ | refine awp_block ?_ | refine awp_skip ?_))
    refine awp_region_drawD [] hmix (by kernel_rfl) ?_
    repeat (first|refine z2 ?_|refine z1 ?_|refine z3 ?_|refine z4 ?_|refine z5 ?_)
    refine al_pure hT rfl (pure_load_aa rfl rfl rfl rfl hat) rfl rfl (by show (0 + 3 + (Int.tmod (j : Int) 4).toNat * 8) + 8 ≤ (pln24 pr R b L).length; rw [hlq, ht]; omega) ?_
    refine zs hsl ?_ (hs := by exact .cons (.refl (x := rowS p) hnp) (.cons (.refl (x := .agg (ptsC l)) hnl) .nil)) (hr := by exact ⟨⟨hnp, hnl, trivial⟩, rfl⟩)
    refine al_litF hT rfl rfl rfl rfl rfl rfl rfl rfl rfl ?_
    refine al_append hT rfl rfl rfl rfl rfl rfl rfl rfl rfl rfl rfl rfl rfl (by show ((G.take j).map szS).length = _ * 1; rw [List.length_map, List.length_take]; omega) (fun g r h e => by cases e; cases h; rfl) (by intro x hx; simp only [List.append_nil, List.mem_singleton] at hx; subst hx; rfl) (by show (_ + 1) * 24 ≤ _; omega) (by omega) ?_
    repeat (first|refine z2 ?_|refine z1 ?_|refine z3 ?_|refine z4 ?_|refine z5 ?_)
    refine ⟨⟨j + 1, hjl⟩, ?_, by show m - (j + 1) < m - j; omega⟩
    refine le_ren (fun g t => cond (Nat.beq g 4) (some (5, t)) (some (g, t))) ⟨⟨_, rfl, .adr rfl (by show 0 < 5; omega)⟩, ⟨_, rfl, .adr rfl (by show 1 < 5; omega)⟩, ⟨_, rfl, .adr rfl (by show 2 < 5; omega)⟩, ⟨_, rfl, .adr rfl (by show 3 < 5; omega)⟩, ⟨_, rfl, .refl trivial⟩, trivial⟩
      ⟨⟨⟨by show 0 < 5; omega, .inr ⟨0, 0, _, rfl, rfl, rfl, WkL.refl hnq⟩⟩, trivial⟩, ⟨⟨by show 1 < 5; omega, .inr ⟨1, 0, _, rfl, rfl, rfl, WkL.refl ⟨trivial, trivial, trivial, trivial, trivial⟩⟩⟩, trivial⟩, ⟨⟨by show 2 < 5; omega, .inr ⟨2, 0, _, rfl, rfl, rfl, WkL.refl ⟨hnp, hnC, hnM, trivial⟩⟩⟩, trivial⟩, ⟨⟨by show 3 < 5; omega, .inr ⟨3, 0, _, rfl, rfl, rfl, .cons (.refl hnp) (.cons (.refl hnC) (.cons (.refl hnM) (.cons (.ref rfl (by show 4 < 5; omega)) .nil)))⟩⟩, trivial⟩, ⟨⟨by show 4 < 5; omega, .inr ⟨5, 0, _, rfl, rfl, rfl, wkl_eq hsn (nrl_genS _)⟩⟩, trivial⟩, trivial⟩ rfl (base_nil _ _)
  · have hjl : j = m := by have e : decide ((j : Int) < (Mp.length : Int)) = false := e; have := of_decide_eq_false e; omega
    rw [hjl, List.take_of_length_le (by omega)]
    repeat (first|refine z2 ?_|refine z1 ?_|refine z3 ?_|refine z4 ?_|refine z5 ?_)
    exact awp_ret ⟨.inl rfl, ret_one rfl (.agg (.cons (.refl hnp) (.cons (.refl hnC) (.cons (.refl hnM) (.cons (sub_genS rfl (by omega)) .nil)))))⟩
end Go.Proofs.YtlbhgejbfhhipaaGreatDoor

/- Walks: sizes compared; fractions as texts. -/
namespace Go.Proofs.YtlbhgejbfhhipaaGreatDoor
open Go Go.Am Go.Lib Go.Sp Z1 Z2 Z3 Z4 Z5 Z6
theorem ba_beq (x y : ByteArray) : (x == y) = decide (x = y) := by
  cases x with
  | mk a => cases y with
    | mk b =>
      show (a == b) = _
      by_cases h : a = b
      · rw [h, beq_self_eq_true, decide_eq_true rfl]
      · rw [beq_false_of_ne h, decide_eq_false (fun e => h (by cases e; rfl))]
theorem zS_inj {a b : Int} (h : zS a = zS b) : a = b := by
  have := z_beq a b
  rw [h, beq_self_eq_true] at this
  exact of_decide_eq_true this.symm
theorem rat_beq (a b : Rat) : ((zS a.num == zS b.num) && (zS (a.den : Int) == zS (b.den : Int))) = decide (a = b) := by
  rw [ba_beq, ba_beq]
  by_cases h : a = b
  · rw [h]; simp
  · rw [decide_eq_false h]
    by_cases h1 : zS a.num = zS b.num
    · by_cases h2 : zS (a.den : Int) = zS (b.den : Int)
      · exact absurd (Rat.ext (zS_inj h1) (by have := zS_inj h2; omega)) h
      · rw [decide_eq_false h2, Bool.and_false]
    · rw [decide_eq_false h1, Bool.false_and]
set_option maxRecDepth 10000 in
theorem eqsz_ok {Λ : Lai} (a b : List Rat) (ha : a.length ≤ 1000000000) (hb : b.length ≤ 1000000000) : OkP Λ Tryz.prog 91 [szS a, szS b] (.v (.bool (decide (a = b)))) := by
  refine okp_intro hT 26 Tryz.func91 rfl rfl rfl (Nat.le_of_ble_eq_true rfl) trivial ?_
  intro w0 F0 I
  unfold szS
  repeat (first|refine z2 ?_|refine z1 ?_|refine z3 ?_|refine z4 ?_|refine z5 ?_)
  refine awp_cond rfl (fun h => ?_) (fun h => ?_)
  · have h : (a.length : Int) ≠ (b.length : Int) := by simpa using h
    repeat (first|refine z2 ?_|refine z1 ?_|refine z3 ?_|refine z4 ?_|refine z5 ?_)
    refine awp_ret ⟨.inl rfl, ret_one rfl ?_⟩
    rw [decide_eq_false (show ¬ a = b from fun e => h (by rw [e]))]
    exact .refl trivial
  have h : (a.length : Int) = (b.length : Int) := by simpa using h
  repeat (first|refine z2 ?_|refine z1 ?_|refine z3 ?_|refine z4 ?_|refine z5 ?_)
  refine awp_loop (fun x : { x : Nat // x ≤ a.length ∧ a.take x = b.take x } => ⟨[(0, .sl 2 a.length (szC a)), (1, .sl 2 b.length (szC b)), (12, .v (.int .i64 a.length)), (13, .v (.int .i64 x.1))], [], 0⟩) (fun x => a.length - x.1) ⟨0, Nat.zero_le _, by simp⟩ (le_sub ⟨rfl, rfl, rfl, rfl, trivial⟩ rfl rfl) ?_
  rintro ⟨j, hj, he⟩
  simp only at hj he ⊢
  repeat (first|refine z2 ?_|refine z1 ?_|refine z3 ?_|refine z4 ?_|refine z5 ?_)
  refine awp_cond rfl (fun h2 => ?_) (fun h2 => ?_)
  · have hja : j < a.length := by have := of_decide_eq_true h2; omega
    have hjb : j < b.length := by omega
    have hx := szC_at (l := a) (i := (j : Int).toNat * 2) (j := j) (by omega) hja
    have hy := szC_at (l := b) (i := (j : Int).toNat * 2) (j := j) (by omega) hjb
    repeat (first|refine z2 ?_|refine z1 ?_|refine z3 ?_|refine z4 ?_|refine z5 ?_)
    refine awp_region_draw [] hmix (by kernel_rfl) ?_
    repeat (first|refine z2 ?_|refine z1 ?_|refine z3 ?_|refine z4 ?_|refine z5 ?_)
    refine al_pure hT rfl (pure_load_ag rfl rfl rfl hx) rfl rfl (rC_drop_len (by omega) hja) ?_
    repeat (first|refine z2 ?_|refine z1 ?_|refine z3 ?_|refine z4 ?_|refine z5 ?_)
    refine al_pure hT rfl (pure_load_ag rfl rfl rfl hy) rfl rfl (rC_drop_len (by omega) hjb) ?_
    repeat (first|refine z2 ?_|refine z1 ?_|refine z3 ?_|refine z4 ?_|refine z5 ?_)
    refine awp_cond rfl (fun h3 => ?_) (fun h3 => ?_)
    · have h3 : (!((zS a[j].num == zS b[j].num) && (zS (a[j].den : Int) == zS (b[j].den : Int)))) = true := h3
      rw [rat_beq] at h3
      have h3 : a[j] ≠ b[j] := by simpa using h3
      repeat (first|refine z2 ?_|refine z1 ?_|refine z3 ?_|refine z4 ?_|refine z5 ?_)
      refine awp_ret ⟨.inl rfl, ret_one rfl ?_⟩
      rw [decide_eq_false (show ¬ a = b from fun e => h3 (by subst e; rfl))]
      exact .refl trivial
    · have h3 : (!((zS a[j].num == zS b[j].num) && (zS (a[j].den : Int) == zS (b[j].den : Int)))) = false := h3
      rw [rat_beq] at h3
      have h3 : a[j] = b[j] := by simpa using h3
      repeat (first|refine z2 ?_|refine z1 ?_|refine z3 ?_|refine z4 ?_|refine z5 ?_)
      exact ⟨⟨j + 1, hja, take_eq_succ hja hjb he h3⟩, le_sub ⟨rfl, rfl, rfl, rfl, trivial⟩ rfl rfl, by show a.length - (j + 1) < a.length - j; omega⟩
  · have hja : j = a.length := by have := of_decide_eq_false h2; omega
    rw [hja, List.take_length, List.take_of_length_le (by omega)] at he
    repeat (first|refine z2 ?_|refine z1 ?_|refine z3 ?_|refine z4 ?_|refine z5 ?_)
    refine awp_ret ⟨.inl rfl, ret_one rfl ?_⟩
    rw [decide_eq_true he]
    exact .refl trivial
def ratS (q : Rat) : ByteArray := if q.den = 1 then zS q.num else zS q.num ++ ⟨#[47]⟩ ++ zS (q.den : Int)
theorem ftext_ok {Λ : Lai} (q : Rat) (h : okQ q) : OkP Λ Tryz.prog 72 [rS q] (.v (.string (ratS q))) := by
  refine okp_intro hT 14 Tryz.func72 rfl rfl rfl (Nat.le_of_ble_eq_true rfl) trivial ?_
  intro w0 F0 I
  have s1 := okZ_size h.1
  have s2 := okZ_size (z := (q.den : Int)) (by show okN (q.den : Int).natAbs; rw [Int.natAbs_natCast]; exact h.2)
  unfold rS
  repeat (first|refine z2 ?_|refine z1 ?_|refine z3 ?_|refine z4 ?_|refine z5 ?_)
  refine awp_cond rfl (fun h3 => ?_) (fun h3 => ?_)
  · have h3 : ((zS (q.den : Int)).toList == (⟨#[49]⟩ : ByteArray).toList) = true := h3
    rw [z_beq1] at h3
    have h3 : q.den = 1 := by have := of_decide_eq_true h3; omega
    repeat (first|refine z2 ?_|refine z1 ?_|refine z3 ?_|refine z4 ?_|refine z5 ?_)
    refine awp_ret ⟨.inl rfl, ret_one rfl ?_⟩
    unfold ratS
    rw [if_pos h3]
    exact .refl trivial
  · have h3 : ((zS (q.den : Int)).toList == (⟨#[49]⟩ : ByteArray).toList) = false := h3
    rw [z_beq1] at h3
    have h3 : q.den ≠ 1 := by have := of_decide_eq_false h3; omega
    repeat (first|refine z2 ?_|refine z1 ?_|refine z3 ?_|refine z4 ?_|refine z5 ?_)
    refine al_pure hT rfl rfl rfl rfl (by show (zS q.num).size + 1 ≤ 9223372036854775807; omega) ?_
    repeat (first|refine z2 ?_|refine z1 ?_|refine z3 ?_|refine z4 ?_|refine z5 ?_)
    refine al_pure hT rfl rfl rfl rfl (by show (zS q.num ++ (⟨#[47]⟩ : ByteArray)).size + (zS (q.den : Int)).size ≤ 9223372036854775807; rw [ByteArray.size_append]; show (zS q.num).size + 1 + _ ≤ _; omega) ?_
    repeat (first|refine z2 ?_|refine z1 ?_|refine z3 ?_|refine z4 ?_|refine z5 ?_)
    refine awp_ret ⟨.inl rfl, ret_one rfl ?_⟩
    unfold ratS
    rw [if_neg h3]
    exact .refl trivial
theorem number_ok (n : Int) (hn : -9223372036854775808 ≤ n ∧ n ≤ 9223372036854775807) : OkP (laiOf Tryz.prog) Tryz.prog 70 [.v (.int .i64 n)] (rS (n : Rat)) := by
  refine okp_intro hT 6 Tryz.func70 rfl rfl rfl (Nat.le_of_ble_eq_true rfl) ⟨trivial, trivial, trivial⟩ ?_
  intro w0 F0 I
  repeat (first|refine z2 ?_|refine z1 ?_|refine z3 ?_|refine z4 ?_|refine z5 ?_)
  refine zc (zof_ok n hn.1 hn.2) ?_
  repeat (first|refine z2 ?_|refine z1 ?_|refine z3 ?_|refine z4 ?_|refine z5 ?_)
  refine awp_ret ⟨.inl rfl, ret_one rfl ?_⟩
  unfold rS
  rw [show (n : Rat).num = n from rfl, show (n : Rat).den = 1 from rfl, show ((1 : Nat) : Int) = 1 from rfl, zS_one]
  exact .refl ⟨trivial, trivial, trivial⟩
end Go.Proofs.YtlbhgejbfhhipaaGreatDoor

/- Walks: strings joined; sizes as texts. -/
namespace Go.Proofs.YtlbhgejbfhhipaaGreatDoor
open Go Go.Am Go.Lib Go.Sp Z1 Z2 Z3 Z4 Z5 Z6
def strC (xs : List ByteArray) : List AV := xs.map fun x => AV.v (.string x)
theorem strC_len (xs : List ByteArray) : (strC xs).length = xs.length := List.length_map _
theorem nrl_strC : ∀ xs : List ByteArray, nrl (strC xs)
  | [] => trivial
  | _ :: xs => ⟨trivial, nrl_strC xs⟩
theorem strC_snoc (xs : List ByteArray) (x : ByteArray) : strC xs ++ ([AV.v (.string x)] ++ []) = strC (xs ++ [x]) := by simp [strC]
theorem vl_strC {w : World} {F : Nat → Prop} {β : Bl} : ∀ {xs : List ByteArray} {us : List Value}, Vl w F β (strC xs) us → us = xs.map Value.string
  | [], us, h => h.nil_inv
  | x :: xs, us, h => by
    obtain ⟨u, us', rfl, h1, h2⟩ := h.cons_inv
    simp only [V] at h1
    rw [h1, vl_strC h2]; rfl
def joinS (xs : List ByteArray) (sep : ByteArray) : ByteArray := ⟨(Lib.join (xs.map (·.data.toList)) sep.data.toList).toArray⟩
theorem tail_len {B : Nat} (sep : List UInt8) : ∀ (r : List (List UInt8)), (∀ x ∈ r, x.length ≤ B) → (Lib.joinTail sep r).length ≤ r.length * (sep.length + B)
  | [], _ => Nat.zero_le _
  | x :: r, h => by
    have ih := tail_len sep r (fun y hy => h y (by simp [hy]))
    have hx := h x (by simp)
    have e : Lib.joinTail sep (x :: r) = (sep ++ x) ++ Lib.joinTail sep r := rfl
    rw [e, List.length_append, List.length_append, List.length_cons, Nat.add_mul]
    omega
theorem bsz (x : ByteArray) : x.data.toList.length = x.size := Array.length_toList
theorem joinS_len {B : Nat} (sep : ByteArray) (xs : List ByteArray) (h : ∀ x ∈ xs, x.size ≤ B) : (Lib.join (xs.map (·.data.toList)) sep.data.toList).length ≤ xs.length * (sep.size + B) := by
  cases xs with
  | nil => exact Nat.zero_le _
  | cons x r =>
    rw [List.map_cons, Lib.join_cons, List.length_append]
    have h1 := tail_len (B := B) sep.data.toList (r.map (·.data.toList)) (fun y hy => by
      obtain ⟨z, hz, rfl⟩ := List.mem_map.1 hy
      rw [bsz]; exact h z (by simp [hz]))
    have h2 := h x (by simp)
    rw [List.length_map] at h1
    have h3 : x.data.toList.length ≤ B := by rw [bsz]; exact h2
    have h4 : sep.data.toList.length = sep.size := bsz sep
    rw [h4] at h1
    rw [List.length_cons, Nat.add_mul]
    omega
theorem sjoin_ok (xs : List ByteArray) (sep : ByteArray) (hn : xs.length ≤ 1000000) (hlen : (Lib.join (xs.map (·.data.toList)) sep.data.toList).length ≤ 140737488355328) : OkW (laiOf Tryz.prog) Tryz.prog 68 [.ref 0 0 1 0 xs.length, .v (.string sep)] ⟨[], [(0, [⟨1, strC xs⟩])], 1⟩ (.v (.string (joinS xs sep))) ⟨[], [], 1⟩ := by
  refine ⟨enters_mk Tryz.func68 rfl rfl, Nat.le_refl _, fun w F β us hL hG hGm HR hv => ?_⟩
  obtain ⟨u1, us1, rfl, h1, h2⟩ := hv.cons_inv
  obtain ⟨u2, rfl, h3⟩ := h2.one_inv
  simp only [V] at h1 h3
  subst h3
  obtain ⟨m, hm, h1⟩ := h1
  have norow : ∀ g t, (⟨[], [], 1⟩ : AS).row g t = none := fun g t => rfl
  have fin : ∀ (e : Ending) (w' : World), e = .returned (.string (joinS xs sep)) → Frm (fun _ => False) w w' → ∃ v F' β', e = .returned v ∧ Am.Rows w' F' β' ⟨[], [], 1⟩ ∧ V w' F' β' (.v (.string (joinS xs sep))) v ∧ (∀ (g : Nat) (m : Nat → Option (Nat × Nat)), β[g]? = some m → β'[g]? = some m) ∧ (∀ b, Mine ⟨[], [], 1⟩ β' b → Mine ⟨[], [(0, [⟨1, strC xs⟩])], 1⟩ β b ∨ w.heap.size ≤ b) ∧ Frm (Mine ⟨[], [(0, [⟨1, strC xs⟩])], 1⟩ β) w w' := fun e w' he hf =>
    ⟨_, fun _ => False, β, he, ⟨HR.nx, fun g t r h => by simp [norow] at h, fun g t r g' t' r' h => by simp [norow] at h, fun g t r h => by simp [norow] at h, fun b h => h.elim⟩, V_v, fun _ _ h => h, fun b ⟨g, t, r, m, c, h, _⟩ => by simp [norow] at h, ⟨hf.os, hf.tape, hf.output, hf.size, fun b hb _ => hf.block b hb id⟩⟩
  obtain ⟨m', hm', hrr⟩ := HR.rows 0 0 ⟨1, strC xs⟩ rfl
  rw [hm] at hm'; obtain rfl := Option.some.inj hm'
  rcases h1 with ⟨b, c, hmt, hon, rfl⟩ | ⟨hmt, _, hx, rfl⟩
  · rw [hmt] at hrr
    obtain ⟨ds, e, us, g1, g2, g3, g4⟩ := hrr
    have hus := vl_strC g3
    have hcell := cellsAt_row g1 g4 0
    refine (Tryz.strings_Join b 0 (c - 0) xs sep w (fun j x hj => ?_) (Array.getElem?_eq_some_iff.1 g1).1 (by omega) (by omega) hlen).mono (fun e w' h => fin e w' h.1 (below_frm h.2))
    have := hcell j (.string x) (by rw [hus, List.drop_zero, List.getElem?_map, hj]; rfl)
    rw [Addr.add_lit] at this
    exact this
  · have hx0 : xs = [] := List.eq_nil_of_length_eq_zero hx
    subst hx0
    exact (Tryz.strings_Join_none none 0 sep w).mono (fun e w' h => fin e w' h.1 (by rw [h.2]; exact Frm.refl _ _))
end Go.Proofs.YtlbhgejbfhhipaaGreatDoor

/- Walks: the text of a size. -/
namespace Go.Proofs.YtlbhgejbfhhipaaGreatDoor
open Go Go.Am Go.Lib Go.Sp Z1 Z2 Z3 Z4 Z5 Z6
def termS (p : Int) (q : Rat) : ByteArray := if q = 1 then zS p else if q.den = 1 ∧ 0 < q.num then zS p ++ ((⟨#[94]⟩ : ByteArray) ++ ratS q) else zS p ++ ((⟨#[94, 40]⟩ : ByteArray) ++ ratS q ++ (⟨#[41]⟩ : ByteArray))
def termK (p : List Int) (s : List Rat) : Nat → List ByteArray
  | 0 => []
  | j + 1 => if (s.getD j 0).num = 0 then termK p s j else termK p s j ++ [termS (p.getD j 0) (s.getD j 0)]
def sizeS (p : List Int) (s : List Rat) : ByteArray := if termK p s s.length = [] then ⟨#[49]⟩ else joinS (termK p s s.length) ⟨#[32]⟩
theorem sizL_short : ∀ {l : List Rat}, sizL l = 0 → ∀ q ∈ l, short30 q
  | [], _, q, h => by cases h
  | a :: l, h, q, hq => by
    rw [sizL] at h
    by_cases h1 : long400 a
    · rw [if_pos h1] at h
      by_cases h2 : short30 a
      · rw [if_pos h2] at h
        rcases List.mem_cons.1 hq with rfl | hq
        · exact h2
        · exact sizL_short h q hq
      · rw [if_neg h2] at h; omega
    · rw [if_neg h1] at h; omega
theorem sizChk_zero {p : List Int} {s : List Rat} (h : sizChk p s = 0) : primeChk p = 0 ∧ s.length = p.length ∧ ∀ q ∈ s, short30 q := by
  unfold sizChk at h
  by_cases h1 : primeChk p = 0
  · rw [if_neg (fun e => e h1)] at h
    unfold sizR at h
    by_cases h2 : (s.length : Int) = p.length
    · rw [if_neg (fun e => e h2)] at h
      exact ⟨h1, by omega, sizL_short h⟩
    · rw [if_pos h2] at h; omega
  · rw [if_pos h1] at h; exact absurd h h1
theorem zS_len30 {z : Int} (h : (numS z.natAbs).size ≤ 30) : (zS z).size ≤ 31 := by
  rw [zS_size]
  rw [numS_size] at h
  split <;> omega
theorem zS_len64 {z : Int} (h : -9223372036854775808 ≤ z ∧ z ≤ 9223372036854775807) : (zS z).size ≤ 21 := by
  have : (decDigits z.natAbs).length ≤ 20 := (dec_len_le (by omega)).2 (by omega)
  rw [zS_size]
  split <;> omega
theorem ratS_len {q : Rat} (h : short30 q) : (ratS q).size ≤ 63 := by
  have h1 := zS_len30 h.1
  have h2 := zS_len30 (z := (q.den : Int)) (by rw [Int.natAbs_natCast]; exact h.2)
  unfold ratS
  split
  · omega
  · rw [ByteArray.size_append, ByteArray.size_append]
    show (zS q.num).size + 1 + _ ≤ _
    omega
theorem termS_len {p : Int} {q : Rat} (hp : -9223372036854775808 ≤ p ∧ p ≤ 9223372036854775807) (h : short30 q) : (termS p q).size ≤ 100 := by
  have h1 := zS_len64 hp
  have h2 := ratS_len h
  unfold termS
  split
  · omega
  · split
    · rw [ByteArray.size_append, ByteArray.size_append]
      show _ + (1 + _) ≤ _
      omega
    · rw [ByteArray.size_append, ByteArray.size_append, ByteArray.size_append]
      show _ + (2 + _ + 1) ≤ _
      omega
theorem termK_len (p : List Int) (s : List Rat) : ∀ j, (termK p s j).length ≤ j
  | 0 => Nat.le_refl _
  | j + 1 => by
    have ih := termK_len p s j
    rw [termK]
    split
    · omega
    · rw [List.length_append]; simp only [List.length_singleton]; omega
theorem termK_mem {p : List Int} {s : List Rat} (hp : small64L p) (hs : ∀ q ∈ s, short30 q) : ∀ j, j ≤ p.length → j ≤ s.length → ∀ x ∈ termK p s j, x.size ≤ 100
  | 0, _, _, x, hx => by cases hx
  | j + 1, h1, h2, x, hx => by
    have ih := termK_mem hp hs j (by omega) (by omega)
    rw [termK] at hx
    split at hx
    · exact ih x hx
    · rcases List.mem_append.1 hx with hx | hx
      · exact ih x hx
      · simp only [List.mem_singleton] at hx
        subst hx
        have e1 : p.getD j 0 = p[j] := getD_at (by omega)
        have e2 : s.getD j 0 = s[j] := by rw [List.getD_eq_getElem?_getD, List.getElem?_eq_getElem (by omega), Option.getD_some]
        rw [e1, e2]
        exact termS_len (hp _ (List.getElem_mem _)) (hs _ (List.getElem_mem _))
theorem short_okQ {q : Rat} (h : short30 q) : okQ q := ⟨Nat.le_trans h.1 (by omega), Nat.le_trans h.2 (by omega)⟩
set_option maxRecDepth 10000 in
theorem sztext_ok (p : List Int) (s : List Rat) (hp : small64L p) (hl : p.length ≤ 1000) (h : sizChk p s = 0) : OkP (laiOf Tryz.prog) Tryz.prog 25 [rowS p, szS s] (.tup [.v (.string (sizeS p s)), .v (.int .i64 0)]) := by
  obtain ⟨c1, c2, c3⟩ := sizChk_zero h
  have hck := sizchk_ok p s hp (by omega) (fun q hq => short_okQ (c3 q hq)) (by omega)
  rw [h] at hck
  have hone := number_ok 1 (by omega)
  have hnp := nr_rowS p
  have hns := nr_szS s
  refine okp_intro hT 68 Tryz.func25 rfl rfl rfl (Nat.le_of_ble_eq_true rfl) ⟨trivial, trivial, trivial⟩ ?_
  intro w0 F0 I
  repeat (first|refine z2 ?_|refine z1 ?_|refine z3 ?_|refine z4 ?_|refine z5 ?_)
  refine zc hck ?_ (hs := by exact .cons (.refl (x := rowS p) hnp) (.cons (.refl (x := szS s) hns) .nil))
  repeat (first|refine z2 ?_|refine z1 ?_|refine z3 ?_|refine z4 ?_|refine z5 ?_)
  refine awp_cond rfl (fun h => absurd h (by decide)) (fun _ => ?_)
  unfold rowS szS
  repeat (first|refine z2 ?_|refine z1 ?_|refine z3 ?_|refine z4 ?_|refine z5 ?_)
  refine awp_loop (fun x : { x : Nat // x ≤ s.length } => ⟨[(0, .sl 1 p.length (i64s p)), (1, .sl 2 s.length (szC s)), (7, .ref 0 0 1 0 (termK p s x.1).length), (17, .sl 2 s.length (szC s)), (18, .v (.int .i64 s.length)), (19, .v (.int .i64 x.1))], [(0, [⟨1, strC (termK p s x.1)⟩])], 1⟩) (fun x => s.length - x.1) ⟨0, Nat.zero_le _⟩ ?_ ?_
  · exact le_ren (fun _ _ => none) ⟨⟨_, rfl, .refl (nrl_i64s p)⟩, ⟨_, rfl, .refl (nrl_szC s)⟩, ⟨_, rfl, .nilref 1 rfl (by show 0 < 1; omega)⟩, ⟨_, rfl, .refl (nrl_szC s)⟩, ⟨_, rfl, .refl trivial⟩, ⟨_, rfl, .refl trivial⟩, trivial⟩ ⟨⟨⟨by show 0 < 1; omega, .inl ⟨rfl, rfl⟩⟩, trivial⟩, trivial⟩ rfl (base_nil _ _)
  rintro ⟨j, hj⟩
  simp only at hj ⊢
  repeat (first|refine z2 ?_|refine z1 ?_|refine z3 ?_|refine z4 ?_|refine z5 ?_)
  refine awp_cond rfl (fun h2 => ?_) (fun h2 => ?_)
  · have hjs : j < s.length := by have := of_decide_eq_true h2; omega
    have hjp : j < p.length := by omega
    clear h2
    have hq := c3 _ (List.getElem_mem hjs)
    have hk := okZ_size (short_okQ hq).1
    have hsg := sign_ok (Λ := laiOf Tryz.prog) s[j].num (short_okQ hq).1
    have hft := ftext_ok (Λ := laiOf Tryz.prog) s[j] (short_okQ hq)
    have hit := itoa_ok p[j] (hp _ (List.getElem_mem hjp)).1 (hp _ (List.getElem_mem hjp)).2
    have hit : OkP (laiOf Tryz.prog) Tryz.prog 69 [.v (.int .i64 p[j])] (.v (.string (zS p[j]))) := hit
    have hrl := ratS_len hq
    have hzl := zS_len64 (hp _ (List.getElem_mem hjp))
    have hat := szC_at (l := s) (i := (j : Int).toNat * 2) (by omega) hjs
    have hpt := i64s_drop (l := p) (i := (j : Int).toNat * 1) (j := j) (by omega) hjp
    have e1 : p.getD j 0 = p[j] := getD_at hjp
    have e2 : s.getD j 0 = s[j] := by rw [List.getD_eq_getElem?_getD, List.getElem?_eq_getElem hjs, Option.getD_some]
    have hst : termK p s (j + 1) = if s[j].num = 0 then termK p s j else termK p s j ++ [termS p[j] s[j]] := by rw [termK, e1, e2]
    have hll := termK_len p s j
    generalize s[j] = q at hq hk hsg hft hrl hat hst
    generalize p[j] = y at hit hzl hpt hst
    generalize hT1 : termK p s j = K at hst hll
    clear hT1
    repeat (first|refine z2 ?_|refine z1 ?_|refine z3 ?_|refine z4 ?_|refine z5 ?_)
    refine al_pure hT rfl (pure_load_ag rfl rfl rfl hat) rfl rfl (rC_drop_len (by omega) hjs) ?_
    unfold rC
    repeat (first|refine z2 ?_|refine z1 ?_|refine z3 ?_|refine z4 ?_|refine z5 ?_)
    refine al_pure hT rfl (pure_load_pt rfl rfl rfl hpt) rfl rfl True.intro ?_
    repeat (first|refine z2 ?_|refine z1 ?_|refine z3 ?_|refine z4 ?_|refine z5 ?_)
    refine zc (hit) ?_
    repeat (first|refine z2 ?_|refine z1 ?_|refine z3 ?_|refine z4 ?_|refine z5 ?_)
    refine awp_cond rfl (fun h3 => ?_) (fun h3 => ?_)
    · have h3 : ((zS q.num).toList == (⟨#[48]⟩ : ByteArray).toList) = true := h3
      rw [z_beq0] at h3
      rw [if_pos (of_decide_eq_true h3)] at hst
      repeat (first|refine z2 ?_|refine z1 ?_|refine z3 ?_|refine z4 ?_|refine z5 ?_)
      refine ⟨⟨j + 1, hjs⟩, ?_, by show s.length - (j + 1) < s.length - j; omega⟩
      rw [hst]
      exact le_ren (fun g t => some (g, t)) ⟨⟨_, rfl, .refl (nrl_i64s p)⟩, ⟨_, rfl, .refl (nrl_szC s)⟩, ⟨_, rfl, .ref rfl (by show 0 < 1; omega)⟩, ⟨_, rfl, .refl (nrl_szC s)⟩, ⟨_, rfl, .refl trivial⟩, ⟨_, rfl, .refl trivial⟩, trivial⟩ ⟨⟨⟨by show 0 < 1; omega, .inr ⟨0, 0, _, rfl, rfl, rfl, WkL.refl (nrl_strC _)⟩⟩, trivial⟩, trivial⟩ rfl (base_nil _ _)
    have h3 : ((zS q.num).toList == (⟨#[48]⟩ : ByteArray).toList) = false := h3
    rw [z_beq0] at h3
    have h3 := of_decide_eq_false h3
    rw [if_neg h3] at hst
    (repeat (first | refine awp_seq ?_ | refine awp_block ?_ | refine awp_skip ?_))
    refine awp_region_draw [] hmix (by kernel_rfl) ?_
    repeat (first|refine z2 ?_|refine z1 ?_|refine z3 ?_|refine z4 ?_|refine z5 ?_)
    refine zc (hone) ?_
    repeat (first|refine z2 ?_|refine z1 ?_|refine z3 ?_|refine z4 ?_|refine z5 ?_)
    refine awp_cond rfl (fun h4 => ?_) (fun h4 => ?_)
    · have h4 : ((zS q.num == zS ((1 : Int) : Rat).num) && (zS (q.den : Int) == zS (((1 : Int) : Rat).den : Int))) = true := h4
      rw [rat_beq] at h4
      have h4 : q = 1 := of_decide_eq_true h4
      have ht : termS y q = zS y := by unfold termS; rw [if_pos h4]
      rw [ht] at hst
      repeat (first|refine z2 ?_|refine z1 ?_|refine z3 ?_|refine z4 ?_|refine z5 ?_)
      refine al_litF hT rfl rfl rfl rfl rfl rfl rfl rfl rfl ?_
      refine al_append hT rfl rfl rfl rfl rfl rfl rfl rfl rfl rfl rfl rfl rfl (by show (strC _).length = _ * 1; rw [strC_len, Nat.mul_one]) (fun g r h e => by cases e; cases h; rfl) (by intro x hx; simp only [List.append_nil, List.mem_singleton] at hx; subst hx; rfl) (by show (_ + 1) * 16 ≤ _; omega) (by omega) ?_
      repeat (first|refine z2 ?_|refine z1 ?_|refine z3 ?_|refine z4 ?_|refine z5 ?_)
      refine ⟨⟨j + 1, hjs⟩, ?_, by show s.length - (j + 1) < s.length - j; omega⟩
      rw [hst]
      refine le_ren (fun g t => cond (Nat.beq g 0) (some (2, t)) none) ⟨⟨_, rfl, .refl (nrl_i64s p)⟩, ⟨_, rfl, .refl (nrl_szC s)⟩, ⟨_, rfl, ?_⟩, ⟨_, rfl, .refl (nrl_szC s)⟩, ⟨_, rfl, .refl trivial⟩, ⟨_, rfl, .refl trivial⟩, trivial⟩ ⟨⟨⟨by show 0 < 1; omega, .inr ⟨2, 0, _, rfl, rfl, rfl, wkl_eq (strC_snoc _ _) (nrl_strC _)⟩⟩, trivial⟩, trivial⟩ rfl (base_nil _ _)
      rw [List.length_append, List.length_singleton]
      exact .ref rfl (by show 0 < 1; omega)
    have h4 : ((zS q.num == zS ((1 : Int) : Rat).num) && (zS (q.den : Int) == zS (((1 : Int) : Rat).den : Int))) = false := h4
    rw [rat_beq] at h4
    have h4 : q ≠ 1 := of_decide_eq_false h4
    (repeat (first | refine awp_seq ?_ | refine awp_block ?_ | refine awp_skip ?_))
    refine awp_at ⟨[(0, .sl 1 p.length (i64s p)), (1, .sl 2 s.length (szC s)), (7, .ref 0 0 1 0 K.length), (9, .adr 1 0 0), (10, .v (.string (zS y))), (17, .sl 2 s.length (szC s)), (18, .v (.int .i64 s.length)), (19, .v (.int .i64 j)), (43, .v (.bool (decide (q.den = 1 ∧ 0 < q.num))))], [(1, [⟨2, [.v (.string (zS q.num)), .v (.string (zS (q.den : Int)))]⟩]), (0, [⟨1, strC K⟩])], 2⟩ ?_ ?_
    · refine awp_region ?_
      by_cases h5 : q.den = 1
      · have hdA : ((zS (q.den : Int)).toList == (⟨#[49]⟩ : ByteArray).toList) = true := by rw [z_beq1]; exact decide_eq_true (by omega)
        repeat (first|refine z2 ?_|refine z1 ?_|refine z3 ?_|refine z4 ?_|refine z5 ?_|refine z8 ?_|refine z9 ?_)
        refine zo (hsg) ?_
        repeat (first|refine z2 ?_|refine z1 ?_|refine z3 ?_|refine z4 ?_|refine z5 ?_|refine z8 ?_|refine z9 ?_)
        refine le_sub ⟨rfl, rfl, rfl, rfl, rfl, rfl, rfl, rfl, ?_, trivial⟩ rfl rfl
        refine pick_tt _ _ _ hdA ?_
        rcases Int.lt_or_le 0 q.num with h6 | h6
        · rw [decide_eq_true (show q.den = 1 ∧ 0 < q.num from ⟨h5, h6⟩)]
          exact decide_eq_true (by rw [Int.sign_eq_one_of_pos h6]; decide)
        · rw [decide_eq_false (show ¬ (q.den = 1 ∧ 0 < q.num) from fun e => absurd e.2 (by omega))]
          exact decide_eq_false (by rw [Int.sign_eq_neg_one_of_neg (show q.num < 0 by omega)]; decide)
      · have hdA : ((zS (q.den : Int)).toList == (⟨#[49]⟩ : ByteArray).toList) = false := by rw [z_beq1]; exact decide_eq_false (by omega)
        repeat (first|refine z2 ?_|refine z1 ?_|refine z3 ?_|refine z4 ?_|refine z5 ?_|refine z8 ?_|refine z9 ?_)
        refine al_pick rfl rfl rfl (v := ((zS (q.den : Int)).toList == (⟨#[49]⟩ : ByteArray).toList)) (r := .v (.bool false)) (by rw [hdA]; rfl) rfl rfl ?_
        repeat (first|refine z2 ?_|refine z1 ?_|refine z3 ?_|refine z4 ?_|refine z5 ?_)
        refine le_sub ⟨rfl, rfl, rfl, rfl, rfl, rfl, rfl, rfl, ?_, trivial⟩ rfl rfl
        rw [decide_eq_false (show ¬ (q.den = 1 ∧ 0 < q.num) from fun e => h5 e.1)]; rfl
    refine awp_cond rfl (fun h5 => ?_) (fun h5 => ?_)
    · have h5 := of_decide_eq_true h5
      have ht : termS y q = zS y ++ ((⟨#[94]⟩ : ByteArray) ++ ratS q) := by unfold termS; rw [if_neg h4, if_pos h5]
      rw [ht] at hst
      repeat (first|refine z2 ?_|refine z1 ?_|refine z3 ?_|refine z4 ?_|refine z5 ?_)
      refine zc (hft) ?_
      refine al_pure hT rfl rfl rfl rfl (by show 1 + (ratS q).size ≤ 9223372036854775807; omega) ?_
      refine al_pure hT rfl rfl rfl rfl (by show (zS y).size + ((⟨#[94]⟩ : ByteArray) ++ ratS q).size ≤ 9223372036854775807; rw [ByteArray.size_append]; show _ + (1 + _) ≤ _; omega) ?_
      repeat (first|refine z2 ?_|refine z1 ?_|refine z3 ?_|refine z4 ?_|refine z5 ?_)
      refine al_litF hT rfl rfl rfl rfl rfl rfl rfl rfl rfl ?_
      refine al_append hT rfl rfl rfl rfl rfl rfl rfl rfl rfl rfl rfl rfl rfl (by show (strC _).length = _ * 1; rw [strC_len, Nat.mul_one]) (fun g r h e => by cases e; cases h; rfl) (by intro x hx; simp only [List.append_nil, List.mem_singleton] at hx; subst hx; rfl) (by show (_ + 1) * 16 ≤ _; omega) (by omega) ?_
      repeat (first|refine z2 ?_|refine z1 ?_|refine z3 ?_|refine z4 ?_|refine z5 ?_)
      refine ⟨⟨j + 1, hjs⟩, ?_, by show s.length - (j + 1) < s.length - j; omega⟩
      rw [hst]
      refine le_ren (fun g t => cond (Nat.beq g 0) (some (2, t)) none) ⟨⟨_, rfl, .refl (nrl_i64s p)⟩, ⟨_, rfl, .refl (nrl_szC s)⟩, ⟨_, rfl, ?_⟩, ⟨_, rfl, .refl (nrl_szC s)⟩, ⟨_, rfl, .refl trivial⟩, ⟨_, rfl, .refl trivial⟩, trivial⟩ ⟨⟨⟨by show 0 < 1; omega, .inr ⟨2, 0, _, rfl, rfl, rfl, wkl_eq (strC_snoc _ _) (nrl_strC _)⟩⟩, trivial⟩, trivial⟩ rfl (base_nil _ _)
      rw [List.length_append, List.length_singleton]
      exact .ref rfl (by show 0 < 1; omega)
    · have h5 := of_decide_eq_false h5
      have ht : termS y q = zS y ++ ((⟨#[94, 40]⟩ : ByteArray) ++ ratS q ++ (⟨#[41]⟩ : ByteArray)) := by unfold termS; rw [if_neg h4, if_neg h5]
      rw [ht] at hst
      repeat (first|refine z2 ?_|refine z1 ?_|refine z3 ?_|refine z4 ?_|refine z5 ?_)
      refine zc (hft) ?_
      refine al_pure hT rfl rfl rfl rfl (by show 2 + (ratS q).size ≤ 9223372036854775807; omega) ?_
      refine al_pure hT rfl rfl rfl rfl (by show ((⟨#[94, 40]⟩ : ByteArray) ++ ratS q).size + 1 ≤ 9223372036854775807; rw [ByteArray.size_append]; show (2 + _) + 1 ≤ _; omega) ?_
      refine al_pure hT rfl rfl rfl rfl (by show (zS y).size + ((⟨#[94, 40]⟩ : ByteArray) ++ ratS q ++ (⟨#[41]⟩ : ByteArray)).size ≤ 9223372036854775807; rw [ByteArray.size_append, ByteArray.size_append]; show _ + ((2 + _) + 1) ≤ _; omega) ?_
      repeat (first|refine z2 ?_|refine z1 ?_|refine z3 ?_|refine z4 ?_|refine z5 ?_)
      refine al_litF hT rfl rfl rfl rfl rfl rfl rfl rfl rfl ?_
      refine al_append hT rfl rfl rfl rfl rfl rfl rfl rfl rfl rfl rfl rfl rfl (by show (strC _).length = _ * 1; rw [strC_len, Nat.mul_one]) (fun g r h e => by cases e; cases h; rfl) (by intro x hx; simp only [List.append_nil, List.mem_singleton] at hx; subst hx; rfl) (by show (_ + 1) * 16 ≤ _; omega) (by omega) ?_
      repeat (first|refine z2 ?_|refine z1 ?_|refine z3 ?_|refine z4 ?_|refine z5 ?_)
      refine ⟨⟨j + 1, hjs⟩, ?_, by show s.length - (j + 1) < s.length - j; omega⟩
      rw [hst]
      refine le_ren (fun g t => cond (Nat.beq g 0) (some (2, t)) none) ⟨⟨_, rfl, .refl (nrl_i64s p)⟩, ⟨_, rfl, .refl (nrl_szC s)⟩, ⟨_, rfl, ?_⟩, ⟨_, rfl, .refl (nrl_szC s)⟩, ⟨_, rfl, .refl trivial⟩, ⟨_, rfl, .refl trivial⟩, trivial⟩ ⟨⟨⟨by show 0 < 1; omega, .inr ⟨2, 0, _, rfl, rfl, rfl, wkl_eq (strC_snoc _ _) (nrl_strC _)⟩⟩, trivial⟩, trivial⟩ rfl (base_nil _ _)
      rw [List.length_append, List.length_singleton]
      exact .ref rfl (by show 0 < 1; omega)
  · have hjs : j = s.length := by have := of_decide_eq_false h2; omega
    have hkl := termK_len p s s.length
    have hkm := termK_mem hp c3 s.length (by omega) (Nat.le_refl _)
    have hjl := joinS_len (B := 100) ⟨#[32]⟩ (termK p s s.length) hkm
    have hjn := sjoin_ok (termK p s s.length) ⟨#[32]⟩ (by omega) (Nat.le_trans hjl (by
      have := Nat.mul_le_mul_right ((⟨#[32]⟩ : ByteArray).size + 100) hkl
      have e : (⟨#[32]⟩ : ByteArray).size = 1 := rfl
      rw [e] at this ⊢
      omega))
    rw [hjs]
    unfold sizeS
    generalize termK p s s.length = K at hjn hkl
    repeat (first|refine z2 ?_|refine z1 ?_|refine z3 ?_|refine z4 ?_|refine z5 ?_)
    refine awp_cond rfl (fun h3 => ?_) (fun h3 => ?_)
    · have h3 : ((K.length : Int) == 0) = true := h3
      have hK : K = [] := List.eq_nil_of_length_eq_zero (by have := eq_of_beq h3; omega)
      rw [if_pos hK]
      repeat (first|refine z2 ?_|refine z1 ?_|refine z3 ?_|refine z4 ?_|refine z5 ?_)
      (exact awp_ret ⟨.inl rfl, ret_tup rfl (by repeat' (first | exact SubL.nil | (refine SubL.cons (.refl ?_) ?_; (focus (first | trivial | exact nrl_u64s _ | exact nr_rowS _ | exact nr_matS _ | exact nrl_i64s _ | exact nrl_rowsC _)))))⟩)
    · have h3 : ((K.length : Int) == 0) = false := h3
      have hK : K ≠ [] := fun e => by rw [e] at h3; exact absurd h3 (by decide)
      rw [if_neg hK]
      repeat (first|refine z2 ?_|refine z1 ?_|refine z3 ?_|refine z4 ?_|refine z5 ?_)
      refine al_callw (fun _ t => some (0, t)) [] 1 (.v (.string (joinS K ⟨#[32]⟩))) hjn rfl rfl rfl rfl rfl (.cons (.ref rfl Nat.zero_lt_one) (.cons (.refl trivial) .nil)) (hand_ren ⟨⟨⟨Nat.zero_lt_one, .inr ⟨0, 0, _, rfl, rfl, rfl, WkL.refl (nrl_strC _)⟩⟩, trivial⟩, trivial⟩ rfl (fun g' t' g t h e => by cases e; exact Nat.zero_lt_one)) rfl rfl rfl (back_ren trivial) (.same trivial) ?_
      repeat (first|refine z2 ?_|refine z1 ?_|refine z3 ?_|refine z4 ?_|refine z5 ?_)
      (exact awp_ret ⟨.inl rfl, ret_tup rfl (by repeat' (first | exact SubL.nil | (refine SubL.cons (.refl ?_) ?_; (focus (first | trivial | exact nrl_u64s _ | exact nr_rowS _ | exact nr_matS _ | exact nrl_i64s _ | exact nrl_rowsC _)))))⟩)
end Go.Proofs.YtlbhgejbfhhipaaGreatDoor

/- Walks: unit rows; whether a tuning is pure; the text of a tuning. -/
namespace Go.Proofs.YtlbhgejbfhhipaaGreatDoor
open Go Go.Am Go.Lib Go.Sp Z1 Z2 Z3 Z4 Z5 Z6
theorem zrep_i64 (n : Nat) : zeroRep [Value.int .i64 0] (n : Int).toNat = i64s (List.replicate n 0) := by
  rw [show (n : Int).toNat = n by omega]
  unfold zeroRep i64s
  simp
theorem rzero_ok {Λ : Lai} (n : Nat) (hn : n ≤ 64) : OkW Λ Tryz.prog 138 [.v (.int .i64 n)] ⟨[], [], 0⟩ (.tup [.ref 0 0 1 0 n, .v (.int .i64 0)]) ⟨[], [(0, [⟨1, i64s (List.replicate n 0)⟩])], 1⟩ := by
  refine okw_intro hT 12 Tryz.func138 rfl rfl rfl (Nat.le_of_ble_eq_true rfl) (Nat.zero_le _) ?_
  intro w0 F0 I β0 hβ
  have hβ0 : β0 = [] := List.eq_nil_of_length_eq_zero hβ
  subst hβ0
  have hdA : decide ((n : Int) < 0) = false := decide_eq_false (by omega)
  (repeat (first | refine awp_seq ?_ | refine awp_block ?_ | refine awp_skip ?_))
  refine awp_at ⟨[(0, .v (.int .i64 n))], [], 0⟩ ?_ ?_
  · repeat (first|refine z2 ?_|refine z1 ?_|refine z3 ?_|refine z4 ?_|refine z5 ?_)
    exact le_sub ⟨rfl, trivial⟩ rfl rfl
  (repeat (first | refine awp_seq ?_ | refine awp_block ?_ | refine awp_skip ?_))
  refine awp_at ⟨[(0, .v (.int .i64 n)), (9, .v (.bool false))], [], 0⟩ ?_ ?_
  · refine awp_region ?_
    repeat (first|refine z2 ?_|refine z1 ?_|refine z3 ?_|refine z4 ?_|refine z5 ?_|refine z8 ?_|refine z9 ?_)
    refine le_sub ⟨rfl, ?_, trivial⟩ rfl rfl
    have e2 : decide ((n : Int) > 64) = false := decide_eq_false (by omega)
    show some (AV.v (.bool (cond (decide ((n : Int) < 0)) true (decide ((n : Int) > 64))))) = some (.v (.bool false))
    rw [hdA, e2]; rfl
  refine awp_cond rfl (fun h => absurd h (by decide)) (fun _ => ?_)
  repeat (first|refine z2 ?_|refine z1 ?_|refine z3 ?_|refine z4 ?_|refine z5 ?_)
  refine al_make hT rfl rfl rfl rfl rfl rfl rfl rfl rfl rfl (by omega) (by omega) (by show (8 : Int) * _ ≤ _; omega) (by omega) ?_
  repeat (first|refine z2 ?_|refine z1 ?_|refine z3 ?_|refine z4 ?_|refine z5 ?_)
  refine awp_ret ⟨.inl rfl, ⟨[(2, .ref 0 0 1 0 n), (3, .v (.int .i64 0))], [(0, [⟨1, i64s (List.replicate n 0)⟩])], 1⟩, ?_, rfl, rfl, rfl⟩
  exact le_ren (fun g t => some (g, t)) ⟨⟨_, rfl, .ref rfl (by show 0 < 1; omega)⟩, ⟨_, rfl, .refl trivial⟩, trivial⟩ ⟨⟨⟨by show 0 < 1; omega, .inr ⟨0, 0, _, rfl, rfl, rfl, wkl_eq (zrep_i64 n) (nrl_i64s _)⟩⟩, trivial⟩, trivial⟩ rfl (base_nil _ _)
def unitR (n i : Nat) : List Int := (List.replicate n 0).set i 1
theorem unitR_len (n i : Nat) : (unitR n i).length = n := by simp [unitR]
theorem i64s_set (l : List Int) (i : Nat) (z : Int) : setAll (i64s l) i [AV.v (.int .i64 z)] = i64s (l.set i z) := by
  simp [setAll, i64s, List.map_set]
set_option maxRecDepth 10000 in
theorem unit_ok {Λ : Lai} (n i : Nat) (hn : n ≤ 64) (hi : i < n) : OkP Λ Tryz.prog 90 [.v (.int .i64 n), .v (.int .i64 i)] (.tup [rowS (unitR n i), .v (.int .i64 0)]) := by
  refine okp_intro hT 27 Tryz.func90 rfl rfl rfl (Nat.le_of_ble_eq_true rfl) ⟨nr_rowS _, trivial, trivial⟩ ?_
  intro w0 F0 I
  have hz := rzero_ok (Λ := Λ) n hn
  repeat (first|refine z2 ?_|refine z1 ?_|refine z3 ?_|refine z4 ?_|refine z5 ?_)
  refine al_callw (fun _ _ => none) [(0, [⟨1, i64s (List.replicate n 0)⟩])] 1 (.tup [.ref 0 0 1 0 n, .v (.int .i64 0)]) hz rfl rfl rfl rfl rfl (.cons (.refl trivial) .nil) (hand_ren trivial rfl (fun g' _ _ _ h => absurd h (Nat.not_lt_zero _))) rfl rfl rfl (back_ren ⟨⟨.inl ⟨0, 0, _, rfl, rfl, Nat.zero_lt_one, rfl, RnL.refl (hfl_i64s _)⟩, trivial⟩, trivial⟩) (.tup (.cons (.ref rfl Nat.zero_lt_one) (.cons (.same trivial) .nil))) ?_
  repeat (first|refine z2 ?_|refine z1 ?_|refine z3 ?_|refine z4 ?_|refine z5 ?_)
  refine awp_cond rfl (fun h => absurd h (by decide)) (fun _ => ?_)
  (repeat (first | refine awp_seq ?_ | refine awp_block ?_ | refine awp_skip ?_))
  have hdA : decide ((i : Int) < 0) = false := decide_eq_false (by omega)
  refine awp_at ⟨[(0, .v (.int .i64 n)), (1, .v (.int .i64 i)), (6, .ref 0 0 1 0 n), (22, .v (.bool false))], [(0, [⟨1, i64s (List.replicate n 0)⟩])], 1⟩ ?_ ?_
  · refine awp_region ?_
    repeat (first|refine z2 ?_|refine z1 ?_|refine z3 ?_|refine z4 ?_|refine z5 ?_|refine z8 ?_|refine z9 ?_)
    refine le_sub ⟨rfl, rfl, rfl, ?_, trivial⟩ rfl rfl
    have e2 : decide ((i : Int) ≥ (n : Int)) = false := decide_eq_false (by omega)
    show some (AV.v (.bool (cond (decide ((i : Int) < 0)) true (decide ((i : Int) ≥ (n : Int)))))) = some (.v (.bool false))
    rw [hdA, e2]; rfl
  refine awp_cond rfl (fun h => absurd h (by decide)) (fun _ => ?_)
  repeat (first|refine z2 ?_|refine z1 ?_|refine z3 ?_|refine z4 ?_|refine z5 ?_)
  refine al_store hT rfl rfl rfl rfl rfl rfl rfl rfl rfl (by show _ + 1 ≤ (i64s _).length; rw [i64s_len, List.length_replicate]; omega) (by intro x hx; simp only [List.mem_singleton] at hx; subst hx; rfl) ?_
  repeat (first|refine z2 ?_|refine z1 ?_|refine z3 ?_|refine z4 ?_|refine z5 ?_)
  refine awp_ret ⟨.inl rfl, ret_tup rfl (.cons (sub_i64n ?_ (unitR_len n i).symm) (.cons (.refl trivial) .nil))⟩
  show some (Row.mk 1 (setAll (i64s (List.replicate n 0)) (0 + (i : Int).toNat * 1) [AV.v (.int .i64 1)])) = _
  rw [i64s_set, show 0 + (i : Int).toNat * 1 = i by omega]
  rfl
theorem small_unit (n i : Nat) : small64L (unitR n i) := fun x hx => by
  have := List.mem_or_eq_of_mem_set hx
  rcases this with h | h
  · have := List.eq_of_mem_replicate h; omega
  · omega
set_option maxRecDepth 10000 in
theorem pure_ok {p : List Int} {C Mp : List (List Int)} {G : List (List Rat)} {k : Int} {e : Nat} (K : TunK Tryz.prog p C Mp G k e) (hpl : p.length ≤ 64) (h : temErr k p (unitR p.length 0) Mp G = 0) : OkP (laiOf Tryz.prog) Tryz.prog 45 [tunS p C Mp G] (.tup [.v (.bool (decide (temS p (unitR p.length 0) Mp G = ratsL (unitR p.length 0)))), .v (.int .i64 0)]) := by
  obtain ⟨h1, h2, h3, h4⟩ := temErr_zero h
  obtain ⟨k0, hgl, hp0, hll⟩ := tunR_zero h1
  have hpos := prime_some hp0
  have htu := tunchk_ok K.chk K.small (by omega) K.gok (by have := K.glen; omega)
  rw [h1] at htu
  have hun := unit_ok (Λ := laiOf Tryz.prog) p.length 0 hpl hpos
  have hul := unitR_len p.length 0
  have hus := small_unit p.length 0
  have hte := tempered_ok K (by rw [hul]; omega) h
  have hnu := numbers_ok (unitR p.length 0) hus (by omega)
  have hsl := temS_len p (unitR p.length 0) Mp G
  have hrl := ratsL_len (unitR p.length 0)
  have heq := eqsz_ok (Λ := laiOf Tryz.prog) (temS p (unitR p.length 0) Mp G) (ratsL (unitR p.length 0)) (by omega) (by omega)
  have hnt := nr_tunS p C Mp G
  have hnp := nr_rowS p
  have hnU := nr_rowS (unitR p.length 0)
  have hnR := nr_szS (ratsL (unitR p.length 0))
  have hte : OkW (laiOf Tryz.prog) Tryz.prog 61 [tunS p C Mp G, rowS (unitR p.length 0)] ⟨[], [], 0⟩ (.tup [.ref 0 0 2 0 p.length, .v (.int .i64 0)]) ⟨[], [(0, [⟨2, szC (temS p (unitR p.length 0) Mp G)⟩])], 1⟩ := hte
  generalize temS p (unitR p.length 0) Mp G = s at hte hsl heq ⊢
  generalize unitR p.length 0 = u at hun hul hus hte hnu heq hnU hnR ⊢
  refine okp_intro hT 37 Tryz.func45 rfl rfl rfl (Nat.le_of_ble_eq_true rfl) ⟨trivial, trivial, trivial⟩ ?_
  intro w0 F0 I
  repeat (first|refine z2 ?_|refine z1 ?_|refine z3 ?_|refine z4 ?_|refine z5 ?_)
  refine zc htu ?_ (hs := by exact .cons (.refl (x := tunS p C Mp G) hnt) .nil)
  repeat (first|refine z2 ?_|refine z1 ?_|refine z3 ?_|refine z4 ?_|refine z5 ?_)
  refine awp_cond rfl (fun h => absurd h (by decide)) (fun _ => ?_)
  repeat (first|refine z2 ?_|refine z1 ?_|refine z3 ?_|refine z4 ?_|refine z5 ?_)
  refine zs hun ?_ (hs := by exact .cons (.refl trivial) (.cons (.refl trivial) .nil)) (hr := by exact ⟨⟨trivial, trivial, trivial⟩, rfl⟩)
  repeat (first|refine z2 ?_|refine z1 ?_|refine z3 ?_|refine z4 ?_|refine z5 ?_)
  refine al_callw (fun _ _ => none) [(1, [⟨2, szC s⟩]), (0, [⟨4, [rowS p, matS C, matS Mp, genS G]⟩])] 2 (.tup [.ref 1 0 2 0 p.length, .v (.int .i64 0)]) hte rfl rfl rfl rfl rfl (.cons (.refl (x := tunS p C Mp G) hnt) (.cons (.refl hnU) .nil)) (hand_ren trivial rfl (fun g' _ _ _ h => absurd h (Nat.not_lt_zero _))) rfl rfl rfl (back_addS rfl rfl (hfl_szC _)) (.tup (.cons (.ref rfl Nat.one_lt_two) (.cons (.same trivial) .nil))) ?_
  repeat (first|refine z2 ?_|refine z1 ?_|refine z3 ?_|refine z4 ?_|refine z5 ?_)
  have hdA : (0 == 0) = true := rfl
  repeat (first|refine z2 ?_|refine z1 ?_|refine z3 ?_|refine z4 ?_|refine z5 ?_|refine z8 ?_|refine z9 ?_)
  refine zo hnu ?_ (hs := by exact .cons (.refl hnU) .nil) (hr := by exact .inr ⟨⟨hnU, trivial⟩, rfl⟩)
  refine zo heq ?_ (hs := by exact .cons (sub_szC rfl hsl.symm) (.cons (.refl hnR) .nil))
  repeat (first|refine z2 ?_|refine z1 ?_|refine z3 ?_|refine z4 ?_|refine z5 ?_)
  exact awp_ret ⟨.inl rfl, ret_tup rfl (.cons (.refl trivial) (.cons (.refl trivial) .nil))⟩
theorem sizeS_len {p : List Int} {s : List Rat} (hp : small64L p) (hl : p.length ≤ 1000) (h : sizChk p s = 0) : (sizeS p s).size ≤ 101001 := by
  obtain ⟨c1, c2, c3⟩ := sizChk_zero h
  have hkl := termK_len p s s.length
  have hkm := termK_mem hp c3 s.length (by omega) (Nat.le_refl _)
  have hjl := joinS_len (B := 100) ⟨#[32]⟩ (termK p s s.length) hkm
  unfold sizeS
  split
  · show 1 ≤ _; omega
  · rw [← bsz]
    show (Lib.join ((termK p s s.length).map (·.data.toList)) (⟨#[32]⟩ : ByteArray).data.toList).length ≤ _
    refine Nat.le_trans hjl ?_
    have := Nat.mul_le_mul_right ((⟨#[32]⟩ : ByteArray).size + 100) hkl
    have e : (⟨#[32]⟩ : ByteArray).size = 1 := rfl
    rw [e] at this ⊢
    omega
theorem sizG_all {p : List Int} {G : List (List Rat)} (hp : primeChk p = 0) (h : sizG p.length G = 0) : ∀ l ∈ G, sizChk p l = 0 := by
  induction G with
  | nil => intro l hl; cases hl
  | cons a G ih =>
    rw [sizG] at h
    by_cases h1 : sizR p.length a = 0
    · rw [if_neg (fun e => e h1)] at h
      intro l hl
      rcases List.mem_cons.1 hl with rfl | hl
      · unfold sizChk; rw [if_neg (fun e => e hp)]; exact h1
      · exact ih h l hl
    · rw [if_pos h1] at h; exact absurd h h1
theorem tunR_sizes {k : Int} {p : List Int} {Mp : List (List Int)} {G : List (List Rat)} (h : tunR k p Mp G = 0) : ∀ l ∈ G, sizChk p l = 0 := by
  obtain ⟨k0, hgl, hp0, _⟩ := tunR_zero h
  unfold tunR at h
  rw [if_neg (fun e => e k0), if_neg (fun e => e (by omega))] at h
  unfold sizAll at h
  rw [if_neg (fun e => e hp0)] at h
  exact sizG_all hp0 h
def tunT (p : List Int) (G : List (List Rat)) : ByteArray := joinS (G.map (sizeS p)) ⟨#[44, 32]⟩
theorem tunT_snoc {p : List Int} {G : List (List Rat)} {j : Nat} (h : j < G.length) : strC ((G.take j).map (sizeS p)) ++ ([AV.v (.string (sizeS p G[j]))] ++ []) = strC ((G.take (j + 1)).map (sizeS p)) := by
  rw [strC_snoc, List.take_add_one, List.getElem?_eq_getElem h, List.map_append]; rfl
set_option maxRecDepth 10000 in
theorem ttext_ok {p : List Int} {C Mp : List (List Int)} {G : List (List Rat)} {k : Int} {e : Nat} (K : TunK Tryz.prog p C Mp G k e) (h : tunR k p Mp G = 0) : OkP (laiOf Tryz.prog) Tryz.prog 24 [tunS p C Mp G] (.tup [.v (.string (tunT p G)), .v (.int .i64 0)]) := by
  have hch := tunR_sizes h
  have hpl := K.plen
  have hgl := K.glen
  have htu := tunchk_ok K.chk K.small (by omega) K.gok (by omega)
  rw [h] at htu
  have hsz : ∀ l ∈ G, OkP (laiOf Tryz.prog) Tryz.prog 25 [rowS p, szS l] (.tup [.v (.string (sizeS p l)), .v (.int .i64 0)]) := fun l hl => sztext_ok p l K.small hpl (hch l hl)
  have hnt := nr_tunS p C Mp G
  have hnp := nr_rowS p
  have hnC := nr_matS C
  have hnM := nr_matS Mp
  have hng := nr_genS G
  have hjl := joinS_len (B := 101001) ⟨#[44, 32]⟩ (G.map (sizeS p)) (fun x hx => by
    obtain ⟨l, hl, rfl⟩ := List.mem_map.1 hx
    exact sizeS_len K.small hpl (hch l hl))
  have hjn := sjoin_ok (G.map (sizeS p)) ⟨#[44, 32]⟩ (by rw [List.length_map]; omega) (Nat.le_trans hjl (by
    rw [List.length_map]
    have := Nat.mul_le_mul_right ((⟨#[44, 32]⟩ : ByteArray).size + 101001) hgl
    have e : (⟨#[44, 32]⟩ : ByteArray).size = 2 := rfl
    rw [e] at this ⊢
    omega))
  have hml : (G.map (sizeS p)).length = G.length := List.length_map _
  have hnu2 := numS_le (n := 0) (k := 1) (by omega)
  clear hnu2
  refine okp_intro hT 40 Tryz.func24 rfl rfl rfl (Nat.le_of_ble_eq_true rfl) ⟨trivial, trivial, trivial⟩ ?_
  intro w0 F0 I
  repeat (first|refine z2 ?_|refine z1 ?_|refine z3 ?_|refine z4 ?_|refine z5 ?_)
  refine zc htu ?_ (hs := by exact .cons (.refl (x := tunS p C Mp G) hnt) .nil)
  repeat (first|refine z2 ?_|refine z1 ?_|refine z3 ?_|refine z4 ?_|refine z5 ?_)
  refine awp_cond rfl (fun h => absurd h (by decide)) (fun _ => ?_)
  repeat (first|refine z2 ?_|refine z1 ?_|refine z3 ?_|refine z4 ?_|refine z5 ?_)
  refine awp_loop (fun x : { x : Nat // x ≤ G.length } => ⟨[(1, .adr 0 0 0), (5, .ref 1 0 1 0 x.1), (16, .sl 1 G.length (G.map szS)), (17, .v (.int .i64 G.length)), (18, .v (.int .i64 x.1))], [(0, [⟨4, [rowS p, matS C, matS Mp, genS G]⟩]), (1, [⟨1, strC ((G.take x.1).map (sizeS p))⟩])], 2⟩) (fun x => G.length - x.1) ⟨0, Nat.zero_le _⟩ ?_ ?_
  · exact le_ren (fun g t => cond (Nat.beq g 0) (some (0, t)) none) ⟨⟨_, rfl, .adr rfl (by show 0 < 2; omega)⟩, ⟨_, rfl, .nilref 1 rfl (by show 1 < 2; omega)⟩, ⟨_, rfl, .refl hng⟩, ⟨_, rfl, .refl trivial⟩, ⟨_, rfl, .refl trivial⟩, trivial⟩ ⟨⟨⟨by show 0 < 2; omega, .inr ⟨0, 0, _, rfl, rfl, rfl, WkL.refl ⟨hnp, hnC, hnM, hng, trivial⟩⟩⟩, trivial⟩, ⟨⟨by show 1 < 2; omega, .inl ⟨rfl, rfl⟩⟩, trivial⟩, trivial⟩ rfl (base_nil _ _)
  rintro ⟨j, hj⟩
  simp only at hj ⊢
  repeat (first|refine z2 ?_|refine z1 ?_|refine z3 ?_|refine z4 ?_|refine z5 ?_)
  refine awp_cond rfl (fun h2 => ?_) (fun h2 => ?_)
  · have hjl : j < G.length := by have := of_decide_eq_true h2; omega
    clear h2
    have hat := genS_drop (G := G) (i := (j : Int).toNat * 1) (j := j) (by omega) hjl
    have hsn := tunT_snoc (p := p) hjl
    have hst := hsz _ (List.getElem_mem hjl)
    generalize G[j] = l at hat hsn hst
    have hnl := nr_szS l
    repeat (first|refine z2 ?_|refine z1 ?_|refine z3 ?_|refine z4 ?_|refine z5 ?_)
    refine al_pure hT rfl (pure_load_pt rfl rfl rfl hat) rfl rfl True.intro ?_
    repeat (first|refine z2 ?_|refine z1 ?_|refine z3 ?_|refine z4 ?_|refine z5 ?_)
    refine zc hst ?_ (hs := by exact .cons (.refl (x := rowS p) hnp) (.cons (.refl (x := szS l) hnl) .nil)) (hr := by exact .inl ⟨trivial, trivial, trivial⟩)
    repeat (first|refine z2 ?_|refine z1 ?_|refine z3 ?_|refine z4 ?_|refine z5 ?_)
    refine awp_cond rfl (fun h => absurd h (by decide)) (fun _ => ?_)
    repeat (first|refine z2 ?_|refine z1 ?_|refine z3 ?_|refine z4 ?_|refine z5 ?_)
    refine al_litF hT rfl rfl rfl rfl rfl rfl rfl rfl rfl ?_
    refine al_append hT rfl rfl rfl rfl rfl rfl rfl rfl rfl rfl rfl rfl rfl (by show (strC _).length = _ * 1; rw [strC_len, List.length_map, List.length_take]; omega) (fun g r h e => by cases e; cases h; rfl) (by intro x hx; simp only [List.append_nil, List.mem_singleton] at hx; subst hx; rfl) (by show (_ + 1) * 16 ≤ _; omega) (by omega) ?_
    repeat (first|refine z2 ?_|refine z1 ?_|refine z3 ?_|refine z4 ?_|refine z5 ?_)
    refine ⟨⟨j + 1, hjl⟩, ?_, by show G.length - (j + 1) < G.length - j; omega⟩
    exact le_ren (fun g t => cond (Nat.beq g 1) (some (2, t)) (some (g, t))) ⟨⟨_, rfl, .adr rfl (by show 0 < 2; omega)⟩, ⟨_, rfl, .ref rfl (by show 1 < 2; omega)⟩, ⟨_, rfl, .refl hng⟩, ⟨_, rfl, .refl trivial⟩, ⟨_, rfl, .refl trivial⟩, trivial⟩ ⟨⟨⟨by show 0 < 2; omega, .inr ⟨0, 0, _, rfl, rfl, rfl, WkL.refl ⟨hnp, hnC, hnM, hng, trivial⟩⟩⟩, trivial⟩, ⟨⟨by show 1 < 2; omega, .inr ⟨2, 0, _, rfl, rfl, rfl, wkl_eq hsn (nrl_strC _)⟩⟩, trivial⟩, trivial⟩ rfl (base_nil _ _)
  · have hjl : j = G.length := by have := of_decide_eq_false h2; omega
    rw [hjl, List.take_length]
    rw [hml] at hjn
    unfold tunT
    generalize G.map (sizeS p) = X at hjn hml
    repeat (first|refine z2 ?_|refine z1 ?_|refine z3 ?_|refine z4 ?_|refine z5 ?_)
    refine al_callw (fun g t => cond (Nat.beq g 0) (some (1, t)) none) [(0, [⟨4, [rowS p, matS C, matS Mp, genS G]⟩])] 2 (.v (.string (joinS X ⟨#[44, 32]⟩))) hjn rfl rfl rfl rfl rfl (.cons (.ref rfl Nat.zero_lt_one) (.cons (.refl trivial) .nil)) (hand_ren ⟨⟨⟨Nat.zero_lt_one, .inr ⟨1, 0, _, rfl, rfl, rfl, WkL.refl (nrl_strC _)⟩⟩, trivial⟩, trivial⟩ rfl (fun g' t' g t h e => ?_)) rfl rfl rfl (back_ren ⟨⟨.inr ⟨rfl, rfl⟩, trivial⟩, trivial⟩) (.same trivial) ?_
    · have : g' = 0 := by have h : g' < 1 := h; omega
      subst this
      cases e
      exact Nat.one_lt_two
    repeat (first|refine z2 ?_|refine z1 ?_|refine z3 ?_|refine z4 ?_|refine z5 ?_)
    exact awp_ret ⟨.inl rfl, ret_tup rfl (.cons (.refl trivial) (.cons (.refl trivial) .nil))⟩
end Go.Proofs.YtlbhgejbfhhipaaGreatDoor

/- Walks: the world of the statements: sums of sizes; rows as fractions; the size of an interval. -/
namespace Go.Proofs.YtlbhgejbfhhipaaGreatDoor
open Go Go.Am Go.Lib Go.Sp Z1 Z2 Z3 Z4 Z5 Z6
def putC (f : List Rat) (Z : List AV) : List AV := szC f ++ Z.drop (f.length * 2)
theorem putC_len {f : List Rat} {Z : List AV} {n : Nat} (hZ : Z.length = n * 2) (hf : f.length ≤ n) : (putC f Z).length = n * 2 := by
  unfold putC
  rw [List.length_append, szC_len, List.length_drop, hZ]; omega
theorem putC_push {f : List Rat} {Z : List AV} {n i : Nat} {q : Rat} (hZ : Z.length = n * 2) (hf : f.length < n) (hi : i = f.length * 2) : setAll (putC f Z) i (rC q) = putC (f ++ [q]) Z := by
  unfold putC
  rw [hi, ← szC_len, setAll_append _ _ _ (by rw [List.length_drop, szC_len, hZ]; show 2 ≤ _; omega), szC_append, List.append_assoc]
  congr 1
  show rC q ++ _ = (rC q ++ []) ++ _
  rw [List.append_nil, List.drop_drop, List.length_append, szC_len]
  congr 2
  show f.length * 2 + 2 = (f.length + 1) * 2
  omega
theorem putC_full {f : List Rat} {Z : List AV} {n : Nat} (hZ : Z.length = n * 2) (hf : f.length = n) : putC f Z = szC f := by
  unfold putC
  rw [hf, List.drop_eq_nil_of_le (by omega), List.append_nil]
theorem zr_len (z : List Value) (n : Nat) : (zeroRep z n).length = n * z.length := by
  unfold zeroRep
  simp [List.length_flatten]
end Go.Proofs.YtlbhgejbfhhipaaGreatDoor

/- Walks: tunings of small sizes: what is asked of them is right; the size of an interval. -/
namespace Go.Proofs.YtlbhgejbfhhipaaGreatDoor
open Go Go.Am Go.Lib Go.Sp Z1 Z2 Z3 Z4 Z5 Z6
theorem tw_short {q : Rat} (h : Tw 1000000000000000000 q) : short30 q := by
  obtain ⟨h1, h2⟩ := h.short
  exact ⟨(numS_le (by omega)).2 (by omega), (numS_le (by omega)).2 (by omega)⟩
theorem short_sizL : ∀ {l : List Rat}, (∀ q ∈ l, short30 q) → sizL l = 0
  | [], _ => rfl
  | a :: l, h => by
    have ha := h a (by simp)
    have h4 : long400 a := ⟨Nat.le_trans ha.1 (by omega), Nat.le_trans ha.2 (by omega)⟩
    rw [sizL, if_pos h4, if_pos ha]
    exact short_sizL (fun q hq => h q (by simp [hq]))
theorem short_sizChk {p : List Int} {s : List Rat} (hp : primeChk p = 0) (hl : s.length = p.length) (h : ∀ q ∈ s, short30 q) : sizChk p s = 0 := by
  unfold sizChk sizR
  rw [if_neg (fun e => e hp), if_neg (fun e => e (by omega))]
  exact short_sizL h
theorem short_tunR {p : List Int} {Mp : List (List Int)} {G : List (List Rat)} (hp : primeChk p = 0) (hl : G.length = Mp.length) (h : ∀ l ∈ G, l.length = p.length ∧ ∀ q ∈ l, short30 q) : tunR 0 p Mp G = 0 := by
  unfold tunR sizAll
  rw [if_neg (fun e => e rfl), if_neg (fun e => e (by omega)), if_neg (fun e => e hp)]
  induction G generalizing Mp with
  | nil => rfl
  | cons a G ih =>
    obtain ⟨h1, h2⟩ := h a (by simp)
    have ha : sizR p.length a = 0 := by
      unfold sizR
      rw [if_neg (fun e => e (by omega))]
      exact short_sizL h2
    rw [sizG, if_neg (fun e => e ha)]
    exact ih (Mp := List.replicate G.length []) (by simp) (fun l hl => h l (by simp [hl]))
theorem getD_tw {A : Nat} {G : List (List Rat)} (hG : ∀ l ∈ G, ∀ q ∈ l, Tw A q) (i c : Nat) : Tw A ((G.getD i []).getD c 0) := by
  rcases Nat.lt_or_ge i G.length with hi | hi
  · have e : G.getD i [] = G[i] := by rw [List.getD_eq_getElem?_getD, List.getElem?_eq_getElem hi, Option.getD_some]
    rw [e]
    rcases Nat.lt_or_ge c G[i].length with hc | hc
    · have e2 : G[i].getD c 0 = G[i][c] := by rw [List.getD_eq_getElem?_getD, List.getElem?_eq_getElem hc, Option.getD_some]
      rw [e2]
      exact hG _ (List.getElem_mem hi) _ (List.getElem_mem hc)
    · rw [List.getD_eq_getElem?_getD, List.getElem?_eq_none hc]
      exact Tw.zero.mono (Nat.zero_le _)
  · have e : G.getD i [] = [] := by rw [List.getD_eq_getElem?_getD, List.getElem?_eq_none hi]; rfl
    rw [e]
    exact Tw.zero.mono (Nat.zero_le _)
theorem rats_getD (l : List Int) (i : Nat) : (ratsL l).getD i 0 = ((l.getD i 0 : Int) : Rat) := by
  unfold ratsL
  rcases Nat.lt_or_ge i l.length with hi | hi
  · rw [List.getD_eq_getElem?_getD, List.getElem?_map, List.getElem?_eq_getElem hi, List.getD_eq_getElem?_getD, List.getElem?_eq_getElem hi]; rfl
  · rw [List.getD_eq_getElem?_getD, List.getElem?_map, List.getElem?_eq_none hi, List.getD_eq_getElem?_getD, List.getElem?_eq_none hi]; rfl
theorem accR_tw {A B : Nat} {G : List (List Rat)} {zs : List Int} (hG : ∀ l ∈ G, ∀ q ∈ l, Tw A q) (hz : bndL B zs) (c : Nat) : ∀ i, Tw (i * (A * B)) (accR G (ratsL zs) c i)
  | 0 => Tw.zero.mono (Nat.zero_le _)
  | i + 1 => by
    have ih := accR_tw hG hz c i
    have hb : (zs.getD i 0).natAbs ≤ B := by
      rcases Nat.lt_or_ge i zs.length with hi | hi
      · rw [getD_at hi]; exact bndL_at hz hi
      · rw [List.getD_eq_getElem?_getD, List.getElem?_eq_none hi]; exact Nat.zero_le _
    rw [accR, rats_getD]
    refine (ih.add ((getD_tw hG i c).mulInt hb)).mono ?_
    rw [Nat.add_mul, Nat.one_mul]
    exact Nat.le_refl _
/-- A right tuning of sizes of few twelfths. -/
structure Nice (P : Program) (p : List Int) (C Mp : List (List Int)) (G : List (List Rat)) : Prop where
  K : TunK P p C Mp G 0 5
  prime : primeChk p = 0
  len : G.length = Mp.length
  rows : ∀ l ∈ G, l.length = p.length ∧ ∀ q ∈ l, Tw 480 q
  four : Mp.length ≤ 4
  plen : p.length ≤ 4
section
variable {p x : List Int} {C Mp : List (List Int)} {G : List (List Rat)}
theorem Nice.tun (h : Nice Tryz.prog p C Mp G) : tunR 0 p Mp G = 0 := short_tunR h.prime h.len (fun l hl => ⟨(h.rows l hl).1, fun q hq => tw_short (((h.rows l hl).2 q hq).mono (by omega))⟩)
theorem mon_row (h : monChk p x = 0) : begR 0 p [x] = 0 := by
  obtain ⟨h1, h2⟩ := mon_len h
  have hb : x.any (fun n => !(fitsB n)) = false := by
    rw [List.any_eq_false]
    intro z hz
    have := h2 z hz
    unfold fitsB
    rw [decide_eq_true (by omega)]
    simp
  have hl : x.length ≤ 6 := by
    have hp : primeChk p = 0 := by
      unfold monChk at h
      by_cases h1 : primeChk p = 0
      · exact h1
      · rw [if_pos h1] at h; exact absurd h h1
    unfold primeChk at hp
    by_cases h3 : p.length = 0
    · omega
    · rw [if_neg h3] at hp
      by_cases h4 : 6 < p.length
      · rw [if_pos h4] at hp; omega
      · omega
  unfold begR
  rw [if_neg (fun e => e rfl), rowsChk, rowsChk]
  have hr : rowChk x = 0 := by unfold rowChk; rw [if_neg (fun e => e.elim (by omega) (by rw [hb]; simp))]
  rw [if_neg (fun e => e hr), if_neg (fun e => e (by omega))]
theorem Nice.err (h : Nice Tryz.prog p C Mp G) : temErr 0 p x Mp G = if monChk p x ≠ 0 then monChk p x else if (dots x Mp).all fitsB = true then 0 else 4 := by
  unfold temErr
  rw [if_neg (fun e => e h.tun)]
  by_cases hm : monChk p x = 0
  · have hb := mon_row hm
    simp [hm, hb]
  · rw [if_pos hm, if_pos hm]
theorem fits_bndL (h : (dots x Mp).all fitsB = true) : bndL 1000000000 (dots x Mp) := fun z hz => by
  have := of_decide_eq_true (List.all_eq_true.1 h z hz)
  omega
theorem Nice.tem (h : Nice Tryz.prog p C Mp G) (hf : (dots x Mp).all fitsB = true) : ∀ q ∈ temS p x Mp G, Tw 1920000000000 q := fun q hq => by
  obtain ⟨c, _, rfl⟩ := List.mem_map.1 hq
  refine (accR_tw (fun l hl => (h.rows l hl).2) (fits_bndL hf) c G.length).mono ?_
  have h1 := h.len
  have h2 := h.four
  have := Nat.mul_le_mul_right (480 * 1000000000) (show G.length ≤ 4 by omega)
  omega
theorem Nice.of (h : Nice Tryz.prog p C Mp G) (hm : monChk p x = 0) (hf : (dots x Mp).all fitsB = true) : ofR 0 p x Mp G = .tup [szS (temS p x Mp G), .v (.int .i64 0)] := by
  have he : temErr 0 p x Mp G = 0 := by rw [h.err, if_neg (fun e => e hm), if_pos hf]
  have hs : sizChk p (temS p x Mp G) = 0 := short_sizChk h.prime (temS_len _ _ _ _) (fun q hq => tw_short ((h.tem hf q hq).mono (by omega)))
  unfold ofR resR
  rw [if_neg (fun e => e he), if_neg (fun e => e hs)]
theorem subL_tw {s : List Rat} {A B : Nat} (hs : ∀ q ∈ s, Tw A q) (hx : bndL B x) : ∀ q ∈ subL s x, Tw (A + B * 12) q := fun q hq => by
  unfold subL subJ at hq
  obtain ⟨i, hi, rfl⟩ := List.mem_map.1 hq
  have hi := List.mem_range.1 hi
  rw [if_pos hi]
  have hb : (x.getD i 0).natAbs ≤ B := by
    rcases Nat.lt_or_ge i x.length with hi | hi
    · rw [getD_at hi]; exact bndL_at hx hi
    · rw [List.getD_eq_getElem?_getD, List.getElem?_eq_none hi]; exact Nat.zero_le _
  have e : s.getD i 0 = s[i] := by rw [List.getD_eq_getElem?_getD, List.getElem?_eq_getElem hi, Option.getD_some]
  rw [e, Rat.sub_eq_add_neg, ← Rat.intCast_neg]
  exact (hs _ (List.getElem_mem hi)).add (Tw.int (by rw [Int.natAbs_neg]; exact hb))
theorem subL_len (s : List Rat) (x : List Int) : (subL s x).length = s.length := subJ_len _ _ _
theorem Nice.error (h : Nice Tryz.prog p C Mp G) (hm : monChk p x = 0) (hf : (dots x Mp).all fitsB = true) : errR 0 p x Mp G = .tup [szS (subL (temS p x Mp G) x), .v (.int .i64 0)] := by
  have he : temErr 0 p x Mp G = 0 := by rw [h.err, if_neg (fun e => e hm), if_pos hf]
  have hs : sizChk p (subL (temS p x Mp G) x) = 0 := short_sizChk h.prime (by rw [subL_len]; exact temS_len _ _ _ _) (fun q hq => tw_short ((subL_tw (h.tem hf) (mon_len hm).2 q hq).mono (by omega)))
  unfold errR resR
  rw [if_neg (fun e => e he), if_neg (fun e => e hs)]
end
end Go.Proofs.YtlbhgejbfhhipaaGreatDoor

/- Walks: tunings of plans are right; the meantone tuning of the chapter's example. -/
namespace Go.Proofs.YtlbhgejbfhhipaaGreatDoor
open Go Go.Am Go.Lib Go.Sp Z1 Z2 Z3 Z4 Z5 Z6
theorem tw_cr {q : Rat} (h : Tw 480 q) : Cr 5 q := by
  obtain ⟨h1, h2⟩ := h.short
  exact ⟨by omega, by omega⟩
theorem nice_of {p : List Int} {C Mp : List (List Int)} {G : List (List Rat)} (hc : OkP (laiOf Tryz.prog) Tryz.prog 88 [tmpS p C Mp] (.v (.int .i64 0))) (hp : primeChk p = 0) (hs : small64L p) (h4 : p.length ≤ 4) (hf : Few p.length Mp) (hm : Mp.length ≤ 4) (hl : G.length = Mp.length) (hG : ∀ l ∈ G, l.length = p.length ∧ ∀ q ∈ l, Tw 480 q) : Nice Tryz.prog p C Mp G :=
  ⟨⟨hc, hs, by omega, fun l hl => ⟨fun q hq => short_okQ (tw_short (((hG l hl).2 q hq).mono (by omega))), by have := (hG l hl).1; omega⟩, by omega, fun _ => ⟨hf.rect, by omega, fun r hr z hz => by have := of_decide_eq_true (hf.fits r hr z hz); omega⟩, fun _ l hl q hq => tw_cr ((hG l hl).2 q hq), by omega, by omega⟩, hp, hl, hG, hm, h4⟩
theorem denP_dvd (d : Int) (h : 0 ≤ d) : denP d ∣ 12 := by
  have b1 := Int.tmod_lt_of_pos d (show (0 : Int) < 6 by decide)
  have b2 := Int.tmod_nonneg 6 h
  have key : ∀ k, k < 6 → denL.getD k 1 ∣ 12 := by decide
  exact key _ (by omega)
theorem fracP_tw {x : Int × Int} (h : 0 ≤ x.2) : Tw 480 (fracP x) := by
  have b1 := Int.tmod_lt_of_pos x.1 (show (0 : Int) < 41 by decide)
  have b2 := Int.lt_tmod_of_pos x.1 (show (0 : Int) < 41 by decide)
  exact Tw.norm _ (denP_dvd _ h) (by omega)
theorem sizeP_tw {l : List (Int × Int)} (h : okPts l) (n : Nat) : ∀ q ∈ sizeP l n, Tw 480 q := fun q hq => by
  obtain ⟨i, _, rfl⟩ := List.mem_map.1 hq
  have h4 : i % 4 < l.length := by rw [h.1]; omega
  have e : l.getD (i % 4) (0, 0) = l[i % 4] := by rw [List.getD_eq_getElem?_getD, List.getElem?_eq_getElem h4, Option.getD_some]
  rw [e]
  exact fracP_tw (h.2 _ (List.getElem_mem h4)).2.1
theorem gensP_rows {L : List (List (Int × Int))} (h : okGns L) (n m : Nat) : ∀ l ∈ gensP n m L, l.length = n ∧ ∀ q ∈ l, Tw 480 q := fun l hl => by
  obtain ⟨i, _, rfl⟩ := List.mem_map.1 hl
  have h4 : i % 4 < L.length := by rw [h.1]; omega
  have e : L.getD (i % 4) [] = L[i % 4] := by rw [List.getD_eq_getElem?_getD, List.getElem?_eq_getElem h4, Option.getD_some]
  rw [e]
  exact ⟨sizeP_len _ _, sizeP_tw (h.2 _ (List.getElem_mem h4)) n⟩
/-- What a plan holds. -/
structure Plan where
  pr : Int
  R : List (List Int)
  b : Bool
  L : List (List (Int × Int))
structure Plan.Ok (q : Plan) : Prop where
  pr : 0 ≤ q.pr ∧ q.pr ≤ 255
  rows : okRws q.R
  gens : okGns q.L
def Plan.p (q : Plan) : List Int := prP q.pr
def Plan.C (q : Plan) : List (List Int) := comM q.b q.p.length (plM q.p.length q.R)
def Plan.Mp (q : Plan) : List (List Int) := mapM q.b q.p.length (plM q.p.length q.R)
def Plan.G (q : Plan) : List (List Rat) := gensP q.p.length q.Mp.length q.L
def Plan.av (q : Plan) : List AV := pln24 q.pr q.R q.b q.L
theorem Plan.Ok.make {q : Plan} (h : q.Ok) : OkP (laiOf Tryz.prog) Tryz.prog 15 [.agg q.av] (tunS q.p q.C q.Mp q.G) := make24_ok q.pr q.R q.b q.L h.pr h.rows h.gens
theorem Plan.Ok.tiny {q : Plan} (h : q.Ok) : Tiny q.p.length (plM q.p.length q.R) := plM_tiny (prP_ok q.pr h.pr.1).2.2.1 (prP_ok q.pr h.pr.1).2.2.2 h.rows
theorem Plan.Ok.tmp {q : Plan} (h : q.Ok) : TmpOK q.p q.C q.Mp ∧ kernM q.p.length q.C = q.Mp := h.tiny.ok q.b (prP_ok q.pr h.pr.1).1 (prP_ok q.pr h.pr.1).2.1 rfl
theorem Plan.Ok.chk {q : Plan} (h : q.Ok) : OkP (laiOf Tryz.prog) Tryz.prog 88 [tmpS q.p q.C q.Mp] (.v (.int .i64 0)) := by
  have := tchk_ok h.tmp.1
  rw [if_pos h.tmp.2] at this
  exact this
theorem Plan.Ok.nice {q : Plan} (h : q.Ok) : Nice Tryz.prog q.p q.C q.Mp q.G :=
  nice_of h.chk (prP_ok q.pr h.pr.1).1 (prP_ok q.pr h.pr.1).2.1 (prP_ok q.pr h.pr.1).2.2.2 (h.tiny.map q.b) (h.tiny.map_len q.b) (gensP_len _ _ _) (gensP_rows h.gens _ _)
def mtP : List Int := [2, 3, 5]
def mtC : List (List Int) := [[4, -4, 1]]
def mtM : List (List Int) := [[1, 0, -4], [0, 1, 4]]
def mtG : List (List Rat) := [[((1 : Int) : Rat), ((0 : Int) : Rat), ((0 : Int) : Rat)], [((1 : Int) : Rat), ((0 : Int) : Rat), Rat.normalize 1 4 (by decide)]]
theorem mt_kern : kernM 3 mtC = mtM ∧ kernM 3 mtM = mtC := by decide +kernel
theorem mt_tmp : TmpOK mtP mtC mtM := by
  obtain ⟨h1, h2⟩ := mt_kern
  refine ⟨by decide, by unfold small64L; decide, by decide, ?_, ?_, by decide, ?_, ?_, ?_⟩
  · have := (kernM_ok (n := 3) (M := mtM)).1
    rw [h2] at this; exact this
  · exact ⟨by decide, by decide, by unfold Rect; decide, by decide⟩
  · show kernM 3 (kernM 3 mtC) = mtC
    rw [h1, h2]
  · show fitsM (kernM 3 mtC) = true
    rw [h1]; decide
  · exact ⟨by decide, by decide⟩
theorem mt_nice : Nice Tryz.prog mtP mtC mtM mtG := by
  have hc := tchk_ok mt_tmp
  rw [if_pos (show kernM mtP.length mtC = mtM from mt_kern.1)] at hc
  refine nice_of hc (by decide) mt_tmp.small (by decide) ⟨by decide, by decide, by unfold Rect; decide, by decide⟩ (by decide) rfl (fun l hl => ?_)
  have hz : ∀ z : Int, z.natAbs ≤ 1 → Tw 480 (z : Rat) := fun z hz => (Tw.int hz).mono (by omega)
  have hq : Tw 480 (Rat.normalize 1 4 (by decide)) := Tw.norm _ (by decide) (by decide)
  unfold mtG at hl
  simp only [List.mem_cons, List.not_mem_nil, or_false] at hl
  rcases hl with rfl | rfl
  · exact ⟨rfl, fun q hq2 => by
      simp only [List.mem_cons, List.not_mem_nil, or_false] at hq2
      rcases hq2 with rfl | rfl | rfl
      · exact hz 1 (by decide)
      · exact hz 0 (by decide)
      · exact hz 0 (by decide)⟩
  · exact ⟨rfl, fun q hq2 => by
      simp only [List.mem_cons, List.not_mem_nil, or_false] at hq2
      rcases hq2 with rfl | rfl | rfl
      · exact hz 1 (by decide)
      · exact hz 0 (by decide)
      · exact hq⟩
set_option maxRecDepth 10000 in
theorem meantone_ok : OkP (laiOf Tryz.prog) Tryz.prog 59 [] (tunS mtP mtC mtM mtG) := by
  have w0 := lwhole_ok 0 (by omega)
  have w1 := lwhole_ok 1 (by omega)
  have w4 := lpart_ok 1 4 (by decide) (by omega) (by omega)
  have hnt := nr_tunS mtP mtC mtM mtG
  refine okp_intro hT 22 Tryz.func59 rfl rfl rfl (Nat.le_of_ble_eq_true rfl) hnt ?_
  intro w0' F0 I
  repeat (first|refine z2 ?_|refine z1 ?_|refine z3 ?_|refine z4 ?_|refine z5 ?_)
  refine zc w0 ?_ (hs := by exact .cons (.refl trivial) .nil) (hr := by exact .inl ⟨trivial, trivial, trivial⟩)
  refine zc w1 ?_ (hs := by exact .cons (.refl trivial) .nil) (hr := by exact .inl ⟨trivial, trivial, trivial⟩)
  repeat (first|refine z2 ?_|refine z1 ?_|refine z3 ?_|refine z4 ?_|refine z5 ?_)
  refine awp_region_draw [] hmix (by kernel_rfl) ?_
  repeat (first | refine al_litF hT rfl rfl rfl rfl rfl rfl rfl rfl rfl ?_ | refine z2 ?_)
  refine zc w4 ?_ (hs := by exact .cons (.refl trivial) (.cons (.refl trivial) .nil)) (hr := by exact .inl ⟨trivial, trivial, trivial⟩)
  repeat (first | refine al_litF hT rfl rfl rfl rfl rfl rfl rfl rfl rfl ?_ | refine z2 ?_)
  repeat (first|refine z2 ?_|refine z1 ?_|refine z3 ?_|refine z4 ?_|refine z5 ?_)
  exact awp_ret ⟨.inl rfl, ret_one rfl (.refl (x := tunS mtP mtC mtM mtG) hnt)⟩
theorem mt_err1 : monChk mtP [-1, 1, 0] = 0 ∧ (dots [-1, 1, 0] mtM).all fitsB = true ∧ subL (temS mtP [-1, 1, 0] mtM mtG) [-1, 1, 0] = [((1 : Int) : Rat), ((-1 : Int) : Rat), Rat.normalize 1 4 (by decide)] := by decide +kernel
theorem mt_err2 : monChk mtP [-2, 0, 1] = 0 ∧ (dots [-2, 0, 1] mtM).all fitsB = true ∧ subL (temS mtP [-2, 0, 1] mtM mtG) [-2, 0, 1] = [((0 : Int) : Rat), ((0 : Int) : Rat), ((0 : Int) : Rat)] := by decide +kernel
theorem mt_pure : monChk mtP (unitR 3 0) = 0 ∧ (dots (unitR 3 0) mtM).all fitsB = true ∧ temS mtP (unitR 3 0) mtM mtG = ratsL (unitR 3 0) := by decide +kernel
theorem mt_text : tunT mtP mtG = ⟨#[50, 44, 32, 50, 32, 53, 94, 40, 49, 47, 52, 41]⟩ := by decide +kernel
end Go.Proofs.YtlbhgejbfhhipaaGreatDoor

/- Walks: the chapter's examples are known. -/
namespace Go.Proofs.YtlbhgejbfhhipaaGreatDoor
open Go Go.Am Go.Lib Go.Sp Z1 Z2 Z3 Z4 Z5 Z6
section
variable {κ : Cx} {st : AS} {own : List Nat} {K : AS → Prop} {ops : Array Oper} {k : Nat} {o : Oper} {l : List Oper} {j dj : Nat} {b g : Bool} {d : Nat}
/-- A guarded comparison whose answer is known. -/
theorem zk {v w : Bool} {C : Prop} (hv2 : v = w) (h : AL Tryz.prog κ ops own K (k + 1) l (st.put (some d) (.v (.bool w)))) (hg : o.guard = some (j, b) := by exact rfl) (hj : (ops[j]?).bind (·.dst) = some dj := by exact rfl) (hv : guardOf st dj b = some g := by exact rfl) (hgt : g = true := by exact rfl) (hp : pureOp T st o.op = some (C, .v (.bool v)) := by exact rfl) (hC : C := by first | exact True.intro | exact rfl) (hd : o.dst = some d := by exact rfl) (hN : Nat.blt d κ.N = true := by exact rfl) : AL Tryz.prog κ ops own K k (o :: l) st :=
  al_on hT hg hj hv hgt (by rw [hp, hv2]) hd hN hC h
end
theorem ke (a b : Rat) (h : a = b) : ((zS a.num == zS b.num) && (zS (a.den : Int) == zS (b.den : Int))) = true := by rw [rat_beq]; exact decide_eq_true h
set_option maxRecDepth 100000 in
set_option maxHeartbeats 2000000 in
theorem known_ok : OkP (laiOf Tryz.prog) Tryz.prog 13 [] (.v (.bool true)) := by
  obtain ⟨a1, a2, a3⟩ := mt_err1
  obtain ⟨b1, b2, b3⟩ := mt_err2
  obtain ⟨c1, c2, c3⟩ := mt_pure
  have h1 := terr_ok (x := [-1, 1, 0]) mt_nice.K (by decide)
  rw [mt_nice.error a1 a2, a3] at h1
  have h2 := terr_ok (x := [-2, 0, 1]) mt_nice.K (by decide)
  rw [mt_nice.error b1 b2, b3] at h2
  have h1 : OkP (laiOf Tryz.prog) Tryz.prog 17 [tunS mtP mtC mtM mtG, rowS [-1, 1, 0]] (.tup [.sl 2 3 (szC [((1 : Int) : Rat), ((-1 : Int) : Rat), Rat.normalize 1 4 (by decide)]), .v (.int .i64 0)]) := h1
  have h2 : OkP (laiOf Tryz.prog) Tryz.prog 17 [tunS mtP mtC mtM mtG, rowS [-2, 0, 1]] (.tup [.sl 2 3 (szC [((0 : Int) : Rat), ((0 : Int) : Rat), ((0 : Int) : Rat)]), .v (.int .i64 0)]) := h2
  have h3 := pure_ok mt_nice.K (by decide) (by rw [mt_nice.err, if_neg (fun e => e c1), if_pos (by exact c2)])
  rw [decide_eq_true (by exact c3)] at h3
  have h4 := ttext_ok mt_nice.K mt_nice.tun
  rw [mt_text] at h4
  have hm := meantone_ok
  have w0 := lwhole_ok 0 (by omega)
  have w1 := lwhole_ok 1 (by omega)
  have wm := lwhole_ok (-1) (by omega)
  have w4 := lpart_ok 1 4 (by decide) (by omega) (by omega)
  have hnt := nr_tunS mtP mtC mtM mtG
  have hr1 := nr_rowS [-1, 1, 0]
  have hr2 := nr_rowS [-2, 0, 1]
  refine okp_intro hT 99 Tryz.func13 rfl rfl rfl (Nat.le_of_ble_eq_true rfl) trivial ?_
  intro w0' F0 I
  repeat (first|refine z2 ?_|refine z1 ?_|refine z3 ?_|refine z4 ?_|refine z5 ?_)
  refine zs hm ?_ (hs := by exact .nil) (hr := by exact ⟨trivial, rfl⟩)
  repeat (first|refine z2 ?_|refine z1 ?_|refine z3 ?_|refine z4 ?_|refine z5 ?_)
  refine al_litF hT rfl rfl rfl rfl rfl rfl rfl rfl rfl ?_
  refine zs h1 ?_ (hs := by exact .cons (.refl (x := tunS mtP mtC mtM mtG) hnt) (.cons (.refl (x := rowS [-1, 1, 0]) hr1) .nil)) (hr := by exact ⟨⟨hnt, hr1, trivial⟩, rfl⟩)
  repeat (first|refine z2 ?_|refine z1 ?_|refine z3 ?_|refine z4 ?_|refine z5 ?_)
  refine al_litF hT rfl rfl rfl rfl rfl rfl rfl rfl rfl ?_
  refine zs h2 ?_ (hs := by exact .cons (.refl (x := tunS mtP mtC mtM mtG) hnt) (.cons (.refl (x := rowS [-2, 0, 1]) hr2) .nil)) (hr := by exact ⟨⟨hnt, hr2, trivial⟩, rfl⟩)
  repeat (first|refine z2 ?_|refine z1 ?_|refine z3 ?_|refine z4 ?_|refine z5 ?_)
  refine zc h3 ?_ (hs := by exact .cons (.refl (x := tunS mtP mtC mtM mtG) hnt) .nil) (hr := by exact .inl ⟨trivial, trivial, trivial⟩)
  repeat (first|refine z2 ?_|refine z1 ?_|refine z3 ?_|refine z4 ?_|refine z5 ?_)
  refine zc h4 ?_ (hs := by exact .cons (.refl (x := tunS mtP mtC mtM mtG) hnt) .nil) (hr := by exact .inl ⟨trivial, trivial, trivial⟩)
  repeat (first|refine z2 ?_|refine z1 ?_|refine z3 ?_|refine z4 ?_|refine z5 ?_)
  refine awp_region_draw [] hmix (by kernel_rfl) ?_
  have hdA : (0 == 0) = true := rfl
  repeat (first|refine z2 ?_|refine z1 ?_|refine z3 ?_|refine z4 ?_|refine z5 ?_|refine z8 ?_|refine z9 ?_)
  refine zo w1 ?_ (hgt := by exact rfl) (hs := by exact .cons (.refl trivial) .nil) (hr := by exact .inl ⟨trivial, trivial, trivial⟩)
  refine zk (ke ((1 : Int) : Rat) ((1 : Int) : Rat) rfl) ?_
  repeat (first|refine z2 ?_|refine z1 ?_|refine z3 ?_|refine z4 ?_|refine z5 ?_|refine z8 ?_|refine z9 ?_)
  refine zo wm ?_ (hgt := by exact rfl) (hs := by exact .cons (.refl trivial) .nil) (hr := by exact .inl ⟨trivial, trivial, trivial⟩)
  refine zk (ke ((-1 : Int) : Rat) ((-1 : Int) : Rat) rfl) ?_
  repeat (first|refine z2 ?_|refine z1 ?_|refine z3 ?_|refine z4 ?_|refine z5 ?_|refine z8 ?_|refine z9 ?_)
  refine zo w4 ?_ (hgt := by exact rfl) (hs := by exact .cons (.refl trivial) (.cons (.refl trivial) .nil)) (hr := by exact .inl ⟨trivial, trivial, trivial⟩)
  refine zk (ke (Rat.normalize 1 4 (by decide)) (Rat.normalize 1 4 (by decide)) rfl) ?_
  repeat (first|refine z2 ?_|refine z1 ?_|refine z3 ?_|refine z4 ?_|refine z5 ?_|refine z8 ?_|refine z9 ?_)
  refine zo w0 ?_ (hgt := by exact rfl) (hs := by exact .cons (.refl trivial) .nil) (hr := by exact .inl ⟨trivial, trivial, trivial⟩)
  refine zk (ke ((0 : Int) : Rat) ((0 : Int) : Rat) rfl) ?_
  repeat (first|refine z2 ?_|refine z1 ?_|refine z3 ?_|refine z4 ?_|refine z5 ?_|refine z8 ?_|refine z9 ?_)
  refine zo w0 ?_ (hgt := by exact rfl) (hs := by exact .cons (.refl trivial) .nil) (hr := by exact .inl ⟨trivial, trivial, trivial⟩)
  refine zk (ke ((0 : Int) : Rat) ((0 : Int) : Rat) rfl) ?_
  refine z2 ?_
  refine z2 ?_
  refine z8 ?_
  refine z2 ?_
  refine z2 ?_
  refine z8 ?_
  refine z8 ?_
  refine z2 ?_
  refine z2 ?_
  refine z8 ?_
  refine zk (beq_self_eq_true (α := List UInt8) _) ?_
  repeat (first|refine z2 ?_|refine z1 ?_|refine z3 ?_|refine z4 ?_|refine z5 ?_|refine z8 ?_|refine z9 ?_)
  repeat (first|refine z2 ?_|refine z1 ?_|refine z3 ?_|refine z4 ?_|refine z5 ?_)
  (exact awp_ret ⟨.inl rfl, ret_one rfl (.refl (by first | trivial | exact nrl_u64s _))⟩)
end Go.Proofs.YtlbhgejbfhhipaaGreatDoor

/- Walks: the statement on tempered sizes and errors of intervals. -/
namespace Go.Proofs.YtlbhgejbfhhipaaGreatDoor
open Go Go.Am Go.Lib Go.Sp Z1 Z2 Z3 Z4 Z5 Z6
theorem Plan.fits {Λ : Lai} (q : Plan) : OkP Λ Tryz.prog 14 [.agg q.av] (.v (.bool (decide ((q.R.length : Int) ≤ 3)))) := fits24_ok q.pr q.R q.b q.L
/-- The bounds of what the type of a plan lets in. -/
structure Plan.In (q : Plan) : Prop where
  pr : 0 ≤ q.pr ∧ q.pr ≤ 255
  rows : ∀ r ∈ q.R, okRw r
  gens : okGns q.L
end Go.Proofs.YtlbhgejbfhhipaaGreatDoor

/- What the rows of this program share: the listed variables, a world that holds them, and how the arguments read. -/
namespace Go.Proofs.YtlbhgejbfhhipaaGreatDoor
open Go Go.Am Go.Lib Go.Sp Z1 Z2 Z3 Z4 Z5 Z6
theorem ownK : ownKnob Tryz.prog.godebug = none := by kernel_rfl
theorem laidO : laidOutB Tryz.prog = true := by kernel_rfl
theorem glS : Tryz.prog.globalNamed "strconv.ErrSyntax" = some 0 := by kernel_rfl
theorem glR : Tryz.prog.globalNamed "strconv.ErrRange" = some 1 := by kernel_rfl
theorem glP : Tryz.prog.globalNamed "internal/strconv.uint64pow10" = some 3 := by kernel_rfl
theorem gtS : (Tryz.prog.globals[0]?).map (·.type) = some 155 := by kernel_rfl
theorem gtR : (Tryz.prog.globals[1]?).map (·.type) = some 155 := by kernel_rfl
theorem gtP : (Tryz.prog.globals[3]?).map (·.type) = some 313 := by kernel_rfl
abbrev laidL : List (String × DataW Unit) := [("math/bits.deBruijn32tab", Rows.laid_math_bits_deBruijn32tab), ("math/bits.deBruijn64tab", Rows.laid_math_bits_deBruijn64tab), ("internal/strconv.uint64pow10", Rows.laid_internal_strconv_uint64pow10), ("strconv.ErrRange", Rows.laid_strconv_ErrRange), ("strconv.ErrSyntax", Rows.laid_strconv_ErrSyntax)]
theorem met_tail {P : Program} {w : World} {x : String × DataW Unit} {l : List (String × DataW Unit)} (h : laidMet P (x :: l) w) : laidMet P l w := by
  obtain ⟨ps, ⟨g, t, cs, fuel, p, q, _, _, _, _, hq, rfl⟩, hn, hc⟩ := h
  exact ⟨q, hq, (List.nodup_append.1 hn).2.1, fun b off hp => hc b off (List.mem_append_right _ hp)⟩
theorem met_iface {P : Program} {w : World} {n : String} {s : String} {d : DataW Unit} {l : List (String × DataW Unit)} {g : Nat} {t : TypeId} {ms : Array (String × TypeId)} (hg : P.globalNamed n = some g) (hgt : (P.globals[g]?).map (·.type) = some t) (ht : P.underlying t = some (.interface ms)) (h : laidMet P ((n, .iface s d) :: l) w) : ∃ u v, w.var? P n = some #[.iface u v] := by
  obtain ⟨ps, ⟨g', t', cs, fuel, p, q, hg', ht', hv, hd, _, _⟩, _⟩ := h
  obtain rfl := Option.some.inj (hg.symm.trans hg')
  obtain rfl := Option.some.inj (hgt.symm.trans ht')
  obtain ⟨_, u, v, hc, _⟩ := iface_of_trod ht hd
  refine ⟨u, v, ?_⟩
  rw [hv]
  congr 1
  cases cs; simp at hc; simp [hc]
set_option maxRecDepth 100000 in
theorem lai_of {w : World} (h : laidMetH Tryz.prog laidL w) : (laiOf Tryz.prog).L w := by
  have h1 : laidMet Tryz.prog laidL w := h
  have h2 : laidMet Tryz.prog (("internal/strconv.uint64pow10", Rows.laid_internal_strconv_uint64pow10) :: ("strconv.ErrRange", Rows.laid_strconv_ErrRange) :: ("strconv.ErrSyntax", Rows.laid_strconv_ErrSyntax) :: []) w := met_tail (met_tail h1)
  have e : (Rows.laid_internal_strconv_uint64pow10 : DataW Unit) = Lib.tabData .u64 Lib.pow10Tab := by kernel_rfl
  rw [e] at h2
  exact ⟨tabIs_of_head glP gtP Tryz.underlying313 Tryz.underlying12 (by kernel_rfl) (by kernel_rfl) h2, met_iface glS gtS Tryz.underlying155 (met_tail (met_tail h2)), met_iface glR gtR Tryz.underlying155 (met_tail h2)⟩
theorem size_of {w : World} (h : w.ShapedOpen Tryz.prog) : (laiOf Tryz.prog).G ≤ w.heap.size := by
  have hlt : Tryz.prog.globals.size < (begin Tryz.prog (fun _ _ => 0) default).world.heap.size := Nat.le_of_ble_eq_true (by kernel_rfl)
  obtain ⟨o, _, ho, _⟩ := h.2 _ (Nat.le_refl _) hlt
  have := (Array.getElem?_eq_some_iff.1 ho).1
  show Tryz.prog.globals.size ≤ _
  omega
/-- A world for the witnesses: the settled one with two blocks more, the five variables holding what their initialisers lay. -/
noncomputable def laidWorld (os : Os) : World :=
  let N := (World.settled Tryz.prog os).heap.size
  let w0 := World.holding Tryz.prog os ⟨#[.cells #[.string ⟨#[118, 97, 108, 117, 101, 32, 111, 117, 116, 32, 111, 102, 32, 114, 97, 110, 103, 101]⟩] 328, .cells #[.string ⟨#[105, 110, 118, 97, 108, 105, 100, 32, 115, 121, 110, 116, 97, 120]⟩] 328], #[], []⟩
  let put (h : Array Obj) (g : Nat) (cs : Array Value) : Array Obj := h.modify g fun
    | .cells _ t frozen => .cells cs t frozen
    | o => o
  let tab (k : IntKind) (d : DataW Unit) : Array Value := match d with
    | .agg l => (l.map fun x => match x with | .lit (.int _ n) => Value.int k n | _ => undef).toArray
    | _ => #[]
  let h1 := put w0.heap 4 (tab .u8 Rows.laid_math_bits_deBruijn32tab)
  let h2 := put h1 5 (tab .u8 Rows.laid_math_bits_deBruijn64tab)
  let h3 := put h2 3 (tab .u64 Rows.laid_internal_strconv_uint64pow10)
  let h4 := put h3 1 #[.iface 326 (.pointer (some ⟨N, 0, none⟩))]
  let h5 := put h4 0 #[.iface 326 (.pointer (some ⟨N + 1, 0, none⟩))]
  { w0 with heap := h5 }
theorem laid_met (os : Os) (args : Array Value) : laidMet Tryz.prog laidL ((laidWorld os).forCall (fun _ _ => 0) ⟨#[], args, []⟩).memory :=
  (LaidIn.of_run (l := laidL) [0, 1, 3, 4, 5, (World.settled Tryz.prog default).heap.size, (World.settled Tryz.prog default).heap.size + 1] 8 (by kernel_rfl) (by kernel_rfl) (by kernel_rfl) (by kernel_rfl)).met
end Go.Proofs.YtlbhgejbfhhipaaGreatDoor

/- How the arguments of the statements read; what a statement's call leaves. -/
namespace Go.Proofs.YtlbhgejbfhhipaaGreatDoor
open Go Go.Am Go.Lib Go.Sp Z1 Z2 Z3 Z4 Z5 Z6
open Go.ChangeShapes Go.WideShapes Go.ChangeAt Go.RowKit
section
variable {H : Type} {enc : TypeId × Value → H} {w : World}
theorem rds_to {α β : Type} {P : Program} {t : TypeId} {f : α → List AV} {Q : α → Prop} {g : β → List AV} {R : β → Prop} (h : Rds enc P w t f Q) (k : ∀ x, Q x → ∃ y, R y ∧ f x = g y) : Rds enc P w t g R := by
  intro fuel cs d hd
  obtain ⟨x, hq, hv⟩ := h fuel cs d hd
  obtain ⟨y, hr, e⟩ := k x hq
  exact ⟨y, hr, by rw [← e]; exact hv⟩
theorem flat_one {α : Type} (f : α → AV) : ∀ X : List α, (X.map fun x => [f x]).flatten = X.map f
  | [] => rfl
  | x :: X => by rw [List.map_cons, List.flatten_cons, flat_one f X]; rfl
theorem rd_rw : Rds enc Tryz.prog w 92 rwC okRw :=
  rds_to (rds_array (n := 4) (sz := 1) Tryz.underlying92 (by kernel_rfl) (by kernel_rfl) (rds_int (k := .i8) Tryz.underlying25)) (fun X h => ⟨X, ⟨h.1, fun z hz => h.2 z hz⟩, by rw [flat_one]; rfl⟩)
theorem rd_part : Rds enc Tryz.prog w 27 partC okPart :=
  rds_to (rds_struct2 Tryz.underlying27 rfl rfl (by kernel_rfl) (by kernel_rfl) (rds_int (k := .i8) Tryz.underlying25) (rds_int (k := .u8) Tryz.underlying5)) (fun x h => ⟨x, ⟨h.1, h.2⟩, rfl⟩)
theorem flat_pts : ∀ X : List (Int × Int), (X.map partC).flatten = ptsC X
  | [] => rfl
  | x :: X => by rw [List.map_cons, List.flatten_cons, flat_pts X]; rfl
theorem rd_pts : Rds enc Tryz.prog w 29 ptsC okPts :=
  rds_to (rds_array (n := 4) (sz := 2) Tryz.underlying29 (by kernel_rfl) (by kernel_rfl) rd_part) (fun X h => ⟨X, h, flat_pts X⟩)
theorem rd_gns : Rds enc Tryz.prog w 30 gnsC okGns :=
  rds_to (rds_array (n := 4) (sz := 8) Tryz.underlying30 (by kernel_rfl) (by kernel_rfl) rd_pts) (fun X h => ⟨X, h, rfl⟩)
theorem rd_pln : Rds enc Tryz.prog w 24 (fun x : Int × List (List Int) × Bool => plnC x.1 x.2.1 x.2.2) (fun x => (0 ≤ x.1 ∧ x.1 ≤ 255) ∧ ∀ r ∈ x.2.1, okRw r) :=
  rds_to (rds_struct3 Tryz.underlying24 rfl rfl (by kernel_rfl) (by kernel_rfl) (by kernel_rfl) (rds_int (k := .u8) Tryz.underlying5)
    (rds_slice (sz := 4) Tryz.underlying22 (by kernel_rfl) (fun x h => by show (rwC x).length = 4; unfold rwC; rw [List.length_map]; exact h.1) rd_rw) (rds_bool Tryz.underlying4)) (fun x h => ⟨x, ⟨h.1, h.2.1.1⟩, rfl⟩)
theorem rd_plan : Rds enc Tryz.prog w 32 Plan.av Plan.In :=
  rds_to (rds_struct2 Tryz.underlying32 rfl rfl (by kernel_rfl) (by kernel_rfl) rd_pln rd_gns) (fun x h => ⟨⟨x.1.1, x.1.2.1, x.1.2.2, x.2⟩, ⟨h.1.1, h.1.2, h.2⟩, rfl⟩)
set_option maxRecDepth 100000 in
theorem arg_plan {v : Value} {d : DataW H} {ps : List MemPlace} {base : Nat} (hv : Value.okWide Tryz.prog w .any base 32 v) (h : DataW.Trod enc Tryz.prog w 0 (fun _ => true) true 32 v d ps) : ∃ q : Plan, q.In ∧ V w (fun b => b < w.heap.size) [] (.agg q.av) v :=
  arg_agg rd_plan Tryz.underlying32 rfl hv h
theorem trods_stay {base : Nat} {W W' : World} {sp : Nat → Bool} (hsame : ∀ p : MemPlace, p.block < W.heap.size → W.sameAt W' p) : ∀ {ts : List TypeId} {vs : List Value} {ds : List (DataW H)} {ps : List MemPlace}, (∀ t ∈ ts, Tryz.prog.readableRec t = true ∧ t < Tryz.prog.types.size) →
    DataW.TrodAll enc Tryz.prog W base (fun _ => true) true ts vs ds ps → (∀ p ∈ ps, p.block < W.heap.size) → (∀ p ∈ ps, sp p.block = true) → DataW.TrodAll enc Tryz.prog W' base sp true ts vs ds ps
  | [], _, _, _, _, h, _, _ => by
    obtain ⟨rfl, rfl, rfl⟩ := trodAll_nil h
    exact rfl
  | t :: ts, _, _, _, ht, h, h1, h2 => by
    obtain ⟨v, vs, d, ds, a, b, rfl, rfl, rfl, g1, g2⟩ := trodAll_cons h
    exact ⟨a, b, WideElems.Trod_stays laidO (ht t (by simp)).1 (ht t (by simp)).2 g1 (fun p hp => hsame p (h1 p (by simp [hp]))) (fun p hp => h2 p (by simp [hp])), trods_stay hsame (fun t ht' => ht t (by simp [ht'])) g2 (fun p hp => h1 p (by simp [hp])) (fun p hp => h2 p (by simp [hp])), rfl⟩
/-- A statement's call: true came back, and nothing that was there is turned. -/
theorem law_done {f : Func} {s : ChangeSpec} {W W' : World} {args : Array Value} {v : Value} {ds gs : List (DataW H)} {before : List MemPlace} (hs : s.vars = []) (hrt : f.resultTypes = #[4]) (hfn : s.fn H (ds ++ []) = { results := [.lit (.bool true)], args := ds })
    (hpar : ∀ t ∈ f.params.toList, Tryz.prog.readableRec t = true ∧ t < Tryz.prog.types.size) (hW : DataW.Whole enc Tryz.prog f.params.toList s.vars false W args.toList ds gs before) (hv : v = .bool true) (hF : Frm (fun _ => False) W W') : s.post enc Tryz.prog f false true false false W args v W' := by
  have hlt := hW.lt
  have hW' := hW
  obtain ⟨p, q, hA, hV, rfl, _, _⟩ := hW
  rw [hs] at hV
  obtain ⟨rfl, rfl⟩ := trodVars_none hV
  have hB : Below W.heap.size W W' := ⟨hF.os, hF.tape, hF.output, hF.size, fun k hk => hF.block k hk id⟩
  subst hv
  refine ⟨ds, [], _, [], p, [], hW', ?_, ?_, ?_, hB.frame _, fun h => by cases h⟩
  · rw [hfn, hrt]; exact trodAll_mk1 (shut_bool Tryz.underlying4 _)
  · rw [hfn]
    simp only [List.append_nil] at hlt
    exact trods_stay (fun p hp => hB.same hp) hpar hA hlt (fun p hp => by simpa using hlt p hp)
  · rw [hfn, hs]; rfl
end
/-- What a contract of a statement's function gives. -/
theorem law_calls {f : Nat} {args : List AV} {us : List Value} {W : World} (h : OkP (laiOf Tryz.prog) Tryz.prog f args (.v (.bool true))) (hL : laidMetH Tryz.prog laidL W) (hS : W.ShapedOpen Tryz.prog) (hv : Vl W (fun b => b < W.heap.size) [] args us) :
    Calls Tryz.prog f us.toArray W fun e W' => e = .returned (.bool true) ∧ Frm (fun _ => False) W W' := by
  refine (h.call W (fun b => b < W.heap.size) us (lai_of hL) (size_of hS) (fun _ h => h) hv).mono fun e W' he => ?_
  obtain ⟨v, rfl, hV, hF⟩ := he
  simp only [V] at hV
  exact ⟨by rw [hV], hF⟩
end Go.Proofs.YtlbhgejbfhhipaaGreatDoor

/- Walks: the size of a tempered interval of a small tuning; the statement on it. -/
namespace Go.Proofs.YtlbhgejbfhhipaaGreatDoor
open Go Go.Am Go.Lib Go.Sp Z1 Z2 Z3 Z4 Z5 Z6
section
variable {κ : Cx} {st : AS} {ops : Array Oper} {own : List Nat} {K : AS → Prop} {k d : Nat} {o : Oper} {l : List Oper}
end
end Go.Proofs.YtlbhgejbfhhipaaGreatDoor

/- Walks: the sign of a size that is 0. -/
namespace Go.Proofs.YtlbhgejbfhhipaaGreatDoor
open Go Go.Am Go.Lib Go.Sp Z1 Z2 Z3 Z4 Z5 Z6
def noGotoQ (Q : Exit → AS → Prop) : Exit → AS → Prop
  | .goto _, _ => False
  | e, st => Q e st
theorem awp_scope {P : Program} {κ : Cx} {c : Code} {st : AS} {Q : Exit → AS → Prop} (h : Awp P κ c st (noGotoQ Q)) : Awp P κ (.scope c) st Q := by
  intro a w R
  refine wp_scope_straight (wp_mono (h a w R) ?_)
  rintro e a' w' ⟨s, hs, hQ⟩
  cases e <;> first | exact hQ.elim | exact ⟨s, hs, hQ⟩
abbrev one1 : AV := .v (.string ⟨#[49]⟩)
theorem okN_one : okN 1 := by unfold okN; rw [numS_one]; decide
theorem dlcm_one : OkP (laiOf Tryz.prog) Tryz.prog 180 [one1, one1] one1 := by
  have hg := gcd_ok 1 1 okN_one okN_one
  have hd := divmod_ok 1 1 okN_one okN_one (by decide)
  have hm := mul_ok 1 1 okN_one okN_one (by rw [Nat.mul_one]; exact okN_one)
  rw [show Nat.gcd 1 1 = 1 from rfl] at hg
  rw [show 1 / 1 = 1 from rfl, show 1 % 1 = 0 from rfl] at hd
  rw [Nat.mul_one] at hm
  rw [numS_one] at hg hd hm
  rw [numS_zero] at hd
  refine okp_intro hT 28 Tryz.func180 rfl rfl rfl (Nat.le_of_ble_eq_true rfl) trivial ?_
  intro w0 F0 I
  have hdA : ((⟨#[49]⟩ : ByteArray).toList == (⟨#[48]⟩ : ByteArray).toList) = false := by rw [← numS_one, num_beq0]; rfl
  repeat (first|refine z2 ?_|refine z1 ?_|refine z3 ?_|refine z4 ?_|refine z5 ?_|refine z8 ?_|refine z9 ?_)
  refine awp_cond rfl (fun h => absurd h (by rw [hdA]; decide)) (fun _ => ?_)
  repeat (first|refine z2 ?_|refine z1 ?_|refine z3 ?_|refine z4 ?_|refine z5 ?_)
  refine zc hg ?_
  refine zc hd ?_ (hr := by exact .inl ⟨trivial, trivial, trivial, trivial⟩)
  repeat (first|refine z2 ?_|refine z1 ?_|refine z3 ?_|refine z4 ?_|refine z5 ?_)
  refine awp_cond rfl (fun h => absurd h (by decide)) (fun _ => ?_)
  repeat (first|refine z2 ?_|refine z1 ?_|refine z3 ?_|refine z4 ?_|refine z5 ?_)
  refine zc hm ?_
  repeat (first|refine z2 ?_|refine z1 ?_|refine z3 ?_|refine z4 ?_|refine z5 ?_)
  (exact awp_ret ⟨.inl rfl, ret_one rfl (.refl (by first | trivial | exact nrl_u64s _))⟩)
theorem lcm_one : OkP (laiOf Tryz.prog) Tryz.prog 144 [one1, one1] one1 := by
  have ha := abs_ok (Λ := laiOf Tryz.prog) 1 okN_one
  have hl := dlcm_one
  rw [zS_one, show (1 : Int).natAbs = 1 from rfl, numS_one] at ha
  refine okp_intro hT 10 Tryz.func144 rfl rfl rfl (Nat.le_of_ble_eq_true rfl) trivial ?_
  intro w0 F0 I
  repeat (first|refine z2 ?_|refine z1 ?_|refine z3 ?_|refine z4 ?_|refine z5 ?_)
  refine zc ha ?_
  repeat (first|refine z2 ?_|refine z1 ?_|refine z3 ?_|refine z4 ?_|refine z5 ?_)
  refine zc ha ?_
  refine zc hl ?_
  repeat (first|refine z2 ?_|refine z1 ?_|refine z3 ?_|refine z4 ?_|refine z5 ?_)
  (exact awp_ret ⟨.inl rfl, ret_one rfl (.refl (by first | trivial | exact nrl_u64s _))⟩)
abbrev nilV : AV := .v (.slice none 0 0)
abbrev rz : List AV := [.v (.string ⟨#[48]⟩), .v (.string ⟨#[49]⟩)]
theorem rz_at {n i j : Nat} (h : i = j * 2) (hj : j < n) : ((szC (List.replicate n (0 : Rat))).drop i).take 2 = rz := by
  rw [szC_at h (by simpa using hj), List.getElem_replicate, rC_zero]
set_option maxRecDepth 10000 in
theorem terms_zero (p : List Int) (n : Nat) (hn : n ≤ 1000000) : OkP (laiOf Tryz.prog) Tryz.prog 94 [rowS p, szS (List.replicate n (0 : Rat))] (.agg [nilV, nilV, one1]) := by
  have hl := lcm_one
  have hnp := nr_rowS p
  have hns := nr_szS (List.replicate n (0 : Rat))
  refine okp_intro hT 66 Tryz.func94 rfl rfl rfl (Nat.le_of_ble_eq_true rfl) ⟨trivial, trivial, trivial, trivial⟩ ?_
  intro w0 F0 I
  have hat : ∀ j, j < n → (((szC (List.replicate n (0 : Rat))).drop ((j : Int).toNat * 2)).take 2 = rz) := fun j hj => rz_at (by omega) hj
  have hdl : ∀ j, j < n → PLift (2 ≤ ((szC (List.replicate n (0 : Rat))).drop ((j : Int).toNat * 2)).length) := fun j hj => ⟨rC_drop_len (j := j) (by omega) (by simpa using hj)⟩
  unfold szS at hns ⊢
  rw [List.length_replicate] at hns ⊢
  generalize szC (List.replicate n (0 : Rat)) = Z at hns hat hdl ⊢
  repeat (first|refine z2 ?_|refine z1 ?_|refine z3 ?_|refine z4 ?_|refine z5 ?_)
  refine awp_loop (fun x : { x : Nat // x ≤ n } => ⟨[(1, .sl 2 n Z), (4, .adr 0 0 0), (5, .adr 1 0 0), (14, .sl 2 n Z), (15, .v (.int .i64 n)), (16, .v (.int .i64 x.1))], [(0, [⟨3, [nilV, nilV, .v (.string ⟨#[]⟩)]⟩]), (1, [⟨3, [nilV, nilV, one1]⟩])], 2⟩) (fun x => n - x.1) ⟨0, Nat.zero_le _⟩ ?_ ?_
  · exact le_ren (fun g t => some (g, t)) ⟨⟨_, rfl, .refl hns⟩, ⟨_, rfl, .adr rfl (by show 0 < 2; omega)⟩, ⟨_, rfl, .adr rfl (by show 1 < 2; omega)⟩, ⟨_, rfl, .refl hns⟩, ⟨_, rfl, .refl trivial⟩, ⟨_, rfl, .refl trivial⟩, trivial⟩
      ⟨⟨⟨by show 0 < 2; omega, .inr ⟨0, 0, _, rfl, rfl, rfl, WkL.refl ⟨trivial, trivial, trivial, trivial⟩⟩⟩, trivial⟩, ⟨⟨by show 1 < 2; omega, .inr ⟨1, 0, _, rfl, rfl, rfl, WkL.refl ⟨trivial, trivial, trivial, trivial⟩⟩⟩, trivial⟩, trivial⟩ rfl (base_nil _ _)
  · rintro ⟨j, hj⟩
    simp only at hj ⊢
    repeat (first|refine z2 ?_|refine z1 ?_|refine z3 ?_|refine z4 ?_|refine z5 ?_)
    refine awp_cond rfl (fun h => ?_) (fun h => ?_)
    · have hjl : j < n := by have := of_decide_eq_true h; omega
      have hx := hat j hjl
      have hd := hdl j hjl
      repeat (first|refine z2 ?_|refine z1 ?_|refine z3 ?_|refine z4 ?_|refine z5 ?_)
      refine al_pure hT rfl (pure_load_ag rfl rfl rfl hx) rfl rfl hd.down ?_
      repeat (first|refine z2 ?_|refine z1 ?_|refine z3 ?_|refine z4 ?_|refine z5 ?_)
      refine zc hl ?_
      repeat (first|refine z2 ?_|refine z1 ?_|refine z3 ?_|refine z4 ?_|refine z5 ?_)
      refine ⟨⟨j + 1, hjl⟩, ?_, by show n - (j + 1) < n - j; omega⟩
      exact le_ren (fun g t => some (g, t)) ⟨⟨_, rfl, .refl hns⟩, ⟨_, rfl, .adr rfl (by show 0 < 2; omega)⟩, ⟨_, rfl, .adr rfl (by show 1 < 2; omega)⟩, ⟨_, rfl, .refl hns⟩, ⟨_, rfl, .refl trivial⟩, ⟨_, rfl, .refl trivial⟩, trivial⟩
        ⟨⟨⟨by show 0 < 2; omega, .inr ⟨0, 0, _, rfl, rfl, rfl, WkL.refl ⟨trivial, trivial, trivial, trivial⟩⟩⟩, trivial⟩, ⟨⟨by show 1 < 2; omega, .inr ⟨1, 0, _, rfl, rfl, rfl, WkL.refl ⟨trivial, trivial, trivial, trivial⟩⟩⟩, trivial⟩, trivial⟩ rfl (base_nil _ _)
    · have hjl : j = n := by have := of_decide_eq_false h; omega
      clear h
      repeat (first|refine z2 ?_|refine z1 ?_|refine z3 ?_|refine z4 ?_|refine z5 ?_)
      refine awp_loop (fun x : { x : Nat // x ≤ n } => ⟨[(4, .adr 0 0 0), (5, .adr 1 0 0), (27, .sl 2 n Z), (28, .v (.int .i64 n)), (29, .v (.int .i64 x.1))], [(0, [⟨3, [nilV, nilV, .v (.string ⟨#[]⟩)]⟩]), (1, [⟨3, [nilV, nilV, one1]⟩])], 2⟩) (fun x => n - x.1) ⟨0, Nat.zero_le _⟩ (le_sub ⟨rfl, rfl, rfl, rfl, rfl, trivial⟩ rfl rfl) ?_
      clear hj hjl
      rintro ⟨j, hj⟩
      simp only at hj ⊢
      repeat (first|refine z2 ?_|refine z1 ?_|refine z3 ?_|refine z4 ?_|refine z5 ?_)
      refine awp_cond rfl (fun h => ?_) (fun h => ?_)
      · have hjl : j < n := by have := of_decide_eq_true h; omega
        have hx := hat j hjl
        have hd := hdl j hjl
        repeat (first|refine z2 ?_|refine z1 ?_|refine z3 ?_|refine z4 ?_|refine z5 ?_)
        refine al_pure hT rfl (pure_load_ag rfl rfl rfl hx) rfl rfl hd.down ?_
        repeat (first|refine z2 ?_|refine z1 ?_|refine z3 ?_|refine z4 ?_|refine z5 ?_)
        refine awp_cond rfl (fun h => absurd h (by rw [beq_self_eq_true]; decide)) (fun _ => ?_)
        repeat (first|refine z2 ?_|refine z1 ?_|refine z3 ?_|refine z4 ?_|refine z5 ?_)
        refine ⟨⟨j + 1, hjl⟩, ?_, by show n - (j + 1) < n - j; omega⟩
        exact le_ren (fun g t => some (g, t)) ⟨⟨_, rfl, .adr rfl (by show 0 < 2; omega)⟩, ⟨_, rfl, .adr rfl (by show 1 < 2; omega)⟩, ⟨_, rfl, .refl hns⟩, ⟨_, rfl, .refl trivial⟩, ⟨_, rfl, .refl trivial⟩, trivial⟩
          ⟨⟨⟨by show 0 < 2; omega, .inr ⟨0, 0, _, rfl, rfl, rfl, WkL.refl ⟨trivial, trivial, trivial, trivial⟩⟩⟩, trivial⟩, ⟨⟨by show 1 < 2; omega, .inr ⟨1, 0, _, rfl, rfl, rfl, WkL.refl ⟨trivial, trivial, trivial, trivial⟩⟩⟩, trivial⟩, trivial⟩ rfl (base_nil _ _)
      · repeat (first|refine z2 ?_|refine z1 ?_|refine z3 ?_|refine z4 ?_|refine z5 ?_)
        exact awp_ret ⟨.inl rfl, ret_one rfl (.refl (x := .agg [nilV, nilV, one1]) ⟨trivial, trivial, trivial, trivial⟩)⟩
set_option maxRecDepth 10000 in
theorem sign_zero : OkP (laiOf Tryz.prog) Tryz.prog 95 [.agg [nilV, nilV, one1]] (.v (.int .i64 0)) := by
  refine okp_intro hT 32 Tryz.func95 rfl rfl rfl (Nat.le_of_ble_eq_true rfl) trivial ?_
  intro w0 F0 I
  repeat (first|refine z2 ?_|refine z1 ?_|refine z3 ?_|refine z4 ?_|refine z5 ?_)
  refine awp_scope ?_
  repeat (first|refine z2 ?_|refine z1 ?_|refine z3 ?_|refine z4 ?_|refine z5 ?_)
  refine awp_cond rfl (fun _ => ?_) (fun h => absurd h (by decide))
  repeat (first|refine z2 ?_|refine z1 ?_|refine z3 ?_|refine z4 ?_|refine z5 ?_)
  exact awp_ret (show _ ∧ _ from ⟨.inl rfl, ret_one rfl (.refl trivial)⟩)
theorem sizsign_zero (p : List Int) (n : Nat) (hp : small64L p) (hl : p.length ≤ 1000000) (hn : n ≤ 1000000) (hc : sizChk p (List.replicate n (0 : Rat)) = 0) : OkP (laiOf Tryz.prog) Tryz.prog 51 [rowS p, szS (List.replicate n (0 : Rat))] (.tup [.v (.int .i64 0), .v (.int .i64 0)]) := by
  have hck := sizchk_ok p (List.replicate n (0 : Rat)) hp (by omega) (fun q hq => by rw [List.eq_of_mem_replicate hq]; exact cr_okQ (e := 10) (Cr.int (z := 0) (by decide) (by omega)) (by omega) (by omega)) (by rw [List.length_replicate]; omega)
  rw [hc] at hck
  have htz := terms_zero p n hn
  have hsz := sign_zero
  have hnp := nr_rowS p
  have hns := nr_szS (List.replicate n (0 : Rat))
  refine okp_intro hT 17 Tryz.func51 rfl rfl rfl (Nat.le_of_ble_eq_true rfl) ⟨trivial, trivial, trivial⟩ ?_
  intro w0 F0 I
  repeat (first|refine z2 ?_|refine z1 ?_|refine z3 ?_|refine z4 ?_|refine z5 ?_)
  refine zc hck ?_ (hs := by exact .cons (.refl hnp) (.cons (.refl hns) .nil))
  repeat (first|refine z2 ?_|refine z1 ?_|refine z3 ?_|refine z4 ?_|refine z5 ?_)
  refine awp_cond rfl (fun h => absurd h (by decide)) (fun _ => ?_)
  repeat (first|refine z2 ?_|refine z1 ?_|refine z3 ?_|refine z4 ?_|refine z5 ?_)
  refine zc htz ?_ (hs := by exact .cons (.refl hnp) (.cons (.refl hns) .nil)) (hr := by exact .inr ⟨⟨hnp, hns, trivial⟩, rfl⟩)
  refine zc hsz ?_ (hs := by exact .cons (.refl (x := .agg [nilV, nilV, one1]) ⟨trivial, trivial, trivial, trivial⟩) .nil)
  repeat (first|refine z2 ?_|refine z1 ?_|refine z3 ?_|refine z4 ?_|refine z5 ?_)
  (exact awp_ret ⟨.inl rfl, ret_tup rfl (by repeat' (first | exact SubL.nil | (refine SubL.cons (.refl ?_) ?_; (focus (first | trivial | exact nrl_u64s _ | exact nr_rowS _ | exact nr_matS _ | exact nrl_i64s _ | exact nrl_rowsC _)))))⟩)
end Go.Proofs.YtlbhgejbfhhipaaGreatDoor

/- Walks: the temperament without commas. -/
namespace Go.Proofs.YtlbhgejbfhhipaaGreatDoor
open Go Go.Am Go.Lib Go.Sp Z1 Z2 Z3 Z4 Z5 Z6
/-- The unit rows. -/
def idR (n : Nat) : List (List Int) := (List.range n).map (unitR n)
/-- What the kernel of nothing, and its kernel, are asked for. -/
structure Triv (P : Program) (n : Nat) : Prop where
  ann : OkP (laiOf P) P 137 [latS n []] (.tup [latS n (idR n), .v (.int .i64 0)])
  sat : OkP (laiOf P) P 135 [latS n []] (.tup [latS n [], .v (.int .i64 0)])
  lof : OkP (laiOf P) P 148 [.v (.int .i64 n), matS []] (.tup [latS n [], .v (.int .i64 0)])
end Go.Proofs.YtlbhgejbfhhipaaGreatDoor

/- Walks: the just temperament and the just tuning. -/
namespace Go.Proofs.YtlbhgejbfhhipaaGreatDoor
open Go Go.Am Go.Lib Go.Sp Z1 Z2 Z3 Z4 Z5 Z6
theorem sub_rowS {st : AS} {g n : Nat} {l : List Int} (h : st.row g 0 = some ⟨1, i64s l⟩) (hn : n = l.length) : Sub st (.ref g 0 1 0 n) (rowS l) := by
  subst hn
  refine .own h rfl (by show (0 + l.length) * 1 ≤ (i64s l).length; rw [i64s_len]; omega) ?_
  show SubL st (((i64s l).drop (0 * 1)).take (l.length * 1)) (i64s l)
  rw [Nat.zero_mul, List.drop_zero, Nat.mul_one, List.take_of_length_le (by rw [i64s_len]; exact Nat.le_refl _)]
  exact SubL.refl (nrl_i64s l)
end Go.Proofs.YtlbhgejbfhhipaaGreatDoor

/- Walks: the just temperament. -/
namespace Go.Proofs.YtlbhgejbfhhipaaGreatDoor
open Go Go.Am Go.Lib Go.Sp Z1 Z2 Z3 Z4 Z5 Z6
end Go.Proofs.YtlbhgejbfhhipaaGreatDoor

/- Walks: the sizes of intervals; the just tuning. -/
namespace Go.Proofs.YtlbhgejbfhhipaaGreatDoor
open Go Go.Am Go.Lib Go.Sp Z1 Z2 Z3 Z4 Z5 Z6
set_option maxRecDepth 10000 in
theorem szero_ok (n : Nat) (hn : n ≤ 1000000) : OkW (laiOf Tryz.prog) Tryz.prog 153 [.v (.int .i64 n)] ⟨[], [], 0⟩ (.ref 0 0 2 0 n) ⟨[], [(0, [⟨2, szC (List.replicate n (0 : Rat))⟩])], 1⟩ := by
  refine okw_intro hT 18 Tryz.func153 rfl rfl rfl (Nat.le_of_ble_eq_true rfl) (Nat.zero_le _) ?_
  intro w0 F0 I β0 hβ
  have hβ0 : β0 = [] := List.eq_nil_of_length_eq_zero hβ
  subst hβ0
  have hnu := number_ok 0 (by omega)
  have hnu : OkP (laiOf Tryz.prog) Tryz.prog 70 [.v (.int .i64 0)] (rS 0) := hnu
  repeat (first|refine z2 ?_|refine z1 ?_|refine z3 ?_|refine z4 ?_|refine z5 ?_)
  refine al_make hT rfl rfl rfl rfl rfl rfl rfl rfl rfl rfl (by omega) (by omega) (by show (32 : Int) * _ ≤ _; omega) (by omega) ?_
  have hZ : (zeroRep [Value.string ⟨#[]⟩, Value.string ⟨#[]⟩] (n : Int).toNat).length = n * 2 := by rw [zr_len]; rfl
  obtain ⟨Z, hZe⟩ : ∃ Z, Z = zeroRep [Value.string ⟨#[]⟩, Value.string ⟨#[]⟩] (n : Int).toNat := ⟨_, rfl⟩
  rw [← hZe] at hZ
  repeat (first|refine z2 ?_|refine z1 ?_|refine z3 ?_|refine z4 ?_|refine z5 ?_)
  refine awp_loop (fun x : { x : Nat // x ≤ n } => ⟨[(3, .ref 0 0 2 0 n), (8, .v (.int .i64 n)), (9, .v (.int .i64 x.1))], [(0, [⟨2, putC (List.replicate x.1 0) Z⟩])], 1⟩) (fun x => n - x.1) ⟨0, Nat.zero_le _⟩ (le_sub ⟨rfl, rfl, rfl, trivial⟩ (by rw [hZe]; rfl) rfl) ?_
  rintro ⟨j, hj⟩
  simp only at hj ⊢
  repeat (first|refine z2 ?_|refine z1 ?_|refine z3 ?_|refine z4 ?_|refine z5 ?_)
  refine awp_cond rfl (fun h => ?_) (fun h => ?_)
  · have hjl : j < n := by have := of_decide_eq_true h; omega
    clear h
    repeat (first|refine z2 ?_|refine z1 ?_|refine z3 ?_|refine z4 ?_|refine z5 ?_)
    refine zc hnu ?_ (hr := by exact .inl ⟨trivial, trivial, trivial⟩)
    repeat (first|refine z2 ?_|refine z1 ?_|refine z3 ?_|refine z4 ?_|refine z5 ?_)
    refine al_store hT rfl rfl rfl rfl rfl rfl rfl rfl rfl (by show (0 * 2 + (j : Int).toNat * 2) + 2 ≤ (putC (List.replicate j 0) Z).length; rw [putC_len hZ (by rw [List.length_replicate]; omega)]; omega) (rC_one _) ?_
    repeat (first|refine z2 ?_|refine z1 ?_|refine z3 ?_|refine z4 ?_|refine z5 ?_)
    refine ⟨⟨j + 1, hjl⟩, le_sub ⟨rfl, rfl, rfl, trivial⟩ ?_ rfl, by show n - (j + 1) < n - j; omega⟩
    show _ = [(0, [Row.mk 2 (setAll (putC (List.replicate j 0) Z) (0 * 2 + (j : Int).toNat * 2) (rC 0))])]
    rw [putC_push hZ (by rw [List.length_replicate]; omega) (by rw [List.length_replicate]; omega), List.replicate_succ']
  · have hjl : j = n := by have := of_decide_eq_false h; omega
    rw [hjl, putC_full hZ List.length_replicate]
    repeat (first|refine z2 ?_|refine z1 ?_|refine z3 ?_|refine z4 ?_|refine z5 ?_)
    refine awp_ret ⟨.inl rfl, ⟨[(2, .ref 0 0 2 0 n)], [(0, [⟨2, szC (List.replicate n (0 : Rat))⟩])], 1⟩, ?_, rfl, rfl, rfl⟩
    exact le_sub ⟨rfl, trivial⟩ rfl rfl
end Go.Proofs.YtlbhgejbfhhipaaGreatDoor

/- Plain facts: what the just tuning computes. -/
namespace Go.Proofs.YtlbhgejbfhhipaaGreatDoor
open Go Go.Am Go.Lib Go.Sp Z1 Z2 Z3 Z4 Z5 Z6
theorem rep_short (n : Nat) : ∀ q ∈ List.replicate n (0 : Rat), short30 q := fun q hq => by
  rw [List.eq_of_mem_replicate hq]
  exact tw_short (Tw.zero.mono (by omega))
end Go.Proofs.YtlbhgejbfhhipaaGreatDoor

/- Walks: the statement on the just tuning. -/
namespace Go.Proofs.YtlbhgejbfhhipaaGreatDoor
open Go Go.Am Go.Lib Go.Sp Z1 Z2 Z3 Z4 Z5 Z6
theorem ivl_bnd {l : List Int} (n : Nat) : bndL 9 (ivl l n) := fun z hz => by
  obtain ⟨i, _, rfl⟩ := List.mem_map.1 hz
  have b1 := Int.tmod_lt_of_pos (l.getD i 0) (show (0 : Int) < 10 by decide)
  have b2 := Int.lt_tmod_of_pos (l.getD i 0) (show (0 : Int) < 10 by decide)
  omega
end Go.Proofs.YtlbhgejbfhhipaaGreatDoor

/- How further arguments of the statements read. -/
namespace Go.Proofs.YtlbhgejbfhhipaaGreatDoor
open Go Go.Am Go.Lib Go.Sp Z1 Z2 Z3 Z4 Z5 Z6
open Go.ChangeShapes Go.WideShapes Go.ChangeAt Go.RowKit
section
variable {H : Type} {enc : TypeId × Value → H} {w : World}
end
end Go.Proofs.YtlbhgejbfhhipaaGreatDoor

/- Walks: temperaments and tunings compared. -/
namespace Go.Proofs.YtlbhgejbfhhipaaGreatDoor
open Go Go.Am Go.Lib Go.Sp Z1 Z2 Z3 Z4 Z5 Z6
/-- Three parts compared, each only if those before are the same. -/
structure Eq3 (Λ : Lai) (f g : Nat) (p p' : List Int) (C C' Mp Mp' : List (List Int)) : Prop where
  one : OkP Λ Tryz.prog f [rowS p, rowS p'] (.v (.bool (decide (p = p'))))
  two : OkP Λ Tryz.prog g [matS C, matS C'] (.v (.bool (decide (C = C'))))
  three : OkP Λ Tryz.prog g [matS Mp, matS Mp'] (.v (.bool (decide (Mp = Mp'))))
theorem szeq_ok {Λ : Lai} (a b : List Rat) (ha : a.length ≤ 1000000000) (hb : b.length ≤ 1000000000) : OkP Λ Tryz.prog 50 [szS a, szS b] (.v (.bool (decide (a = b)))) := by
  have hc := eqsz_ok (Λ := Λ) a b ha hb
  have n1 := nr_szS a
  have n2 := nr_szS b
  refine okp_intro hT 8 Tryz.func50 rfl rfl rfl (Nat.le_of_ble_eq_true rfl) trivial ?_
  intro w0 F0 I
  repeat (first|refine z2 ?_|refine z1 ?_|refine z3 ?_|refine z4 ?_|refine z5 ?_)
  refine zc hc ?_ (hs := by exact .cons (.refl (x := szS a) n1) (.cons (.refl (x := szS b) n2) .nil))
  repeat (first|refine z2 ?_|refine z1 ?_|refine z3 ?_|refine z4 ?_|refine z5 ?_)
  (exact awp_ret ⟨.inl rfl, ret_one rfl (.refl (by first | trivial | exact nrl_u64s _))⟩)
end Go.Proofs.YtlbhgejbfhhipaaGreatDoor

/- Walks: sizes added. -/
namespace Go.Proofs.YtlbhgejbfhhipaaGreatDoor
open Go Go.Am Go.Lib Go.Sp Z1 Z2 Z3 Z4 Z5 Z6
set_option maxRecDepth 10000 in
theorem rat_idx {Λ : Lai} (l : List Rat) (g : Nat) (hl : l.length ≤ 1000000000) (h : ∀ q ∈ l, OkP Λ Tryz.prog g [rS q] (.v (.bool false))) : OkP Λ Tryz.prog 178 [szS l, .fn g []] (.v (.int .i64 (-1))) := by
  have hns := nr_szS l
  refine okp_intro hT 19 Tryz.func178 rfl rfl rfl (Nat.le_of_ble_eq_true rfl) trivial ?_
  intro w0 F0 I
  unfold szS at hns ⊢
  repeat (first|refine z2 ?_|refine z1 ?_|refine z3 ?_|refine z4 ?_|refine z5 ?_)
  refine awp_loop (fun x : { x : Nat // x ≤ l.length } => ⟨[(0, .sl 2 l.length (szC l)), (1, .fn g []), (7, .v (.int .i64 l.length)), (8, .v (.int .i64 x.1))], [], 0⟩) (fun x => l.length - x.1) ⟨0, Nat.zero_le _⟩ (le_sub ⟨rfl, rfl, rfl, rfl, trivial⟩ rfl rfl) ?_
  rintro ⟨j, hj⟩
  simp only at hj ⊢
  repeat (first|refine z2 ?_|refine z1 ?_|refine z3 ?_|refine z4 ?_|refine z5 ?_)
  refine awp_cond rfl (fun e => ?_) (fun _ => ?_)
  · have hjl : j < l.length := by have := of_decide_eq_true e; omega
    clear e
    have hx := szC_at (l := l) (i := (j : Int).toNat * 2) (j := j) (by omega) hjl
    have hq := h _ (List.getElem_mem hjl)
    repeat (first|refine z2 ?_|refine z1 ?_|refine z3 ?_|refine z4 ?_|refine z5 ?_)
    refine al_pure hT rfl (pure_load_ag rfl rfl rfl hx) rfl rfl (rC_drop_len (by omega) hjl) ?_
    refine zc hq ?_ (hs := by exact .cons (.refl (x := rS l[j]) ⟨trivial, trivial, trivial⟩) .nil)
    repeat (first|refine z2 ?_|refine z1 ?_|refine z3 ?_|refine z4 ?_|refine z5 ?_)
    refine awp_cond rfl (fun e => by cases e) (fun _ => ?_)
    repeat (first|refine z2 ?_|refine z1 ?_|refine z3 ?_|refine z4 ?_|refine z5 ?_)
    exact ⟨⟨j + 1, hjl⟩, le_sub ⟨rfl, rfl, rfl, rfl, trivial⟩ rfl rfl, by show l.length - (j + 1) < l.length - j; omega⟩
  · repeat (first|refine z2 ?_|refine z1 ?_|refine z3 ?_|refine z4 ?_|refine z5 ?_)
    (exact awp_ret ⟨.inl rfl, ret_one rfl (.refl (by first | trivial | exact nrl_u64s _))⟩)
theorem rat_none {Λ : Lai} (l : List Rat) (g : Nat) (hl : l.length ≤ 1000000000) (h : ∀ q ∈ l, OkP Λ Tryz.prog g [rS q] (.v (.bool false))) : OkP Λ Tryz.prog 140 [szS l, .fn g []] (.v (.bool false)) := by
  have hi := rat_idx l g hl h
  have hns := nr_szS l
  refine okp_intro hT 9 Tryz.func140 rfl rfl rfl (Nat.le_of_ble_eq_true rfl) trivial ?_
  intro w0 F0 I
  repeat (first|refine z2 ?_|refine z1 ?_|refine z3 ?_|refine z4 ?_|refine z5 ?_)
  refine zc hi ?_ (hs := by exact .cons (.refl hns) (.cons (.refl trivial) .nil))
  repeat (first|refine z2 ?_|refine z1 ?_|refine z3 ?_|refine z4 ?_|refine z5 ?_)
  (exact awp_ret ⟨.inl rfl, ret_one rfl (.refl (by first | trivial | exact nrl_u64s _))⟩)
set_option maxRecDepth 10000 in
theorem siz_idx {Λ : Lai} (l : List Rat) (g : Nat) (hl : l.length ≤ 1000000000) (h : ∀ q ∈ l, OkP Λ Tryz.prog g [rS q] (.v (.bool false))) : OkP Λ Tryz.prog 150 [szS l, .fn g []] (.v (.int .i64 (-1))) := by
  have hns := nr_szS l
  refine okp_intro hT 19 Tryz.func150 rfl rfl rfl (Nat.le_of_ble_eq_true rfl) trivial ?_
  intro w0 F0 I
  unfold szS at hns ⊢
  repeat (first|refine z2 ?_|refine z1 ?_|refine z3 ?_|refine z4 ?_|refine z5 ?_)
  refine awp_loop (fun x : { x : Nat // x ≤ l.length } => ⟨[(0, .sl 2 l.length (szC l)), (1, .fn g []), (7, .v (.int .i64 l.length)), (8, .v (.int .i64 x.1))], [], 0⟩) (fun x => l.length - x.1) ⟨0, Nat.zero_le _⟩ (le_sub ⟨rfl, rfl, rfl, rfl, trivial⟩ rfl rfl) ?_
  rintro ⟨j, hj⟩
  simp only at hj ⊢
  repeat (first|refine z2 ?_|refine z1 ?_|refine z3 ?_|refine z4 ?_|refine z5 ?_)
  refine awp_cond rfl (fun e => ?_) (fun _ => ?_)
  · have hjl : j < l.length := by have := of_decide_eq_true e; omega
    clear e
    have hx := szC_at (l := l) (i := (j : Int).toNat * 2) (j := j) (by omega) hjl
    have hq := h _ (List.getElem_mem hjl)
    repeat (first|refine z2 ?_|refine z1 ?_|refine z3 ?_|refine z4 ?_|refine z5 ?_)
    refine al_pure hT rfl (pure_load_ag rfl rfl rfl hx) rfl rfl (rC_drop_len (by omega) hjl) ?_
    refine zc hq ?_ (hs := by exact .cons (.refl (x := rS l[j]) ⟨trivial, trivial, trivial⟩) .nil)
    repeat (first|refine z2 ?_|refine z1 ?_|refine z3 ?_|refine z4 ?_|refine z5 ?_)
    refine awp_cond rfl (fun e => by cases e) (fun _ => ?_)
    repeat (first|refine z2 ?_|refine z1 ?_|refine z3 ?_|refine z4 ?_|refine z5 ?_)
    exact ⟨⟨j + 1, hjl⟩, le_sub ⟨rfl, rfl, rfl, rfl, trivial⟩ rfl rfl, by show l.length - (j + 1) < l.length - j; omega⟩
  · repeat (first|refine z2 ?_|refine z1 ?_|refine z3 ?_|refine z4 ?_|refine z5 ?_)
    (exact awp_ret ⟨.inl rfl, ret_one rfl (.refl (by first | trivial | exact nrl_u64s _))⟩)
theorem siz_none {Λ : Lai} (l : List Rat) (g : Nat) (hl : l.length ≤ 1000000000) (h : ∀ q ∈ l, OkP Λ Tryz.prog g [rS q] (.v (.bool false))) : OkP Λ Tryz.prog 99 [szS l, .fn g []] (.v (.bool false)) := by
  have hi := siz_idx l g hl h
  have hns := nr_szS l
  refine okp_intro hT 9 Tryz.func99 rfl rfl rfl (Nat.le_of_ble_eq_true rfl) trivial ?_
  intro w0 F0 I
  repeat (first|refine z2 ?_|refine z1 ?_|refine z3 ?_|refine z4 ?_|refine z5 ?_)
  refine zc hi ?_ (hs := by exact .cons (.refl hns) (.cons (.refl trivial) .nil))
  repeat (first|refine z2 ?_|refine z1 ?_|refine z3 ?_|refine z4 ?_|refine z5 ?_)
  (exact awp_ret ⟨.inl rfl, ret_one rfl (.refl (by first | trivial | exact nrl_u64s _))⟩)
end Go.Proofs.YtlbhgejbfhhipaaGreatDoor

/- Walks: sizes added, continued. -/
namespace Go.Proofs.YtlbhgejbfhhipaaGreatDoor
open Go Go.Am Go.Lib Go.Sp Z1 Z2 Z3 Z4 Z5 Z6
set_option maxRecDepth 10000 in
theorem ssum_ok (n : Nat) (G : List (List Rat)) (ks : List Rat) {e f : Nat} (hp : n ≤ 1000) (hgl : G.length ≤ 1000) (hG : ∀ l ∈ G, l.length = n ∧ crL e l) (hk : crL f ks) (hkl : G.length ≤ ks.length) (he : 1 ≤ e) (hf : 1 ≤ f) (he2 : e ≤ 1000000) (hf2 : f ≤ 1000000) :
    OkW (laiOf Tryz.prog) Tryz.prog 143 [.v (.int .i64 n), genS G, szS ks] ⟨[], [], 0⟩ (.ref 0 0 2 0 n) ⟨[], [(0, [⟨2, szC (combL G ks n G.length)⟩])], 1⟩ := by
  refine okw_intro hT 45 Tryz.func143 rfl rfl rfl (Nat.le_of_ble_eq_true rfl) (Nat.zero_le _) ?_
  intro w0 F0 I β0 hβ
  have hβ0 : β0 = [] := List.eq_nil_of_length_eq_zero hβ
  subst hβ0
  have hre := szero_ok n (by omega)
  have hc0 := combL_zero G ks n
  have hnG := nr_genS G
  have hnK := nr_szS ks
  unfold genS szS
  repeat (first|refine z2 ?_|refine z1 ?_|refine z3 ?_|refine z4 ?_|refine z5 ?_)
  refine al_callw (fun _ _ => none) [(0, [⟨2, szC (List.replicate n 0)⟩])] 1 (.ref 0 0 2 0 n) hre rfl rfl rfl rfl rfl (.cons (.refl trivial) .nil) (hand_ren trivial rfl (fun g' _ _ _ h => absurd h (Nat.not_lt_zero _))) rfl rfl rfl (back_ren ⟨⟨.inl ⟨0, 0, _, rfl, rfl, Nat.zero_lt_one, rfl, RnL.refl (hfl_szC _)⟩, trivial⟩, trivial⟩) (.ref rfl Nat.zero_lt_one) ?_
  repeat (first|refine z2 ?_|refine z1 ?_|refine z3 ?_|refine z4 ?_|refine z5 ?_)
  refine awp_loop (fun x : { x : Nat // x ≤ G.length } => ⟨[(2, .sl 2 ks.length (szC ks)), (7, .ref 0 0 2 0 n), (14, .sl 1 G.length (G.map szS)), (15, .v (.int .i64 G.length)), (16, .v (.int .i64 x.1))], [(0, [⟨2, szC (combL G ks n x.1)⟩])], 1⟩) (fun x => G.length - x.1) ⟨0, Nat.zero_le _⟩ (le_sub ⟨rfl, rfl, rfl, rfl, rfl, trivial⟩ (by rw [hc0]; rfl) rfl) ?_
  rintro ⟨i, hi⟩
  simp only at hi ⊢
  repeat (first|refine z2 ?_|refine z1 ?_|refine z3 ?_|refine z4 ?_|refine z5 ?_)
  refine awp_cond rfl (fun h => ?_) (fun h => ?_)
  · have hil : i < G.length := by have := of_decide_eq_true h; omega
    clear h
    obtain ⟨g1, g2⟩ := hG _ (List.getElem_mem hil)
    have hgd : G.getD i [] = G[i] := by rw [List.getD_eq_getElem?_getD, List.getElem?_eq_getElem hil, Option.getD_some]
    have hkd : ks.getD i 0 = ks[i]'(by omega) := by rw [List.getD_eq_getElem?_getD, List.getElem?_eq_getElem (by omega), Option.getD_some]
    repeat (first|refine z2 ?_|refine z1 ?_|refine z3 ?_|refine z4 ?_|refine z5 ?_)
    refine al_pure hT rfl (pure_load_pt rfl rfl rfl (genS_drop (j := i) (by omega) hil)) rfl rfl True.intro ?_
    obtain ⟨s, hs⟩ : ∃ s, s = G[i] := ⟨_, rfl⟩
    obtain ⟨k, hke⟩ : ∃ k, k = ks[i]'(by omega) := ⟨_, rfl⟩
    rw [← hs] at g1 g2 hgd ⊢
    rw [← hke] at hkd
    have hnS := nr_szS s
    unfold szS at hnS ⊢
    rw [g1] at hnS ⊢
    repeat (first|refine z2 ?_|refine z1 ?_|refine z3 ?_|refine z4 ?_|refine z5 ?_)
    refine awp_loop (fun x : { x : Nat // x ≤ n } => ⟨[(2, .sl 2 ks.length (szC ks)), (7, .ref 0 0 2 0 n), (8, .v (.int .i64 i)), (14, .sl 1 G.length (G.map szS)), (15, .v (.int .i64 G.length)), (16, .v (.int .i64 i)), (21, .sl 2 n (szC s)), (22, .v (.int .i64 n)), (23, .v (.int .i64 x.1))], [(0, [⟨2, szC (mixC G ks n i x.1)⟩])], 1⟩) (fun x => n - x.1) ⟨0, Nat.zero_le _⟩ (le_sub ⟨rfl, rfl, rfl, rfl, rfl, rfl, rfl, rfl, rfl, trivial⟩ (by rw [mixC_zero]; rfl) rfl) ?_
    rintro ⟨c, hc⟩
    simp only at hc ⊢
    repeat (first|refine z2 ?_|refine z1 ?_|refine z3 ?_|refine z4 ?_|refine z5 ?_)
    refine awp_cond rfl (fun h => ?_) (fun h => ?_)
    · have hcn : c < n := by have := of_decide_eq_true h; omega
      clear h
      have ml := mixC_len G ks n i c
      have ma := mixC_at (G := G) (ks := ks) (i := i) hcn
      have hacc := accR_cr (fun l hl => (hG l hl).2) hk he hf c i
      have hsd : s.getD c 0 = s[c]'(by omega) := by rw [List.getD_eq_getElem?_getD, List.getElem?_eq_getElem (by omega), Option.getD_some]
      have hsc := g2 _ (List.getElem_mem (show c < s.length by omega))
      have hkc := hk _ (List.getElem_mem (show i < ks.length by omega))
      rw [← hke] at hkc
      have hset := mixC_set (G := G) (ks := ks) (i := i) hcn
      rw [accR, hgd, hkd, hsd] at hset
      obtain ⟨a, hae⟩ : ∃ a, a = accR G ks c i := ⟨_, rfl⟩
      obtain ⟨z, hze⟩ : ∃ z, z = s[c]'(by omega) := ⟨_, rfl⟩
      rw [← hae] at hacc hset ma
      rw [← hze] at hsc hset
      have hb : i * (e + f + 2) ≤ 1000 * (e + f + 2) := Nat.mul_le_mul_right _ (by omega)
      obtain ⟨x1, x2, x3⟩ := hsc.cross hkc
      have hzk := hsc.mul hkc
      obtain ⟨y1, y2, _⟩ := hacc.cross hzk
      have hmul := rmul_ok z k (cr_okQ hsc he (by omega)).1 (cr_okQ hkc hf (by omega)).1 (okN_ten x3 (by omega) (by omega)) (okN_ten x2 (by omega) (by omega))
      have hadd := radd_ok a (z * k) (okN_ten y1 (by omega) (by omega)) (okN_ten y2 (by omega) (by omega))
      have hszl : ((szC (mixC G ks n i c)).drop (0 * 2 + (c : Int).toNat * 2)).take 2 = rC a := by rw [szC_at (j := c) (by omega) (by omega), ma]
      have hszs : ((szC s).drop ((c : Int).toNat * 2)).take 2 = rC z := by rw [szC_at (j := c) (by omega) (by omega), hze]
      have hszk : ((szC ks).drop ((i : Int).toNat * 2)).take 2 = rC k := by rw [szC_at (j := i) (by omega) (by omega), hke]
      repeat (first|refine z2 ?_|refine z1 ?_|refine z3 ?_|refine z4 ?_|refine z5 ?_)
      refine al_pure hT rfl (pure_load_ag rfl rfl rfl hszs) rfl rfl (rC_drop_len (j := c) (by omega) (by omega)) ?_
      repeat (first|refine z2 ?_|refine z1 ?_|refine z3 ?_|refine z4 ?_|refine z5 ?_)
      refine awp_region_draw [] hmix (by kernel_rfl) ?_
      repeat (first|refine z2 ?_|refine z1 ?_|refine z3 ?_|refine z4 ?_|refine z5 ?_)
      refine al_pure hT rfl (pure_load_aa rfl rfl rfl rfl hszl) rfl rfl (by show (0 * 2 + (c : Int).toNat * 2) + 2 ≤ (szC _).length; rw [szC_len]; omega) ?_
      repeat (first|refine z2 ?_|refine z1 ?_|refine z3 ?_|refine z4 ?_|refine z5 ?_)
      refine al_pure hT rfl (pure_load_ag rfl rfl rfl hszk) rfl rfl (rC_drop_len (j := i) (by omega) (by omega)) ?_
      repeat (first|refine z2 ?_|refine z1 ?_|refine z3 ?_|refine z4 ?_|refine z5 ?_)
      refine zc hmul ?_ (hs := by exact .cons (.refl (x := rS z) ⟨trivial, trivial, trivial⟩) (.cons (.refl (x := rS k) ⟨trivial, trivial, trivial⟩) .nil)) (hr := by exact .inl ⟨trivial, trivial, trivial⟩)
      refine zc hadd ?_ (hs := by exact .cons (.refl (x := rS a) ⟨trivial, trivial, trivial⟩) (.cons (.refl (x := rS (z * k)) ⟨trivial, trivial, trivial⟩) .nil)) (hr := by exact .inl ⟨trivial, trivial, trivial⟩)
      repeat (first|refine z2 ?_|refine z1 ?_|refine z3 ?_|refine z4 ?_|refine z5 ?_)
      refine al_store hT rfl rfl rfl rfl rfl rfl rfl rfl rfl (by show (0 * 2 + (c : Int).toNat * 2) + 2 ≤ (szC _).length; rw [szC_len]; omega) (rC_one _) ?_
      repeat (first|refine z2 ?_|refine z1 ?_|refine z3 ?_|refine z4 ?_|refine z5 ?_)
      refine ⟨⟨c + 1, hcn⟩, ?_, by show n - (c + 1) < n - c; omega⟩
      have hcell : setAll (szC (mixC G ks n i c)) (0 * 2 + (c : Int).toNat * 2) (rC (a + z * k)) = szC (mixC G ks n i (c + 1)) := by
        rw [show 0 * 2 + (c : Int).toNat * 2 = c * 2 by omega, szC_set _ _ _ (by omega), hset]
      exact le_ren (fun g t => cond (Nat.beq g 0) (some (0, t)) none) ⟨⟨_, rfl, .refl hnK⟩, ⟨_, rfl, .ref rfl (by show 0 < 1; omega)⟩, ⟨_, rfl, .refl trivial⟩, ⟨_, rfl, .refl hnG⟩, ⟨_, rfl, .refl trivial⟩, ⟨_, rfl, .refl trivial⟩, ⟨_, rfl, .refl hnS⟩, ⟨_, rfl, .refl trivial⟩, ⟨_, rfl, .refl trivial⟩, trivial⟩
        ⟨⟨⟨by show 0 < 1; omega, .inr ⟨0, 0, _, rfl, rfl, rfl, wkl_eq hcell (nrl_szC _)⟩⟩, trivial⟩, trivial⟩ rfl (base_nil _ _)
    · have hcn : c = n := by have := of_decide_eq_false h; omega
      rw [hcn, mixC_all]
      repeat (first|refine z2 ?_|refine z1 ?_|refine z3 ?_|refine z4 ?_|refine z5 ?_)
      exact ⟨⟨i + 1, hil⟩, le_sub ⟨rfl, rfl, rfl, rfl, rfl, trivial⟩ rfl rfl, by show G.length - (i + 1) < G.length - i; omega⟩
  · have hil : i = G.length := by have := of_decide_eq_false h; omega
    rw [hil]
    repeat (first|refine z2 ?_|refine z1 ?_|refine z3 ?_|refine z4 ?_|refine z5 ?_)
    refine awp_ret ⟨.inl rfl, ⟨[(6, .ref 0 0 2 0 n)], [(0, [⟨2, szC (combL G ks n G.length)⟩])], 1⟩, ?_, rfl, rfl, rfl⟩
    exact le_sub ⟨rfl, trivial⟩ rfl rfl
end Go.Proofs.YtlbhgejbfhhipaaGreatDoor

/- Walks: the sum of two sizes, of two intervals. -/
namespace Go.Proofs.YtlbhgejbfhhipaaGreatDoor
open Go Go.Am Go.Lib Go.Sp Z1 Z2 Z3 Z4 Z5 Z6
theorem notbad_ok (q : Rat) (h : short30 q) : OkP (laiOf Tryz.prog) Tryz.prog 141 [rS q] (.v (.bool false)) := by
  have hc := rchk_ok q (short_okQ h).1 (short_okQ h).2
  rw [if_pos ⟨Nat.le_trans h.1 (by omega), Nat.le_trans h.2 (by omega)⟩] at hc
  refine okp_intro hT 6 Tryz.func141 rfl rfl rfl (Nat.le_of_ble_eq_true rfl) trivial ?_
  intro w0 F0 I
  unfold rS
  repeat (first|refine z2 ?_|refine z1 ?_|refine z3 ?_|refine z4 ?_|refine z5 ?_)
  refine zc hc ?_ (hs := by exact .cons (.refl (x := rS q) ⟨trivial, trivial, trivial⟩) .nil)
  repeat (first|refine z2 ?_|refine z1 ?_|refine z3 ?_|refine z4 ?_|refine z5 ?_)
  (exact awp_ret ⟨.inl rfl, ret_one rfl (.refl (by first | trivial | exact nrl_u64s _))⟩)
theorem notlong_ok (q : Rat) (h : short30 q) : OkP (laiOf Tryz.prog) Tryz.prog 179 [rS q] (.v (.bool false)) := by
  have hc := rshort_ok (Λ := laiOf Tryz.prog) q (short_okQ h).1 (short_okQ h).2
  rw [decide_eq_true (show (numS q.num.natAbs).size ≤ 30 ∧ (numS q.den).size ≤ 30 from h)] at hc
  refine okp_intro hT 6 Tryz.func179 rfl rfl rfl (Nat.le_of_ble_eq_true rfl) trivial ?_
  intro w0 F0 I
  unfold rS
  repeat (first|refine z2 ?_|refine z1 ?_|refine z3 ?_|refine z4 ?_|refine z5 ?_)
  refine zc hc ?_ (hs := by exact .cons (.refl (x := rS q) ⟨trivial, trivial, trivial⟩) .nil)
  repeat (first|refine z2 ?_|refine z1 ?_|refine z3 ?_|refine z4 ?_|refine z5 ?_)
  (exact awp_ret ⟨.inl rfl, ret_one rfl (.refl (by first | trivial | exact nrl_u64s _))⟩)
theorem sresult_ok (s : List Rat) (hl : s.length ≤ 1000000) (h : ∀ q ∈ s, short30 q) : OkP (laiOf Tryz.prog) Tryz.prog 142 [szS s] (.tup [szS s, .v (.int .i64 0)]) := by
  have hc := siz_none s 179 (by omega) (fun q hq => notlong_ok q (h q hq))
  have hns := nr_szS s
  refine okp_intro hT 7 Tryz.func142 rfl rfl rfl (Nat.le_of_ble_eq_true rfl) ⟨hns, trivial, trivial⟩ ?_
  intro w0 F0 I
  repeat (first|refine z2 ?_|refine z1 ?_|refine z3 ?_|refine z4 ?_|refine z5 ?_)
  refine zc hc ?_ (hs := by exact .cons (.refl hns) (.cons (.refl trivial) .nil))
  repeat (first|refine z2 ?_|refine z1 ?_|refine z3 ?_|refine z4 ?_|refine z5 ?_)
  refine awp_cond rfl (fun e => by cases e) (fun _ => ?_)
  repeat (first|refine z2 ?_|refine z1 ?_|refine z3 ?_|refine z4 ?_|refine z5 ?_)
  exact awp_ret ⟨.inl rfl, ret_tup rfl (.cons (.refl hns) (.cons (.refl trivial) .nil))⟩
set_option maxRecDepth 10000 in
theorem scombine_ok {p : List Int} {G : List (List Rat)} {ks : List Rat} (hp : small64L p) (hl : p.length ≤ 1000) (hg : G.length ≤ 1000) (h0 : sizAll p G = 0) (hG : ∀ l ∈ G, l.length = p.length ∧ ∀ q ∈ l, short30 q) (hk : ∀ q ∈ ks, short30 q) (hkl : ks.length = G.length) (hr : ∀ q ∈ combL G ks p.length G.length, short30 q) :
    OkP (laiOf Tryz.prog) Tryz.prog 93 [rowS p, genS G, szS ks] (.tup [szS (combL G ks p.length G.length), .v (.int .i64 0)]) := by
  have cr : ∀ {q : Rat}, short30 q → Cr 30 q := fun {q} h => ⟨(numS_le (by omega)).1 h.1, (numS_le (by omega)).1 h.2⟩
  have hca := sizall_ok p G hp (by omega) (fun l hl => ⟨fun q hq => short_okQ ((hG l hl).2 q hq), by rw [(hG l hl).1]; omega⟩) (by omega)
  rw [h0] at hca
  have hcf := rat_none ks 141 (by omega) (fun q hq => notbad_ok q (hk q hq))
  have hsu := ssum_ok p.length G ks (e := 30) (f := 30) hl hg (fun l hl => ⟨(hG l hl).1, fun q hq => cr ((hG l hl).2 q hq)⟩) (fun q hq => cr (hk q hq)) (by omega) (by omega) (by omega) (by omega) (by omega)
  have hsl : (combL G ks p.length G.length).length = p.length := combL_len _ _ _ _
  have hre := sresult_ok (combL G ks p.length G.length) (by omega) hr
  have hnp := nr_rowS p
  have hng := nr_genS G
  have hnk := nr_szS ks
  have hns := nr_szS (combL G ks p.length G.length)
  generalize combL G ks p.length G.length = s at hsu hsl hre hns ⊢
  refine okp_intro hT 30 Tryz.func93 rfl rfl rfl (Nat.le_of_ble_eq_true rfl) ⟨hns, trivial, trivial⟩ ?_
  intro w0 F0 I
  repeat (first|refine z2 ?_|refine z1 ?_|refine z3 ?_|refine z4 ?_|refine z5 ?_)
  refine zc hca ?_ (hs := by exact .cons (.refl hnp) (.cons (.refl hng) .nil))
  repeat (first|refine z2 ?_|refine z1 ?_|refine z3 ?_|refine z4 ?_|refine z5 ?_)
  refine awp_cond rfl (fun h => absurd h (by decide)) (fun _ => ?_)
  unfold genS szS rowS
  repeat (first|refine z2 ?_|refine z1 ?_|refine z3 ?_|refine z4 ?_|refine z5 ?_)
  refine awp_cond rfl (fun h => absurd (show ((ks.length : Int) != (G.length : Int)) = true from h) (by rw [hkl]; simp)) (fun _ => ?_)
  repeat (first|refine z2 ?_|refine z1 ?_|refine z3 ?_|refine z4 ?_|refine z5 ?_)
  refine zc hcf ?_ (hs := by exact .cons (.refl hnk) (.cons (.refl trivial) .nil))
  repeat (first|refine z2 ?_|refine z1 ?_|refine z3 ?_|refine z4 ?_|refine z5 ?_)
  refine awp_cond rfl (fun e => by cases e) (fun _ => ?_)
  repeat (first|refine z2 ?_|refine z1 ?_|refine z3 ?_|refine z4 ?_|refine z5 ?_)
  refine al_callw (fun _ _ => none) [(0, [⟨2, szC s⟩])] 1 (.ref 0 0 2 0 p.length) hsu rfl rfl rfl rfl rfl (.cons (.refl trivial) (.cons (.refl hng) (.cons (.refl hnk) .nil))) (hand_ren trivial rfl (fun g' _ _ _ h => absurd h (Nat.not_lt_zero _))) rfl rfl rfl (back_ren ⟨⟨.inl ⟨0, 0, _, rfl, rfl, Nat.zero_lt_one, rfl, RnL.refl (hfl_szC _)⟩, trivial⟩, trivial⟩) (.ref rfl Nat.zero_lt_one) ?_
  refine al_callz (fun _ => false) hre rfl rfl rfl rfl rfl (.cons (sub_szC rfl hsl.symm) .nil) rfl rfl ?_
  repeat (first|refine z2 ?_|refine z1 ?_|refine z3 ?_|refine z4 ?_|refine z5 ?_)
  exact awp_ret ⟨.inl rfl, ret_tup rfl (.cons (.refl hns) (.cons (.refl trivial) .nil))⟩
theorem one_short : short30 (1 : Rat) := tw_short ((Tw.int (z := 1) (A := 1) (by decide)).mono (by omega))
set_option maxRecDepth 10000 in
theorem sadd_ok {p : List Int} {a b : List Rat} (hp : small64L p) (hl : p.length ≤ 1000) (h0 : sizAll p [a, b] = 0) (ha : a.length = p.length ∧ ∀ q ∈ a, short30 q) (hb : b.length = p.length ∧ ∀ q ∈ b, short30 q) (hr : ∀ q ∈ combL [a, b] [1, 1] p.length 2, short30 q) :
    OkP (laiOf Tryz.prog) Tryz.prog 49 [rowS p, szS a, szS b] (.tup [szS (combL [a, b] [1, 1] p.length 2), .v (.int .i64 0)]) := by
  have hn := number_ok 1 (by omega)
  have hn : OkP (laiOf Tryz.prog) Tryz.prog 70 [.v (.int .i64 1)] (rS 1) := hn
  have hc := scombine_ok (G := [a, b]) (ks := [1, 1]) hp hl (by show 2 ≤ 1000; omega) h0 (fun l h => by
    simp at h; rcases h with rfl | rfl
    · exact ha
    · exact hb) (fun q h => by simp at h; subst h; exact one_short) rfl hr
  have hc : OkP (laiOf Tryz.prog) Tryz.prog 93 [rowS p, genS [a, b], szS [1, 1]] (.tup [szS (combL [a, b] [1, 1] p.length 2), .v (.int .i64 0)]) := hc
  have hnp := nr_rowS p
  have hna := nr_szS a
  have hnb := nr_szS b
  have hng := nr_genS [a, b]
  have hnk := nr_szS [1, 1]
  have hns := nr_szS (combL [a, b] [1, 1] p.length 2)
  refine okp_intro hT 18 Tryz.func49 rfl rfl rfl (Nat.le_of_ble_eq_true rfl) ⟨hns, trivial, trivial⟩ ?_
  intro w0 F0 I
  repeat (first|refine z2 ?_|refine z1 ?_|refine z3 ?_|refine z4 ?_|refine z5 ?_)
  refine al_litF hT rfl rfl rfl rfl rfl rfl rfl rfl rfl ?_
  refine zc hn ?_ (hr := by exact .inl ⟨trivial, trivial, trivial⟩)
  refine zc hn ?_ (hr := by exact .inl ⟨trivial, trivial, trivial⟩)
  refine al_litF hT rfl rfl rfl rfl rfl rfl rfl rfl rfl ?_
  refine zs hc ?_ (hs := by exact .cons (.refl hnp) (.cons (.refl (x := genS [a, b]) hng) (.cons (.refl (x := szS [1, 1]) hnk) .nil))) (hr := by exact ⟨⟨hnp, hng, hnk, trivial⟩, rfl⟩)
  repeat (first|refine z2 ?_|refine z1 ?_|refine z3 ?_|refine z4 ?_|refine z5 ?_)
  exact awp_ret ⟨.inl rfl, ret_tup rfl (.cons (.refl hns) (.cons (.refl trivial) .nil))⟩
end Go.Proofs.YtlbhgejbfhhipaaGreatDoor

/- Walks: the sum of two intervals. -/
namespace Go.Proofs.YtlbhgejbfhhipaaGreatDoor
open Go Go.Am Go.Lib Go.Sp Z1 Z2 Z3 Z4 Z5 Z6
def sumR (x y : List Int) (n : Nat) : List Int := (List.range n).map fun i => x.getD i 0 + y.getD i 0
theorem sumR_len (x y : List Int) (n : Nat) : (sumR x y n).length = n := by simp [sumR]
theorem sumR_succ (x y : List Int) (n : Nat) : i64s (sumR x y n) ++ ([AV.v (.int .i64 (x.getD n 0 + y.getD n 0))] ++ []) = i64s (sumR x y (n + 1)) := by
  unfold sumR i64s
  rw [List.range_succ, List.map_append, List.map_append]; rfl
theorem mresult_ok {p x : List Int} (hp : small64L p) (hl : p.length ≤ 1000) (hx : x.length ≤ 1000) (h : monAll p [x] = 0) : OkP (laiOf Tryz.prog) Tryz.prog 139 [rowS p, rowS x] (.tup [rowS x, .v (.int .i64 0)]) := by
  have hm := monall_ok (Λ := laiOf Tryz.prog) p [x] hp (by omega) (by show 1 ≤ _; omega) (fun r hr => by simp at hr; subst hr; omega)
  rw [h] at hm
  have hnp := nr_rowS p
  have hnx := nr_rowS x
  have hnm := nr_matS [x]
  refine okp_intro hT 12 Tryz.func139 rfl rfl rfl (Nat.le_of_ble_eq_true rfl) ⟨hnx, trivial, trivial⟩ ?_
  intro w0 F0 I
  repeat (first|refine z2 ?_|refine z1 ?_|refine z3 ?_|refine z4 ?_|refine z5 ?_)
  refine al_litF hT rfl rfl rfl rfl rfl rfl rfl rfl rfl ?_
  refine zc hm ?_ (hs := by exact .cons (.refl hnp) (.cons (.refl (x := matS [x]) hnm) .nil))
  repeat (first|refine z2 ?_|refine z1 ?_|refine z3 ?_|refine z4 ?_|refine z5 ?_)
  refine awp_cond rfl (fun h => absurd h (by decide)) (fun _ => ?_)
  repeat (first|refine z2 ?_|refine z1 ?_|refine z3 ?_|refine z4 ?_|refine z5 ?_)
  exact awp_ret ⟨.inl rfl, ret_tup rfl (.cons (.refl hnx) (.cons (.refl trivial) .nil))⟩
set_option maxRecDepth 10000 in
theorem msum_ok {p x y : List Int} (hp : small64L p) (hl : p.length ≤ 1000) (h : monAll p [x, y] = 0) (h2 : monAll p [sumR x y x.length] = 0) (hx : x.length ≤ 1000) (hy : y.length = x.length) (bx : bndL 1000 x) (bY : bndL 1000 y) : OkP (laiOf Tryz.prog) Tryz.prog 92 [rowS p, rowS x, rowS y, .v (.int .i64 1)] (.tup [rowS (sumR x y x.length), .v (.int .i64 0)]) := by
  have hm := monall_ok (Λ := laiOf Tryz.prog) p [x, y] hp (by omega) (by show 2 ≤ _; omega) (fun r hr => by simp at hr; rcases hr with rfl | rfl <;> omega)
  rw [h] at hm
  have hre := mresult_ok hp hl (by rw [sumR_len]; exact hx) h2
  have hnp := nr_rowS p
  have hnx := nr_rowS x
  have hny := nr_rowS y
  have hnm := nr_matS [x, y]
  have hns := nr_rowS (sumR x y x.length)
  refine okp_intro hT 46 Tryz.func92 rfl rfl rfl (Nat.le_of_ble_eq_true rfl) ⟨hns, trivial, trivial⟩ ?_
  intro w0 F0 I
  repeat (first|refine z2 ?_|refine z1 ?_|refine z3 ?_|refine z4 ?_|refine z5 ?_)
  refine al_litF hT rfl rfl rfl rfl rfl rfl rfl rfl rfl ?_
  refine zc hm ?_ (hs := by exact .cons (.refl hnp) (.cons (.refl (x := matS [x, y]) hnm) .nil))
  repeat (first|refine z2 ?_|refine z1 ?_|refine z3 ?_|refine z4 ?_|refine z5 ?_)
  refine awp_cond rfl (fun h => absurd h (by decide)) (fun _ => ?_)
  obtain ⟨n, hn⟩ : ∃ n, n = x.length := ⟨_, rfl⟩
  rw [← hn] at hns hre hx ⊢
  unfold rowS at hnp hnx hny ⊢
  rw [hy, ← hn] at hny
  rw [← hn] at hnx
  rw [hy, ← hn]
  repeat (first|refine z2 ?_|refine z1 ?_|refine z3 ?_|refine z4 ?_|refine z5 ?_)
  refine awp_loop (fun j : { j : Nat // j ≤ n } => ⟨[(0, .sl 1 p.length (i64s p)), (1, .sl 1 n (i64s x)), (2, .sl 1 n (i64s y)), (3, .v (.int .i64 1)), (11, .ref 0 0 1 0 j.1), (22, .v (.int .i64 n)), (23, .v (.int .i64 j.1))], [(0, [⟨1, i64s (sumR x y j.1)⟩])], 1⟩) (fun j => n - j.1) ⟨0, Nat.zero_le _⟩ ?_ ?_
  · exact le_ren (fun _ _ => none) ⟨⟨_, rfl, .refl hnp⟩, ⟨_, rfl, .refl hnx⟩, ⟨_, rfl, .refl hny⟩, ⟨_, rfl, .refl trivial⟩, ⟨_, rfl, .nilref 1 rfl (by show 0 < 1; omega)⟩, ⟨_, rfl, .refl trivial⟩, ⟨_, rfl, .refl trivial⟩, trivial⟩ ⟨⟨⟨by show 0 < 1; omega, .inl ⟨rfl, rfl⟩⟩, trivial⟩, trivial⟩ rfl (base_nil _ _)
  rintro ⟨j, hj⟩
  simp only at hj ⊢
  repeat (first|refine z2 ?_|refine z1 ?_|refine z3 ?_|refine z4 ?_|refine z5 ?_)
  refine awp_cond rfl (fun e => ?_) (fun e => ?_)
  · have hjl : j < n := by have := of_decide_eq_true e; omega
    clear e
    have d1 := i64s_drop (l := x) (i := (j : Int).toNat * 1) (j := j) (by omega) (by omega)
    have d2 := i64s_drop (l := y) (i := (j : Int).toNat * 1) (j := j) (by omega) (by omega)
    have b1 := bndL_at bx (i := j) (by omega)
    have b2 := bndL_at bY (i := j) (by omega)
    have hsn := sumR_succ x y j
    rw [getD_at (show j < x.length by omega), getD_at (show j < y.length by omega)] at hsn
    generalize x[j]'(by omega) = u at d1 b1 hsn
    generalize y[j]'(by omega) = v at d2 b2 hsn
    repeat (first|refine z2 ?_|refine z1 ?_|refine z3 ?_|refine z4 ?_|refine z5 ?_)
    refine awp_region_drawD [] hmix (by kernel_rfl) ?_
    repeat (first|refine z2 ?_|refine z1 ?_|refine z3 ?_|refine z4 ?_|refine z5 ?_)
    refine al_pure hT rfl (pure_load_pt rfl rfl rfl d1) rfl rfl True.intro ?_
    repeat (first|refine z2 ?_|refine z1 ?_|refine z3 ?_|refine z4 ?_|refine z5 ?_)
    refine al_pure hT rfl (pure_load_pt rfl rfl rfl d2) rfl rfl True.intro ?_
    repeat (first|refine z2 ?_|refine z1 ?_|refine z3 ?_|refine z4 ?_|refine z5 ?_)
    refine al_litF hT rfl rfl rfl rfl rfl rfl rfl rfl rfl ?_
    refine al_append hT rfl rfl rfl rfl rfl rfl rfl rfl rfl rfl rfl rfl rfl (by show (i64s _).length = _ * 1; rw [i64s_len, sumR_len, Nat.mul_one]) (fun g r h e => by cases e; cases h; rfl) (by intro x hx; simp only [List.append_nil, List.mem_singleton] at hx; subst hx; rfl) (by show (_ + 1) * 8 ≤ _; omega) (by omega) ?_
    repeat (first|refine z2 ?_|refine z1 ?_|refine z3 ?_|refine z4 ?_|refine z5 ?_)
    refine ⟨⟨j + 1, hjl⟩, ?_, by show n - (j + 1) < n - j; omega⟩
    have hsn : i64s (sumR x y j) ++ ([AV.v (.int .i64 (u + 1 * v))] ++ []) = i64s (sumR x y (j + 1)) := by rw [Int.one_mul]; exact hsn
    exact le_ren (fun g t => cond (Nat.beq g 0) (some (1, t)) none) ⟨⟨_, rfl, .refl hnp⟩, ⟨_, rfl, .refl hnx⟩, ⟨_, rfl, .refl hny⟩, ⟨_, rfl, .refl trivial⟩, ⟨_, rfl, .ref rfl (by show 0 < 1; omega)⟩, ⟨_, rfl, .refl trivial⟩, ⟨_, rfl, .refl trivial⟩, trivial⟩ ⟨⟨⟨by show 0 < 1; omega, .inr ⟨1, 0, _, rfl, rfl, rfl, wkl_eq hsn (nrl_i64s _)⟩⟩, trivial⟩, trivial⟩ rfl (base_nil _ _)
  · have hjl : j = n := by have := of_decide_eq_false e; omega
    rw [hjl]
    have hsl := sumR_len x y n
    repeat (first|refine z2 ?_|refine z1 ?_|refine z3 ?_|refine z4 ?_|refine z5 ?_)
    refine al_callz (fun _ => false) hre rfl rfl rfl rfl rfl (.cons (.refl hnp) (.cons (sub_rowS rfl hsl.symm) .nil)) rfl rfl ?_
    repeat (first|refine z2 ?_|refine z1 ?_|refine z3 ?_|refine z4 ?_|refine z5 ?_)
    exact awp_ret ⟨.inl rfl, ret_tup rfl (.cons (.refl hns) (.cons (.refl trivial) .nil))⟩
theorem madd_ok {p x y : List Int} (hp : small64L p) (hl : p.length ≤ 1000) (h : monAll p [x, y] = 0) (h2 : monAll p [sumR x y x.length] = 0) (hx : x.length ≤ 1000) (hy : y.length = x.length) (bx : bndL 1000 x) (bY : bndL 1000 y) : OkP (laiOf Tryz.prog) Tryz.prog 48 [rowS p, rowS x, rowS y] (.tup [rowS (sumR x y x.length), .v (.int .i64 0)]) := by
  have hs := msum_ok hp hl h h2 hx hy bx bY
  have hnp := nr_rowS p
  have hnx := nr_rowS x
  have hny := nr_rowS y
  have hns := nr_rowS (sumR x y x.length)
  refine okp_intro hT 14 Tryz.func48 rfl rfl rfl (Nat.le_of_ble_eq_true rfl) ⟨hns, trivial, trivial⟩ ?_
  intro w0 F0 I
  repeat (first|refine z2 ?_|refine z1 ?_|refine z3 ?_|refine z4 ?_|refine z5 ?_)
  refine zs hs ?_ (hs := by exact .cons (.refl hnp) (.cons (.refl hnx) (.cons (.refl hny) (.cons (.refl trivial) .nil)))) (hr := by exact ⟨⟨hnp, hnx, hny, trivial, trivial⟩, rfl⟩)
  repeat (first|refine z2 ?_|refine z1 ?_|refine z3 ?_|refine z4 ?_|refine z5 ?_)
  exact awp_ret ⟨.inl rfl, ret_tup rfl (.cons (.refl hns) (.cons (.refl trivial) .nil))⟩
end Go.Proofs.YtlbhgejbfhhipaaGreatDoor

/- At most three rows of small numbers, at most four columns: the annihilator and its annihilator stay below 10^7. No program in sight. -/
namespace Go.Sp
def small7 (R : List (List Int)) : Prop := ∀ r ∈ R, ∀ j, (r.getD j 0).natAbs ≤ 10000000
def supp (n : Nat) (x : Nat → Int) : Prop := ∀ j, n ≤ j → x j = 0
def Fine (n : Nat) (S : (Nat → Int) → Prop) : Prop := ∀ P R, HN P R → Rect n R → (∀ x, Span R x ↔ S x) → small7 R
theorem fine_few {n : Nat} {S : (Nat → Int) → Prop} {N : List (Nat → Int)} {b : Nat} (hN : ∀ v ∈ N, S v) (hb : ∀ v ∈ N, ∀ j, (v j).natAbs ≤ b) (hc : ∀ x, S x → ∃ c : Int, c ≠ 0 ∧ SpanF N (fun j => c * x j)) (hT : TB b N.length ≤ 10000000) : Fine n S :=
  fun _ _ hP _ hs r hr j => Nat.le_trans ((hP.few_small (fun v hv => (hs v).2 (hN v hv)) hb (fun x hx => hc x ((hs x).1 hx))).2 r hr j) hT
theorem dotN_only {f g : Nat → Int} {c : Nat} (h : ∀ j, j ≠ c → f j * g j = 0) : ∀ n, dotN f g n = if c < n then f c * g c else 0
  | 0 => rfl
  | n + 1 => by
    rw [dotN, dotN_only h n]
    by_cases e : n = c
    · subst e; rw [if_neg (by omega), if_pos (by omega)]; omega
    · rw [h n e]
      by_cases e2 : c < n
      · rw [if_pos e2, if_pos (by omega)]; omega
      · rw [if_neg e2, if_neg (by omega)]; rfl
theorem dotN_near {f g : Nat → Int} {c K : Nat} (h : ∀ j, j ≠ c → (f j * g j).natAbs ≤ K) : ∀ n, (dotN f g n - (if c < n then f c * g c else 0)).natAbs ≤ (if c < n then n - 1 else n) * K
  | 0 => by simp [dotN]
  | n + 1 => by
    have ih := dotN_near h n
    rw [dotN]
    by_cases e : n = c
    · subst e
      rw [if_neg (by omega), if_neg (by omega)] at ih
      rw [if_pos (by omega), if_pos (by omega)]
      rw [show dotN f g n + f n * g n - f n * g n = dotN f g n - 0 by omega]
      exact ih
    · have hk := h n e
      by_cases e2 : c < n
      · rw [if_pos e2, if_pos e2] at ih
        rw [if_pos (by omega), if_pos (by omega)]
        have := Int.natAbs_add_le (dotN f g n - f c * g c) (f n * g n)
        rw [show dotN f g n + f n * g n - f c * g c = dotN f g n - f c * g c + f n * g n by omega, show n + 1 - 1 = (n - 1) + 1 by omega, Nat.add_mul, Nat.one_mul]
        omega
      · rw [if_neg e2, if_neg e2] at ih
        rw [if_neg (by omega), if_neg (by omega)]
        have := Int.natAbs_add_le (dotN f g n - 0) (f n * g n)
        rw [show dotN f g n + f n * g n - 0 = dotN f g n - 0 + f n * g n by omega, Nat.add_mul, Nat.one_mul]
        omega
theorem last_nz {w : Nat → Int} : ∀ m, (∀ j, m ≤ j → w j = 0) → (∃ c, w c ≠ 0) → ∃ c, c < m ∧ w c ≠ 0 ∧ ∀ j, c < j → w j = 0
  | 0, h, ⟨c, hc⟩ => absurd (h c (Nat.zero_le _)) hc
  | m + 1, h, he => by
    by_cases e : w m = 0
    · obtain ⟨c, h1, h2⟩ := last_nz m (fun j hj => by
        by_cases hm : j = m
        · rw [hm]; exact e
        · exact h j (by omega)) he
      exact ⟨c, by omega, h2⟩
    · exact ⟨m, Nat.lt_succ_self m, e, fun j hj => h j (by omega)⟩
theorem fine_one {n : Nat} {S : (Nat → Int) → Prop} {w : Nat → Int} {B : Nat} (hn : n ≤ 4) (hw : supp n w) (h0 : ∃ c, w c ≠ 0) (hB : ∀ j, (w j).natAbs ≤ B) (hB2 : 3 * B ≤ 10000000) (hS : ∀ x, S x ↔ supp n x ∧ dotN w x n = 0) : Fine n S := by
  intro P R hP hR hs
  obtain ⟨c, hcn, hc0, hlast⟩ := last_nz n hw h0
  obtain ⟨i1, i2, i3, i4, i5⟩ := hP.idx
  have hrow : ∀ r ∈ R, dotN w (vec r) n = 0 := fun r hr => ((hS _).1 ((hs _).1 (Span.row hr))).2
  have hent : ∀ i (hi : i < R.length), R.getD i [] = R[i] := fun i hi => by rw [List.getD_eq_getElem?_getD, List.getElem?_eq_getElem hi, Option.getD_some]
  -- the vectors of two columns
  have hy : ∀ p, p < n → p ≠ c → Span R (fun t => if t = p then w c else if t = c then -(w p) else 0) := fun p hp hpc => by
    refine (hs _).2 ((hS _).2 ⟨fun j hj => by show (if j = p then w c else if j = c then -(w p) else 0) = 0; rw [if_neg (by omega), if_neg (by omega)], ?_⟩)
    have h1 := dotN_add w (fun t => if t = p then w c else 0) (fun t => if t = c then w p else 0) (fun t => if t = p then w c else if t = c then -(w p) else 0) (-1) (fun t => by
      show (if t = p then w c else if t = c then -(w p) else 0) = (if t = p then w c else 0) + -1 * (if t = c then w p else 0)
      by_cases e1 : t = p
      · rw [if_pos e1, if_pos e1, if_neg (by omega)]; omega
      · by_cases e2 : t = c
        · rw [if_neg e1, if_neg e1, if_pos e2, if_pos e2]; omega
        · rw [if_neg e1, if_neg e1, if_neg e2, if_neg e2]; rfl) n
    rw [h1, dotN_delta, dotN_delta, if_pos hp, if_pos hcn, Int.mul_comm (w c)]
    omega
  have hnp : ∀ k, k < R.length → P.getD k 0 ≠ c := fun k hk e => by
    have h1 := hrow _ (List.getElem_mem hk)
    rw [dotN_only (c := c) (fun j hj => by
      rcases Nat.lt_or_ge j c with h | h
      · have := i3 k hk j (by omega)
        unfold ent at this
        rw [hent k hk] at this
        show w j * R[k].getD j 0 = 0
        rw [this, Int.mul_zero]
      · rw [hlast j (by omega), Int.zero_mul]) n, if_pos hcn] at h1
    have h2 := i4 k hk
    unfold ent at h2
    rw [hent k hk, e] at h2
    rcases Int.mul_eq_zero.1 h1 with h | h
    · exact hc0 h
    · have : R[k].getD c 0 = 0 := h
      omega
  have hval : ∀ p, p < n → p ≠ c → ∃ k, k < R.length ∧ P.getD k 0 = p ∧ (ent R k p).natAbs ≤ (w c).natAbs := fun p hp hpc => by
    refine Classical.byContradiction fun hno => hc0 ?_
    have h1 := hP.little (hy p hp hpc) (fun i hi => by
      have hi2 : i < R.length := by omega
      have hpos := i4 i hi2
      unfold ent at hpos
      have hne := hnp i hi2
      by_cases e : P.getD i 0 = p
      · have h3 : ¬ (ent R i p).natAbs ≤ (w c).natAbs := fun h => hno ⟨i, hi2, e, h⟩
        unfold ent at h3
        rw [e] at hpos ⊢
        rw [if_pos rfl]
        omega
      · rw [if_neg e, if_neg hne]
        omega) p
    have h2 : (if p = p then w c else if p = c then -(w p) else 0) = 0 := h1
    rwa [if_pos rfl] at h2
  have hsmall : ∀ r ∈ R, ∀ j, j < n → j ≠ c → (r.getD j 0).natAbs ≤ (w c).natAbs := fun r hr j hj hjc => by
    obtain ⟨i, hi, rfl⟩ := List.getElem_of_mem hr
    obtain ⟨k, hk, hkj, hd⟩ := hval j hj hjc
    rw [← hent i hi]
    show (ent R i j).natAbs ≤ _
    rcases Nat.lt_trichotomy i k with h | h | h
    · have := i5 i k h hk
      rw [hkj] at this
      omega
    · rw [h]; exact hd
    · have := i3 i hi j (by have := i2 k i h hi; omega)
      rw [this]; exact Nat.zero_le _
  have hcB := hB c
  intro r hr j
  rcases Nat.lt_or_ge j n with hj | hj
  · by_cases hjc : j = c
    · subst hjc
      have h1 := dotN_near (f := w) (g := vec r) (c := j) (K := B * (w j).natAbs) (fun t ht => by
        rw [Int.natAbs_mul]
        rcases Nat.lt_or_ge t n with h | h
        · exact Nat.mul_le_mul (hB t) (hsmall r hr t h ht)
        · rw [hw t h]; simp) n
      rw [hrow r hr, if_pos hj, if_pos hj, Int.zero_sub, Int.natAbs_neg, Int.natAbs_mul] at h1
      have h2 : (n - 1) * (B * (w j).natAbs) ≤ 3 * B * (w j).natAbs := by rw [Nat.mul_assoc]; exact Nat.mul_le_mul_right _ (by omega)
      have h3 : (w j).natAbs * (r.getD j 0).natAbs ≤ (w j).natAbs * (3 * B) := by
        refine Nat.le_trans (Nat.le_trans h1 h2) ?_
        rw [Nat.mul_comm]; exact Nat.le_refl _
      exact Nat.le_trans (Nat.le_of_mul_le_mul_left h3 (by omega)) hB2
    · exact Nat.le_trans (hsmall r hr j hj hjc) (by omega)
  · rw [List.getD_eq_getElem?_getD, List.getElem?_eq_none (by rw [hR r hr]; exact hj)]
    exact Nat.zero_le _
end Go.Sp
